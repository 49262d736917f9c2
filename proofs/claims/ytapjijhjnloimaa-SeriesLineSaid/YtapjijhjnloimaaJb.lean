/- Texts of our own, joined: the engine, the machine that runs code, and what is known of the functions. -/
import Derived.Test.YtapjijhjnloimaaRows
import Derived.WalkKit
import Derived.Deep.Quiet
import Derived.ProofKit
import Derived.Laws.StructEq
import Derived.LaidEql
import Derived.Laws.BytesArg
import Derived.Maps.RangeRun
import Derived.RangeFuncSeq
import Derived.Scope
import Derived.Test.YtapjijhjnloimaaJa
import Derived.Laws.Strings
import Derived.Laws.Strings2
import Derived.Below
import Derived.Carry
import Derived.OpenShut
set_option linter.unusedSimpArgs false
set_option linter.unusedVariables false
set_option maxHeartbeats 16000000
set_option maxRecDepth 100000
namespace Go.Proofs.Ytapjijhjnloimaa
open Go
@[go_sem] theorem tab.sz2 : ae Try.prog 2 = some 1 := by kernel_rfl
@[go_sem] theorem tab.by2 : al Try.prog 2 = some 8 := by kernel_rfl
@[go_sem] theorem tab.ze2 : ao Try.prog 2 = some (Go.Value.int Go.IntKind.i64 0) := by kernel_rfl
@[go_sem] theorem tab.un2 : Program.underlying Try.prog 2 = some (Go.TypeDesc.int Go.IntKind.i64) := by kernel_rfl
@[go_sem] theorem tab.ag2 : aE Try.prog 2 = some false := by kernel_rfl
@[go_sem] theorem tab.sz3 : ae Try.prog 3 = some 1 := by kernel_rfl
@[go_sem] theorem tab.by3 : al Try.prog 3 = some 8 := by kernel_rfl
@[go_sem] theorem tab.ze3 : ao Try.prog 3 = some (Go.Value.int Go.IntKind.i64 0) := by kernel_rfl
@[go_sem] theorem tab.un3 : Program.underlying Try.prog 3 = some (Go.TypeDesc.int Go.IntKind.i64) := by kernel_rfl
@[go_sem] theorem tab.ag3 : aE Try.prog 3 = some false := by kernel_rfl
@[go_sem] theorem tab.sz4 : ae Try.prog 4 = some 1 := by kernel_rfl
@[go_sem] theorem tab.by4 : al Try.prog 4 = some 1 := by kernel_rfl
@[go_sem] theorem tab.ze4 : ao Try.prog 4 = some (Go.Value.bool false) := by kernel_rfl
@[go_sem] theorem tab.un4 : Program.underlying Try.prog 4 = some Go.TypeDesc.bool := by kernel_rfl
@[go_sem] theorem tab.ag4 : aE Try.prog 4 = some false := by kernel_rfl
@[go_sem] theorem tab.sz5 : ae Try.prog 5 = some 1 := by kernel_rfl
@[go_sem] theorem tab.by5 : al Try.prog 5 = some 1 := by kernel_rfl
@[go_sem] theorem tab.ze5 : ao Try.prog 5 = some (Go.Value.int Go.IntKind.u8 0) := by kernel_rfl
@[go_sem] theorem tab.un5 : Program.underlying Try.prog 5 = some (Go.TypeDesc.int Go.IntKind.u8) := by kernel_rfl
@[go_sem] theorem tab.ag5 : aE Try.prog 5 = some false := by kernel_rfl
@[go_sem] theorem tab.sz6 : ae Try.prog 6 = some 1 := by kernel_rfl
@[go_sem] theorem tab.by6 : al Try.prog 6 = some 1 := by kernel_rfl
@[go_sem] theorem tab.ze6 : ao Try.prog 6 = some (Go.Value.int Go.IntKind.u8 0) := by kernel_rfl
@[go_sem] theorem tab.un6 : Program.underlying Try.prog 6 = some (Go.TypeDesc.int Go.IntKind.u8) := by kernel_rfl
@[go_sem] theorem tab.ag6 : aE Try.prog 6 = some false := by kernel_rfl
@[go_sem] theorem tab.sz7 : ae Try.prog 7 = some 4 := by kernel_rfl
@[go_sem] theorem tab.by7 : al Try.prog 7 = some 24 := by kernel_rfl
@[go_sem] theorem tab.ze7 : ao Try.prog 7 = some (Go.Value.agg #[(Go.Value.int Go.IntKind.i64 0), (Go.Value.int Go.IntKind.i64 0), (Go.Value.bool false), (Go.Value.int Go.IntKind.u8 0)]) := by kernel_rfl
@[go_sem] theorem tab.un7 : Program.underlying Try.prog 7 = some (Go.TypeDesc.struct #[{ name := "x", type := 2, offset := 0, embedded := false, tag := "", pkgPath := "runtime", byteOffset := 0 }, { name := "y", type := 3, offset := 1, embedded := false, tag := "", pkgPath := "runtime", byteOffset := 8 }, { name := "signed", type := 4, offset := 2, embedded := false, tag := "", pkgPath := "runtime", byteOffset := 16 }, { name := "code", type := 6, offset := 3, embedded := false, tag := "", pkgPath := "runtime", byteOffset := 17 }]) := by kernel_rfl
@[go_sem] theorem tab.ag7 : aE Try.prog 7 = some true := by kernel_rfl
@[go_sem] theorem tab.eq7 : dU Try.prog 7 = some [(0, 0), (0, 1), (2, 2), (0, 3)] := by kernel_rfl
@[go_sem] theorem tab.KQ : ag Try.prog 7 0 = some (2, 0) := by kernel_rfl
@[go_sem] theorem tab.KR : ag Try.prog 7 1 = some (3, 1) := by kernel_rfl
@[go_sem] theorem tab.KS : ag Try.prog 7 2 = some (4, 2) := by kernel_rfl
@[go_sem] theorem tab.KT : ag Try.prog 7 3 = some (6, 3) := by kernel_rfl
@[go_sem] theorem tab.sz8 : ae Try.prog 8 = some 4 := by kernel_rfl
@[go_sem] theorem tab.by8 : al Try.prog 8 = some 24 := by kernel_rfl
@[go_sem] theorem tab.ze8 : ao Try.prog 8 = some (Go.Value.agg #[(Go.Value.int Go.IntKind.i64 0), (Go.Value.int Go.IntKind.i64 0), (Go.Value.bool false), (Go.Value.int Go.IntKind.u8 0)]) := by kernel_rfl
@[go_sem] theorem tab.un8 : Program.underlying Try.prog 8 = some (Go.TypeDesc.struct #[{ name := "x", type := 2, offset := 0, embedded := false, tag := "", pkgPath := "runtime", byteOffset := 0 }, { name := "y", type := 3, offset := 1, embedded := false, tag := "", pkgPath := "runtime", byteOffset := 8 }, { name := "signed", type := 4, offset := 2, embedded := false, tag := "", pkgPath := "runtime", byteOffset := 16 }, { name := "code", type := 6, offset := 3, embedded := false, tag := "", pkgPath := "runtime", byteOffset := 17 }]) := by kernel_rfl
@[go_sem] theorem tab.ag8 : aE Try.prog 8 = some true := by kernel_rfl
@[go_sem] theorem tab.eq8 : dU Try.prog 8 = some [(0, 0), (0, 1), (2, 2), (0, 3)] := by kernel_rfl
@[go_sem] theorem tab.KV : ag Try.prog 8 0 = some (2, 0) := by kernel_rfl
@[go_sem] theorem tab.KX : ag Try.prog 8 1 = some (3, 1) := by kernel_rfl
@[go_sem] theorem tab.KY : ag Try.prog 8 2 = some (4, 2) := by kernel_rfl
@[go_sem] theorem tab.KZ : ag Try.prog 8 3 = some (6, 3) := by kernel_rfl
@[go_sem] theorem tab.sz9 : ae Try.prog 9 = some 1 := by kernel_rfl
@[go_sem] theorem tab.by9 : al Try.prog 9 = some 16 := by kernel_rfl
@[go_sem] theorem tab.ze9 : ao Try.prog 9 = some (Go.Value.string { data := #[] }) := by kernel_rfl
@[go_sem] theorem tab.un9 : Program.underlying Try.prog 9 = some Go.TypeDesc.string := by kernel_rfl
@[go_sem] theorem tab.ag9 : aE Try.prog 9 = some false := by kernel_rfl
@[go_sem] theorem tab.NY : ae Try.prog 10 = some 1 := by kernel_rfl
@[go_sem] theorem tab.NZ : al Try.prog 10 = some 16 := by kernel_rfl
@[go_sem] theorem tab.N0 : ao Try.prog 10 = some (Go.Value.string { data := #[] }) := by kernel_rfl
@[go_sem] theorem tab.N1 : Program.underlying Try.prog 10 = some Go.TypeDesc.string := by kernel_rfl
@[go_sem] theorem tab.N2 : aE Try.prog 10 = some false := by kernel_rfl
@[go_sem] theorem tab.N3 : ae Try.prog 11 = some 1 := by kernel_rfl
@[go_sem] theorem tab.N4 : al Try.prog 11 = some 16 := by kernel_rfl
@[go_sem] theorem tab.N5 : ao Try.prog 11 = some (Go.Value.string { data := #[] }) := by kernel_rfl
@[go_sem] theorem tab.N6 : Program.underlying Try.prog 11 = some Go.TypeDesc.string := by kernel_rfl
@[go_sem] theorem tab.N7 : aE Try.prog 11 = some false := by kernel_rfl
@[go_sem] theorem tab.N8 : ae Try.prog 12 = some 1 := by kernel_rfl
@[go_sem] theorem tab.N9 : al Try.prog 12 = some 8 := by kernel_rfl
@[go_sem] theorem tab.Oa : ao Try.prog 12 = some (Go.Value.int Go.IntKind.u64 0) := by kernel_rfl
@[go_sem] theorem tab.Ob : Program.underlying Try.prog 12 = some (Go.TypeDesc.int Go.IntKind.u64) := by kernel_rfl
@[go_sem] theorem tab.Oc : aE Try.prog 12 = some false := by kernel_rfl
@[go_sem] theorem tab.Od : ae Try.prog 13 = some 2 := by kernel_rfl
@[go_sem] theorem tab.Oe : al Try.prog 13 = some 24 := by kernel_rfl
@[go_sem] theorem tab.Of : ao Try.prog 13 = some (Go.Value.agg #[(Go.Value.string { data := #[] }), (Go.Value.int Go.IntKind.u64 0)]) := by kernel_rfl
@[go_sem] theorem tab.Og : Program.underlying Try.prog 13 = some (Go.TypeDesc.struct #[{ name := "msg", type := 9, offset := 0, embedded := false, tag := "", pkgPath := "runtime", byteOffset := 0 }, { name := "addr", type := 12, offset := 1, embedded := false, tag := "", pkgPath := "runtime", byteOffset := 16 }]) := by kernel_rfl
@[go_sem] theorem tab.Oh : aE Try.prog 13 = some true := by kernel_rfl
@[go_sem] theorem tab.JI : ag Try.prog 13 0 = some (9, 0) := by kernel_rfl
@[go_sem] theorem tab.JJ : ag Try.prog 13 1 = some (12, 1) := by kernel_rfl
@[go_sem] theorem tab.Oi : ae Try.prog 14 = some 2 := by kernel_rfl
@[go_sem] theorem tab.Oj : al Try.prog 14 = some 24 := by kernel_rfl
@[go_sem] theorem tab.Ok : ao Try.prog 14 = some (Go.Value.agg #[(Go.Value.string { data := #[] }), (Go.Value.int Go.IntKind.u64 0)]) := by kernel_rfl
@[go_sem] theorem tab.Ol : Program.underlying Try.prog 14 = some (Go.TypeDesc.struct #[{ name := "msg", type := 9, offset := 0, embedded := false, tag := "", pkgPath := "runtime", byteOffset := 0 }, { name := "addr", type := 12, offset := 1, embedded := false, tag := "", pkgPath := "runtime", byteOffset := 16 }]) := by kernel_rfl
@[go_sem] theorem tab.Om : aE Try.prog 14 = some true := by kernel_rfl
@[go_sem] theorem tab.JK : ag Try.prog 14 0 = some (9, 0) := by kernel_rfl
@[go_sem] theorem tab.JL : ag Try.prog 14 1 = some (12, 1) := by kernel_rfl
@[go_sem] theorem tab.On : ae Try.prog 15 = some 1 := by kernel_rfl
@[go_sem] theorem tab.Oo : al Try.prog 15 = some 8 := by kernel_rfl
@[go_sem] theorem tab.Oq : ao Try.prog 15 = some (Go.Value.pointer none) := by kernel_rfl
@[go_sem] theorem tab.Ot : Program.underlying Try.prog 15 = some (Go.TypeDesc.pointer 152) := by kernel_rfl
@[go_sem] theorem tab.Ou : aE Try.prog 15 = some false := by kernel_rfl
@[go_sem] theorem tab.Ov : ae Try.prog 16 = some 1 := by kernel_rfl
@[go_sem] theorem tab.Ow : al Try.prog 16 = some 8 := by kernel_rfl
@[go_sem] theorem tab.Ox : ao Try.prog 16 = some (Go.Value.pointer none) := by kernel_rfl
@[go_sem] theorem tab.Oy : Program.underlying Try.prog 16 = some (Go.TypeDesc.pointer 155) := by kernel_rfl
@[go_sem] theorem tab.Oz : aE Try.prog 16 = some false := by kernel_rfl
@[go_sem] theorem tab.OA : ae Try.prog 17 = some 1 := by kernel_rfl
@[go_sem] theorem tab.OB : al Try.prog 17 = some 8 := by kernel_rfl
@[go_sem] theorem tab.OC : ao Try.prog 17 = some (Go.Value.pointer none) := by kernel_rfl
@[go_sem] theorem tab.OD : Program.underlying Try.prog 17 = some (Go.TypeDesc.pointer 164) := by kernel_rfl
@[go_sem] theorem tab.OE : aE Try.prog 17 = some false := by kernel_rfl
@[go_sem] theorem tab.OF : ae Try.prog 18 = some 1 := by kernel_rfl
@[go_sem] theorem tab.OG : al Try.prog 18 = some 8 := by kernel_rfl
@[go_sem] theorem tab.OH : ao Try.prog 18 = some (Go.Value.agg #[(Go.Value.pointer none)]) := by kernel_rfl
@[go_sem] theorem tab.OI : Program.underlying Try.prog 18 = some (Go.TypeDesc.struct #[{ name := "typ", type := 17, offset := 0, embedded := false, tag := "", pkgPath := "internal/runtime/maps", byteOffset := 0 }]) := by kernel_rfl
@[go_sem] theorem tab.OJ : aE Try.prog 18 = some true := by kernel_rfl
@[go_sem] theorem tab.JM : ag Try.prog 18 0 = some (17, 0) := by kernel_rfl
@[go_sem] theorem tab.OK : ae Try.prog 19 = some 1 := by kernel_rfl
@[go_sem] theorem tab.OL : al Try.prog 19 = some 8 := by kernel_rfl
@[go_sem] theorem tab.OM : ao Try.prog 19 = some (Go.Value.agg #[(Go.Value.pointer none)]) := by kernel_rfl
@[go_sem] theorem tab.ON : Program.underlying Try.prog 19 = some (Go.TypeDesc.struct #[{ name := "typ", type := 17, offset := 0, embedded := false, tag := "", pkgPath := "internal/runtime/maps", byteOffset := 0 }]) := by kernel_rfl
@[go_sem] theorem tab.OO : aE Try.prog 19 = some true := by kernel_rfl
@[go_sem] theorem tab.JN : ag Try.prog 19 0 = some (17, 0) := by kernel_rfl
@[go_sem] theorem tab.OP : ae Try.prog 20 = some 1 := by kernel_rfl
@[go_sem] theorem tab.OQ : al Try.prog 20 = some 16 := by kernel_rfl
@[go_sem] theorem tab.OS : ao Try.prog 20 = some Go.Value.nilIface := by kernel_rfl
@[go_sem] theorem tab.OT : aE Try.prog 20 = some false := by kernel_rfl
@[go_sem] theorem tab.OU : ae Try.prog 21 = some 1 := by kernel_rfl
@[go_sem] theorem tab.OV : al Try.prog 21 = some 4 := by kernel_rfl
@[go_sem] theorem tab.OW : ao Try.prog 21 = some (Go.Value.int Go.IntKind.i32 0) := by kernel_rfl
@[go_sem] theorem tab.OX : Program.underlying Try.prog 21 = some (Go.TypeDesc.int Go.IntKind.i32) := by kernel_rfl
@[go_sem] theorem tab.OY : aE Try.prog 21 = some false := by kernel_rfl
@[go_sem] theorem tab.OZ : ae Try.prog 22 = some 1 := by kernel_rfl
@[go_sem] theorem tab.O0 : al Try.prog 22 = some 24 := by kernel_rfl
@[go_sem] theorem tab.O1 : ao Try.prog 22 = some (Go.Value.slice none 0 0) := by kernel_rfl
@[go_sem] theorem tab.O3 : Program.underlying Try.prog 22 = some (Go.TypeDesc.slice 29) := by kernel_rfl
@[go_sem] theorem tab.O4 : aE Try.prog 22 = some false := by kernel_rfl
@[go_sem] theorem tab.O5 : ae Try.prog 23 = some 1 := by kernel_rfl
@[go_sem] theorem tab.O6 : al Try.prog 23 = some 8 := by kernel_rfl
@[go_sem] theorem tab.O7 : ao Try.prog 23 = some (Go.Value.pointer none) := by kernel_rfl
@[go_sem] theorem tab.O8 : Program.underlying Try.prog 23 = some (Go.TypeDesc.pointer 52) := by kernel_rfl
@[go_sem] theorem tab.O9 : aE Try.prog 23 = some false := by kernel_rfl
@[go_sem] theorem tab.Pb : ae Try.prog 24 = some 1 := by kernel_rfl
@[go_sem] theorem tab.Pc : al Try.prog 24 = some 8 := by kernel_rfl
@[go_sem] theorem tab.Pd : ao Try.prog 24 = some (Go.Value.int Go.IntKind.i64 0) := by kernel_rfl
@[go_sem] theorem tab.Pe : Program.underlying Try.prog 24 = some (Go.TypeDesc.int Go.IntKind.i64) := by kernel_rfl
@[go_sem] theorem tab.Pg : aE Try.prog 24 = some false := by kernel_rfl
@[go_sem] theorem tab.Pj : ae Try.prog 28 = some 2 := by kernel_rfl
@[go_sem] theorem tab.Pm : al Try.prog 28 = some 16 := by kernel_rfl
@[go_sem] theorem tab.Pn : ao Try.prog 28 = some (Go.Value.agg #[(Go.Value.int Go.IntKind.i64 0), (Go.Value.int Go.IntKind.i64 0)]) := by kernel_rfl
@[go_sem] theorem tab.Po : Program.underlying Try.prog 28 = some (Go.TypeDesc.struct #[{ name := "T", type := 3, offset := 0, embedded := false, tag := "", pkgPath := "", byteOffset := 0 }, { name := "V", type := 3, offset := 1, embedded := false, tag := "", pkgPath := "", byteOffset := 8 }]) := by kernel_rfl
@[go_sem] theorem tab.Pp : aE Try.prog 28 = some true := by kernel_rfl
@[go_sem] theorem tab.Pq : dU Try.prog 28 = some [(0, 0), (0, 1)] := by kernel_rfl
@[go_sem] theorem tab.JO : ag Try.prog 28 0 = some (3, 0) := by kernel_rfl
@[go_sem] theorem tab.JP : ag Try.prog 28 1 = some (3, 1) := by kernel_rfl
@[go_sem] theorem tab.Pr : ae Try.prog 29 = some 2 := by kernel_rfl
@[go_sem] theorem tab.Pt : al Try.prog 29 = some 16 := by kernel_rfl
@[go_sem] theorem tab.Pu : ao Try.prog 29 = some (Go.Value.agg #[(Go.Value.int Go.IntKind.i64 0), (Go.Value.int Go.IntKind.i64 0)]) := by kernel_rfl
@[go_sem] theorem tab.Pv : Program.underlying Try.prog 29 = some (Go.TypeDesc.struct #[{ name := "T", type := 3, offset := 0, embedded := false, tag := "", pkgPath := "", byteOffset := 0 }, { name := "V", type := 3, offset := 1, embedded := false, tag := "", pkgPath := "", byteOffset := 8 }]) := by kernel_rfl
@[go_sem] theorem tab.Pw : aE Try.prog 29 = some true := by kernel_rfl
@[go_sem] theorem tab.Px : dU Try.prog 29 = some [(0, 0), (0, 1)] := by kernel_rfl
@[go_sem] theorem tab.JQ : ag Try.prog 29 0 = some (3, 0) := by kernel_rfl
@[go_sem] theorem tab.JR : ag Try.prog 29 1 = some (3, 1) := by kernel_rfl
@[go_sem] theorem tab.Py : ae Try.prog 35 = some 1 := by kernel_rfl
@[go_sem] theorem tab.Pz : al Try.prog 35 = some 24 := by kernel_rfl
@[go_sem] theorem tab.PA : ao Try.prog 35 = some (Go.Value.slice none 0 0) := by kernel_rfl
@[go_sem] theorem tab.PB : Program.underlying Try.prog 35 = some (Go.TypeDesc.slice 38) := by kernel_rfl
@[go_sem] theorem tab.PC : aE Try.prog 35 = some false := by kernel_rfl
@[go_sem] theorem tab.PD : ae Try.prog 36 = some 3 := by kernel_rfl
@[go_sem] theorem tab.PE : al Try.prog 36 = some 24 := by kernel_rfl
@[go_sem] theorem tab.PF : ao Try.prog 36 = some (Go.Value.agg #[(Go.Value.int Go.IntKind.i64 0), (Go.Value.int Go.IntKind.i64 0), (Go.Value.int Go.IntKind.i64 0)]) := by kernel_rfl
@[go_sem] theorem tab.PH : Program.underlying Try.prog 36 = some (Go.TypeDesc.array 3 3) := by kernel_rfl
@[go_sem] theorem tab.PI : aE Try.prog 36 = some true := by kernel_rfl
@[go_sem] theorem tab.PJ : ae Try.prog 37 = some 4 := by kernel_rfl
@[go_sem] theorem tab.PL : al Try.prog 37 = some 32 := by kernel_rfl
@[go_sem] theorem tab.PN : ao Try.prog 37 = some (Go.Value.agg #[(Go.Value.int Go.IntKind.i64 0), (Go.Value.int Go.IntKind.i64 0), (Go.Value.int Go.IntKind.i64 0), (Go.Value.int Go.IntKind.i64 0)]) := by kernel_rfl
@[go_sem] theorem tab.PO : Program.underlying Try.prog 37 = some (Go.TypeDesc.struct #[{ name := "Kind", type := 3, offset := 0, embedded := false, tag := "", pkgPath := "", byteOffset := 0 }, { name := "X", type := 29, offset := 1, embedded := false, tag := "", pkgPath := "", byteOffset := 8 }, { name := "P", type := 3, offset := 3, embedded := false, tag := "", pkgPath := "", byteOffset := 24 }]) := by kernel_rfl
@[go_sem] theorem tab.PQ : aE Try.prog 37 = some true := by kernel_rfl
@[go_sem] theorem tab.JS : ag Try.prog 37 0 = some (3, 0) := by kernel_rfl
@[go_sem] theorem tab.JT : ag Try.prog 37 1 = some (29, 1) := by kernel_rfl
@[go_sem] theorem tab.JU : ag Try.prog 37 2 = some (3, 3) := by kernel_rfl
@[go_sem] theorem tab.PR : ae Try.prog 38 = some 4 := by kernel_rfl
@[go_sem] theorem tab.PS : al Try.prog 38 = some 32 := by kernel_rfl
@[go_sem] theorem tab.PT : ao Try.prog 38 = some (Go.Value.agg #[(Go.Value.int Go.IntKind.i64 0), (Go.Value.int Go.IntKind.i64 0), (Go.Value.int Go.IntKind.i64 0), (Go.Value.int Go.IntKind.i64 0)]) := by kernel_rfl
@[go_sem] theorem tab.PU : Program.underlying Try.prog 38 = some (Go.TypeDesc.struct #[{ name := "Kind", type := 3, offset := 0, embedded := false, tag := "", pkgPath := "", byteOffset := 0 }, { name := "X", type := 29, offset := 1, embedded := false, tag := "", pkgPath := "", byteOffset := 8 }, { name := "P", type := 3, offset := 3, embedded := false, tag := "", pkgPath := "", byteOffset := 24 }]) := by kernel_rfl
@[go_sem] theorem tab.PV : aE Try.prog 38 = some true := by kernel_rfl
@[go_sem] theorem tab.JV : ag Try.prog 38 0 = some (3, 0) := by kernel_rfl
@[go_sem] theorem tab.JW : ag Try.prog 38 1 = some (29, 1) := by kernel_rfl
@[go_sem] theorem tab.JX : ag Try.prog 38 2 = some (3, 3) := by kernel_rfl
@[go_sem] theorem tab.PW : ae Try.prog 50 = some 1 := by kernel_rfl
@[go_sem] theorem tab.PX : al Try.prog 50 = some 24 := by kernel_rfl
@[go_sem] theorem tab.PY : ao Try.prog 50 = some (Go.Value.slice none 0 0) := by kernel_rfl
@[go_sem] theorem tab.PZ : Program.underlying Try.prog 50 = some (Go.TypeDesc.slice 69) := by kernel_rfl
@[go_sem] theorem tab.P0 : aE Try.prog 50 = some false := by kernel_rfl
@[go_sem] theorem tab.P5 : ae Try.prog 51 = some 6 := by kernel_rfl
@[go_sem] theorem tab.P6 : al Try.prog 51 = some 64 := by kernel_rfl
@[go_sem] theorem tab.P7 : ao Try.prog 51 = some (Go.Value.agg #[(Go.Value.int Go.IntKind.i64 0), (Go.Value.int Go.IntKind.i64 0), (Go.Value.int Go.IntKind.i64 0), (Go.Value.int Go.IntKind.i64 0), (Go.Value.int Go.IntKind.i64 0), (Go.Value.slice none 0 0)]) := by kernel_rfl
@[go_sem] theorem tab.P8 : Program.underlying Try.prog 51 = some (Go.TypeDesc.struct #[{ name := "size", type := 3, offset := 0, embedded := false, tag := "", pkgPath := "tachograph/series", byteOffset := 0 }, { name := "retention", type := 3, offset := 1, embedded := false, tag := "", pkgPath := "tachograph/series", byteOffset := 8 }, { name := "policy", type := 3, offset := 2, embedded := false, tag := "", pkgPath := "tachograph/series", byteOffset := 16 }, { name := "max", type := 3, offset := 3, embedded := false, tag := "", pkgPath := "tachograph/series", byteOffset := 24 }, { name := "floor", type := 3, offset := 4, embedded := false, tag := "", pkgPath := "tachograph/series", byteOffset := 32 }, { name := "chunks", type := 50, offset := 5, embedded := false, tag := "", pkgPath := "tachograph/series", byteOffset := 40 }]) := by kernel_rfl
@[go_sem] theorem tab.P9 : aE Try.prog 51 = some true := by kernel_rfl
@[go_sem] theorem tab.JY : ag Try.prog 51 0 = some (3, 0) := by kernel_rfl
@[go_sem] theorem tab.JZ : ag Try.prog 51 1 = some (3, 1) := by kernel_rfl
@[go_sem] theorem tab.J0 : ag Try.prog 51 2 = some (3, 2) := by kernel_rfl
@[go_sem] theorem tab.J1 : ag Try.prog 51 3 = some (3, 3) := by kernel_rfl
@[go_sem] theorem tab.J2 : ag Try.prog 51 4 = some (3, 4) := by kernel_rfl
@[go_sem] theorem tab.J3 : ag Try.prog 51 5 = some (50, 5) := by kernel_rfl
@[go_sem] theorem tab.Qa : ae Try.prog 52 = some 6 := by kernel_rfl
@[go_sem] theorem tab.Qb : al Try.prog 52 = some 64 := by kernel_rfl
@[go_sem] theorem tab.Qc : ao Try.prog 52 = some (Go.Value.agg #[(Go.Value.int Go.IntKind.i64 0), (Go.Value.int Go.IntKind.i64 0), (Go.Value.int Go.IntKind.i64 0), (Go.Value.int Go.IntKind.i64 0), (Go.Value.int Go.IntKind.i64 0), (Go.Value.slice none 0 0)]) := by kernel_rfl
@[go_sem] theorem tab.Qd : Program.underlying Try.prog 52 = some (Go.TypeDesc.struct #[{ name := "size", type := 3, offset := 0, embedded := false, tag := "", pkgPath := "tachograph/series", byteOffset := 0 }, { name := "retention", type := 3, offset := 1, embedded := false, tag := "", pkgPath := "tachograph/series", byteOffset := 8 }, { name := "policy", type := 3, offset := 2, embedded := false, tag := "", pkgPath := "tachograph/series", byteOffset := 16 }, { name := "max", type := 3, offset := 3, embedded := false, tag := "", pkgPath := "tachograph/series", byteOffset := 24 }, { name := "floor", type := 3, offset := 4, embedded := false, tag := "", pkgPath := "tachograph/series", byteOffset := 32 }, { name := "chunks", type := 50, offset := 5, embedded := false, tag := "", pkgPath := "tachograph/series", byteOffset := 40 }]) := by kernel_rfl
@[go_sem] theorem tab.Qe : aE Try.prog 52 = some true := by kernel_rfl
@[go_sem] theorem tab.J4 : ag Try.prog 52 0 = some (3, 0) := by kernel_rfl
@[go_sem] theorem tab.J5 : ag Try.prog 52 1 = some (3, 1) := by kernel_rfl
@[go_sem] theorem tab.J6 : ag Try.prog 52 2 = some (3, 2) := by kernel_rfl
@[go_sem] theorem tab.J7 : ag Try.prog 52 3 = some (3, 3) := by kernel_rfl
@[go_sem] theorem tab.J8 : ag Try.prog 52 4 = some (3, 4) := by kernel_rfl
@[go_sem] theorem tab.J9 : ag Try.prog 52 5 = some (50, 5) := by kernel_rfl
@[go_sem] theorem tab.Qf : ae Try.prog 55 = some 1 := by kernel_rfl
@[go_sem] theorem tab.Qg : al Try.prog 55 = some 24 := by kernel_rfl
@[go_sem] theorem tab.Qh : ao Try.prog 55 = some (Go.Value.slice none 0 0) := by kernel_rfl
@[go_sem] theorem tab.Qi : Program.underlying Try.prog 55 = some (Go.TypeDesc.slice 3) := by kernel_rfl
@[go_sem] theorem tab.Qj : aE Try.prog 55 = some false := by kernel_rfl
@[go_sem] theorem tab.Qk : ae Try.prog 58 = some 2 := by kernel_rfl
@[go_sem] theorem tab.Ql : al Try.prog 58 = some 16 := by kernel_rfl
@[go_sem] theorem tab.Qm : ao Try.prog 58 = some (Go.Value.agg #[(Go.Value.int Go.IntKind.i64 0), (Go.Value.int Go.IntKind.i64 0)]) := by kernel_rfl
@[go_sem] theorem tab.Qn : Program.underlying Try.prog 58 = some (Go.TypeDesc.array 2 3) := by kernel_rfl
@[go_sem] theorem tab.Qo : aE Try.prog 58 = some true := by kernel_rfl
@[go_sem] theorem tab.Qp : ae Try.prog 59 = some 1 := by kernel_rfl
@[go_sem] theorem tab.Qq : al Try.prog 59 = some 8 := by kernel_rfl
@[go_sem] theorem tab.Qr : ao Try.prog 59 = some (Go.Value.pointer none) := by kernel_rfl
@[go_sem] theorem tab.Qs : Program.underlying Try.prog 59 = some (Go.TypeDesc.pointer 98) := by kernel_rfl
@[go_sem] theorem tab.Qt : aE Try.prog 59 = some false := by kernel_rfl
@[go_sem] theorem tab.Qu : ae Try.prog 68 = some 1 := by kernel_rfl
@[go_sem] theorem tab.Qv : al Try.prog 68 = some 24 := by kernel_rfl
@[go_sem] theorem tab.Qw : ao Try.prog 68 = some (Go.Value.slice none 0 0) := by kernel_rfl
@[go_sem] theorem tab.Qx : Program.underlying Try.prog 68 = some (Go.TypeDesc.slice 73) := by kernel_rfl
@[go_sem] theorem tab.Qy : aE Try.prog 68 = some false := by kernel_rfl
@[go_sem] theorem tab.Qz : ae Try.prog 69 = some 1 := by kernel_rfl
@[go_sem] theorem tab.QA : al Try.prog 69 = some 8 := by kernel_rfl
@[go_sem] theorem tab.QB : ao Try.prog 69 = some (Go.Value.pointer none) := by kernel_rfl
@[go_sem] theorem tab.QC : Program.underlying Try.prog 69 = some (Go.TypeDesc.pointer 91) := by kernel_rfl
@[go_sem] theorem tab.QD : aE Try.prog 69 = some false := by kernel_rfl
@[go_sem] theorem tab.QE : ae Try.prog 72 = some 4 := by kernel_rfl
@[go_sem] theorem tab.QF : al Try.prog 72 = some 32 := by kernel_rfl
@[go_sem] theorem tab.QG : ao Try.prog 72 = some (Go.Value.agg #[(Go.Value.int Go.IntKind.i64 0), (Go.Value.int Go.IntKind.i64 0), (Go.Value.int Go.IntKind.i64 0), (Go.Value.int Go.IntKind.i64 0)]) := by kernel_rfl
@[go_sem] theorem tab.QH : Program.underlying Try.prog 72 = some (Go.TypeDesc.struct #[{ name := "Kind", type := 3, offset := 0, embedded := false, tag := "", pkgPath := "", byteOffset := 0 }, { name := "S", type := 29, offset := 1, embedded := false, tag := "", pkgPath := "", byteOffset := 8 }, { name := "P", type := 3, offset := 3, embedded := false, tag := "", pkgPath := "", byteOffset := 24 }]) := by kernel_rfl
@[go_sem] theorem tab.QI : aE Try.prog 72 = some true := by kernel_rfl
@[go_sem] theorem tab.Ka : ag Try.prog 72 0 = some (3, 0) := by kernel_rfl
@[go_sem] theorem tab.Kb : ag Try.prog 72 1 = some (29, 1) := by kernel_rfl
@[go_sem] theorem tab.Kc : ag Try.prog 72 2 = some (3, 3) := by kernel_rfl
@[go_sem] theorem tab.QJ : ae Try.prog 73 = some 4 := by kernel_rfl
@[go_sem] theorem tab.QK : al Try.prog 73 = some 32 := by kernel_rfl
@[go_sem] theorem tab.QL : ao Try.prog 73 = some (Go.Value.agg #[(Go.Value.int Go.IntKind.i64 0), (Go.Value.int Go.IntKind.i64 0), (Go.Value.int Go.IntKind.i64 0), (Go.Value.int Go.IntKind.i64 0)]) := by kernel_rfl
@[go_sem] theorem tab.QM : Program.underlying Try.prog 73 = some (Go.TypeDesc.struct #[{ name := "Kind", type := 3, offset := 0, embedded := false, tag := "", pkgPath := "", byteOffset := 0 }, { name := "S", type := 29, offset := 1, embedded := false, tag := "", pkgPath := "", byteOffset := 8 }, { name := "P", type := 3, offset := 3, embedded := false, tag := "", pkgPath := "", byteOffset := 24 }]) := by kernel_rfl
@[go_sem] theorem tab.QN : aE Try.prog 73 = some true := by kernel_rfl
@[go_sem] theorem tab.Ke : ag Try.prog 73 0 = some (3, 0) := by kernel_rfl
@[go_sem] theorem tab.Kf : ag Try.prog 73 1 = some (29, 1) := by kernel_rfl
@[go_sem] theorem tab.Kg : ag Try.prog 73 2 = some (3, 3) := by kernel_rfl
@[go_sem] theorem tab.QO : ae Try.prog 76 = some 1 := by kernel_rfl
@[go_sem] theorem tab.QP : al Try.prog 76 = some 2 := by kernel_rfl
@[go_sem] theorem tab.QQ : ao Try.prog 76 = some (Go.Value.int Go.IntKind.u16 0) := by kernel_rfl
@[go_sem] theorem tab.QR : Program.underlying Try.prog 76 = some (Go.TypeDesc.int Go.IntKind.u16) := by kernel_rfl
@[go_sem] theorem tab.QS : aE Try.prog 76 = some false := by kernel_rfl
@[go_sem] theorem tab.QT : ae Try.prog 81 = some 1 := by kernel_rfl
@[go_sem] theorem tab.QU : al Try.prog 81 = some 8 := by kernel_rfl
@[go_sem] theorem tab.QV : ao Try.prog 81 = some (Go.Value.pointer none) := by kernel_rfl
@[go_sem] theorem tab.QW : Program.underlying Try.prog 81 = some (Go.TypeDesc.pointer 106) := by kernel_rfl
@[go_sem] theorem tab.QX : aE Try.prog 81 = some false := by kernel_rfl
@[go_sem] theorem tab.QY : ae Try.prog 90 = some 4 := by kernel_rfl
@[go_sem] theorem tab.QZ : al Try.prog 90 = some 40 := by kernel_rfl
@[go_sem] theorem tab.Q0 : ao Try.prog 90 = some (Go.Value.agg #[(Go.Value.int Go.IntKind.i64 0), (Go.Value.string { data := #[] }), (Go.Value.int Go.IntKind.i64 0), (Go.Value.int Go.IntKind.i64 0)]) := by kernel_rfl
@[go_sem] theorem tab.Q1 : Program.underlying Try.prog 90 = some (Go.TypeDesc.struct #[{ name := "size", type := 3, offset := 0, embedded := false, tag := "", pkgPath := "tachograph/chunk", byteOffset := 0 }, { name := "s", type := 9, offset := 1, embedded := false, tag := "", pkgPath := "tachograph/chunk", byteOffset := 8 }, { name := "bits", type := 3, offset := 2, embedded := false, tag := "", pkgPath := "tachograph/chunk", byteOffset := 24 }, { name := "n", type := 3, offset := 3, embedded := false, tag := "", pkgPath := "tachograph/chunk", byteOffset := 32 }]) := by kernel_rfl
@[go_sem] theorem tab.Q5 : aE Try.prog 90 = some true := by kernel_rfl
@[go_sem] theorem tab.Q6 : dU Try.prog 90 = some [(0, 0), (1, 1), (0, 2), (0, 3)] := by kernel_rfl
@[go_sem] theorem tab.Kh : ag Try.prog 90 0 = some (3, 0) := by kernel_rfl
@[go_sem] theorem tab.Ki : ag Try.prog 90 1 = some (9, 1) := by kernel_rfl
@[go_sem] theorem tab.Kj : ag Try.prog 90 2 = some (3, 2) := by kernel_rfl
@[go_sem] theorem tab.Kk : ag Try.prog 90 3 = some (3, 3) := by kernel_rfl
@[go_sem] theorem tab.Q7 : ae Try.prog 91 = some 4 := by kernel_rfl
@[go_sem] theorem tab.Q8 : al Try.prog 91 = some 40 := by kernel_rfl
@[go_sem] theorem tab.Q9 : ao Try.prog 91 = some (Go.Value.agg #[(Go.Value.int Go.IntKind.i64 0), (Go.Value.string { data := #[] }), (Go.Value.int Go.IntKind.i64 0), (Go.Value.int Go.IntKind.i64 0)]) := by kernel_rfl
@[go_sem] theorem tab.Ra : Program.underlying Try.prog 91 = some (Go.TypeDesc.struct #[{ name := "size", type := 3, offset := 0, embedded := false, tag := "", pkgPath := "tachograph/chunk", byteOffset := 0 }, { name := "s", type := 9, offset := 1, embedded := false, tag := "", pkgPath := "tachograph/chunk", byteOffset := 8 }, { name := "bits", type := 3, offset := 2, embedded := false, tag := "", pkgPath := "tachograph/chunk", byteOffset := 24 }, { name := "n", type := 3, offset := 3, embedded := false, tag := "", pkgPath := "tachograph/chunk", byteOffset := 32 }]) := by kernel_rfl
@[go_sem] theorem tab.Rb : aE Try.prog 91 = some true := by kernel_rfl
@[go_sem] theorem tab.Rc : dU Try.prog 91 = some [(0, 0), (1, 1), (0, 2), (0, 3)] := by kernel_rfl
@[go_sem] theorem tab.Kl : ag Try.prog 91 0 = some (3, 0) := by kernel_rfl
@[go_sem] theorem tab.Km : ag Try.prog 91 1 = some (9, 1) := by kernel_rfl
@[go_sem] theorem tab.Kn : ag Try.prog 91 2 = some (3, 2) := by kernel_rfl
@[go_sem] theorem tab.Ko : ag Try.prog 91 3 = some (3, 3) := by kernel_rfl
@[go_sem] theorem tab.Rd : ae Try.prog 97 = some 5 := by kernel_rfl
@[go_sem] theorem tab.Re : al Try.prog 97 = some 56 := by kernel_rfl
@[go_sem] theorem tab.Rf : ao Try.prog 97 = some (Go.Value.agg #[(Go.Value.int Go.IntKind.i64 0), (Go.Value.int Go.IntKind.i64 0), (Go.Value.int Go.IntKind.i64 0), (Go.Value.int Go.IntKind.i64 0), (Go.Value.slice none 0 0)]) := by kernel_rfl
@[go_sem] theorem tab.Rg : Program.underlying Try.prog 97 = some (Go.TypeDesc.struct #[{ name := "Retention", type := 3, offset := 0, embedded := false, tag := "", pkgPath := "", byteOffset := 0 }, { name := "Policy", type := 3, offset := 1, embedded := false, tag := "", pkgPath := "", byteOffset := 8 }, { name := "Max", type := 3, offset := 2, embedded := false, tag := "", pkgPath := "", byteOffset := 16 }, { name := "Floor", type := 3, offset := 3, embedded := false, tag := "", pkgPath := "", byteOffset := 24 }, { name := "L", type := 22, offset := 4, embedded := false, tag := "", pkgPath := "", byteOffset := 32 }]) := by kernel_rfl
@[go_sem] theorem tab.Rh : aE Try.prog 97 = some true := by kernel_rfl
@[go_sem] theorem tab.Kp : ag Try.prog 97 0 = some (3, 0) := by kernel_rfl
@[go_sem] theorem tab.Kq : ag Try.prog 97 1 = some (3, 1) := by kernel_rfl
@[go_sem] theorem tab.Kr : ag Try.prog 97 2 = some (3, 2) := by kernel_rfl
@[go_sem] theorem tab.Ks : ag Try.prog 97 3 = some (3, 3) := by kernel_rfl
@[go_sem] theorem tab.Kt : ag Try.prog 97 4 = some (22, 4) := by kernel_rfl
@[go_sem] theorem tab.Ri : ae Try.prog 98 = some 5 := by kernel_rfl
@[go_sem] theorem tab.Rj : al Try.prog 98 = some 56 := by kernel_rfl
@[go_sem] theorem tab.Rk : ao Try.prog 98 = some (Go.Value.agg #[(Go.Value.int Go.IntKind.i64 0), (Go.Value.int Go.IntKind.i64 0), (Go.Value.int Go.IntKind.i64 0), (Go.Value.int Go.IntKind.i64 0), (Go.Value.slice none 0 0)]) := by kernel_rfl
@[go_sem] theorem tab.Rl : Program.underlying Try.prog 98 = some (Go.TypeDesc.struct #[{ name := "Retention", type := 3, offset := 0, embedded := false, tag := "", pkgPath := "", byteOffset := 0 }, { name := "Policy", type := 3, offset := 1, embedded := false, tag := "", pkgPath := "", byteOffset := 8 }, { name := "Max", type := 3, offset := 2, embedded := false, tag := "", pkgPath := "", byteOffset := 16 }, { name := "Floor", type := 3, offset := 3, embedded := false, tag := "", pkgPath := "", byteOffset := 24 }, { name := "L", type := 22, offset := 4, embedded := false, tag := "", pkgPath := "", byteOffset := 32 }]) := by kernel_rfl
@[go_sem] theorem tab.Rm : aE Try.prog 98 = some true := by kernel_rfl
@[go_sem] theorem tab.Ku : ag Try.prog 98 0 = some (3, 0) := by kernel_rfl
@[go_sem] theorem tab.Kv : ag Try.prog 98 1 = some (3, 1) := by kernel_rfl
@[go_sem] theorem tab.Kw : ag Try.prog 98 2 = some (3, 2) := by kernel_rfl
@[go_sem] theorem tab.Kx : ag Try.prog 98 3 = some (3, 3) := by kernel_rfl
@[go_sem] theorem tab.Ky : ag Try.prog 98 4 = some (22, 4) := by kernel_rfl
@[go_sem] theorem tab.K0 : ae Try.prog 105 = some 2 := by kernel_rfl
@[go_sem] theorem tab.K1 : al Try.prog 105 = some 32 := by kernel_rfl
@[go_sem] theorem tab.K2 : ao Try.prog 105 = some (Go.Value.agg #[(Go.Value.int Go.IntKind.i64 0), (Go.Value.slice none 0 0)]) := by kernel_rfl
@[go_sem] theorem tab.K3 : Program.underlying Try.prog 105 = some (Go.TypeDesc.struct #[{ name := "Size", type := 3, offset := 0, embedded := false, tag := "", pkgPath := "", byteOffset := 0 }, { name := "L", type := 22, offset := 1, embedded := false, tag := "", pkgPath := "", byteOffset := 8 }]) := by kernel_rfl
@[go_sem] theorem tab.K4 : aE Try.prog 105 = some true := by kernel_rfl
@[go_sem] theorem tab.IM : ag Try.prog 105 0 = some (3, 0) := by kernel_rfl
@[go_sem] theorem tab.IN : ag Try.prog 105 1 = some (22, 1) := by kernel_rfl
@[go_sem] theorem tab.K5 : ae Try.prog 106 = some 2 := by kernel_rfl
@[go_sem] theorem tab.K6 : al Try.prog 106 = some 32 := by kernel_rfl
@[go_sem] theorem tab.K7 : ao Try.prog 106 = some (Go.Value.agg #[(Go.Value.int Go.IntKind.i64 0), (Go.Value.slice none 0 0)]) := by kernel_rfl
@[go_sem] theorem tab.K8 : Program.underlying Try.prog 106 = some (Go.TypeDesc.struct #[{ name := "Size", type := 3, offset := 0, embedded := false, tag := "", pkgPath := "", byteOffset := 0 }, { name := "L", type := 22, offset := 1, embedded := false, tag := "", pkgPath := "", byteOffset := 8 }]) := by kernel_rfl
@[go_sem] theorem tab.K9 : aE Try.prog 106 = some true := by kernel_rfl
@[go_sem] theorem tab.IP : ag Try.prog 106 0 = some (3, 0) := by kernel_rfl
@[go_sem] theorem tab.IQ : ag Try.prog 106 1 = some (22, 1) := by kernel_rfl
@[go_sem] theorem tab.La : ae Try.prog 113 = some 1 := by kernel_rfl
@[go_sem] theorem tab.Lb : al Try.prog 113 = some 8 := by kernel_rfl
@[go_sem] theorem tab.Lc : ao Try.prog 113 = some (Go.Value.pointer none) := by kernel_rfl
@[go_sem] theorem tab.Ld : Program.underlying Try.prog 113 = some (Go.TypeDesc.pointer 135) := by kernel_rfl
@[go_sem] theorem tab.Le : aE Try.prog 113 = some false := by kernel_rfl
@[go_sem] theorem tab.Lf : ae Try.prog 116 = some 1 := by kernel_rfl
@[go_sem] theorem tab.Lg : al Try.prog 116 = some 8 := by kernel_rfl
@[go_sem] theorem tab.Lh : ao Try.prog 116 = some (Go.Value.pointer none) := by kernel_rfl
@[go_sem] theorem tab.Li : Program.underlying Try.prog 116 = some (Go.TypeDesc.pointer 118) := by kernel_rfl
@[go_sem] theorem tab.Lj : aE Try.prog 116 = some false := by kernel_rfl
@[go_sem] theorem tab.Lk : ae Try.prog 117 = some 5 := by kernel_rfl
@[go_sem] theorem tab.Ll : al Try.prog 117 = some 40 := by kernel_rfl
@[go_sem] theorem tab.Lm : ao Try.prog 117 = some (Go.Value.agg #[(Go.Value.pointer none), (Go.Value.int Go.IntKind.i64 0), (Go.Value.int Go.IntKind.i64 0), (Go.Value.int Go.IntKind.i64 0), (Go.Value.int Go.IntKind.i64 0)]) := by kernel_rfl
@[go_sem] theorem tab.Ln : Program.underlying Try.prog 117 = some (Go.TypeDesc.struct #[{ name := "r", type := 113, offset := 0, embedded := false, tag := "", pkgPath := "tachograph/delta", byteOffset := 0 }, { name := "last", type := 29, offset := 1, embedded := false, tag := "", pkgPath := "tachograph/delta", byteOffset := 8 }, { name := "step", type := 3, offset := 3, embedded := false, tag := "", pkgPath := "tachograph/delta", byteOffset := 24 }, { name := "e", type := 24, offset := 4, embedded := false, tag := "", pkgPath := "tachograph/delta", byteOffset := 32 }]) := by kernel_rfl
@[go_sem] theorem tab.Lo : aE Try.prog 117 = some true := by kernel_rfl
@[go_sem] theorem tab.IS : ag Try.prog 117 0 = some (113, 0) := by kernel_rfl
@[go_sem] theorem tab.IT : ag Try.prog 117 1 = some (29, 1) := by kernel_rfl
@[go_sem] theorem tab.IU : ag Try.prog 117 2 = some (3, 3) := by kernel_rfl
@[go_sem] theorem tab.IV : ag Try.prog 117 3 = some (24, 4) := by kernel_rfl
@[go_sem] theorem tab.Lp : ae Try.prog 118 = some 5 := by kernel_rfl
@[go_sem] theorem tab.Lq : al Try.prog 118 = some 40 := by kernel_rfl
@[go_sem] theorem tab.Lr : ao Try.prog 118 = some (Go.Value.agg #[(Go.Value.pointer none), (Go.Value.int Go.IntKind.i64 0), (Go.Value.int Go.IntKind.i64 0), (Go.Value.int Go.IntKind.i64 0), (Go.Value.int Go.IntKind.i64 0)]) := by kernel_rfl
@[go_sem] theorem tab.Ls : Program.underlying Try.prog 118 = some (Go.TypeDesc.struct #[{ name := "r", type := 113, offset := 0, embedded := false, tag := "", pkgPath := "tachograph/delta", byteOffset := 0 }, { name := "last", type := 29, offset := 1, embedded := false, tag := "", pkgPath := "tachograph/delta", byteOffset := 8 }, { name := "step", type := 3, offset := 3, embedded := false, tag := "", pkgPath := "tachograph/delta", byteOffset := 24 }, { name := "e", type := 24, offset := 4, embedded := false, tag := "", pkgPath := "tachograph/delta", byteOffset := 32 }]) := by kernel_rfl
@[go_sem] theorem tab.Lt : aE Try.prog 118 = some true := by kernel_rfl
@[go_sem] theorem tab.IW : ag Try.prog 118 0 = some (113, 0) := by kernel_rfl
@[go_sem] theorem tab.IX : ag Try.prog 118 1 = some (29, 1) := by kernel_rfl
@[go_sem] theorem tab.IY : ag Try.prog 118 2 = some (3, 3) := by kernel_rfl
@[go_sem] theorem tab.IZ : ag Try.prog 118 3 = some (24, 4) := by kernel_rfl
@[go_sem] theorem tab.Lu : ae Try.prog 120 = some 1 := by kernel_rfl
@[go_sem] theorem tab.Lv : al Try.prog 120 = some 24 := by kernel_rfl
@[go_sem] theorem tab.Lw : ao Try.prog 120 = some (Go.Value.slice none 0 0) := by kernel_rfl
@[go_sem] theorem tab.Lx : Program.underlying Try.prog 120 = some (Go.TypeDesc.slice 4) := by kernel_rfl
@[go_sem] theorem tab.Ly : aE Try.prog 120 = some false := by kernel_rfl
@[go_sem] theorem tab.Lz : ae Try.prog 124 = some 1 := by kernel_rfl
@[go_sem] theorem tab.LA : al Try.prog 124 = some 24 := by kernel_rfl
@[go_sem] theorem tab.LB : ao Try.prog 124 = some (Go.Value.slice none 0 0) := by kernel_rfl
@[go_sem] theorem tab.LC : Program.underlying Try.prog 124 = some (Go.TypeDesc.slice 9) := by kernel_rfl
@[go_sem] theorem tab.LD : aE Try.prog 124 = some false := by kernel_rfl
@[go_sem] theorem tab.LF : ae Try.prog 125 = some 1 := by kernel_rfl
@[go_sem] theorem tab.LG : al Try.prog 125 = some 8 := by kernel_rfl
@[go_sem] theorem tab.LH : ao Try.prog 125 = some (Go.Value.pointer none) := by kernel_rfl
@[go_sem] theorem tab.LI : Program.underlying Try.prog 125 = some (Go.TypeDesc.pointer 128) := by kernel_rfl
@[go_sem] theorem tab.LJ : aE Try.prog 125 = some false := by kernel_rfl
@[go_sem] theorem tab.LK : ae Try.prog 126 = some 1 := by kernel_rfl
@[go_sem] theorem tab.LL : al Try.prog 126 = some 24 := by kernel_rfl
@[go_sem] theorem tab.LM : ao Try.prog 126 = some (Go.Value.slice none 0 0) := by kernel_rfl
@[go_sem] theorem tab.LN : Program.underlying Try.prog 126 = some (Go.TypeDesc.slice 5) := by kernel_rfl
@[go_sem] theorem tab.LO : aE Try.prog 126 = some false := by kernel_rfl
@[go_sem] theorem tab.LP : ae Try.prog 127 = some 2 := by kernel_rfl
@[go_sem] theorem tab.LQ : al Try.prog 127 = some 32 := by kernel_rfl
@[go_sem] theorem tab.LR : ao Try.prog 127 = some (Go.Value.agg #[(Go.Value.slice none 0 0), (Go.Value.int Go.IntKind.i64 0)]) := by kernel_rfl
@[go_sem] theorem tab.LS : Program.underlying Try.prog 127 = some (Go.TypeDesc.struct #[{ name := "b", type := 126, offset := 0, embedded := false, tag := "", pkgPath := "tachograph/bits", byteOffset := 0 }, { name := "n", type := 3, offset := 1, embedded := false, tag := "", pkgPath := "tachograph/bits", byteOffset := 24 }]) := by kernel_rfl
@[go_sem] theorem tab.LU : aE Try.prog 127 = some true := by kernel_rfl
@[go_sem] theorem tab.I0 : ag Try.prog 127 0 = some (126, 0) := by kernel_rfl
@[go_sem] theorem tab.I1 : ag Try.prog 127 1 = some (3, 1) := by kernel_rfl
@[go_sem] theorem tab.LV : ae Try.prog 128 = some 2 := by kernel_rfl
@[go_sem] theorem tab.LW : al Try.prog 128 = some 32 := by kernel_rfl
@[go_sem] theorem tab.LX : ao Try.prog 128 = some (Go.Value.agg #[(Go.Value.slice none 0 0), (Go.Value.int Go.IntKind.i64 0)]) := by kernel_rfl
@[go_sem] theorem tab.LY : Program.underlying Try.prog 128 = some (Go.TypeDesc.struct #[{ name := "b", type := 126, offset := 0, embedded := false, tag := "", pkgPath := "tachograph/bits", byteOffset := 0 }, { name := "n", type := 3, offset := 1, embedded := false, tag := "", pkgPath := "tachograph/bits", byteOffset := 24 }]) := by kernel_rfl
@[go_sem] theorem tab.LZ : aE Try.prog 128 = some true := by kernel_rfl
@[go_sem] theorem tab.I2 : ag Try.prog 128 0 = some (126, 0) := by kernel_rfl
@[go_sem] theorem tab.I3 : ag Try.prog 128 1 = some (3, 1) := by kernel_rfl
@[go_sem] theorem tab.L0 : ae Try.prog 130 = some 1 := by kernel_rfl
@[go_sem] theorem tab.L2 : al Try.prog 130 = some 8 := by kernel_rfl
@[go_sem] theorem tab.L3 : ao Try.prog 130 = some (Go.Value.int Go.IntKind.u64 0) := by kernel_rfl
@[go_sem] theorem tab.L4 : Program.underlying Try.prog 130 = some (Go.TypeDesc.int Go.IntKind.u64) := by kernel_rfl
@[go_sem] theorem tab.L5 : aE Try.prog 130 = some false := by kernel_rfl
@[go_sem] theorem tab.L6 : ae Try.prog 134 = some 4 := by kernel_rfl
@[go_sem] theorem tab.L7 : al Try.prog 134 = some 40 := by kernel_rfl
@[go_sem] theorem tab.L8 : ao Try.prog 134 = some (Go.Value.agg #[(Go.Value.string { data := #[] }), (Go.Value.int Go.IntKind.i64 0), (Go.Value.int Go.IntKind.i64 0), (Go.Value.bool false)]) := by kernel_rfl
@[go_sem] theorem tab.L9 : Program.underlying Try.prog 134 = some (Go.TypeDesc.struct #[{ name := "s", type := 9, offset := 0, embedded := false, tag := "", pkgPath := "tachograph/bits", byteOffset := 0 }, { name := "n", type := 3, offset := 1, embedded := false, tag := "", pkgPath := "tachograph/bits", byteOffset := 16 }, { name := "at", type := 3, offset := 2, embedded := false, tag := "", pkgPath := "tachograph/bits", byteOffset := 24 }, { name := "made", type := 4, offset := 3, embedded := false, tag := "", pkgPath := "tachograph/bits", byteOffset := 32 }]) := by kernel_rfl
@[go_sem] theorem tab.Ma : aE Try.prog 134 = some true := by kernel_rfl
@[go_sem] theorem tab.Mb : dU Try.prog 134 = some [(1, 0), (0, 1), (0, 2), (2, 3)] := by kernel_rfl
@[go_sem] theorem tab.I4 : ag Try.prog 134 0 = some (9, 0) := by kernel_rfl
@[go_sem] theorem tab.I5 : ag Try.prog 134 1 = some (3, 1) := by kernel_rfl
@[go_sem] theorem tab.I6 : ag Try.prog 134 2 = some (3, 2) := by kernel_rfl
@[go_sem] theorem tab.I7 : ag Try.prog 134 3 = some (4, 3) := by kernel_rfl
@[go_sem] theorem tab.Mc : ae Try.prog 135 = some 4 := by kernel_rfl
@[go_sem] theorem tab.Md : al Try.prog 135 = some 40 := by kernel_rfl
@[go_sem] theorem tab.Me : ao Try.prog 135 = some (Go.Value.agg #[(Go.Value.string { data := #[] }), (Go.Value.int Go.IntKind.i64 0), (Go.Value.int Go.IntKind.i64 0), (Go.Value.bool false)]) := by kernel_rfl
@[go_sem] theorem tab.Mf : Program.underlying Try.prog 135 = some (Go.TypeDesc.struct #[{ name := "s", type := 9, offset := 0, embedded := false, tag := "", pkgPath := "tachograph/bits", byteOffset := 0 }, { name := "n", type := 3, offset := 1, embedded := false, tag := "", pkgPath := "tachograph/bits", byteOffset := 16 }, { name := "at", type := 3, offset := 2, embedded := false, tag := "", pkgPath := "tachograph/bits", byteOffset := 24 }, { name := "made", type := 4, offset := 3, embedded := false, tag := "", pkgPath := "tachograph/bits", byteOffset := 32 }]) := by kernel_rfl
@[go_sem] theorem tab.Mg : aE Try.prog 135 = some true := by kernel_rfl
@[go_sem] theorem tab.Mh : dU Try.prog 135 = some [(1, 0), (0, 1), (0, 2), (2, 3)] := by kernel_rfl
@[go_sem] theorem tab.I8 : ag Try.prog 135 0 = some (9, 0) := by kernel_rfl
@[go_sem] theorem tab.I9 : ag Try.prog 135 1 = some (3, 1) := by kernel_rfl
@[go_sem] theorem tab.Ja : ag Try.prog 135 2 = some (3, 2) := by kernel_rfl
@[go_sem] theorem tab.Jb : ag Try.prog 135 3 = some (4, 3) := by kernel_rfl
@[go_sem] theorem tab.Mi : ae Try.prog 141 = some 5 := by kernel_rfl
@[go_sem] theorem tab.Mj : al Try.prog 141 = some 40 := by kernel_rfl
@[go_sem] theorem tab.Mk : ao Try.prog 141 = some (Go.Value.agg #[(Go.Value.int Go.IntKind.i64 0), (Go.Value.int Go.IntKind.i64 0), (Go.Value.int Go.IntKind.i64 0), (Go.Value.int Go.IntKind.i64 0), (Go.Value.int Go.IntKind.i64 0)]) := by kernel_rfl
@[go_sem] theorem tab.Ml : Program.underlying Try.prog 141 = some (Go.TypeDesc.array 5 3) := by kernel_rfl
@[go_sem] theorem tab.Mm : aE Try.prog 141 = some true := by kernel_rfl
@[go_sem] theorem tab.Mn : ae Try.prog 143 = some 1 := by kernel_rfl
@[go_sem] theorem tab.Mo : al Try.prog 143 = some 8 := by kernel_rfl
@[go_sem] theorem tab.Mp : ao Try.prog 143 = some (Go.Value.int Go.IntKind.u64 0) := by kernel_rfl
@[go_sem] theorem tab.Mq : Program.underlying Try.prog 143 = some (Go.TypeDesc.int Go.IntKind.u64) := by kernel_rfl
@[go_sem] theorem tab.Mr : aE Try.prog 143 = some false := by kernel_rfl
@[go_sem] theorem tab.Ms : ae Try.prog 151 = some 4 := by kernel_rfl
@[go_sem] theorem tab.Mt : al Try.prog 151 = some 40 := by kernel_rfl
@[go_sem] theorem tab.Mu : ao Try.prog 151 = some (Go.Value.agg #[(Go.Value.pointer none), (Go.Value.pointer none), (Go.Value.pointer none), (Go.Value.string { data := #[] })]) := by kernel_rfl
@[go_sem] theorem tab.Mv : Program.underlying Try.prog 151 = some (Go.TypeDesc.struct #[{ name := "_interface", type := 17, offset := 0, embedded := false, tag := "", pkgPath := "runtime", byteOffset := 0 }, { name := "concrete", type := 17, offset := 1, embedded := false, tag := "", pkgPath := "runtime", byteOffset := 8 }, { name := "asserted", type := 17, offset := 2, embedded := false, tag := "", pkgPath := "runtime", byteOffset := 16 }, { name := "missingMethod", type := 9, offset := 3, embedded := false, tag := "", pkgPath := "runtime", byteOffset := 24 }]) := by kernel_rfl
@[go_sem] theorem tab.Mw : aE Try.prog 151 = some true := by kernel_rfl
@[go_sem] theorem tab.Jc : ag Try.prog 151 0 = some (17, 0) := by kernel_rfl
@[go_sem] theorem tab.Jd : ag Try.prog 151 1 = some (17, 1) := by kernel_rfl
@[go_sem] theorem tab.Je : ag Try.prog 151 2 = some (17, 2) := by kernel_rfl
@[go_sem] theorem tab.Jf : ag Try.prog 151 3 = some (9, 3) := by kernel_rfl
@[go_sem] theorem tab.Mx : ae Try.prog 152 = some 4 := by kernel_rfl
@[go_sem] theorem tab.My : al Try.prog 152 = some 40 := by kernel_rfl
@[go_sem] theorem tab.Mz : ao Try.prog 152 = some (Go.Value.agg #[(Go.Value.pointer none), (Go.Value.pointer none), (Go.Value.pointer none), (Go.Value.string { data := #[] })]) := by kernel_rfl
@[go_sem] theorem tab.MA : Program.underlying Try.prog 152 = some (Go.TypeDesc.struct #[{ name := "_interface", type := 17, offset := 0, embedded := false, tag := "", pkgPath := "runtime", byteOffset := 0 }, { name := "concrete", type := 17, offset := 1, embedded := false, tag := "", pkgPath := "runtime", byteOffset := 8 }, { name := "asserted", type := 17, offset := 2, embedded := false, tag := "", pkgPath := "runtime", byteOffset := 16 }, { name := "missingMethod", type := 9, offset := 3, embedded := false, tag := "", pkgPath := "runtime", byteOffset := 24 }]) := by kernel_rfl
@[go_sem] theorem tab.MB : aE Try.prog 152 = some true := by kernel_rfl
@[go_sem] theorem tab.Jg : ag Try.prog 152 0 = some (17, 0) := by kernel_rfl
@[go_sem] theorem tab.Jh : ag Try.prog 152 1 = some (17, 1) := by kernel_rfl
@[go_sem] theorem tab.Ji : ag Try.prog 152 2 = some (17, 2) := by kernel_rfl
@[go_sem] theorem tab.Jj : ag Try.prog 152 3 = some (9, 3) := by kernel_rfl
@[go_sem] theorem tab.MC : ae Try.prog 153 = some 0 := by kernel_rfl
@[go_sem] theorem tab.MD : al Try.prog 153 = some 0 := by kernel_rfl
@[go_sem] theorem tab.ME : ao Try.prog 153 = some (Go.Value.agg #[]) := by kernel_rfl
@[go_sem] theorem tab.MF : Program.underlying Try.prog 153 = some (Go.TypeDesc.array 0 16) := by kernel_rfl
@[go_sem] theorem tab.MG : aE Try.prog 153 = some true := by kernel_rfl
@[go_sem] theorem tab.MH : ae Try.prog 154 = some 0 := by kernel_rfl
@[go_sem] theorem tab.MI : al Try.prog 154 = some 0 := by kernel_rfl
@[go_sem] theorem tab.MJ : ao Try.prog 154 = some (Go.Value.agg #[]) := by kernel_rfl
@[go_sem] theorem tab.MK : Program.underlying Try.prog 154 = some (Go.TypeDesc.struct #[{ name := "_", type := 153, offset := 0, embedded := false, tag := "", pkgPath := "runtime", byteOffset := 0 }]) := by kernel_rfl
@[go_sem] theorem tab.ML : aE Try.prog 154 = some true := by kernel_rfl
@[go_sem] theorem tab.MM : ae Try.prog 155 = some 0 := by kernel_rfl
@[go_sem] theorem tab.MN : al Try.prog 155 = some 0 := by kernel_rfl
@[go_sem] theorem tab.MO : ao Try.prog 155 = some (Go.Value.agg #[]) := by kernel_rfl
@[go_sem] theorem tab.MP : Program.underlying Try.prog 155 = some (Go.TypeDesc.struct #[{ name := "_", type := 153, offset := 0, embedded := false, tag := "", pkgPath := "runtime", byteOffset := 0 }]) := by kernel_rfl
@[go_sem] theorem tab.MQ : aE Try.prog 155 = some true := by kernel_rfl
@[go_sem] theorem tab.MS : ae Try.prog 156 = some 1 := by kernel_rfl
@[go_sem] theorem tab.MT : al Try.prog 156 = some 4 := by kernel_rfl
@[go_sem] theorem tab.MU : ao Try.prog 156 = some (Go.Value.int Go.IntKind.u32 0) := by kernel_rfl
@[go_sem] theorem tab.MV : Program.underlying Try.prog 156 = some (Go.TypeDesc.int Go.IntKind.u32) := by kernel_rfl
@[go_sem] theorem tab.MW : aE Try.prog 156 = some false := by kernel_rfl
@[go_sem] theorem tab.MX : ae Try.prog 157 = some 1 := by kernel_rfl
@[go_sem] theorem tab.MY : al Try.prog 157 = some 1 := by kernel_rfl
@[go_sem] theorem tab.MZ : ao Try.prog 157 = some (Go.Value.int Go.IntKind.u8 0) := by kernel_rfl
@[go_sem] theorem tab.M0 : Program.underlying Try.prog 157 = some (Go.TypeDesc.int Go.IntKind.u8) := by kernel_rfl
@[go_sem] theorem tab.M1 : aE Try.prog 157 = some false := by kernel_rfl
@[go_sem] theorem tab.M3 : ae Try.prog 158 = some 1 := by kernel_rfl
@[go_sem] theorem tab.M4 : al Try.prog 158 = some 1 := by kernel_rfl
@[go_sem] theorem tab.M5 : ao Try.prog 158 = some (Go.Value.int Go.IntKind.u8 0) := by kernel_rfl
@[go_sem] theorem tab.M6 : Program.underlying Try.prog 158 = some (Go.TypeDesc.int Go.IntKind.u8) := by kernel_rfl
@[go_sem] theorem tab.M7 : aE Try.prog 158 = some false := by kernel_rfl
@[go_sem] theorem tab.M8 : ae Try.prog 160 = some 1 := by kernel_rfl
@[go_sem] theorem tab.M9 : al Try.prog 160 = some 8 := by kernel_rfl
@[go_sem] theorem tab.Na : ao Try.prog 160 = some (Go.Value.pointer none) := by kernel_rfl
@[go_sem] theorem tab.Nb : Program.underlying Try.prog 160 = some (Go.TypeDesc.pointer 5) := by kernel_rfl
@[go_sem] theorem tab.Nc : aE Try.prog 160 = some false := by kernel_rfl
@[go_sem] theorem tab.Nd : ae Try.prog 161 = some 1 := by kernel_rfl
@[go_sem] theorem tab.Nf : al Try.prog 161 = some 4 := by kernel_rfl
@[go_sem] theorem tab.Ng : ao Try.prog 161 = some (Go.Value.int Go.IntKind.i32 0) := by kernel_rfl
@[go_sem] theorem tab.Nh : Program.underlying Try.prog 161 = some (Go.TypeDesc.int Go.IntKind.i32) := by kernel_rfl
@[go_sem] theorem tab.Ni : aE Try.prog 161 = some false := by kernel_rfl
@[go_sem] theorem tab.Nj : ae Try.prog 162 = some 1 := by kernel_rfl
@[go_sem] theorem tab.Nk : al Try.prog 162 = some 4 := by kernel_rfl
@[go_sem] theorem tab.Nl : ao Try.prog 162 = some (Go.Value.int Go.IntKind.i32 0) := by kernel_rfl
@[go_sem] theorem tab.Nm : Program.underlying Try.prog 162 = some (Go.TypeDesc.int Go.IntKind.i32) := by kernel_rfl
@[go_sem] theorem tab.Nn : aE Try.prog 162 = some false := by kernel_rfl
@[go_sem] theorem tab.No : ae Try.prog 163 = some 11 := by kernel_rfl
@[go_sem] theorem tab.Np : al Try.prog 163 = some 48 := by kernel_rfl
@[go_sem] theorem tab.Nq : ao Try.prog 163 = some (Go.Value.agg #[(Go.Value.int Go.IntKind.u64 0), (Go.Value.int Go.IntKind.u64 0), (Go.Value.int Go.IntKind.u32 0), (Go.Value.int Go.IntKind.u8 0), (Go.Value.int Go.IntKind.u8 0), (Go.Value.int Go.IntKind.u8 0), (Go.Value.int Go.IntKind.u8 0), Go.Value.nilFunc, (Go.Value.pointer none), (Go.Value.int Go.IntKind.i32 0), (Go.Value.int Go.IntKind.i32 0)]) := by kernel_rfl
@[go_sem] theorem tab.Nr : Program.underlying Try.prog 163 = some (Go.TypeDesc.struct #[{ name := "Size_", type := 12, offset := 0, embedded := false, tag := "", pkgPath := "", byteOffset := 0 }, { name := "PtrBytes", type := 12, offset := 1, embedded := false, tag := "", pkgPath := "", byteOffset := 8 }, { name := "Hash", type := 156, offset := 2, embedded := false, tag := "", pkgPath := "", byteOffset := 16 }, { name := "TFlag", type := 157, offset := 3, embedded := false, tag := "", pkgPath := "", byteOffset := 20 }, { name := "Align_", type := 5, offset := 4, embedded := false, tag := "", pkgPath := "", byteOffset := 21 }, { name := "FieldAlign_", type := 5, offset := 5, embedded := false, tag := "", pkgPath := "", byteOffset := 22 }, { name := "Kind_", type := 158, offset := 6, embedded := false, tag := "", pkgPath := "", byteOffset := 23 }, { name := "Equal", type := 159, offset := 7, embedded := false, tag := "", pkgPath := "", byteOffset := 24 }, { name := "GCData", type := 160, offset := 8, embedded := false, tag := "", pkgPath := "", byteOffset := 32 }, { name := "Str", type := 161, offset := 9, embedded := false, tag := "", pkgPath := "", byteOffset := 40 }, { name := "PtrToThis", type := 162, offset := 10, embedded := false, tag := "", pkgPath := "", byteOffset := 44 }]) := by kernel_rfl
@[go_sem] theorem tab.Ns : aE Try.prog 163 = some true := by kernel_rfl
@[go_sem] theorem tab.Jk : ag Try.prog 163 0 = some (12, 0) := by kernel_rfl
@[go_sem] theorem tab.Jl : ag Try.prog 163 1 = some (12, 1) := by kernel_rfl
@[go_sem] theorem tab.Jm : ag Try.prog 163 2 = some (156, 2) := by kernel_rfl
@[go_sem] theorem tab.Jn : ag Try.prog 163 3 = some (157, 3) := by kernel_rfl
@[go_sem] theorem tab.Jo : ag Try.prog 163 4 = some (5, 4) := by kernel_rfl
@[go_sem] theorem tab.Jp : ag Try.prog 163 5 = some (5, 5) := by kernel_rfl
@[go_sem] theorem tab.Jq : ag Try.prog 163 6 = some (158, 6) := by kernel_rfl
@[go_sem] theorem tab.Jr : ag Try.prog 163 7 = some (159, 7) := by kernel_rfl
@[go_sem] theorem tab.Js : ag Try.prog 163 8 = some (160, 8) := by kernel_rfl
@[go_sem] theorem tab.Jt : ag Try.prog 163 9 = some (161, 9) := by kernel_rfl
@[go_sem] theorem tab.Ht : ag Try.prog 163 10 = some (162, 10) := by kernel_rfl
@[go_sem] theorem tab.Nt : ae Try.prog 164 = some 11 := by kernel_rfl
@[go_sem] theorem tab.Nu : al Try.prog 164 = some 48 := by kernel_rfl
@[go_sem] theorem tab.Nv : ao Try.prog 164 = some (Go.Value.agg #[(Go.Value.int Go.IntKind.u64 0), (Go.Value.int Go.IntKind.u64 0), (Go.Value.int Go.IntKind.u32 0), (Go.Value.int Go.IntKind.u8 0), (Go.Value.int Go.IntKind.u8 0), (Go.Value.int Go.IntKind.u8 0), (Go.Value.int Go.IntKind.u8 0), Go.Value.nilFunc, (Go.Value.pointer none), (Go.Value.int Go.IntKind.i32 0), (Go.Value.int Go.IntKind.i32 0)]) := by kernel_rfl
@[go_sem] theorem tab.Nw : Program.underlying Try.prog 164 = some (Go.TypeDesc.struct #[{ name := "Size_", type := 12, offset := 0, embedded := false, tag := "", pkgPath := "", byteOffset := 0 }, { name := "PtrBytes", type := 12, offset := 1, embedded := false, tag := "", pkgPath := "", byteOffset := 8 }, { name := "Hash", type := 156, offset := 2, embedded := false, tag := "", pkgPath := "", byteOffset := 16 }, { name := "TFlag", type := 157, offset := 3, embedded := false, tag := "", pkgPath := "", byteOffset := 20 }, { name := "Align_", type := 5, offset := 4, embedded := false, tag := "", pkgPath := "", byteOffset := 21 }, { name := "FieldAlign_", type := 5, offset := 5, embedded := false, tag := "", pkgPath := "", byteOffset := 22 }, { name := "Kind_", type := 158, offset := 6, embedded := false, tag := "", pkgPath := "", byteOffset := 23 }, { name := "Equal", type := 159, offset := 7, embedded := false, tag := "", pkgPath := "", byteOffset := 24 }, { name := "GCData", type := 160, offset := 8, embedded := false, tag := "", pkgPath := "", byteOffset := 32 }, { name := "Str", type := 161, offset := 9, embedded := false, tag := "", pkgPath := "", byteOffset := 40 }, { name := "PtrToThis", type := 162, offset := 10, embedded := false, tag := "", pkgPath := "", byteOffset := 44 }]) := by kernel_rfl
@[go_sem] theorem tab.Nx : aE Try.prog 164 = some true := by kernel_rfl
@[go_sem] theorem tab.Ju : ag Try.prog 164 0 = some (12, 0) := by kernel_rfl
@[go_sem] theorem tab.Jv : ag Try.prog 164 1 = some (12, 1) := by kernel_rfl
@[go_sem] theorem tab.Jw : ag Try.prog 164 2 = some (156, 2) := by kernel_rfl
@[go_sem] theorem tab.Jx : ag Try.prog 164 3 = some (157, 3) := by kernel_rfl
@[go_sem] theorem tab.Jy : ag Try.prog 164 4 = some (5, 4) := by kernel_rfl
@[go_sem] theorem tab.Jz : ag Try.prog 164 5 = some (5, 5) := by kernel_rfl
@[go_sem] theorem tab.JA : ag Try.prog 164 6 = some (158, 6) := by kernel_rfl
@[go_sem] theorem tab.JB : ag Try.prog 164 7 = some (159, 7) := by kernel_rfl
@[go_sem] theorem tab.JC : ag Try.prog 164 8 = some (160, 8) := by kernel_rfl
@[go_sem] theorem tab.JD : ag Try.prog 164 9 = some (161, 9) := by kernel_rfl
@[go_sem] theorem tab.Hu : ag Try.prog 164 10 = some (162, 10) := by kernel_rfl
@[go_sem] theorem tab.Ny : ae Try.prog 165 = some 1 := by kernel_rfl
@[go_sem] theorem tab.Nz : al Try.prog 165 = some 8 := by kernel_rfl
@[go_sem] theorem tab.NA : ao Try.prog 165 = some (Go.Value.pointer none) := by kernel_rfl
@[go_sem] theorem tab.NB : aE Try.prog 165 = some false := by kernel_rfl
@[go_sem] theorem tab.ca3 : ah Try.prog 3 = true := by kernel_rfl
@[go_sem] theorem tab.ca4 : ah Try.prog 4 = true := by kernel_rfl
@[go_sem] theorem tab.ca5 : ah Try.prog 5 = true := by kernel_rfl
@[go_sem] theorem tab.ca6 : ah Try.prog 6 = true := by kernel_rfl
@[go_sem] theorem tab.ca7 : ah Try.prog 7 = true := by kernel_rfl
@[go_sem] theorem tab.ca8 : ah Try.prog 8 = true := by kernel_rfl
@[go_sem] theorem tab.ca9 : ah Try.prog 9 = true := by kernel_rfl
@[go_sem] theorem tab.Rn : ah Try.prog 10 = true := by kernel_rfl
@[go_sem] theorem tab.Ro : ah Try.prog 11 = true := by kernel_rfl
@[go_sem] theorem tab.Rp : ah Try.prog 12 = true := by kernel_rfl
@[go_sem] theorem tab.Rq : ah Try.prog 13 = true := by kernel_rfl
@[go_sem] theorem tab.Rr : ah Try.prog 14 = true := by kernel_rfl
@[go_sem] theorem tab.Rs : ah Try.prog 15 = true := by kernel_rfl
@[go_sem] theorem tab.Rt : ah Try.prog 16 = true := by kernel_rfl
@[go_sem] theorem tab.Ru : ah Try.prog 17 = true := by kernel_rfl
@[go_sem] theorem tab.Rv : ah Try.prog 18 = true := by kernel_rfl
@[go_sem] theorem tab.Rw : ah Try.prog 19 = true := by kernel_rfl
@[go_sem] theorem tab.Rx : ah Try.prog 20 = true := by kernel_rfl
@[go_sem] theorem tab.Ry : ah Try.prog 21 = true := by kernel_rfl
@[go_sem] theorem tab.Rz : ah Try.prog 22 = true := by kernel_rfl
@[go_sem] theorem tab.RA : ah Try.prog 23 = true := by kernel_rfl
@[go_sem] theorem tab.RB : ah Try.prog 24 = true := by kernel_rfl
@[go_sem] theorem tab.RC : ah Try.prog 25 = true := by kernel_rfl
@[go_sem] theorem tab.RD : ah Try.prog 26 = true := by kernel_rfl
@[go_sem] theorem tab.RE : ah Try.prog 27 = true := by kernel_rfl
@[go_sem] theorem tab.RF : ah Try.prog 28 = true := by kernel_rfl
@[go_sem] theorem tab.RG : ah Try.prog 29 = true := by kernel_rfl
@[go_sem] theorem tab.RH : ah Try.prog 30 = true := by kernel_rfl
@[go_sem] theorem tab.RI : ah Try.prog 31 = true := by kernel_rfl
@[go_sem] theorem tab.RJ : ah Try.prog 32 = true := by kernel_rfl
@[go_sem] theorem tab.RK : ah Try.prog 33 = true := by kernel_rfl
@[go_sem] theorem tab.RL : ah Try.prog 34 = true := by kernel_rfl
@[go_sem] theorem tab.RM : ah Try.prog 35 = true := by kernel_rfl
@[go_sem] theorem tab.RN : ah Try.prog 36 = true := by kernel_rfl
@[go_sem] theorem tab.RO : ah Try.prog 37 = true := by kernel_rfl
@[go_sem] theorem tab.RP : ah Try.prog 38 = true := by kernel_rfl
@[go_sem] theorem tab.RQ : ah Try.prog 39 = true := by kernel_rfl
@[go_sem] theorem tab.RR : ah Try.prog 40 = true := by kernel_rfl
@[go_sem] theorem tab.RS : ah Try.prog 41 = true := by kernel_rfl
@[go_sem] theorem tab.RT : ah Try.prog 42 = true := by kernel_rfl
@[go_sem] theorem tab.RU : ah Try.prog 43 = true := by kernel_rfl
@[go_sem] theorem tab.RV : ah Try.prog 44 = true := by kernel_rfl
@[go_sem] theorem tab.RW : ah Try.prog 45 = true := by kernel_rfl
@[go_sem] theorem tab.RX : ah Try.prog 46 = true := by kernel_rfl
@[go_sem] theorem tab.RY : ah Try.prog 47 = true := by kernel_rfl
@[go_sem] theorem tab.RZ : ah Try.prog 48 = true := by kernel_rfl
@[go_sem] theorem tab.R0 : ah Try.prog 49 = true := by kernel_rfl
@[go_sem] theorem tab.R1 : ah Try.prog 50 = true := by kernel_rfl
@[go_sem] theorem tab.R2 : ah Try.prog 51 = true := by kernel_rfl
@[go_sem] theorem tab.R3 : ah Try.prog 52 = true := by kernel_rfl
@[go_sem] theorem tab.R4 : ah Try.prog 53 = true := by kernel_rfl
@[go_sem] theorem tab.R5 : ah Try.prog 54 = true := by kernel_rfl
@[go_sem] theorem tab.R6 : ah Try.prog 55 = true := by kernel_rfl
@[go_sem] theorem tab.R7 : ah Try.prog 56 = true := by kernel_rfl
@[go_sem] theorem tab.R8 : ah Try.prog 57 = true := by kernel_rfl
@[go_sem] theorem tab.R9 : ah Try.prog 58 = true := by kernel_rfl
@[go_sem] theorem tab.Sa : ah Try.prog 59 = true := by kernel_rfl
@[go_sem] theorem tab.Sb : ah Try.prog 60 = true := by kernel_rfl
@[go_sem] theorem tab.Sc : ah Try.prog 61 = true := by kernel_rfl
@[go_sem] theorem tab.Sd : ah Try.prog 62 = true := by kernel_rfl
@[go_sem] theorem tab.Se : ah Try.prog 63 = true := by kernel_rfl
@[go_sem] theorem tab.Sf : ah Try.prog 64 = true := by kernel_rfl
@[go_sem] theorem tab.Sh : ah Try.prog 65 = true := by kernel_rfl
@[go_sem] theorem tab.Si : ah Try.prog 66 = true := by kernel_rfl
@[go_sem] theorem tab.Sj : ah Try.prog 67 = true := by kernel_rfl
@[go_sem] theorem tab.Sk : ah Try.prog 68 = true := by kernel_rfl
@[go_sem] theorem tab.Sl : ah Try.prog 69 = true := by kernel_rfl
@[go_sem] theorem tab.Sm : ah Try.prog 70 = true := by kernel_rfl
@[go_sem] theorem tab.Sn : ah Try.prog 71 = true := by kernel_rfl
@[go_sem] theorem tab.So : ah Try.prog 72 = true := by kernel_rfl
@[go_sem] theorem tab.Sp : ah Try.prog 73 = true := by kernel_rfl
@[go_sem] theorem tab.Sq : ah Try.prog 74 = true := by kernel_rfl
@[go_sem] theorem tab.Ss : ah Try.prog 75 = true := by kernel_rfl
@[go_sem] theorem tab.St : ah Try.prog 76 = true := by kernel_rfl
@[go_sem] theorem tab.Su : ah Try.prog 77 = true := by kernel_rfl
@[go_sem] theorem tab.Sv : ah Try.prog 78 = true := by kernel_rfl
@[go_sem] theorem tab.Sw : ah Try.prog 79 = true := by kernel_rfl
@[go_sem] theorem tab.Sx : ah Try.prog 80 = true := by kernel_rfl
@[go_sem] theorem tab.Sy : ah Try.prog 81 = true := by kernel_rfl
@[go_sem] theorem tab.Sz : ah Try.prog 82 = true := by kernel_rfl
@[go_sem] theorem tab.SA : ah Try.prog 83 = true := by kernel_rfl
@[go_sem] theorem tab.SB : ah Try.prog 84 = true := by kernel_rfl
@[go_sem] theorem tab.SC : ah Try.prog 85 = true := by kernel_rfl
@[go_sem] theorem tab.SD : ah Try.prog 86 = true := by kernel_rfl
@[go_sem] theorem tab.SE : ah Try.prog 87 = true := by kernel_rfl
@[go_sem] theorem tab.SF : ah Try.prog 88 = true := by kernel_rfl
@[go_sem] theorem tab.SG : ah Try.prog 89 = true := by kernel_rfl
@[go_sem] theorem tab.SH : ah Try.prog 90 = true := by kernel_rfl
@[go_sem] theorem tab.SI : ah Try.prog 91 = true := by kernel_rfl
@[go_sem] theorem tab.SJ : ah Try.prog 92 = true := by kernel_rfl
@[go_sem] theorem tab.SK : ah Try.prog 93 = true := by kernel_rfl
@[go_sem] theorem tab.SL : ah Try.prog 94 = true := by kernel_rfl
@[go_sem] theorem tab.SM : ah Try.prog 95 = true := by kernel_rfl
@[go_sem] theorem tab.SN : ah Try.prog 96 = true := by kernel_rfl
@[go_sem] theorem tab.SO : ah Try.prog 97 = true := by kernel_rfl
@[go_sem] theorem tab.SQ : ah Try.prog 98 = true := by kernel_rfl
@[go_sem] theorem tab.SR : ah Try.prog 99 = true := by kernel_rfl
@[go_sem] theorem tab.NC : ah Try.prog 100 = true := by kernel_rfl
@[go_sem] theorem tab.ND : ah Try.prog 101 = true := by kernel_rfl
@[go_sem] theorem tab.NF : ah Try.prog 102 = true := by kernel_rfl
@[go_sem] theorem tab.NG : ah Try.prog 103 = true := by kernel_rfl
@[go_sem] theorem tab.NH : ah Try.prog 104 = true := by kernel_rfl
@[go_sem] theorem tab.NI : ah Try.prog 105 = true := by kernel_rfl
@[go_sem] theorem tab.NJ : ah Try.prog 106 = true := by kernel_rfl
@[go_sem] theorem tab.NK : ah Try.prog 107 = true := by kernel_rfl
@[go_sem] theorem tab.NL : ah Try.prog 108 = true := by kernel_rfl
@[go_sem] theorem tab.NM : ah Try.prog 109 = true := by kernel_rfl
@[go_sem] theorem tab.NN : ah Try.prog 110 = true := by kernel_rfl
@[go_sem] theorem tab.NO : ah Try.prog 111 = true := by kernel_rfl
@[go_sem] theorem tab.NP : ah Try.prog 112 = true := by kernel_rfl
@[go_sem] theorem tab.NQ : ah Try.prog 113 = true := by kernel_rfl
@[go_sem] theorem tab.NR : ah Try.prog 114 = true := by kernel_rfl
@[go_sem] theorem tab.NS : ah Try.prog 115 = true := by kernel_rfl
@[go_sem] theorem tab.NT : ah Try.prog 116 = true := by kernel_rfl
@[go_sem] theorem tab.NU : ah Try.prog 117 = true := by kernel_rfl
@[go_sem] theorem tab.NV : ah Try.prog 118 = true := by kernel_rfl
@[go_sem] theorem tab.NW : ah Try.prog 119 = true := by kernel_rfl
@[go_sem] theorem tab.NX : ah Try.prog 120 = true := by kernel_rfl
theorem tab.mixed : Try.prog.follows .mixedOrders = true := by kernel_rfl
end Go.Proofs.Ytapjijhjnloimaa
namespace Go.Proofs.Ytapjijhjnloimaa
open Go Go.RowKit
def mV (r : Option (List UInt8)) (C : Value → Prop) : Prop := match r with
  | some l => C (.string ⟨l.toArray⟩)
  | none => False
section
variable (P : Program) (C : Value → Prop) (t : TypeId) (h : Hp) (K : KH) (b o n i : Nat) (x y v : Value)
theorem oQ (d : Int) : bnd none d = some d := id rfl
end
class Cn (α : Type) where
  go : α
end Go.Proofs.Ytapjijhjnloimaa
namespace Go.Proofs.Ytapjijhjnloimaa
open Go Go.RowKit
section
variable (P : Program) (ops : Array Oper) (l : List Oper) (ρ : Env) (h : Hp) (N R : EH) (X : Nat → EH) (K : KH) (C : Value → Prop) (d : Option Nat) (op : Op) (ty : TypeId) (pos : String) (af : Array Edge)
def gs : List Oper → Nat → Option Nat
  | [], _ => none
  | o :: _, 0 => o.dst
  | _ :: l, n + 1 => gs l n
end
attribute [go_sem ↓] oj lX
attribute [go_sem] oQ Ao yP yQ Ap br kN dd l5 eJ cP bS bT bytesOf
attribute [go_sem] kP found Au chg
attribute [go_sem] Bool.not_not true_or or_true false_or or_false Nat.le_refl Nat.zero_le ry List.set_cons_zero if_true if_false Int.le_refl
attribute [go_sem] Bool.not_true Bool.not_false List.map_cons List.map_nil List.map_toArray List.append_toArray List.nil_append List.cons_append List.append_nil Option.map_some Option.map_none Option.isSome_some Option.isSome_none Option.isNone_some Option.isNone_none
attribute [go_sem] List.getElem?_toArray List.getElem?_cons_zero List.getElem?_cons_succ Option.bind_some Value.cells List.size_toArray List.length_cons List.length_nil List.all_cons List.all_nil Value.oneCell' Bool.and_true Bool.true_and true_and and_true eq_self List.setIfInBounds_toArray List.set_cons_zero List.set_cons_succ
attribute [go_sem] oo eI
theorem aD {x : Int} (h1 : -9223372036854775808 ≤ x) (h2 : x ≤ 9223372036854775807) : IntKind.i64.wrap x = x := by
  rw [IntKind.wrap_i64]; omega
end Go.Proofs.Ytapjijhjnloimaa
namespace Go.Proofs.Ytapjijhjnloimaa
open Go Go.RowKit
theorem iB (z : List Value) : ∀ n, (bT z n).length = n * z.length
  | 0 => by simp [bT]
  | n + 1 => by simp [bT, iB z n, Nat.succ_mul, Nat.add_comm]
attribute [go_sem] Nat.add_assoc
end Go.Proofs.Ytapjijhjnloimaa
namespace Go.Proofs.Ytapjijhjnloimaa
open Go Go.RowKit
section
variable {α : Type} (v : Option α) (f n : Nat) (l r : PM α) (u : Option α)
theorem PM.get_nil : (PM.nil : PM α).get n = none := id rfl
theorem PM.aW : (PM.node l u r).get (n + 1) = if n % 2 = 0 then l.get (n / 2) else r.get (n / 2) := by
  show (Nat.rec (l.get (n / 2)) (fun _ _ => r.get (n / 2)) (n % 2) : Option α) = _
  rcases Nat.mod_two_eq_zero_or_one n with e | e <;> rw [e] <;> rfl
theorem PM.AS (t : PM α) : PM.set v 0 t n = .nil := id rfl
theorem PM.AT : PM.set v (f + 1) .nil 0 = .node .nil v .nil := id rfl
theorem PM.ue : PM.set v (f + 1) .nil (n + 1) = if n % 2 = 0 then .node (PM.set v f .nil (n / 2)) none .nil else .node .nil none (PM.set v f .nil (n / 2)) := by
  show (Nat.rec (.node (PM.set v f .nil (n / 2)) none .nil) (fun _ _ => .node .nil none (PM.set v f .nil (n / 2))) (n % 2) : PM α) = _
  rcases Nat.mod_two_eq_zero_or_one n with e | e <;> rw [e] <;> rfl
theorem PM.zb : PM.set v (f + 1) (.node l u r) 0 = .node l v r := id rfl
theorem PM.qI : PM.set v (f + 1) (.node l u r) (n + 1) = if n % 2 = 0 then .node (PM.set v f l (n / 2)) u r else .node l u (PM.set v f r (n / 2)) := by
  show (Nat.rec (.node (PM.set v f l (n / 2)) u r) (fun _ _ => .node l u (PM.set v f r (n / 2))) (n % 2) : PM α) = _
  rcases Nat.mod_two_eq_zero_or_one n with e | e <;> rw [e] <;> rfl
end
theorem PM.an {α : Type} {v : Option α} : ∀ (f : Nat) (t : PM α) (n m : Nat) (x : α), (PM.set v f t n).get m = some x → (m = n ∧ v = some x) ∨ (m ≠ n ∧ t.get m = some x)
  | 0, t, n, m, x, h => by rw [PM.AS, PM.get_nil] at h; cases h
  | f + 1, .nil, 0, m, x, h => by
    rw [PM.AT] at h
    cases m with
    | zero => exact .inl ⟨rfl, h⟩
    | succ m => rw [PM.aW] at h; split at h <;> cases h
  | f + 1, .nil, n + 1, m, x, h => by
    rw [PM.ue] at h
    cases m with
    | zero => split at h <;> cases h
    | succ m =>
      split at h
      · rw [PM.aW] at h
        split at h
        · rcases PM.an f .nil (n / 2) (m / 2) x h with ⟨h1, h2⟩ | ⟨_, h2⟩
          · exact .inl ⟨by omega, h2⟩
          · cases h2
        · cases h
      · rw [PM.aW] at h
        split at h
        · cases h
        · rcases PM.an f .nil (n / 2) (m / 2) x h with ⟨h1, h2⟩ | ⟨_, h2⟩
          · exact .inl ⟨by omega, h2⟩
          · cases h2
  | f + 1, .node l u r, 0, m, x, h => by
    rw [PM.zb] at h
    cases m with
    | zero => exact .inl ⟨rfl, h⟩
    | succ m => rw [PM.aW] at h; exact .inr ⟨by omega, by rw [PM.aW]; exact h⟩
  | f + 1, .node l u r, n + 1, m, x, h => by
    rw [PM.qI] at h
    cases m with
    | zero => split at h <;> exact .inr ⟨by omega, h⟩
    | succ m =>
      split at h
      · rename_i hn
        rw [PM.aW] at h
        split at h
        · rename_i hm
          rcases PM.an f l (n / 2) (m / 2) x h with ⟨h1, h2⟩ | ⟨h1, h2⟩
          · exact .inl ⟨by omega, h2⟩
          · exact .inr ⟨by omega, by rw [PM.aW, if_pos hm]; exact h2⟩
        · rename_i hm
          exact .inr ⟨by omega, by rw [PM.aW, if_neg hm]; exact h⟩
      · rename_i hn
        rw [PM.aW] at h
        split at h
        · rename_i hm
          exact .inr ⟨by omega, by rw [PM.aW, if_pos hm]; exact h⟩
        · rename_i hm
          rcases PM.an f r (n / 2) (m / 2) x h with ⟨h1, h2⟩ | ⟨h1, h2⟩
          · exact .inl ⟨by omega, h2⟩
          · exact .inr ⟨by omega, by rw [PM.aW, if_neg hm]; exact h2⟩
theorem PM.aw {α : Type} {v : Option α} {x : α} : ∀ (f : Nat) (t : PM α) (n m : Nat), n + 1 < 2 ^ f → m ≠ n → t.get m = some x → (PM.set v f t n).get m = some x
  | 0, t, n, m, h, _, _ => by simp at h
  | f + 1, .nil, n, m, h, hm, e => by cases e
  | f + 1, .node l u r, 0, m, h, hm, e => by
    cases m with
    | zero => exact absurd rfl hm
    | succ m =>
      show (PM.node l v r).get (m + 1) = some x
      rw [PM.aW] at e ⊢
      exact e
  | f + 1, .node l u r, n + 1, m, h, hm, e => by
    have hp : (PM.node l u r).set v (f + 1) (n + 1) = (Nat.rec (.node (PM.set v f l (n / 2)) u r) (fun _ _ => .node l u (PM.set v f r (n / 2))) (n % 2) : PM α) := rfl
    have h2 : n / 2 + 1 < 2 ^ f := by rw [Nat.pow_succ] at h; omega
    rcases Nat.mod_two_eq_zero_or_one n with q | q <;> rw [q] at hp
    · have hp : (PM.node l u r).set v (f + 1) (n + 1) = .node (PM.set v f l (n / 2)) u r := hp
      rw [hp]
      cases m with
      | zero => exact e
      | succ m =>
        rw [PM.aW] at e ⊢
        split
        · rename_i hq
          rw [if_pos hq] at e
          exact PM.aw f l (n / 2) (m / 2) h2 (by omega) e
        · rename_i hq
          rw [if_neg hq] at e
          exact e
    · have hp : (PM.node l u r).set v (f + 1) (n + 1) = .node l u (PM.set v f r (n / 2)) := hp
      rw [hp]
      cases m with
      | zero => exact e
      | succ m =>
        rw [PM.aW] at e ⊢
        split
        · rename_i hq
          rw [if_pos hq] at e
          exact e
        · rename_i hq
          rw [if_neg hq] at e
          exact PM.aw f r (n / 2) (m / 2) h2 (by omega) e
theorem iL : ∀ (f n : Nat) (t : AE) (a : AV), aA (pathOf f n) t = a → a = .bad ∨ t.get n = some a
  | 0, n, t, a, h => .inl h.symm
  | f + 1, 0, t, a, h => by
    cases t with
    | nil => exact .inl h.symm
    | node l u r =>
      cases u with
      | none => exact .inl h.symm
      | some v => exact .inr (congrArg some h)
  | f + 1, n + 1, t, a, h => by
    have hp : pathOf (f + 1) (n + 1) = (Nat.rec (.lo (pathOf f (n / 2))) (fun _ _ => .hi (pathOf f (n / 2))) (n % 2) : Pa) := rfl
    rw [hp] at h
    cases t with
    | nil =>
      left
      rcases Nat.mod_two_eq_zero_or_one n with e | e <;> (rw [e] at h; exact h.symm)
    | node l u r =>
      rw [PM.aW]
      rcases Nat.mod_two_eq_zero_or_one n with e | e
      · rw [e] at h
        rw [if_pos e]
        exact iL f (n / 2) l a h
      · rw [e] at h
        rw [if_neg (by omega)]
        exact iL f (n / 2) r a h
theorem jY {v : AV} : ∀ (f : Nat) (t : AE) (n m : Nat) (x : AV), (mU v (pathOf f n) t).get m = some x → (m = n ∧ v = x) ∨ (m ≠ n ∧ t.get m = some x)
  | 0, t, n, m, x, h => by cases h
  | f + 1, t, 0, m, x, h => by
    cases t with
    | nil =>
      cases m with
      | zero => exact .inl ⟨rfl, by injection h⟩
      | succ m =>
        have h : (PM.node PM.nil (some v) PM.nil).get (m + 1) = some x := h
        rw [PM.aW] at h; split at h <;> cases h
    | node l u r =>
      cases m with
      | zero => exact .inl ⟨rfl, by injection h⟩
      | succ m =>
        have h : (PM.node l (some v) r).get (m + 1) = some x := h
        rw [PM.aW] at h; exact .inr ⟨by omega, by rw [PM.aW]; exact h⟩
  | f + 1, t, n + 1, m, x, h => by
    have hp : pathOf (f + 1) (n + 1) = (Nat.rec (.lo (pathOf f (n / 2))) (fun _ _ => .hi (pathOf f (n / 2))) (n % 2) : Pa) := rfl
    rw [hp] at h
    have ih := jY (v := v) f
    rcases Nat.mod_two_eq_zero_or_one n with e | e <;> rw [e] at h
    · have h : (PM.rec (.node (mU v (pathOf f (n / 2)) .nil) none .nil) (fun l u r _ _ => .node (mU v (pathOf f (n / 2)) l) u r) t : AE).get m = some x := h
      cases t with
      | nil =>
        have h : (PM.node (mU v (pathOf f (n / 2)) .nil) none .nil).get m = some x := h
        cases m with
        | zero => cases h
        | succ m =>
          rw [PM.aW] at h
          split at h
          · rcases ih _ _ _ _ h with ⟨h1, h2⟩ | ⟨_, h2⟩
            · exact .inl ⟨by omega, h2⟩
            · cases h2
          · cases h
      | node l u r =>
        have h : (PM.node (mU v (pathOf f (n / 2)) l) u r).get m = some x := h
        cases m with
        | zero => exact .inr ⟨by omega, h⟩
        | succ m =>
          rw [PM.aW] at h
          split at h
          · rename_i hm
            rcases ih _ _ _ _ h with ⟨h1, h2⟩ | ⟨h1, h2⟩
            · exact .inl ⟨by omega, h2⟩
            · exact .inr ⟨by omega, by rw [PM.aW, if_pos hm]; exact h2⟩
          · rename_i hm
            exact .inr ⟨by omega, by rw [PM.aW, if_neg hm]; exact h⟩
    · have h : (PM.rec (.node .nil none (mU v (pathOf f (n / 2)) .nil)) (fun l u r _ _ => .node l u (mU v (pathOf f (n / 2)) r)) t : AE).get m = some x := h
      cases t with
      | nil =>
        have h : (PM.node .nil none (mU v (pathOf f (n / 2)) .nil)).get m = some x := h
        cases m with
        | zero => cases h
        | succ m =>
          rw [PM.aW] at h
          split at h
          · cases h
          · rcases ih _ _ _ _ h with ⟨h1, h2⟩ | ⟨_, h2⟩
            · exact .inl ⟨by omega, h2⟩
            · cases h2
      | node l u r =>
        have h : (PM.node l u (mU v (pathOf f (n / 2)) r)).get m = some x := h
        cases m with
        | zero => exact .inr ⟨by omega, h⟩
        | succ m =>
          rw [PM.aW] at h
          split at h
          · rename_i hm
            exact .inr ⟨by omega, by rw [PM.aW, if_pos hm]; exact h⟩
          · rename_i hm
            rcases ih _ _ _ _ h with ⟨h1, h2⟩ | ⟨h1, h2⟩
            · exact .inl ⟨by omega, h2⟩
            · exact .inr ⟨by omega, by rw [PM.aW, if_neg hm]; exact h2⟩
structure Pl where
  B : Nat
  s : Nat
  T : Nat
structure Ph where
  f : Nat → Option Pl
  z : Fz → Prop
  y : Fz → Prop
  s : Nat → Nat → Prop
instance : CoeFun Ph (fun _ => Nat → Option Pl) := ⟨Ph.f⟩
abbrev Ph.no : Ph := ⟨fun _ => none, fun _ => False, fun _ => False, fun _ _ => False⟩
structure PLe (φ ψ : Ph) : Prop where
  b : ∀ b p, φ b = some p → ψ b = some p
  z : ∀ q, φ.z q → ψ.z q
  y : ∀ q, ψ.y q → φ.y q
structure SLe (φ ψ : Ph) : Prop where
  b : ∀ b p, φ b = some p → ψ b = some p
  z : ∀ q, φ.z q → ψ.z q
instance {φ ψ : Ph} : CoeFun (SLe φ ψ) (fun _ => ∀ b p, φ b = some p → ψ b = some p) := ⟨SLe.b⟩
theorem PLe.s {φ ψ : Ph} (h : PLe φ ψ) : SLe φ ψ := ⟨h.b, h.z⟩
instance {φ ψ : Ph} : CoeFun (PLe φ ψ) (fun _ => ∀ b p, φ b = some p → ψ b = some p) := ⟨PLe.b⟩
theorem PLe.refl (φ : Ph) : PLe φ φ := ⟨fun _ _ h => h, fun _ h => h, fun _ h => h⟩
theorem PLe.trans {a b c : Ph} (h : PLe a b) (k : PLe b c) : PLe a c := ⟨fun x p e => k x p (h x p e), fun q e => k.z q (h.z q e), fun q e => h.y q (k.y q e)⟩
def di (s : List Nat) : ByteArray := ⟨(s.map UInt8.ofNat).toArray⟩
def Emp (x : Nat) (v : Value) : Prop := v = .slice none 0 0 ∨ (x = 4 ∧ ∃ a, v = .slice (some a) 0 0)
mutual
def VR (φ : Ph) : AV → Value → Prop
  | .int k n, v => v = .int k n
  | .str s, v => v = .string (di s) ∧ ∀ x ∈ s, x < 256
  | .bool b, v => v = .bool b
  | .nil, v => v = .pointer none
  | .ptr b o, v => ∃ p, φ b = some p ∧ v = .pointer (some ⟨p.B, p.s + o, none⟩)
  | .nsl, v => v = .slice none 0 0
  | .sl b o n c k, v => ∃ p C, φ b = some p ∧ v = .slice (some ⟨p.B, p.s + o, none⟩) n C ∧ (k = 0 → C = c) ∧ (k ≠ 0 → c ≤ C ∧ o + C * k = p.T)
  | .esl b, v => ∃ p x C, φ b = some p ∧ v = .slice (some ⟨p.B, x, none⟩) 0 C ∧ p.s ≤ x ∧ x ≤ p.s + p.T
  | .agg l, v => ∃ cs, v = .agg cs ∧ VRs φ l cs.toList
  | .tup l, v => ∃ cs, v = .tuple cs ∧ VRs φ l cs.toList
  | .fn f a c, v => ∃ xs cs, v = .func (.func f) xs cs ∧ VRs φ a xs.toList ∧ VRs φ c cs.toList
  | .map b, v => ∃ p, φ b = some p ∧ v = .map (some p.B)
  | .any u, v => v = u
  | .bad, _ => True
  | .si k n, v => v = .int k n
  | .sb b, v => v = .bool b
  | .ss s, v => v = .string (di s) ∧ ∀ x ∈ s, x < 256
  | .sy b o n c k, v => ∃ p C, φ b = some p ∧ v = .slice (some ⟨p.B, p.s + o, none⟩) n C ∧ (k = 0 → C = c) ∧ (k ≠ 0 → c ≤ C ∧ o + C * k = p.T)
  | .rw b o n k x, v => (n = 0 ∧ Emp x v) ∨ ∃ p a C, φ b = some p ∧ v = .slice (some ⟨p.B, a, none⟩) n C ∧ (n ≠ 0 → a = p.s + o) ∧ p.s ≤ a ∧ n ≤ C ∧ a + n * k ≤ p.s + p.T ∧ (x < 2 → a + C * k ≤ p.s + p.T) ∧ (x = 1 → C = n)
  | .fr n k l, v => (n = 0 ∧ l = [] ∧ ∃ a C, v = .slice a 0 C ∧ (a = none → C = 0)) ∨ ∃ q o C, φ.z q ∧ v = .slice (some ⟨q.B, q.s + o, none⟩) n C ∧ n ≤ C ∧ bl q.L o (n * k) = some l
  | .fa l o, v => ∃ q x, φ.z q ∧ v = .pointer (some ⟨q.B, q.s + x + o, none⟩) ∧ bl q.L x l.length = some l
def VRs (φ : Ph) : List AV → List Value → Prop
  | [], vs => vs = []
  | a :: l, vs => ∃ v us, vs = v :: us ∧ VR φ a v ∧ VRs φ l us
end
mutual
theorem VR.cu {φ ψ : Ph} (he : SLe φ ψ) : ∀ (a : AV) (v : Value), VR φ a v → VR ψ a v
  | .int k n, v, h => by simp only [VR] at h ⊢; exact h
  | .str s, v, h => by simp only [VR] at h ⊢; exact h
  | .bool b, v, h => by simp only [VR] at h ⊢; exact h
  | .nil, v, h => by simp only [VR] at h ⊢; exact h
  | .ptr b o, v, h => by
    simp only [VR] at h ⊢
    obtain ⟨p, h1, h2⟩ := h
    exact ⟨p, he _ _ h1, h2⟩
  | .nsl, v, h => by simp only [VR] at h ⊢; exact h
  | .sl b o n c k, v, h => by
    simp only [VR] at h ⊢
    obtain ⟨p, C, h1, h2⟩ := h
    exact ⟨p, C, he _ _ h1, h2⟩
  | .esl b, v, h => by
    simp only [VR] at h ⊢
    obtain ⟨p, x, C, h1, h2⟩ := h
    exact ⟨p, x, C, he _ _ h1, h2⟩
  | .agg l, v, h => by
    simp only [VR] at h ⊢
    obtain ⟨cs, h1, h2⟩ := h
    exact ⟨cs, h1, VRs.cu he l _ h2⟩
  | .tup l, v, h => by
    simp only [VR] at h ⊢
    obtain ⟨cs, h1, h2⟩ := h
    exact ⟨cs, h1, VRs.cu he l _ h2⟩
  | .fn f a c, v, h => by
    simp only [VR] at h ⊢
    obtain ⟨xs, cs, h1, h2, h3⟩ := h
    exact ⟨xs, cs, h1, VRs.cu he a _ h2, VRs.cu he c _ h3⟩
  | .map b, v, h => by
    simp only [VR] at h ⊢
    obtain ⟨p, h1, h2⟩ := h
    exact ⟨p, he _ _ h1, h2⟩
  | .any u, v, h => by simp only [VR] at h ⊢; exact h
  | .bad, v, h => by simp only [VR]
  | .si k n, v, h => by simp only [VR] at h ⊢; exact h
  | .sb b, v, h => by simp only [VR] at h ⊢; exact h
  | .ss s, v, h => by simp only [VR] at h ⊢; exact h
  | .sy b o n c k, v, h => by
    simp only [VR] at h ⊢
    obtain ⟨p, C, h1, h2⟩ := h
    exact ⟨p, C, he _ _ h1, h2⟩
  | .rw b o n k x, v, h => by
    simp only [VR] at h ⊢
    rcases h with h | ⟨p, a, C, h1, h2⟩
    · exact .inl h
    · exact .inr ⟨p, a, C, he _ _ h1, h2⟩
  | .fr n k l, v, h => by
    simp only [VR] at h ⊢
    rcases h with h | ⟨q, o, C, h1, h2⟩
    · exact .inl h
    · exact .inr ⟨q, o, C, he.z _ h1, h2⟩
  | .fa l o, v, h => by
    simp only [VR] at h ⊢
    obtain ⟨q, x, h1, h2⟩ := h
    exact ⟨q, x, he.z _ h1, h2⟩
theorem VRs.cu {φ ψ : Ph} (he : SLe φ ψ) : ∀ (l : List AV) (vs : List Value), VRs φ l vs → VRs ψ l vs
  | [], vs, h => by simp only [VRs] at h ⊢; exact h
  | a :: l, vs, h => by
    simp only [VRs] at h ⊢
    obtain ⟨v, us, h1, h2, h3⟩ := h
    exact ⟨v, us, h1, VR.cu he a v h2, VRs.cu he l us h3⟩
end
theorem VR.mono {φ ψ : Ph} (he : PLe φ ψ) (a : AV) (v : Value) (h : VR φ a v) : VR ψ a v := VR.cu he.s a v h
theorem VRs.mono {φ ψ : Ph} (he : PLe φ ψ) (l : List AV) (vs : List Value) (h : VRs φ l vs) : VRs ψ l vs := VRs.cu he.s l vs h
section
variable {φ : Ph}
theorem VRs.nil : VRs φ [] [] := by simp only [VRs]
theorem VRs.cons {a : AV} {v : Value} {l : List AV} {vs : List Value} (h : VR φ a v) (k : VRs φ l vs) : VRs φ (a :: l) (v :: vs) := by
  (try simp only [VRs]); exact ⟨v, vs, rfl, h, k⟩
theorem VRs.aY {vs : List Value} (h : VRs φ [] vs) : vs = [] := by simpa only [VRs] using h
theorem VRs.cons_inv {a : AV} {l : List AV} {vs : List Value} (h : VRs φ (a :: l) vs) : ∃ v us, vs = v :: us ∧ VR φ a v ∧ VRs φ l us := by simpa only [VRs] using h
theorem VRs.length : ∀ {l : List AV} {vs : List Value}, VRs φ l vs → l.length = vs.length
  | [], vs, h => by rw [h.aY]; rfl
  | a :: l, vs, h => by
    obtain ⟨v, us, rfl, _, h2⟩ := h.cons_inv
    simp [h2.length]
theorem VRs.append : ∀ {l m : List AV} {vs us : List Value}, VRs φ l vs → VRs φ m us → VRs φ (l ++ m) (vs ++ us)
  | [], m, vs, us, h, k => by rw [h.aY]; exact k
  | a :: l, m, vs, us, h, k => by
    obtain ⟨v, ws, rfl, h1, h2⟩ := h.cons_inv
    exact .cons h1 (h2.append k)
theorem VRs.at : ∀ {l : List AV} {vs : List Value}, VRs φ l vs → ∀ {i : Nat} {a : AV}, l[i]? = some a → ∃ v, vs[i]? = some v ∧ VR φ a v
  | [], vs, h, i, a, e => by simp at e
  | b :: l, vs, h, 0, a, e => by
    obtain ⟨v, us, rfl, h1, _⟩ := h.cons_inv
    simp only [List.getElem?_cons_zero, Option.some.injEq] at e
    subst e
    exact ⟨v, rfl, h1⟩
  | b :: l, vs, h, i + 1, a, e => by
    obtain ⟨v, us, rfl, _, h2⟩ := h.cons_inv
    simp only [List.getElem?_cons_succ] at e
    simpa using h2.at e
theorem VRs.take : ∀ {l : List AV} {vs : List Value}, VRs φ l vs → ∀ (n : Nat), VRs φ (l.take n) (vs.take n)
  | _, _, _, 0 => by simp [VRs]
  | [], vs, h, n + 1 => by rw [h.aY]; simp [VRs]
  | a :: l, vs, h, n + 1 => by
    obtain ⟨v, us, rfl, h1, h2⟩ := h.cons_inv
    simpa using VRs.cons h1 (h2.take n)
theorem VRs.drop : ∀ {l : List AV} {vs : List Value}, VRs φ l vs → ∀ (n : Nat), VRs φ (l.drop n) (vs.drop n)
  | _, _, h, 0 => by simpa using h
  | [], vs, h, n + 1 => by rw [h.aY]; simp [VRs]
  | a :: l, vs, h, n + 1 => by
    obtain ⟨v, us, rfl, h1, h2⟩ := h.cons_inv
    simpa using h2.drop n
theorem VRs.map {β : Type} {f : β → AV} {g : β → Value} (h : ∀ x, VR φ (f x) (g x)) : ∀ l : List β, VRs φ (l.map f) (l.map g)
  | [] => .nil
  | x :: l => .cons (h x) (VRs.map h l)
theorem VR.bF {k : IntKind} {n : Int} {v : Value} (h : VR φ (.int k n) v) : v = .int k n := by simpa only [VR] using h
theorem VR.bz {b : Bool} {v : Value} (h : VR φ (.bool b) v) : v = .bool b := by simpa only [VR] using h
theorem VR.aY {v : Value} (h : VR φ .nil v) : v = .pointer none := by simpa only [VR] using h
theorem VR.cq {v : Value} (h : VR φ .nsl v) : v = .slice none 0 0 := by simpa only [VR] using h
theorem VR.bZ {s : List Nat} {v : Value} (h : VR φ (.str s) v) : v = .string (di s) ∧ ∀ x ∈ s, x < 256 := by simpa only [VR] using h
theorem VR.cf {b o : Nat} {v : Value} (h : VR φ (.ptr b o) v) : ∃ p, φ b = some p ∧ v = .pointer (some ⟨p.B, p.s + o, none⟩) := by simpa only [VR] using h
theorem VR.dt {b o n c k : Nat} {v : Value} (h : VR φ (.sl b o n c k) v) : ∃ p C, φ b = some p ∧ v = .slice (some ⟨p.B, p.s + o, none⟩) n C ∧ (k = 0 → C = c) ∧ (k ≠ 0 → c ≤ C ∧ o + C * k = p.T) := by simpa only [VR] using h
theorem VR.gC {b : Nat} {v : Value} (h : VR φ (.esl b) v) : ∃ p x C, φ b = some p ∧ v = .slice (some ⟨p.B, x, none⟩) 0 C ∧ p.s ≤ x ∧ x ≤ p.s + p.T := by simpa only [VR] using h
theorem VR.eQ {l : List AV} {v : Value} (h : VR φ (.agg l) v) : ∃ cs, v = .agg cs ∧ VRs φ l cs.toList := by simpa only [VR] using h
theorem VR.dH {l : List AV} {v : Value} (h : VR φ (.tup l) v) : ∃ cs, v = .tuple cs ∧ VRs φ l cs.toList := by simpa only [VR] using h
theorem VR.lC {f : Nat} {a c : List AV} {v : Value} (h : VR φ (.fn f a c) v) : ∃ xs cs, v = .func (.func f) xs cs ∧ VRs φ a xs.toList ∧ VRs φ c cs.toList := by simpa only [VR] using h
theorem VR.kR {b : Nat} {v : Value} (h : VR φ (.map b) v) : ∃ p, φ b = some p ∧ v = .map (some p.B) := by simpa only [VR] using h
theorem VR.nX {u v : Value} (h : VR φ (.any u) v) : v = u := by simpa only [VR] using h
theorem VR.dW {k : IntKind} {n : Int} {v : Value} (h : VR φ (.si k n) v) : v = .int k n := by simpa only [VR] using h
theorem VR.gk {b : Bool} {v : Value} (h : VR φ (.sb b) v) : v = .bool b := by simpa only [VR] using h
theorem VR.mW {s : List Nat} {v : Value} (h : VR φ (.ss s) v) : v = .string (di s) ∧ ∀ x ∈ s, x < 256 := by simpa only [VR] using h
theorem VR.rS {b o n c k : Nat} {v : Value} (h : VR φ (.sy b o n c k) v) : ∃ p C, φ b = some p ∧ v = .slice (some ⟨p.B, p.s + o, none⟩) n C ∧ (k = 0 → C = c) ∧ (k ≠ 0 → c ≤ C ∧ o + C * k = p.T) := by simpa only [VR] using h
theorem VR.dX {b o n k x : Nat} {v : Value} (h : VR φ (.rw b o n k x) v) : (n = 0 ∧ Emp x v) ∨ ∃ p a C, φ b = some p ∧ v = .slice (some ⟨p.B, a, none⟩) n C ∧ (n ≠ 0 → a = p.s + o) ∧ p.s ≤ a ∧ n ≤ C ∧ a + n * k ≤ p.s + p.T ∧ (x < 2 → a + C * k ≤ p.s + p.T) ∧ (x = 1 → C = n) := by simpa only [VR] using h
theorem VR.rwe {b o k x n : Nat} {v : Value} (hn : n = 0) (h : Emp x v) : VR φ (.rw b o n k x) v := by subst hn; simp only [VR]; exact .inl ⟨trivial, h⟩
theorem VR.rwn {b o k x : Nat} : VR φ (.rw b o 0 k x) (.slice none 0 0) := .rwe rfl (.inl rfl)
theorem VR.mX {n k : Nat} {l : List AV} {v : Value} (h : VR φ (.fr n k l) v) : (n = 0 ∧ l = [] ∧ ∃ a C, v = .slice a 0 C ∧ (a = none → C = 0)) ∨ ∃ q o C, φ.z q ∧ v = .slice (some ⟨q.B, q.s + o, none⟩) n C ∧ n ≤ C ∧ bl q.L o (n * k) = some l := by simpa only [VR] using h
theorem VR.rT {l : List AV} {o : Nat} {v : Value} (h : VR φ (.fa l o) v) : ∃ q x, φ.z q ∧ v = .pointer (some ⟨q.B, q.s + x + o, none⟩) ∧ bl q.L x l.length = some l := by simpa only [VR] using h
theorem VR.fre {k C : Nat} {a : Option Addr} (h : a = none → C = 0) : VR φ (.fr 0 k []) (.slice a 0 C) := by simp only [VR]; exact .inl ⟨trivial, trivial, a, C, rfl, h⟩
theorem VR.fr {n k o C : Nat} {l : List AV} {q : Fz} (hq : φ.z q) (hn : n ≤ C) (hl : bl q.L o (n * k) = some l) : VR φ (.fr n k l) (.slice (some ⟨q.B, q.s + o, none⟩) n C) := by simp only [VR]; exact .inr ⟨q, o, C, hq, rfl, hn, hl⟩
theorem VR.fa {x o : Nat} {l : List AV} {q : Fz} (hq : φ.z q) (hl : bl q.L x l.length = some l) : VR φ (.fa l o) (.pointer (some ⟨q.B, q.s + x + o, none⟩)) := by simp only [VR]; exact ⟨q, x, hq, rfl, hl⟩
theorem VR.AU {n k : Nat} {l : List AV} {v : Value} (h : VR φ (.fr n k l) v) : ∃ a C, v = .slice a n C := by
  rcases h.mX with ⟨rfl, _, a, C, h, _⟩ | ⟨q, o, C, _, h, _⟩ <;> exact ⟨_, _, h⟩
def rU : AV → Bool
  | .int _ _ => true
  | .str _ => true
  | .bool _ => true
  | .si _ _ => true
  | .sb _ => true
  | .ss _ => true
  | .nil => true
  | .nsl => true
  | .any _ => true
  | .bad => true
  | .fr _ _ _ => true
  | .fa _ _ => true
  | _ => false
theorem nY {ψ : Ph} (hz : ∀ q, φ.z q → ψ.z q) {a : AV} {v : Value} (h : rU a = true) (hv : VR φ a v) : VR ψ a v := by
  cases a <;> first | (cases h; done) | skip
  case fr =>
    simp only [VR] at hv ⊢
    rcases hv with h | ⟨q, o, C, h1, h2⟩
    · exact .inl h
    · exact .inr ⟨q, o, C, hz _ h1, h2⟩
  case fa =>
    simp only [VR] at hv ⊢
    obtain ⟨q, o, h1, h2⟩ := hv
    exact ⟨q, o, hz _ h1, h2⟩
  all_goals (simp only [VR] at hv ⊢; try exact hv)
theorem Emp.nil {x : Nat} {v : Value} (h : Emp x v) (hx : x ≠ 4) : v = .slice none 0 0 := h.elim id fun h => absurd h.1 hx
theorem Emp.is {x : Nat} {v : Value} (h : Emp x v) : ∃ a, v = .slice a 0 0 := h.elim (fun h => ⟨_, h⟩) fun ⟨_, a, h⟩ => ⟨_, h⟩
theorem VR.rwx {b o n k a C x : Nat} {p : Pl} (h : φ b = some p) (h1 : n ≠ 0 → a = p.s + o) (h2 : p.s ≤ a) (h3 : n ≤ C) (h4 : a + n * k ≤ p.s + p.T) (h5 : x < 2 → a + C * k ≤ p.s + p.T) (h6 : x = 1 → C = n) : VR φ (.rw b o n k x) (.slice (some ⟨p.B, a, none⟩) n C) := by simp only [VR]; exact .inr ⟨p, a, C, h, rfl, h1, h2, h3, h4, h5, h6⟩
theorem VR.rw {b o n k a C : Nat} {p : Pl} (h : φ b = some p) (h1 : n ≠ 0 → a = p.s + o) (h2 : p.s ≤ a) (h3 : n ≤ C) (h4 : a + C * k ≤ p.s + p.T) : VR φ (.rw b o n k 0) (.slice (some ⟨p.B, a, none⟩) n C) := .rwx h h1 h2 h3 (Nat.le_trans (Nat.add_le_add_left (Nat.mul_le_mul_right k h3) a) h4) (fun _ => h4) (fun q => by cases q)
theorem VR.si (k : IntKind) (n : Int) : VR φ (.si k n) (.int k n) := by simp only [VR]
theorem VR.sb (b : Bool) : VR φ (.sb b) (.bool b) := by simp only [VR]
theorem VR.ss {s : List Nat} (h : ∀ x ∈ s, x < 256) : VR φ (.ss s) (.string (di s)) := by simp only [VR]; exact ⟨trivial, h⟩
theorem VR.sy {b o n c k C : Nat} {p : Pl} (h : φ b = some p) (h0 : k = 0 → C = c) (h1 : k ≠ 0 → c ≤ C ∧ o + C * k = p.T) : VR φ (.sy b o n c k) (.slice (some ⟨p.B, p.s + o, none⟩) n C) := by simp only [VR]; exact ⟨p, C, h, rfl, h0, h1⟩
theorem VR.int (k : IntKind) (n : Int) : VR φ (.int k n) (.int k n) := by simp only [VR]
theorem VR.bool (b : Bool) : VR φ (.bool b) (.bool b) := by simp only [VR]
theorem VR.nil : VR φ .nil (.pointer none) := by simp only [VR]
theorem VR.nsl : VR φ .nsl (.slice none 0 0) := by simp only [VR]
theorem VR.str {s : List Nat} (h : ∀ x ∈ s, x < 256) : VR φ (.str s) (.string (di s)) := by simp only [VR]; exact ⟨trivial, h⟩
theorem VR.ptr {b o : Nat} {p : Pl} (h : φ b = some p) : VR φ (.ptr b o) (.pointer (some ⟨p.B, p.s + o, none⟩)) := by simp only [VR]; exact ⟨p, h, rfl⟩
theorem VR.sl {b o n c k C : Nat} {p : Pl} (h : φ b = some p) (h0 : k = 0 → C = c) (h1 : k ≠ 0 → c ≤ C ∧ o + C * k = p.T) : VR φ (.sl b o n c k) (.slice (some ⟨p.B, p.s + o, none⟩) n C) := by simp only [VR]; exact ⟨p, C, h, rfl, h0, h1⟩
theorem VR.esl {b x C : Nat} {p : Pl} (h : φ b = some p) (h1 : p.s ≤ x) (h2 : x ≤ p.s + p.T) : VR φ (.esl b) (.slice (some ⟨p.B, x, none⟩) 0 C) := by simp only [VR]; exact ⟨p, x, C, h, rfl, h1, h2⟩
theorem VR.agg {l : List AV} {cs : Array Value} (h : VRs φ l cs.toList) : VR φ (.agg l) (.agg cs) := by simp only [VR]; exact ⟨cs, rfl, h⟩
theorem VR.tup {l : List AV} {cs : Array Value} (h : VRs φ l cs.toList) : VR φ (.tup l) (.tuple cs) := by simp only [VR]; exact ⟨cs, rfl, h⟩
theorem VR.fn {f : Nat} {a c : List AV} {xs cs : Array Value} (h : VRs φ a xs.toList) (k : VRs φ c cs.toList) : VR φ (.fn f a c) (.func (.func f) xs cs) := by simp only [VR]; exact ⟨xs, cs, rfl, h, k⟩
theorem VR.map {b : Nat} {p : Pl} (h : φ b = some p) : VR φ (.map b) (.map (some p.B)) := by simp only [VR]; exact ⟨p, h, rfl⟩
theorem VR.any (v : Value) : VR φ (.any v) v := by simp only [VR]
theorem VR.bad (v : Value) : VR φ .bad v := by simp only [VR]
theorem VR.undef : VR φ cp Go.undef := VR.tup (cs := #[]) VRs.nil
theorem zc (s : ByteArray) : di (s.data.toList.map UInt8.toNat) = s := by
  obtain ⟨⟨l⟩⟩ := s
  simp [di, List.map_map, Function.comp_def]
theorem lD (v : Value) : VR φ (tZ v) v := by
  unfold tZ
  split
  · exact .int _ _
  · rename_i s
    have := VR.str (φ := φ) (s := s.data.toList.map UInt8.toNat) (by
      intro x hx
      simp only [List.mem_map] at hx
      obtain ⟨y, _, rfl⟩ := hx
      exact y.toNat_lt)
    rwa [zc] at this
  · exact .bool _
  · exact .nil
  · exact .nsl
  · exact .any _
theorem kS (v : Value) : VR φ (ofV v) v := by
  unfold ofV
  split
  · rename_i cs
    refine .agg ?_
    have := VRs.map (φ := φ) (f := tZ) (g := id) lD cs.toList
    simpa using this
  · rename_i cs
    refine .tup ?_
    have := VRs.map (φ := φ) (f := tZ) (g := id) lD cs.toList
    simpa using this
  · exact lD _
theorem VR.cells {a : AV} {v : Value} (h : VR φ a v) (hc : okC a = true) : VRs φ a.cells v.cells.toList := by
  cases a <;> simp only [AV.cells]
  case agg l => obtain ⟨cs, rfl, h1⟩ := h.eQ; exact h1
  case bad => cases hc
  case any u => have := h.nX; subst this; simp only [okC] at hc; cases v <;> first | exact .cons h .nil | cases hc
  case si => have := h.dW; subst this; exact .cons h .nil
  case sb => have := h.gk; subst this; exact .cons h .nil
  case ss => obtain ⟨rfl, _⟩ := h.mW; exact .cons h .nil
  case sy => obtain ⟨p, C, _, rfl, _⟩ := h.rS; exact .cons h .nil
  case rw =>
    rcases h.dX with ⟨_, he⟩ | ⟨p, y, C, _, rfl, _⟩
    · obtain ⟨a, rfl⟩ := he.is; exact .cons h .nil
    · exact .cons h .nil
  case fr => obtain ⟨a, C, rfl⟩ := h.AU; exact .cons h .nil
  case fa => obtain ⟨q, o, _, rfl, _⟩ := h.rT; exact .cons h .nil
  case int => have := h.bF; subst this; exact .cons h .nil
  case str => obtain ⟨rfl, _⟩ := h.bZ; exact .cons h .nil
  case bool => have := h.bz; subst this; exact .cons h .nil
  case nil => have := h.aY; subst this; exact .cons h .nil
  case ptr => obtain ⟨p, _, rfl⟩ := h.cf; exact .cons h .nil
  case nsl => have := h.cq; subst this; exact .cons h .nil
  case sl => obtain ⟨p, C, _, rfl, _⟩ := h.dt; exact .cons h .nil
  case esl => obtain ⟨p, x, C, _, rfl, _⟩ := h.gC; exact .cons h .nil
  case tup => obtain ⟨p, rfl, _⟩ := h.dH; exact .cons h .nil
  case fn => obtain ⟨p, q, rfl, _⟩ := h.lC; exact .cons h .nil
  case map => obtain ⟨p, _, rfl⟩ := h.kR; exact .cons h .nil
end
end Go.Proofs.Ytapjijhjnloimaa
namespace Go.Proofs.Ytapjijhjnloimaa
open Go Go.RowKit
theorem dY {α : Type} : ∀ (l : List α) (i : Nat), nth l i = l[i]?
  | [], _ => by simp [nth]
  | _ :: _, 0 => by simp [nth]
  | _ :: l, i + 1 => by simp [nth, dY l i]
theorem a8 {α : Type} {l r : List α} {o n : Nat} (h : bl l o n = some r) : o + n ≤ l.length ∧ r = (l.drop o).take n := by
  unfold bl at h
  split at h
  · rename_i e
    injection h with h
    exact ⟨Nat.le_of_ble_eq_true e, h.symm⟩
  · cases h
theorem eA : ∀ (l : List AV) (o : Nat) (xs r : List AV), dN l o xs = some r → r.length = l.length ∧ o + xs.length ≤ l.length ∧ ∀ i : Nat, r[i]? = if o ≤ i ∧ i < o + xs.length then xs[i - o]? else l[i]?
  | l, 0, [], r, h => by
    have : r = l := by cases l <;> (unfold dN at h; injection h with h; exact h.symm)
    subst this
    refine ⟨rfl, by simp, fun i => ?_⟩
    rw [if_neg (by simp only [List.length_nil]; omega)]
  | [], 0, x :: xs, r, h => by unfold dN at h; cases h
  | [], o + 1, xs, r, h => by cases xs <;> (unfold dN at h; cases h)
  | y :: l, 0, x :: xs, r, h => by
    simp only [dN, Option.map_eq_some_iff] at h
    obtain ⟨t, ht, rfl⟩ := h
    obtain ⟨h1, h2, h3⟩ := eA l 0 xs t ht
    refine ⟨by simp [h1], by simp only [List.length_cons]; omega, fun i => ?_⟩
    cases i with
    | zero => simp
    | succ i =>
      simp only [List.getElem?_cons_succ, h3, List.length_cons]
      by_cases hi : i < xs.length
      · rw [if_pos (by omega), if_pos (by omega)]; simp
      · rw [if_neg (by omega), if_neg (by omega)]
  | y :: l, o + 1, xs, r, h => by
    have h : (dN l o xs).map (y :: ·) = some r := by cases xs <;> (unfold dN at h; exact h)
    simp only [Option.map_eq_some_iff] at h
    obtain ⟨t, ht, rfl⟩ := h
    obtain ⟨h1, h2, h3⟩ := eA l o xs t ht
    refine ⟨by simp [h1], by simp only [List.length_cons]; omega, fun i => ?_⟩
    cases i with
    | zero => simp
    | succ i =>
      simp only [List.getElem?_cons_succ, h3]
      by_cases hi : o ≤ i ∧ i < o + xs.length
      · rw [if_pos hi, if_pos (by omega)]; congr 1; omega
      · rw [if_neg hi, if_neg (by omega)]
theorem da : ∀ (vs : List Value) (c : Array Value) (o : Nat), (cP c o vs).size = c.size
  | [], _, _ => rfl
  | v :: vs, c, o => by simp [cP, da vs]
theorem jn : ∀ (vs : List Value) (c : Array Value) (o i : Nat), (cP c o vs)[i]? = if o ≤ i ∧ i < o + vs.length ∧ i < c.size then vs[i - o]? else c[i]?
  | [], c, o, i => by rw [if_neg (by simp; omega)]; rfl
  | v :: vs, c, o, i => by
    simp only [cP, jn vs, Array.size_setIfInBounds, List.length_cons]
    by_cases h : i = o
    · subst h
      rw [if_neg (by omega)]
      by_cases hi : i < c.size
      · rw [if_pos (by omega)]; simp [hi]
      · rw [if_neg (by omega)]; simp [hi]
    · by_cases h2 : o + 1 ≤ i ∧ i < o + 1 + vs.length ∧ i < c.size
      · rw [if_pos h2, if_pos (by omega)]
        obtain ⟨d, rfl⟩ : ∃ d, i = o + 1 + d := ⟨i - (o + 1), by omega⟩
        rw [show o + 1 + d - (o + 1) = d from by omega, show o + 1 + d - o = d + 1 from by omega]
        simp
      · rw [if_neg h2, if_neg (by omega)]
        simp [Array.getElem?_setIfInBounds, Ne.symm h]
def CR (φ : Ph) (c : Array Value) (s : Nat) (l : List AV) : Prop := ∀ i a, l[i]? = some a → ∃ v, c[s + i]? = some v ∧ VR φ a v
theorem CR.cu {φ ψ : Ph} (he : SLe φ ψ) {c : Array Value} {s : Nat} {l : List AV} (h : CR φ c s l) : CR ψ c s l := fun i a e =>
  let ⟨v, h1, h2⟩ := h i a e
  ⟨v, h1, VR.cu he _ _ h2⟩
theorem CR.mono {φ ψ : Ph} (he : PLe φ ψ) {c : Array Value} {s : Nat} {l : List AV} (h : CR φ c s l) : CR ψ c s l := h.cu he.s
theorem CR.bS {φ : Ph} {c : Array Value} {s : Nat} {l : List AV} (h : CR φ c s l) : ∀ (n o : Nat), o + n ≤ l.length → ∃ vs, bS c (s + o) n = some vs ∧ VRs φ ((l.drop o).take n) vs
  | 0, o, _ => ⟨[], rfl, by simpa using VRs.nil⟩
  | n + 1, o, hle => by
    obtain ⟨v, h1, h2⟩ := h o (l[o]'(by omega)) (List.getElem?_eq_getElem (by omega))
    obtain ⟨vs, h3, h4⟩ := CR.bS h n (o + 1) (by omega)
    refine ⟨v :: vs, ?_, ?_⟩
    · simp only [Go.Proofs.Ytapjijhjnloimaa.bS, h1]
      rw [show s + o + 1 = s + (o + 1) from by omega, h3]
    · rw [List.drop_eq_getElem_cons (by omega), List.take_succ_cons]
      exact .cons h2 h4
theorem CR.sub {φ : Ph} {c : Array Value} {s : Nat} {l r : List AV} {o n : Nat} (h : CR φ c s l) (e : bl l o n = some r) : ∃ vs, Go.Proofs.Ytapjijhjnloimaa.bS c (s + o) n = some vs ∧ VRs φ r vs := by
  obtain ⟨h1, rfl⟩ := a8 e
  exact h.bS n o h1
theorem CR.nth {φ : Ph} {c : Array Value} {s : Nat} {l : List AV} {o : Nat} {a : AV} (h : CR φ c s l) (e : Go.Proofs.Ytapjijhjnloimaa.nth l o = some a) : ∃ v, c[s + o]? = some v ∧ VR φ a v := h o a (by rw [← dY]; exact e)
theorem CR.set {φ : Ph} {c : Array Value} {s o : Nat} {l r xs : List AV} {vs : List Value} (h : CR φ c s l) (e : dN l o xs = some r) (hv : VRs φ xs vs) (hs : s + l.length ≤ c.size) : CR φ (cP c (s + o) vs) s r := by
  obtain ⟨h1, h2, h3⟩ := eA l o xs r e
  intro i a hi
  have hlt : i < l.length := by
    have := (List.getElem?_eq_some_iff.1 hi).1
    omega
  rw [h3] at hi
  rw [jn, ← hv.length]
  split at hi
  · rename_i hc
    rw [if_pos (by omega), show s + i - (s + o) = i - o from by omega]
    exact hv.at hi
  · rename_i hc
    rw [if_neg (by omega)]
    exact h i a hi
theorem CR.of {φ : Ph} {l : List AV} {vs : List Value} (h : VRs φ l vs) (r : List Value) : CR φ (vs ++ r).toArray 0 l := fun i a e => by
  obtain ⟨v, h1, h2⟩ := h.at e
  refine ⟨v, ?_, h2⟩
  have := (List.getElem?_eq_some_iff.1 h1).1
  simp [List.getElem?_append_left this, h1]
theorem CR.of' {φ : Ph} {l : List AV} {c : Array Value} (h : VRs φ l c.toList) : CR φ c 0 l := fun i a e => by
  obtain ⟨v, h1, h2⟩ := h.at e
  exact ⟨v, by simpa using h1, h2⟩
def MR (φ : Ph) : List (AV × AV) → List MapEntry → Prop
  | [], ms => ms = []
  | e :: es, ms => ∃ m us, ms = m :: us ∧ VR φ e.1 m.key ∧ VR φ e.2 m.val ∧ MR φ es us
theorem MR.cu {φ ψ : Ph} (he : SLe φ ψ) : ∀ (es : List (AV × AV)) (ms : List MapEntry), MR φ es ms → MR ψ es ms
  | [], ms, h => h
  | e :: es, ms, ⟨m, us, h1, h2, h3, h4⟩ => ⟨m, us, h1, VR.cu he _ _ h2, VR.cu he _ _ h3, MR.cu he es us h4⟩
theorem MR.length {φ : Ph} : ∀ {es : List (AV × AV)} {ms : List MapEntry}, MR φ es ms → es.length = ms.length
  | [], ms, h => by rw [show ms = [] from h]; rfl
  | e :: es, ms, ⟨m, us, h1, _, _, h4⟩ => by subst h1; simp [MR.length h4]
def oR (ms : List MapEntry) (cl : Nat) : Prop := cl = ms.length ∧ ∀ (i : Nat) (e : MapEntry), ms[i]? = some e → e.born = i
theorem oR.nil : oR [] 0 := ⟨rfl, fun i e h => by simp at h⟩
theorem oR.push {ms : List MapEntry} {cl : Nat} (h : oR ms cl) {m : MapEntry} (hm : m.born = cl) : oR (ms ++ [m]) (cl + 1) := by
  refine ⟨by simp [h.1], fun i e hi => ?_⟩
  rcases Nat.lt_trichotomy i ms.length with hl | rfl | hl
  · rw [List.getElem?_append_left hl] at hi; exact h.2 i e hi
  · rw [List.getElem?_append_right (Nat.le_refl _)] at hi
    simp at hi
    subst hi
    exact hm.trans h.1
  · rw [List.getElem?_eq_none (by simp; omega)] at hi; cases hi
def OR (φ : Ph) (p : Pl) : AO → Obj → Prop
  | .cells l z, ob => ∃ c t fz, ob = .cells c t fz ∧ l.length ≤ p.T ∧ p.s + p.T ≤ c.size ∧ lY fz p.s p.T ∧ (z = true → fz = (0, 0)) ∧ CR φ c p.s l
  | .map es, ob => ∃ ms cl, ob = .map ms cl ∧ MR φ es ms.toList ∧ oR ms.toList cl
  | .iter b m seen, ob => p.s = 0 ∧ ∃ q, φ b = some q ∧ ob = .mapIter (some q.B) m seen.toArray m
  | .ro l, ob => ∃ c t fz, ob = .cells c t fz ∧ l.length ≤ p.T ∧ p.s + p.T ≤ c.size ∧ CR φ c p.s l
  | .sep _, _ => False
def AO.zd : AO → Option HP
  | .sep Q => some Q
  | _ => none
def AO.own : AO → Bool
  | .ro _ => false
  | _ => true
theorem OR.cu {φ ψ : Ph} (he : SLe φ ψ) {p : Pl} {o : AO} {ob : Obj} (h : OR φ p o ob) : OR ψ p o ob := by
  cases o with
  | cells l z => obtain ⟨c, t, fz, h1, h2, h3, h4, h5, h6⟩ := h; exact ⟨c, t, fz, h1, h2, h3, h4, h5, h6.cu he⟩
  | map es => obtain ⟨ms, cl, h1, h2, h3⟩ := h; exact ⟨ms, cl, h1, MR.cu he _ _ h2, h3⟩
  | iter b m seen => obtain ⟨h0, q, h1, h2⟩ := h; exact ⟨h0, q, he _ _ h1, h2⟩
  | ro l => obtain ⟨c, t, fz, h1, h2, h3, h4⟩ := h; exact ⟨c, t, fz, h1, h2, h3, h4.cu he⟩
  | sep Q => exact h.elim
theorem OR.mono {φ ψ : Ph} (he : PLe φ ψ) {p : Pl} {o : AO} {ob : Obj} (h : OR φ p o ob) : OR ψ p o ob := h.cu he.s
def AO.under : AO → Obj → Option Obj
  | .ro _, ob => some ob
  | _, _ => none
theorem AO.bd {o : AO} (h : o.own = true) (ob : Obj) : o.under ob = none := by cases o <;> first | rfl | cases h
def AO.void : AO → Bool
  | .cells [] _ => true
  | .ro [] => true
  | _ => false
def AO.free : AO → Bool
  | .sep _ => true
  | o => o.void
theorem AO.xB {o : AO} (h : o.void = true) : o.free = true := by cases o <;> first | exact h | rfl
def FzR (φ : Ph) (h : Hp) (q : Fz) : Prop := (q.B < h.n ∧ q.L.all rU = true) ∧ ∃ c t fz, h.f q.B = some (.cells c t fz) ∧ q.s + q.L.length ≤ c.size ∧ CR φ c q.s q.L
theorem FzR.mono {φ ψ : Ph} (he : ∀ q, φ.z q → ψ.z q) {h : Hp} {q : Fz} (k : FzR φ h q) : FzR ψ h q := by
  obtain ⟨h0, c, t, fz, h1, h2, h3⟩ := k
  refine ⟨h0, c, t, fz, h1, h2, fun i a hi => ?_⟩
  obtain ⟨v, h4, h5⟩ := h3 i a hi
  exact ⟨v, h4, nY he (List.all_eq_true.1 h0.2 a (List.mem_of_getElem? hi)) h5⟩
theorem FzR.grow {φ : Ph} {h g : Hp} {q : Fz} (k : FzR φ h q) (hn : h.n ≤ g.n) (hf : g.f q.B = h.f q.B) : FzR φ g q := by
  obtain ⟨h0, c, t, fz, h1, h2⟩ := k
  exact ⟨⟨Nat.lt_of_lt_of_le h0.1 hn, h0.2⟩, c, t, fz, hf.trans h1, h2⟩
structure HR (φ : Ph) (H : AH) (n : Nat) (h0 h : Hp) : Prop where
  dom : ∀ b p, φ b = some p → b < n ∧ p.B < h.n
  live : ∀ b o, H.get b = some o → (φ b = none ∧ o.free = true) ∨ ∃ p ob, φ b = some p ∧ h0.f p.B = o.under ob ∧ h.f p.B = some ob ∧ OR φ p o ob
  inj : ∀ b b' o o' p p', H.get b = some o → H.get b' = some o' → o.own = true → o'.own = true → φ b = some p → φ b' = some p' → p.B = p'.B → b = b'
  base : ∀ b o, h0.f b = some o → b < h.n ∧ h.f b = some o
  size : h0.n ≤ h.n
  frz : ∀ q, φ.z q → (FzR φ h q ∧ (φ.y q ∨ h0.f q.B = none)) ∧ ∀ b' o' p', H.get b' = some o' → o'.own = true → φ b' = some p' → p'.B ≠ q.B
  sep : ∀ b Q, H.get b = some (.sep Q) → Q.P φ.z (φ.s b) h ∧ ∀ B, φ.s b B → (B < h.n ∧ h0.f B = none) ∧ (∀ b' o' p', H.get b' = some o' → o'.own = true → φ b' = some p' → p'.B ≠ B) ∧ (∀ q, φ.z q → q.B ≠ B) ∧ ∀ b' Q', H.get b' = some (.sep Q') → b' ≠ b → ¬ φ.s b' B
theorem HR.k8 {φ ψ : Ph} {H H' : AH} {n : Nat} {h0 h g : Hp} (hr : HR φ H n h0 h) (hn : h.n ≤ g.n) (hH : ∀ b Q, H'.get b = some (.sep Q) → H.get b = some (.sep Q) ∧ ψ.s b = φ.s b) (hz : ∀ q, φ.z q → ψ.z q) (hz2 : ∀ q, ψ.z q → φ.z q ∨ ∀ b Q, H.get b = some (.sep Q) → ¬ φ.s b q.B)
    (hg : ∀ b Q B, H.get b = some (.sep Q) → φ.s b B → g.f B = h.f B) (ho : ∀ b' o' p', H'.get b' = some o' → o'.own = true → ψ b' = some p' → (∃ b o p, H.get b = some o ∧ o.own = true ∧ φ b = some p ∧ p.B = p'.B) ∨ h.f p'.B = none ∨ ∀ b Q, H.get b = some (.sep Q) → ¬ φ.s b p'.B) :
    ∀ b Q, H'.get b = some (.sep Q) → Q.P ψ.z (ψ.s b) g ∧ ∀ B, ψ.s b B → (B < g.n ∧ h0.f B = none) ∧ (∀ b' o' p', H'.get b' = some o' → o'.own = true → ψ b' = some p' → p'.B ≠ B) ∧ (∀ q, ψ.z q → q.B ≠ B) ∧ ∀ b' Q', H'.get b' = some (.sep Q') → b' ≠ b → ¬ ψ.s b' B := fun b Q hb => by
  obtain ⟨h1, h2⟩ := hH b Q hb
  obtain ⟨h3, h4⟩ := hr.sep b Q h1
  rw [h2]
  refine ⟨Q.mono _ _ _ _ hz (Q.loc _ _ _ _ hn (fun B hB => hg b Q B h1 hB) h3), fun B hB => ?_⟩
  obtain ⟨k1, k2, k3, k4⟩ := h4 B hB
  refine ⟨⟨Nat.lt_of_lt_of_le k1.1 hn, k1.2⟩, fun b' o' p' e1 e2 e3 e4 => ?_, fun q hq e => ?_, fun b' Q' e1 e2 e3 => ?_⟩
  · rcases ho b' o' p' e1 e2 e3 with ⟨c, o, p, g1, g2, g3, g4⟩ | g | g
    · exact k2 c o p g1 g2 g3 (g4.trans e4)
    · obtain ⟨x, hx⟩ := Q.ex _ _ _ B h3 hB
      rw [e4, hx] at g; cases g
    · exact g b Q h1 (e4 ▸ hB)
  · rcases hz2 q hq with g | g
    · exact k3 q g e
    · exact g b Q h1 (e ▸ hB)
  · obtain ⟨f1, f2⟩ := hH b' Q' e1
    rw [f2] at e3
    exact k4 b' Q' f1 e2 e3
theorem HR.of {φ : Ph} {H : AH} {n : Nat} {h0 h : Hp} (hr : HR φ H n h0 h) {b : Nat} {o : AO} {p : Pl} (hb : H.get b = some o) (hp : φ b = some p) : ∃ ob, h0.f p.B = o.under ob ∧ h.f p.B = some ob ∧ OR φ p o ob := by
  rcases hr.live b o hb with ⟨h1, _⟩ | ⟨q, ob, h1, h2, h3, h4⟩
  · rw [hp] at h1; cases h1
  rw [hp] at h1
  injection h1 with h1
  subst h1
  exact ⟨ob, h2, h3, h4⟩
theorem HR.put {φ : Ph} {H : AH} {n : Nat} {h0 h : Hp} (hr : HR φ H n h0 h) {b : Nat} {o o' : AO} {p : Pl} {ob' : Obj} (hb : H.get b = some o) (hp : φ b = some p) (ho : OR φ p o' ob') (d : Nat) (hw : o.own = true := by rfl) (hw' : o'.own = true := by rfl) : HR φ (H.set (some o') d b) n h0 (h.put p.B ob') := by
  obtain ⟨ob, hB, _, _⟩ := hr.of hb hp
  rw [AO.bd hw] at hB
  have nosep : ∀ x Q, (H.set (some o') d b).get x = some (.sep Q) → H.get x = some (.sep Q) := fun x Q hx => by
    rcases PM.an d H b x _ hx with ⟨_, h2⟩ | ⟨_, h2⟩
    · injection h2 with h2; subst h2; exact ho.elim
    · exact h2
  refine ⟨hr.dom, fun x q hx => ?_, fun x y q q' px py hx hy hwx hwy hpx hpy e => ?_, fun x q hx => ?_, hr.size, fun q hq => ?_, hr.k8 (Nat.le_refl _) (fun x Q hx => ⟨nosep x Q hx, rfl⟩) (fun _ h => h) (fun _ h => .inl h) (fun x Q B hx hB => aO _ _ _ _ fun e => ((hr.sep x Q hx).2 B hB).2.1 b o p hb hw hp e.symm) fun b' o1 p' e1 e2 e3 => ?_⟩
  rotate_left 4
  · rcases PM.an d H b b' o1 e1 with ⟨rfl, _⟩ | ⟨_, h2⟩
    · exact .inl ⟨_, o, p', hb, hw, e3, rfl⟩
    · exact .inl ⟨b', o1, p', h2, e2, e3, rfl⟩
  · rcases PM.an d H b x q hx with ⟨rfl, h2⟩ | ⟨h1, h2⟩
    · injection h2 with h2
      subst h2
      exact .inr ⟨p, ob', hp, by rw [AO.bd hw']; exact hB, br _ _ _, ho⟩
    · rcases hr.live x q h2 with hv | ⟨px, obx, h3, h4, h5, h6⟩
      · exact .inl hv
      refine .inr ⟨px, obx, h3, h4, ?_, h6⟩
      rw [aO _ _ _ _ (fun e => by
        cases hq : q.own with
        | true => exact h1 (hr.inj x b q o px p h2 hb hq hw h3 hp e)
        | false =>
          rw [e, hB] at h4
          cases q <;> first | (cases hq; done) | (simp [AO.under] at h4; done))]
      exact h5
  · have lv : ∀ z r, (H.set (some o') d b).get z = some r → r.own = true → ∃ r', H.get z = some r' ∧ r'.own = true := fun z r hz hw2 => by
      rcases PM.an d H b z r hz with ⟨rfl, _⟩ | ⟨_, h2⟩
      · exact ⟨o, hb, hw⟩
      · exact ⟨r, h2, hw2⟩
    obtain ⟨r, hr1, hr3⟩ := lv x q hx hwx
    obtain ⟨r', hr2, hr4⟩ := lv y q' hy hwy
    exact hr.inj x y r r' px py hr1 hr2 hr3 hr4 hpx hpy e
  · obtain ⟨h1, h2⟩ := hr.base x q hx
    exact ⟨h1, by rw [aO _ _ _ _ (fun e => by subst e; rw [hB] at hx; cases hx)]; exact h2⟩
  · obtain ⟨⟨h1, h9⟩, h2⟩ := hr.frz q hq
    refine ⟨⟨h1.grow (Nat.le_refl _) (aO _ _ _ _ fun e => h2 b o p hb hw hp e.symm), h9⟩, fun y oy py hy hwy hpy => ?_⟩
    rcases PM.an d H b y oy hy with ⟨rfl, _⟩ | ⟨_, h3⟩
    · exact h2 y o py hb hw hpy
    · exact h2 y oy py h3 hwy hpy
def df (φ : Ph) (n : Nat) (p : Pl) : Ph := ⟨fun x => if x = n then some p else φ x, φ.z, φ.y, φ.s⟩
theorem HR.ple {φ : Ph} {H : AH} {n : Nat} {h0 h : Hp} (hr : HR φ H n h0 h) (p : Pl) : PLe φ (df φ n p) := ⟨fun b q e => by
  show (if b = n then some p else φ b) = some q
  rw [if_neg (by have := (hr.dom b q e).1; omega)]
  exact e, fun _ h => h, fun _ h => h⟩
theorem bf (φ : Ph) (n : Nat) (p : Pl) : df φ n p n = some p := by simp [df]
theorem HR.new {φ : Ph} {H : AH} {n : Nat} {h0 h : Hp} (hr : HR φ H n h0 h) {s T : Nat} {o : AO} {ob : Obj} (ho : OR (df φ n ⟨h.n, s, T⟩) ⟨h.n, s, T⟩ o ob) (d : Nat) (hw : o.own = true := by rfl) : HR (df φ n ⟨h.n, s, T⟩) (H.set (some o) d n) (n + 1) h0 ((h.put h.n ob).to (h.n + 1)) := by
  have old : ∀ x q, H.get x = some q → (φ x = none ∧ q.free = true) ∨ ∃ p ob', φ x = some p ∧ x < n ∧ p.B < h.n ∧ h0.f p.B = q.under ob' ∧ h.f p.B = some ob' ∧ OR φ p q ob' := fun x q hx => by
    rcases hr.live x q hx with hv | ⟨px, obx, h3, h4, h5, h6⟩
    · exact .inl hv
    exact .inr ⟨px, obx, h3, (hr.dom x px h3).1, (hr.dom x px h3).2, h4, h5, h6⟩
  have hno : h0.f h.n = none := by
    cases hx : h0.f h.n with
    | none => rfl
    | some o => exact absurd (hr.base _ _ hx).1 (Nat.lt_irrefl _)
  have nosep : ∀ x Q, (H.set (some o) d n).get x = some (.sep Q) → x ≠ n ∧ H.get x = some (.sep Q) := fun x Q hx => by
    rcases PM.an d H n x _ hx with ⟨_, h2⟩ | h2
    · injection h2 with h2; subst h2; exact ho.elim
    · exact h2
  refine ⟨fun x q hx => ?_, fun x q hx => ?_, fun x y q q' px py hx hy hwx hwy hpx hpy e => ?_, fun x q hx => ?_, ?_, fun q hq => ?_, hr.k8 (Nat.le_succ _) (fun x Q hx => ⟨(nosep x Q hx).2, rfl⟩) (fun _ h => h) (fun _ h => .inl h) (fun x Q B hx hB => ?_) fun b' o1 p' e1 e2 e3 => ?_⟩
  rotate_left 6
  · have : B < h.n := ((hr.sep x Q hx).2 B hB).1.1
    rw [yQ, aO _ _ _ _ (by omega)]
  · rcases PM.an d H n b' o1 e1 with ⟨rfl, _⟩ | ⟨h1, h2⟩
    · rw [bf] at e3; injection e3 with e3; subst e3
      exact .inr (.inr fun x Q hx hB => by have : h.n < h.n := ((hr.sep x Q hx).2 _ hB).1.1; omega)
    · simp only [df, if_neg h1] at e3
      exact .inl ⟨b', o1, p', h2, e2, e3, rfl⟩
  · simp only [df] at hx
    split at hx
    · injection hx with hx; subst hx; simp only [yP]; omega
    · have := hr.dom x q hx; simp only [yP]; omega
  · rcases PM.an d H n x q hx with ⟨rfl, h2⟩ | ⟨h1, h2⟩
    · injection h2 with h2
      subst h2
      exact .inr ⟨_, ob, bf _ _ _, by rw [AO.bd hw]; exact hno, by rw [yQ]; exact br _ _ _, ho⟩
    · rcases old x q h2 with ⟨hv, hv2⟩ | ⟨px, obx, h3, h4, h5, h6, h7, h8⟩
      · exact .inl ⟨by simp only [df, if_neg h1]; exact hv, hv2⟩
      refine .inr ⟨px, obx, hr.ple _ _ _ h3, h6, ?_, h8.mono (hr.ple _)⟩
      rw [yQ, aO _ _ _ _ (by omega)]; exact h7
  · have cs : ∀ z r pz, (H.set (some o) d n).get z = some r → df φ n ⟨h.n, s, T⟩ z = some pz → (z = n ∧ pz.B = h.n) ∨ (z ≠ n ∧ H.get z = some r ∧ φ z = some pz ∧ pz.B < h.n) := fun z r pz hz hpz => by
      rcases PM.an d H n z r hz with ⟨rfl, _⟩ | ⟨h1, h2⟩
      · rw [bf] at hpz; injection hpz with hpz; subst hpz; exact .inl ⟨rfl, rfl⟩
      · simp only [df, if_neg h1] at hpz
        exact .inr ⟨h1, h2, hpz, (hr.dom _ _ hpz).2⟩
    rcases cs x q px hx hpx with ⟨a1, a2⟩ | ⟨a1, a2, a3, a4⟩ <;> rcases cs y q' py hy hpy with ⟨b1, b2⟩ | ⟨b1, b2, b3, b4⟩
    · omega
    · omega
    · omega
    · exact hr.inj x y q q' px py a2 b2 hwx hwy a3 b3 e
  · obtain ⟨h1, h2⟩ := hr.base x q hx
    exact ⟨by simp only [yP]; omega, by rw [yQ, aO _ _ _ _ (by omega)]; exact h2⟩
  · have := hr.size
    (try simp only [yP]); omega
  · obtain ⟨⟨h1, h9⟩, h2⟩ := hr.frz q hq
    have hlt := h1.1.1
    refine ⟨⟨FzR.mono (hr.ple _).z (h1.grow (g := (h.put h.n ob).to (h.n + 1)) (by simp only [yP]; omega) (by rw [yQ, aO _ _ _ _ (by omega)])), h9⟩, fun y oy py hy hwy hpy => ?_⟩
    rcases PM.an d H n y oy hy with ⟨rfl, _⟩ | ⟨h3, h4⟩
    · rw [bf] at hpy; injection hpy with hpy; subst hpy; exact fun e => by simp only at e; omega
    · simp only [df, if_neg h3] at hpy
      exact h2 y oy py h4 hwy hpy
theorem HR.kill {φ : Ph} {H : AH} {n : Nat} {h0 h : Hp} (hr : HR φ H n h0 h) (d b : Nat) : HR φ (H.set none d b) n h0 h := by
  have old : ∀ x q, (H.set none d b).get x = some q → H.get x = some q := fun x q hx => by
    rcases PM.an d H b x q hx with ⟨_, h2⟩ | ⟨_, h2⟩
    · cases h2
    · exact h2
  exact ⟨hr.dom, fun x q hx => hr.live x q (old x q hx), fun x y q q' px py hx hy => hr.inj x y q q' px py (old x q hx) (old y q' hy), hr.base, hr.size, fun q hq => ⟨(hr.frz q hq).1, fun y oy py hy => (hr.frz q hq).2 y oy py (old y oy hy)⟩, hr.k8 (Nat.le_refl _) (fun x Q hx => ⟨old x _ hx, rfl⟩) (fun _ h => h) (fun _ h => .inl h) (fun _ _ _ _ _ => rfl) fun b' o' p' e1 e2 e3 => .inl ⟨b', o', p', old b' o' e1, e2, e3, rfl⟩⟩
theorem HR.rename {φ : Ph} {H : AH} {n : Nat} {h0 h : Hp} (hr : HR φ H n h0 h) {b : Nat} {o o' : AO} {p q : Pl} {ob' : Obj} (hb : H.get b = some o) (hp : φ b = some p) (hq : q.B = p.B) (ho : OR (df φ n q) q o' ob') (d d' : Nat) (hw : o.own = true := by rfl) (hw' : o'.own = true := by rfl) :
    HR (df φ n q) ((H.set none d' b).set (some o') d n) (n + 1) h0 (h.put p.B ob') := by
  obtain ⟨ob, hB, _, _⟩ := hr.of hb hp
  rw [AO.bd hw] at hB
  have hpB := (hr.dom b p hp).2
  have old : ∀ x r, (H.set none d' b).get x = some r → x ≠ b ∧ H.get x = some r := fun x r hx => by
    rcases PM.an d' H b x r hx with ⟨_, h2⟩ | ⟨h1, h2⟩
    · cases h2
    · exact ⟨h1, h2⟩
  refine ⟨fun x r hx => ?_, fun x r hx => ?_, fun x y r r' px py hx hy hwx hwy hpx hpy e => ?_, fun x r hx => ?_, hr.size, fun z hzq => ?_, hr.k8 (Nat.le_refl _) (fun x Q hx => ?_) (fun _ h => h) (fun _ h => .inl h) (fun x Q B hx hB => aO _ _ _ _ fun e => ((hr.sep x Q hx).2 B hB).2.1 b o p hb hw hp e.symm) fun b' o1 p' e1 e2 e3 => ?_⟩
  rotate_left 5
  · rcases PM.an d _ n x _ hx with ⟨_, h2⟩ | ⟨_, h2⟩
    · injection h2 with h2; subst h2; exact ho.elim
    · exact ⟨(old x _ h2).2, rfl⟩
  · rcases PM.an d _ n b' o1 e1 with ⟨rfl, _⟩ | ⟨h1, h2⟩
    · rw [bf] at e3; injection e3 with e3; subst e3
      exact .inl ⟨b, o, p, hb, hw, hp, hq.symm⟩
    · simp only [df, if_neg h1] at e3
      exact .inl ⟨b', o1, p', (old b' o1 h2).2, e2, e3, rfl⟩
  · simp only [df] at hx
    split at hx
    · injection hx with hx; subst hx; simp only [Ao]; omega
    · have := hr.dom x r hx; simp only [Ao]; omega
  · rcases PM.an d _ n x r hx with ⟨rfl, h2⟩ | ⟨h1, h2⟩
    · injection h2 with h2
      subst h2
      exact .inr ⟨_, ob', bf _ _ _, by rw [hq, AO.bd hw']; exact hB, by rw [hq]; exact br _ _ _, ho⟩
    · obtain ⟨h3, h4⟩ := old x r h2
      rcases hr.live x r h4 with ⟨hv, hv2⟩ | ⟨px, obx, h5, h6, h7, h8⟩
      · exact .inl ⟨by simp only [df, if_neg h1]; exact hv, hv2⟩
      refine .inr ⟨px, obx, hr.ple _ _ _ h5, h6, ?_, h8.mono (hr.ple _)⟩
      rw [aO _ _ _ _ (fun e => by
        cases hq : r.own with
        | true => exact h3 (hr.inj x b r o px p h4 hb hq hw h5 hp e)
        | false =>
          rw [e, hB] at h6
          cases r <;> first | (cases hq; done) | (simp [AO.under] at h6; done))]
      exact h7
  · have cs : ∀ z r pz, ((H.set none d' b).set (some o') d n).get z = some r → df φ n q z = some pz → (z = n ∧ pz.B = p.B) ∨ (z ≠ n ∧ z ≠ b ∧ H.get z = some r ∧ φ z = some pz) := fun z r pz hz hpz => by
      rcases PM.an d _ n z r hz with ⟨rfl, _⟩ | ⟨h1, h2⟩
      · rw [bf] at hpz; injection hpz with hpz; subst hpz; exact .inl ⟨rfl, hq⟩
      · simp only [df, if_neg h1] at hpz
        obtain ⟨h3, h4⟩ := old z r h2
        exact .inr ⟨h1, h3, h4, hpz⟩
    rcases cs x r px hx hpx with ⟨a1, a2⟩ | ⟨a1, a2, a3, a4⟩ <;> rcases cs y r' py hy hpy with ⟨b1, b2⟩ | ⟨b1, b2, b3, b4⟩
    · omega
    · exact (b2 (hr.inj y b r' o py p b3 hb hwy hw b4 hp (by omega))).elim
    · exact (a2 (hr.inj x b r o px p a3 hb hwx hw a4 hp (by omega))).elim
    · exact hr.inj x y r r' px py a3 b3 hwx hwy a4 b4 e
  · obtain ⟨h1, h2⟩ := hr.base x r hx
    exact ⟨h1, by rw [aO _ _ _ _ (fun e => by subst e; rw [hB] at hx; cases hx)]; exact h2⟩
  · obtain ⟨⟨h1, h9⟩, h2⟩ := hr.frz z hzq
    refine ⟨⟨FzR.mono (hr.ple _).z (h1.grow (g := h.put p.B ob') (Nat.le_refl _) (aO _ _ _ _ fun e => h2 b o p hb hw hp e.symm)), h9⟩, fun y oy py hy hwy hpy => ?_⟩
    rcases PM.an d _ n y oy hy with ⟨rfl, _⟩ | ⟨h3, h4⟩
    · rw [bf] at hpy; injection hpy with hpy; subst hpy; rw [hq]; exact h2 b o p hb hw hp
    · simp only [df, if_neg h3] at hpy
      exact h2 y oy py (old y oy h4).2 hwy hpy
def FR (φ : Ph) (σ : AE) (ρ : Env) : Prop := ∀ t a, σ.get t = some a → VR φ a (ρ t)
theorem FR.mono {φ ψ : Ph} (he : PLe φ ψ) {σ : AE} {ρ : Env} (h : FR φ σ ρ) : FR ψ σ ρ := fun t a e => VR.mono he _ _ (h t a e)
theorem FR.ev {φ : Ph} {σ : AE} {ρ : Env} (h : FR φ σ ρ) (x : Operand) : VR φ (eev σ x) (ρ.ev x) := by
  cases x with
  | tmp t =>
    simp only [eev, Env.ev]
    rcases iL cX t σ _ rfl with e | e
    · show VR φ (aA (pathOf cX t) σ) (ρ t)
      rw [e]; exact .bad _
    · exact h t _ e
  | const v => exact kS v
  | global g => exact .any _
  | func f => exact .fn (xs := #[]) (cs := #[]) .nil .nil
theorem FR.at {φ : Ph} {σ : AE} {ρ : Env} (h : FR φ σ ρ) (t : Nat) : VR φ (aA (pa t) σ) (ρ t) := FR.ev h (.tmp t)
theorem FR.put {φ : Ph} {σ : AE} {ρ : Env} (h : FR φ σ ρ) (d : Option Nat) {a : AV} {v : Value} (hv : VR φ a v) : FR φ (bU σ d a) (ρ.put d v) := by
  cases d with
  | none => exact h
  | some d =>
    intro t x e
    rcases jY cX σ d t x e with ⟨rfl, h2⟩ | ⟨h1, h2⟩
    · subst h2
      rw [lX, oj]; exact hv
    · rw [lX, FN _ _ _ _ h1]; exact h t x h2
theorem b6 (s : List Nat) : (di s).toList = s.map UInt8.ofNat := ByteArray.toList_mk _
theorem eB (s : List Nat) : (di s).size = s.length := by
  show (s.map UInt8.ofNat).toArray.size = _
  simp
theorem uf (a b : List Nat) : di a ++ di b = di (a ++ b) := by
  apply ByteArray.ext
  simp [di]
theorem rV (s : List Nat) (l h : Nat) : (di s).extract l h = di ((s.drop l).take (h - l)) := by
  unfold di
  rw [ByteArray.extract_mk]
  simp [List.map_take, List.map_drop]
theorem ofNat_inj {a b : Nat} (ha : a < 256) (hb : b < 256) (h : UInt8.ofNat a = UInt8.ofNat b) : a = b := by
  have := congrArg UInt8.toNat h
  simp only [UInt8.toNat_ofNat'] at this
  omega
theorem kT : ∀ (a b : List Nat), (∀ x ∈ a, x < 256) → (∀ x ∈ b, x < 256) → jX a b = (a.map UInt8.ofNat == b.map UInt8.ofNat)
  | [], [], _, _ => by simp [jX]
  | [], _ :: _, _, _ => by simp [jX]
  | _ :: _, [], _, _ => by simp [jX]
  | a :: x, b :: y, ha, hb => by
    unfold jX
    have ih := kT x y (fun z hz => ha z (by simp [hz])) (fun z hz => hb z (by simp [hz]))
    rw [List.map_cons, List.map_cons, List.cons_beq_cons]
    split
    · rename_i e
      have := Nat.eq_of_beq_eq_true e
      subst this
      simp [ih]
    · rename_i e
      have hne : a ≠ b := fun q => by subst q; simp at e
      have : UInt8.ofNat a ≠ UInt8.ofNat b := fun q => hne (ofNat_inj (ha a (by simp)) (hb b (by simp)) q)
      simp [this]
theorem ug : ∀ (a b : List Nat), (∀ x ∈ a, x < 256) → (∀ x ∈ b, x < 256) → ltL a b = Op.bytesLess (a.map UInt8.ofNat) (b.map UInt8.ofNat)
  | [], [], _, _ => by simp [ltL, Op.bytesLess]
  | [], _ :: _, _, _ => by simp [ltL, Op.bytesLess]
  | _ :: _, [], _, _ => by simp [ltL, Op.bytesLess]
  | a :: x, b :: y, ha, hb => by
    unfold ltL
    have ih := ug x y (fun z hz => ha z (by simp [hz])) (fun z hz => hb z (by simp [hz]))
    have ha' := ha a (by simp)
    have hb' := hb b (by simp)
    rw [List.map_cons, List.map_cons, Op.bytesLess]
    split
    · rename_i e
      have := Nat.eq_of_beq_eq_true e
      subst this
      simp [ih]
    · rename_i e
      have hne : a ≠ b := fun q => by subst q; simp at e
      have h2 : UInt8.ofNat a ≠ UInt8.ofNat b := fun q => hne (ofNat_inj ha' hb' q)
      have h3 : decide (UInt8.ofNat a < UInt8.ofNat b) = Nat.blt a b := by
        rw [Bool.eq_iff_iff, decide_eq_true_eq, UInt8.lt_iff_toNat_lt, UInt8.toNat_ofNat', UInt8.toNat_ofNat', Nat.mod_eq_of_lt ha', Nat.mod_eq_of_lt hb']
        simp [Nat.blt_eq]
      simp [h2, h3]
section
variable {P : Program} {φ : Ph} {H : AH} {n : Nat} {h0 h : Hp} {K : Value → Prop}
theorem oS {op : BinOp} {t : TypeId} {k k' : IntKind} {a b : Int} {r : AV} (e : DA op k k' a b = some r) (hk : ∀ v, VR φ r v → K v) : gO P op t (.int k a) (.int k' b) K := by
  unfold DA at e
  (try simp only [gO])
  cases op <;> simp only at e ⊢
  case shl => split at e <;> first | (injection e with e; subst e; exact ⟨by assumption, hk _ (.int _ _)⟩) | cases e
  case shr => split at e <;> first | (injection e with e; subst e; exact ⟨by assumption, hk _ (.int _ _)⟩) | cases e
  case quo =>
    split at e
    · rename_i hkk
      split at e
      · cases e
      · rename_i hb; injection e with e; subst e; exact ⟨hkk, hb, hk _ (.int _ _)⟩
    · cases e
  case rem =>
    split at e
    · rename_i hkk
      split at e
      · cases e
      · rename_i hb; injection e with e; subst e; exact ⟨hkk, hb, hk _ (.int _ _)⟩
    · cases e
  case neq =>
    split at e
    · rename_i hkk
      injection e with e; subst e
      refine ⟨hkk, ?_⟩
      have : decide (a ≠ b) = !decide (a = b) := by by_cases q : a = b <;> simp [q]
      rw [this]; exact hk _ (.bool _)
    · cases e
  all_goals
    split at e
    · rename_i hkk
      injection e with e; subst e
      exact ⟨hkk, hk _ (by first | exact .int _ _ | exact .bool _)⟩
    · cases e
theorem oT {op : BinOp} {t : TypeId} {a b : List Nat} {r : AV} (ha : ∀ x ∈ a, x < 256) (hb : ∀ x ∈ b, x < 256) (e : AM op a b = some r) (hk : ∀ v, VR φ r v → K v) : gO P op t (.string (di a)) (.string (di b)) K := by
  unfold AM at e
  have e1 : jX a b = ((di a).toList == (di b).toList) := by rw [b6, b6]; exact kT a b ha hb
  have e2 : ltL a b = Op.bytesLess (di a).toList (di b).toList := by rw [b6, b6]; exact ug a b ha hb
  cases op <;> simp only at e <;> simp only [gO]
  case add =>
    split at e
    · rename_i hle
      injection e with e; subst e
      refine ⟨by rw [eB, eB]; exact hle, ?_⟩
      rw [uf]
      exact hk _ (.str fun x hx => (List.mem_append.1 hx).elim (ha x) (hb x))
    · cases e
  all_goals first | (cases e; done) | (injection e with e; subst e; (first | rw [← e1, ← e2] | rw [← e1] | rw [← e2]); exact hk _ (.bool _))
end
end Go.Proofs.Ytapjijhjnloimaa
namespace Go.Proofs.Ytapjijhjnloimaa
open Go Go.RowKit
theorem VRs.of {φ : Ph} : ∀ {l : List AV} {vs : List Value}, l.length = vs.length → (∀ (i : Nat) (a : AV), l[i]? = some a → ∃ v, vs[i]? = some v ∧ VR φ a v) → VRs φ l vs
  | [], [], _, _ => .nil
  | [], _ :: _, h, _ => by simp at h
  | _ :: _, [], h, _ => by simp at h
  | a :: l, v :: vs, h, k => by
    obtain ⟨u, h1, h2⟩ := k 0 a rfl
    simp only [List.getElem?_cons_zero, Option.some.injEq] at h1
    subst h1
    refine .cons h2 (VRs.of (by simpa using h) fun i b e => ?_)
    obtain ⟨w, h3, h4⟩ := k (i + 1) b (by simpa using e)
    exact ⟨w, by simpa using h3, h4⟩
theorem VRs.Kz {φ : Ph} {l : List AV} {c : Array Value} (h : VRs φ l c.toList) : CR φ c 0 l := CR.of' h
theorem CR.Hv {φ : Ph} {l : List AV} {c : Array Value} (hl : l.length = c.size) (h : CR φ c 0 l) : VRs φ l c.toList :=
  VRs.of (by simpa using hl) fun i a e => by
    obtain ⟨v, h1, h2⟩ := h i a e
    exact ⟨v, by simpa using h1, h2⟩
theorem iM (φ : Ph) (z : Value) : VRs φ (ofV z).cells z.cells.toList := by
  have h := kS (φ := φ) z
  have hc : okC (ofV z) = true := by
    unfold ofV
    split
    · rfl
    · rfl
    · rename_i h1 h2
      unfold tZ
      split <;> first | rfl | (cases z <;> first | rfl | exact (h1 _ rfl).elim | exact (h2 _ rfl).elim)
  exact h.cells hc
section
variable {P : Program} {φ : Ph} {H : AH} {n : Nat} {h0 h : Hp} {K : Value → Prop}
theorem jZ (hr : HR φ H n h0 h) {t : TypeId} {a r : AV} {v : Value} (ha : VR φ a v) (e : qD P t a H = some r) (hk : ∀ u, VR φ r u → K u) : eY P t v h K := by
  unfold qD at e
  split at e
  · rename_i b o
    obtain ⟨p, hp, rfl⟩ := ha.cf
    split at e
    · rename_i l z hb
      obtain ⟨ob, hB, hf, c, t', fz, rfl, h1, h2, h3, h4, h5⟩ := hr.of hb hp
      (try simp only [eY, hf])
      split at e
      · rename_i hg
        obtain ⟨v, h6, h7⟩ := h5.nth e
        (try simp only [hg, h6])
        exact hk v h7
      · rename_i hg
        split at e
        · rename_i m hm
          simp only [Option.map_eq_some_iff] at e
          obtain ⟨l', e1, rfl⟩ := e
          obtain ⟨vs, h6, h7⟩ := h5.sub e1
          (try simp only [hg, hm, h6])
          exact hk _ (.agg (by simpa using h7))
        · cases e
      · cases e
    · rename_i l hb
      obtain ⟨ob, hB, hf, c, t', fz, rfl, h1, h2, h5⟩ := hr.of hb hp
      (try simp only [eY, hf])
      split at e
      · rename_i hg
        obtain ⟨v, h6, h7⟩ := h5.nth e
        (try simp only [hg, h6])
        exact hk v h7
      · rename_i hg
        split at e
        · rename_i m hm
          simp only [Option.map_eq_some_iff] at e
          obtain ⟨l', e1, rfl⟩ := e
          obtain ⟨vs, h6, h7⟩ := h5.sub e1
          (try simp only [hg, hm, h6])
          exact hk _ (.agg (by simpa using h7))
        · cases e
      · cases e
    · cases e
  · cases e
theorem fQ {op : BinOp} {q : Option Bool} {r : AV} (e : mf op q = some r) : ∃ b, q = some b ∧ (op = .eql ∧ r = .bool b ∨ op = .neq ∧ r = .bool (!b)) := by
  unfold mf at e
  split at e
  · cases e
  · rename_i b
    cases op <;> simp only at e <;> first | (cases e; done) | (injection e with e; subst e; exact ⟨b, rfl, by simp⟩)
theorem jo {xs ys : List AV} {vs us : Array Value} (hx : VRs φ xs vs.toList) (hy : VRs φ ys us.toList) : ∀ (l : List (Nat × Nat)) (q : Bool), nw xs ys l = some q → eI vs us l = some q
  | [], q, e => e
  | (k, o) :: l, q, e => by
    unfold nw at e
    simp only [dY] at e
    split at e
    · rename_i k1 a k2 b e1 e2
      obtain ⟨v1, g1, g2⟩ := hx.at e1
      obtain ⟨v2, g3, g4⟩ := hy.at e2
      rw [g2.bF, Array.getElem?_toList] at g1
      rw [g4.bF, Array.getElem?_toList] at g3
      split at e
      · rename_i hc
        simp only [Option.map_eq_some_iff] at e
        obtain ⟨q', e3, rfl⟩ := e
        (try simp only [eI, g1, g3])
        rw [if_pos hc, jo hx hy l q' e3]; rfl
      · cases e
    · rename_i a b e1 e2
      obtain ⟨v1, g1, g2⟩ := hx.at e1
      obtain ⟨v2, g3, g4⟩ := hy.at e2
      rw [g2.bZ.1, Array.getElem?_toList] at g1
      rw [g4.bZ.1, Array.getElem?_toList] at g3
      split at e
      · rename_i hc
        simp only [Option.map_eq_some_iff] at e
        obtain ⟨q', e3, rfl⟩ := e
        (try simp only [eI, g1, g3])
        rw [if_pos hc, jo hx hy l q' e3, b6, b6, kT a b g2.bZ.2 g4.bZ.2]; rfl
      · cases e
    · rename_i a b e1 e2
      obtain ⟨v1, g1, g2⟩ := hx.at e1
      obtain ⟨v2, g3, g4⟩ := hy.at e2
      rw [g2.bz, Array.getElem?_toList] at g1
      rw [g4.bz, Array.getElem?_toList] at g3
      split at e
      · rename_i hc
        simp only [Option.map_eq_some_iff] at e
        obtain ⟨q', e3, rfl⟩ := e
        (try simp only [eI, g1, g3])
        rw [if_pos hc, jo hx hy l q' e3]; rfl
      · cases e
    · cases e
theorem uh {t : TypeId} (e : wo P t = true) : ∃ x, P.underlying t = some (.pointer x) := by
  unfold wo at e
  split at e
  · exact ⟨_, by assumption⟩
  · cases e
theorem wz {t : TypeId} (e : oL P t = true) : ∃ x, P.underlying t = some (.slice x) := by
  unfold oL at e
  split at e
  · exact ⟨_, by assumption⟩
  · cases e
theorem mi {t : TypeId} (e : nV P t = true) : P.underlying t = some .bool := by
  unfold nV at e
  split at e
  · assumption
  · cases e
theorem ny (hr : HR φ H n h0 h) {b : Nat} {p : Pl} (hp : φ b = some p) (e : rP H b = true) : ∃ c t o, H.get b = some o ∧ o.own = true ∧ h.f p.B = some (.cells c t (0, 0)) := by
  unfold rP at e
  split at e
  · rename_i l hb
    obtain ⟨ob, hB, hf, c, t', fz, rfl, _, _, _, h4, _⟩ := hr.of hb hp
    have := h4 rfl
    subst this
    exact ⟨c, t', _, hb, rfl, hf⟩
  · cases e
theorem jq (hr : HR φ H n h0 h) {op : BinOp} {t : TypeId} {x y r : AV} {v u : Value} (hx : VR φ x v) (hy : VR φ y u) (e : oM P op t x y H = some r) (hk : ∀ u, VR φ r u → K u) : fO P op t v u h K := by
  unfold oM at e
  split at e
  · rename_i k a k' b
    rw [hx.bF, hy.bF]
    show gO P op t (.int k a) (.int k' b) K
    exact oS e hk
  · rename_i a b
    obtain ⟨rfl, ha⟩ := hx.bZ
    obtain ⟨rfl, hb⟩ := hy.bZ
    show gO P op t (.string (di a)) (.string (di b)) K
    exact oT ha hb e hk
  · rename_i a b
    rw [hx.bz, hy.bz]
    split at e
    · rename_i ht
      have ht := mi ht
      obtain ⟨q, hq, ⟨rfl, rfl⟩ | ⟨rfl, rfl⟩⟩ := fQ e
      · injection hq with hq; subst hq
        exact ⟨ht, hk _ (.bool _)⟩
      · injection hq with hq; subst hq
        exact ⟨ht, hk _ (.bool _)⟩
    · cases e
  · rename_i b o b' o'
    obtain ⟨p, hp, rfl⟩ := hx.cf
    obtain ⟨p', hp', rfl⟩ := hy.cf
    obtain ⟨q, hq, hop⟩ := fQ e
    have key : ∃ el k, P.underlying t = some (.pointer el) ∧ ae P el = some (k + 1) ∧
        ((⟨p.B, p.s + o, none⟩ : Addr) = ⟨p'.B, p'.s + o', none⟩ ∨ (∃ ca ta cb tb, h.f p.B = some (.cells ca ta (0, 0)) ∧ h.f p'.B = some (.cells cb tb (0, 0)))) ∧ q = decide ((⟨p.B, p.s + o, none⟩ : Addr) = ⟨p'.B, p'.s + o', none⟩) := by
      unfold Hr at hq
      split at hq
      · rename_i el hu
        split at hq
        · rename_i k hs
          refine ⟨el, k, hu, hs, ?_⟩
          split at hq
          · rename_i hbb
            simp only [Bool.and_eq_true] at hbb
            have h1 := Nat.eq_of_beq_eq_true hbb.1
            have h2 := Nat.eq_of_beq_eq_true hbb.2
            subst h1 h2
            rw [hp] at hp'
            injection hp' with hp'
            subst hp'
            injection hq with hq
            subst hq
            exact ⟨.inl rfl, by simp⟩
          · rename_i hbb
            split at hq
            · rename_i hpl
              injection hq with hq
              subst hq
              simp only [Bool.and_eq_true] at hpl
              obtain ⟨c, ty, ob, g1, g5, g2⟩ := ny hr hp hpl.1
              obtain ⟨c', ty', ob', g3, g6, g4⟩ := ny hr hp' hpl.2
              refine ⟨.inr ⟨c, ty, c', ty', g2, g4⟩, ?_⟩
              have hne : ¬ (⟨p.B, p.s + o, none⟩ : Addr) = ⟨p'.B, p'.s + o', none⟩ := fun q => by
                injection q with q1 q2
                have := hr.inj b b' _ _ p p' g1 g3 g5 g6 hp hp' q1
                subst this
                rw [hp] at hp'
                injection hp' with hp'
                subst hp'
                have : o = o' := by omega
                subst this
                simp at hbb
              simp [hne]
            · cases hq
        · cases hq
      · cases hq
    obtain ⟨el, k, hu, hs, hc, rfl⟩ := key
    rcases hop with ⟨rfl, rfl⟩ | ⟨rfl, rfl⟩
    · (try simp only [fO, yS, hu])
      exact ⟨⟨k, hs⟩, hc, hk _ (.bool _)⟩
    · (try simp only [fO, yS, hu])
      exact ⟨⟨k, hs⟩, hc, hk _ (.bool _)⟩
  · rw [hy.aY]
    split at e
    · rename_i ht
      obtain ⟨el, ht⟩ := uh ht
      obtain ⟨q, hq, hop⟩ := fQ e
      have key : ∃ a, v = .pointer a ∧ q = a.isNone := by
        unfold AN at hq
        split at hq
        · injection hq with hq; exact ⟨none, hx.aY, hq.symm⟩
        · obtain ⟨p, _, rfl⟩ := hx.cf
          injection hq with hq; exact ⟨_, rfl, hq.symm⟩
        · injection hq with hq; exact ⟨_, hx.nX, hq.symm⟩
        · cases hq
      obtain ⟨a, rfl, rfl⟩ := key
      have hab : fO P op t (.pointer a) (.pointer none) h K = gO P op t (.pointer a) (.pointer none) K := by cases a <;> rfl
      rw [hab]
      rcases hop with ⟨rfl, rfl⟩ | ⟨rfl, rfl⟩
      · (try simp only [gO, ht]); exact hk _ (.bool _)
      · (try simp only [gO, ht]); exact hk _ (.bool _)
    · cases e
  · rw [hy.cq]
    split at e
    · rename_i ht
      obtain ⟨el, ht⟩ := wz ht
      obtain ⟨q, hq, hop⟩ := fQ e
      have key : ∃ a m c, v = .slice a m c ∧ q = a.isNone := by
        unfold AP at hq
        split at hq
        · injection hq with hq; exact ⟨none, _, _, hx.cq, hq.symm⟩
        · obtain ⟨p, C, _, rfl, _⟩ := hx.dt
          injection hq with hq; exact ⟨_, _, _, rfl, hq.symm⟩
        · obtain ⟨p, x, C, _, rfl, _⟩ := hx.gC
          injection hq with hq; exact ⟨_, _, _, rfl, hq.symm⟩
        · cases hq
      obtain ⟨a, m, c, rfl, rfl⟩ := key
      rcases hop with ⟨rfl, rfl⟩ | ⟨rfl, rfl⟩
      · (try simp only [fO, gO, ht]); exact hk _ (.bool _)
      · (try simp only [fO, gO, ht]); exact hk _ (.bool _)
    · cases e
  · rename_i xs ys
    obtain ⟨vs, rfl, h1⟩ := hx.eQ
    obtain ⟨us, rfl, h2⟩ := hy.eQ
    obtain ⟨q, hq, hop⟩ := fQ e
    have key : oo P t vs us = some q := by
      simp only [Option.bind_eq_some_iff] at hq
      obtain ⟨l, hl, hq⟩ := hq
      simp only [oo, hl, Option.bind_some]
      exact jo h1 h2 l q hq
    rcases hop with ⟨rfl, rfl⟩ | ⟨rfl, rfl⟩
    · (try simp only [fO, gO, key]); exact hk _ (.bool _)
    · (try simp only [fO, gO, key]); exact hk _ (.bool _)
  · cases e
theorem qJ {op : UnOp} {x r : AV} {v : Value} (hx : VR φ x v) (e : eun op x = some r) (hk : ∀ u, VR φ r u → K u) : aun op v K := by
  unfold eun at e
  split at e
  · rw [hx.bz]; injection e with e; subst e; exact hk _ (.bool _)
  · rw [hx.bF]; injection e with e; subst e; exact hk _ (.int _ _)
  · rw [hx.bF]; injection e with e; subst e; exact hk _ (.int _ _)
  · cases e
theorem j0 {t : TypeId} {l : List AV} {off : Nat} {r : AV} {cs : Array Value} (hl : VRs φ l cs.toList) (e : qE P t l off = some r) (hk : ∀ u, VR φ r u → K u) : iZ P t cs off K := by
  unfold qE at e
  split at e
  · rename_i hg
    obtain ⟨v, h1, h2⟩ := hl.at (by rw [← dY]; exact e)
    rw [Array.getElem?_toList] at h1
    (try simp only [iZ, hg, h1])
    exact hk v h2
  · rename_i hg
    split at e
    · rename_i m hm
      simp only [Option.map_eq_some_iff] at e
      obtain ⟨l', e1, rfl⟩ := e
      obtain ⟨h1, rfl⟩ := a8 e1
      (try simp only [iZ, hg, hm])
      refine hk _ (.agg ?_)
      have := (hl.drop off).take m
      rw [Array.toList_extract, List.extract_eq_take_drop]
      rw [show off + m - off = m from by omega]
      exact this
    · cases e
  · cases e
theorem rW {s : TypeId} {x r : AV} {i : Nat} {v : Value} (hx : VR φ x v) (e : wq P s x i = some r) (hk : ∀ u, VR φ r u → K u) : lp P s v i K := by
  unfold wq at e
  split at e
  · rename_i l t off ht
    obtain ⟨cs, rfl, h1⟩ := hx.eQ
    (try simp only [lp, ht])
    exact j0 h1 e hk
  · cases e
theorem mY {s : TypeId} {x r : AV} {i : Nat} {v : Value} (hx : VR φ x v) (e : lA P s x i = some r) (hk : ∀ u, VR φ r u → K u) : dy P s v i K := by
  unfold lA at e
  split at e
  · rename_i b o t off ht
    obtain ⟨p, hp, rfl⟩ := hx.cf
    injection e with e; subst e
    (try simp only [dy, ht])
    rw [Nat.add_assoc]
    exact hk _ (.ptr hp)
  · rename_i l o t off ht
    obtain ⟨q, y, hq, rfl, hl⟩ := hx.rT
    injection e with e; subst e
    (try simp only [dy, ht])
    rw [Nat.add_assoc]
    exact hk _ (.fa hq hl)
  · cases e
theorem j9 {ix : AV} {len i : Nat} {v : Value} (hx : VR φ ix v) (e : eix ix len = some i) : i < len ∧ ∃ k, v = .int k (i : Int) := by
  unfold eix at e
  split at e
  · rename_i k j
    split at e
    · rename_i hb
      injection e with e; subst e
      exact ⟨by simpa [Nat.blt_eq] using hb, k, hx.bF⟩
    · cases e
  · cases e
theorem mZ {t : TypeId} {x ix r : AV} {v u : Value} (hx : VR φ x v) (hi : VR φ ix u) (e : lB P t x ix = some r) (hk : ∀ u, VR φ r u → K u) : bO P t v u K := by
  unfold lB at e
  split at e
  · rename_i el b o m c k hu
    obtain ⟨p, C, hp, rfl, _, _⟩ := hx.dt
    split at e
    · rename_i i es e1 e2
      obtain ⟨h1, kk, rfl⟩ := j9 hi e1
      injection e with e; subst e
      (try simp only [bO, hu, e2])
      refine ⟨by omega, by omega, ?_⟩
      rw [Int.toNat_natCast, Nat.add_assoc]
      exact hk _ (.ptr hp)
    · cases e
  · rename_i len el b o hu
    obtain ⟨p, hp, rfl⟩ := hx.cf
    split at e
    · rename_i i es e1 e2
      obtain ⟨h1, kk, rfl⟩ := j9 hi e1
      injection e with e; subst e
      (try simp only [bO, hu, e2])
      refine ⟨by omega, by omega, ?_⟩
      rw [Int.toNat_natCast, Nat.add_assoc]
      exact hk _ (.ptr hp)
    · cases e
  · cases e
theorem rX {t : TypeId} {x ix r : AV} {v u : Value} (hx : VR φ x v) (hi : VR φ ix u) (e : wu P t x ix = some r) (hk : ∀ u, VR φ r u → K u) : gj P t v u K := by
  unfold wu at e
  split at e
  · rename_i len el l hu
    obtain ⟨cs, rfl, hl⟩ := hx.eQ
    split at e
    · rename_i i es e1 e2
      obtain ⟨h1, kk, rfl⟩ := j9 hi e1
      (try simp only [gj, hu, e2])
      refine ⟨by omega, by omega, ?_⟩
      rw [Int.toNat_natCast]
      exact j0 hl e hk
    · cases e
  · rename_i s hu
    obtain ⟨rfl, hs⟩ := hx.bZ
    split at e
    · rename_i i e1
      obtain ⟨h1, kk, rfl⟩ := j9 hi e1
      simp only [Option.map_eq_some_iff, dY] at e
      obtain ⟨c, hc, rfl⟩ := e
      have h2 := hs c (List.mem_of_getElem? hc)
      simp only [gj, hu, b6, Int.toNat_natCast, List.getElem?_map, hc, Option.map_some]
      refine ⟨by omega, hk _ ?_⟩
      have : ((UInt8.ofNat c).toNat : Int) = Int.ofNat c := by
        rw [UInt8.toNat_ofNat', Nat.mod_eq_of_lt h2]; rfl
      rw [this]; exact .int _ _
    · cases e
  · cases e
theorem oU {x r : AV} {i : Nat} {v : Value} (hx : VR φ x v) (e : oN x i = some r) (hk : ∀ u, VR φ r u → K u) : gP v i K := by
  unfold oN at e
  split at e
  · rename_i l
    obtain ⟨cs, rfl, hl⟩ := hx.dH
    obtain ⟨v, h1, h2⟩ := hl.at (by rw [← dY]; exact e)
    rw [Array.getElem?_toList] at h1
    (try simp only [gP, h1])
    exact hk v h2
  · cases e
theorem jr (hr : HR φ H n h0 h) {t : TypeId} {x r : AV} {v : Value} (hx : VR φ x v) (e : za P t x H = some r) (hk : ∀ u, VR φ r u → K u) : jc P t v h K := by
  unfold za at e
  split at e
  · rename_i s hu
    obtain ⟨rfl, _⟩ := hx.bZ
    injection e with e; subst e
    (try simp only [jc, hu, eB])
    exact hk _ (.int _ _)
  · rename_i el hu
    rw [hx.cq]
    injection e with e; subst e
    (try simp only [jc, hu])
    exact hk _ (.int _ _)
  · rename_i el b hu
    obtain ⟨p, x, C, _, rfl, _⟩ := hx.gC
    injection e with e; subst e
    (try simp only [jc, hu])
    exact hk _ (.int _ _)
  · rename_i el b o m c k hu
    obtain ⟨p, C, hp, rfl, _, _⟩ := hx.dt
    injection e with e; subst e
    (try simp only [jc, hu])
    exact hk _ (.int _ _)
  · rename_i m el x hu
    injection e with e; subst e
    (try simp only [jc, hu])
    exact hk _ (.int _ _)
  · rename_i k el b hu
    obtain ⟨p, hp, rfl⟩ := hx.kR
    split at e
    · rename_i es hb
      obtain ⟨ob, hB, hf, ms, cl, rfl, h1, _⟩ := hr.of hb hp
      injection e with e; subst e
      have := MR.length h1
      (try simp only [jc, hu, hf])
      rw [show (ms.size : Int) = (es.length : Int) from by simp [this]]
      exact hk _ (.int _ _)
    · cases e
  · cases e
theorem m0 {q : Bool} {x y r : AV} {v u : Value} (hx : VR φ x v) (hy : VR φ y u) (e : emm q x y = some r) (hk : ∀ u, VR φ r u → K u) : fH q v u K := by
  unfold emm at e
  split at e
  · rw [hx.bF, hy.bF]
    injection e with e; subst e
    exact hk _ (.int _ _)
  · cases e
end
end Go.Proofs.Ytapjijhjnloimaa
namespace Go.Proofs.Ytapjijhjnloimaa
open Go Go.RowKit
section
variable {P : Program} {φ : Ph} {H : AH} {n : Nat} {h0 h : Hp} {K : Value → Prop} {σ : AE} {ρ : Env}
theorem dq (hf : FR φ σ ρ) {x : Option Operand} {d i : Nat} (e : jl (x.map (eev σ)) d = some i) (d' : Int) (hd : x = none → (i : Int) = d') : bnd (x.map ρ.ev) d' = some (i : Int) := by
  cases x with
  | none => simp only [Option.map_none, bnd]; rw [hd rfl]
  | some y =>
    simp only [Option.map_some, jl] at e
    have hy := hf.ev y
    split at e
    · rename_i q; cases q
    · rename_i k j q
      injection e with e; subst e
      injection q with q
      rw [q] at hy
      simp only [Option.map_some, hy.bF, bnd]
      rfl
    · cases e
theorem cg {d i : Nat} (e : jl none d = some i) : i = d := by injection e with e; exact e.symm
theorem isSome_map {α β : Type} (f : α → β) (x : Option α) : (x.map f).isSome = x.isSome := by cases x <;> rfl
theorem gE (B o l hh m k : Nat) : eK (some ⟨B, o, none⟩) l hh m k = .slice (some ⟨B, if m = l then o else o + l * k, none⟩) (hh - l) (m - l) := by
  unfold eK
  split
  · rfl
  · simp only [Option.map_some, gN]
theorem js (hf : FR φ σ ρ) {t : TypeId} {x r : AV} {v : Value} {lo hi mx : Option Operand} (hx : VR φ x v) (e : fm P t x (lo.map (eev σ)) (hi.map (eev σ)) (mx.map (eev σ)) = some r) (hk : ∀ u, VR φ r u → K u) :
    cn P t v (lo.map ρ.ev) (hi.map ρ.ev) (mx.map ρ.ev) K := by
  unfold fm at e
  split at e
  ·
    rename_i s
    obtain ⟨rfl, hs⟩ := hx.bZ
    split at e
    · rename_i l hh hu hmx el eh
      split at e
      · rename_i hc
        injection e with e; subst e
        have hmn : mx = none := by cases mx with | none => rfl | some y => cases hmx
        subst hmn
        have e1 := dq hf el 0 (fun q => by subst q; rw [cg el]; rfl)
        have e2 := dq hf eh ((di s).size : Int) (fun q => by subst q; rw [cg eh, eB])
        simp only [cn, hu, e1, e2, Option.map_none, Option.isSome_none]
        refine ⟨trivial, trivial, by omega, by omega, by rw [eB]; omega, ?_⟩
        rw [Int.toNat_natCast, Int.toNat_natCast, rV]
        exact hk _ (.str fun x hx => hs x (List.mem_of_mem_drop (List.mem_of_mem_take hx)))
      · cases e
    · cases e
  ·
    rw [hx.cq]
    split at e
    · rename_i el l hh m hu el' eh em
      split at e
      · rename_i hc
        obtain ⟨rfl, rfl, rfl, hmx, hsz⟩ := hc
        injection e with e; subst e
        obtain ⟨k, hsz⟩ := Option.isSome_iff_exists.1 hsz
        have e1 := dq hf el' 0 (fun q => rfl)
        have e2 := dq hf eh ((0 : Nat) : Int) (fun q => rfl)
        have e3 := dq hf em ((0 : Nat) : Int) (fun q => rfl)
        (try simp only [cn, hu, hsz, e1, e2, e3])
        rw [isSome_map, isSome_map] at hmx
        refine ⟨by rw [isSome_map, isSome_map]; exact hmx, by omega, by omega, ?_, by omega, hk _ ?_⟩
        · unfold ow; split
          · trivial
          · omega
        · exact .nsl
      · cases e
    · cases e
  ·
    rename_i b
    obtain ⟨p, x, C, hp, rfl, hx1, hx2⟩ := hx.gC
    split at e
    · rename_i el l hh hu hmx el' eh
      split at e
      · rename_i hc
        obtain ⟨rfl, rfl, hsz⟩ := hc
        injection e with e; subst e
        obtain ⟨k, hsz⟩ := Option.isSome_iff_exists.1 hsz
        have hmn : mx = none := by cases mx with | none => rfl | some y => cases hmx
        subst hmn
        have e1 := dq hf el' 0 (fun q => rfl)
        have e2 := dq hf eh ((0 : Nat) : Int) (fun q => rfl)
        simp only [cn, hu, hsz, e1, e2, Option.map_none, oQ, Option.isSome_none]
        refine ⟨fun q => (Bool.false_ne_true q).elim, by omega, by omega, ?_, by omega, hk _ ?_⟩
        · unfold ow; split
          · trivial
          · omega
        · show VR φ (.esl b) (eK (some ⟨p.B, x, none⟩) 0 0 C k)
          rw [gE, Nat.zero_mul, Nat.add_zero, ite_self]
          exact .esl hp hx1 hx2
      · cases e
    · cases e
  ·
    rename_i b o m c k
    obtain ⟨p, C, hp, rfl, hC0, hC1⟩ := hx.dt
    split at e
    · rename_i el hu
      split at e
      · rename_i es l hh mm hs el' eh em
        split at e
        · rename_i hc
          obtain ⟨h1, h2, h3⟩ := hc
          have e1 := dq hf el' 0 (fun q => by subst q; rw [cg el']; rfl)
          have e2 := dq hf eh (m : Int) (fun q => by subst q; rw [cg eh])
          have hcC : c ≤ C := by
            by_cases q : k = 0
            · rw [hC0 q]; omega
            · exact (hC1 q).1
          have ups : ∀ M : Int, (hh : Int) ≤ M → ow (hi.map ρ.ev) (hh : Int) M := fun M hM => by
            unfold ow; split
            · trivial
            · exact hM
          have exact_ : (mx.isSome = true → hi.isSome = true) → (mx = none → mm = C) → K (.slice (some ⟨p.B, p.s + (if mm = l then o else o + l * es), none⟩) (hh - l) (mm - l)) → cn P t (.slice (some ⟨p.B, p.s + o, none⟩) m C) (lo.map ρ.ev) (hi.map ρ.ev) (mx.map ρ.ev) K := fun hmx hmc hK => by
            have e3 := dq hf em (C : Int) (fun q => by rw [hmc q])
            (try simp only [cn, hu, hs, e1, e2, e3])
            refine ⟨by rw [isSome_map, isSome_map]; exact hmx, by omega, by omega, ups _ (by omega), by omega, ?_⟩
            rw [Int.toNat_natCast, Int.toNat_natCast, Int.toNat_natCast, gE]
            have : (if mm = l then p.s + o else p.s + o + l * es) = p.s + (if mm = l then o else o + l * es) := by split <;> omega
            rw [this]
            exact hK
          split at e
          · rename_i hmx
            have hmn : mx = none := by cases mx with | none => rfl | some y => cases hmx
            subst hmn
            have hm := cg em
            injection e with e; subst e
            exact exact_ (fun q => by cases q) (fun _ => by rw [hm, hC0 rfl]) (hk _ (.sl hp (fun _ => rfl) (fun q => (q rfl).elim)))
          · rename_i y hmx
            split at e
            · rename_i hhi
              injection e with e; subst e
              rw [isSome_map] at hhi
              have hmn : mx ≠ none := fun q => by subst q; cases hmx
              exact exact_ (fun _ => hhi) (fun q => (hmn q).elim) (hk _ (.sl hp (fun _ => rfl) (fun q => (q rfl).elim)))
            · cases e
          · rename_i k' hmx
            have hmn : mx = none := by cases mx with | none => rfl | some y => cases hmx
            subst hmn
            obtain ⟨_, hT⟩ := hC1 (by omega)
            split at e
            · rename_i hes
              subst hes
              have hm := cg em
              have red : K (eK (some ⟨p.B, p.s + o, none⟩) l hh C (k' + 1)) → cn P t (.slice (some ⟨p.B, p.s + o, none⟩) m C) (lo.map ρ.ev) (hi.map ρ.ev) (Option.map ρ.ev none) K := fun hK => by
                simp only [cn, hu, hs, e1, e2, Option.map_none, oQ]
                refine ⟨(fun q => by cases q), by omega, by omega, ups _ (by omega), by omega, ?_⟩
                rw [Int.toNat_natCast, Int.toNat_natCast, Int.toNat_natCast]
                exact hK
              refine red ?_
              rw [gE]
              split at e
              · rename_i hl
                injection e with e; subst e
                have e4 : (if C = l then p.s + o else p.s + o + l * (k' + 1)) = p.s + (o + l * (k' + 1)) := by
                  split
                  · rename_i q
                    have : l = 0 := by omega
                    subst this; omega
                  · omega
                rw [e4]
                refine hk _ (.sl hp (fun q => by omega) (fun _ => ⟨by omega, ?_⟩))
                have : l * (k' + 1) + (C - l) * (k' + 1) = C * (k' + 1) := by
                  rw [← Nat.add_mul]; congr 1; omega
                rw [Nat.add_assoc, this]; exact hT
              · rename_i hl
                injection e with e; subst e
                have : hh - l = 0 := by omega
                have hlc : l = c := by omega
                have hck : l * (k' + 1) ≤ C * (k' + 1) := Nat.mul_le_mul_right _ (by omega)
                rw [this]
                exact hk _ (.esl hp (by split <;> omega) (by rw [show C * (k' + 1) = C * k'.succ from rfl] at hck; split <;> omega))
            · cases e
          · rename_i y hmx
            split at e
            · rename_i hhi
              injection e with e; subst e
              rw [isSome_map] at hhi
              have hmn : mx ≠ none := fun q => by subst q; cases hmx
              exact exact_ (fun _ => hhi) (fun q => (hmn q).elim) (hk _ (.sl hp (fun _ => rfl) (fun q => (q rfl).elim)))
            · cases e
        · cases e
      · cases e
    · cases e
  · cases e
theorem jt {place : Nat → Option (Nat × Nat)} : ∀ (ps : List (Nat × Operand)) (cells r : List AV) (c : Array Value), FR φ σ ρ → VRs φ cells c.toList → qF place cells (ps.map fun x => (x.1, eev σ x.2)) = some r →
    ∃ r', l5 place c (ps.map fun x => (x.1, ρ.ev x.2)) = some r' ∧ VRs φ r r'.toList
  | [], cells, r, c, _, hc, e => by
    injection e with e; subst e
    exact ⟨c, rfl, hc⟩
  | x :: ps, cells, r, c, hf, hc, e => by
    simp only [List.map_cons, qF] at e
    split at e
    · cases e
    · rename_i off size hp
      split at e
      · rename_i c2 hb hset
        simp only [Bool.and_eq_true] at hb
        have hlen := Nat.eq_of_beq_eq_true hb.1
        have hv := (hf.ev x.2).cells hb.2.1
        have hle := Nat.le_of_ble_eq_true hb.2.2
        have hl := hv.length
        obtain ⟨g1, g2, g3⟩ := eA _ _ _ _ hset
        have hcl := hc.length
        have hcs : cells.length = c.size := by simpa using hcl
        have hset2 := (hc.Kz).set hset hv (by omega)
        rw [Nat.zero_add] at hset2
        have := hset2.Hv (by rw [da]; omega)
        obtain ⟨r', h1, h2⟩ := jt ps c2 r _ hf this e
        refine ⟨r', ?_, h2⟩
        simp only [List.map_cons, l5, hp]
        have hsz : x.2 = x.2 := rfl
        have h3 : (ρ.ev x.2).cells.size = size := by rw [← hlen, hl, Array.length_toList]
        rw [if_pos ⟨h3, by omega⟩]
        exact h1
      · cases e
theorem ui (hf : FR φ σ ρ) {t : TypeId} {ps : Array (Nat × Operand)} {r : List AV} (e : wv P t (ps.toList.map fun x => (x.1, eev σ x.2)) = some r) :
    ∃ r', kN P t (ps.toList.map fun x => (x.1, ρ.ev x.2)) = some r' ∧ VRs φ r r'.toList := by
  unfold wv at e
  unfold kN
  split at e
  · rename_i z hz
    (try simp only [hz])
    split at e
    · rename_i fs hu
      (try simp only [hu])
      split at e
      · rename_i hall
        rw [if_pos hall]
        exact jt _ _ _ _ hf (iM φ z) e
      · cases e
    · rename_i m el hu
      (try simp only [hu])
      split at e
      · rename_i s hs
        (try simp only [hs])
        exact jt _ _ _ _ hf (iM φ z) e
      · cases e
    · cases e
  · cases e
theorem m1 {z : List AV} {zs : List Value} (hz : VRs φ z zs) : ∀ m, VRs φ (eO z m) (bT zs m)
  | 0 => .nil
  | m + 1 => hz.append (m1 hz m)
theorem rY (hf : FR φ σ ρ) {t : TypeId} {len : Nat} {ps : Array (Nat × Operand)} {r : List AV} (e : rR P t len (ps.toList.map fun x => (x.1, eev σ x.2)) = some r) :
    ∃ el r', dd P t len (ps.toList.map fun x => (x.1, ρ.ev x.2)) = some (el, r') ∧ VRs φ r r'.toList := by
  unfold rR at e
  unfold dd
  split at e
  · rename_i el hu
    (try simp only [hu])
    split at e
    · rename_i s z hs hz
      (try simp only [hs, hz])
      split at e
      · rename_i hc
        rw [if_pos hc]
        obtain ⟨r', h1, h2⟩ := jt ps.toList _ _ (bT z.cells.toList len).toArray hf (by simpa using m1 (iM φ z) len) e
        exact ⟨el, r', by rw [h1]; rfl, h2⟩
      · cases e
    · cases e
  · cases e
theorem oV {kd : TypeDesc} {a b : AV} {v u : Value} {q : Bool} (ha : VR φ a v) (hb : VR φ b u) (e : AQ kd a b = some q) : Instr.sameNow kd v u = some q := by
  unfold AQ at e
  split at e
  · rename_i k m k' m'
    rw [ha.bF, hb.bF]
    split at e
    · rename_i hk
      injection e with e; subst e
      simp only [Instr.sameNow]
      rw [if_pos hk]
      congr 1
    · cases e
  · rename_i s r
    obtain ⟨rfl, h1⟩ := ha.bZ
    obtain ⟨rfl, h2⟩ := hb.bZ
    injection e with e; subst e
    simp only [Instr.sameNow]
    congr 1
    rw [kT s r h1 h2, Bool.eq_iff_iff, bytes_beq, beq_iff_eq]
    constructor
    · intro q
      have := congrArg ByteArray.toList q
      rwa [b6, b6] at this
    · intro q
      unfold di; rw [q]
  · cases e
theorem lE {kd : TypeDesc} {k : AV} {v : Value} (hk : VR φ k v) : ∀ (es : List (AV × AV)) (ms : List MapEntry) (i : Nat) (r : Option (Nat × AV)), MR φ es ms → qG kd k es i = some r →
    ∃ r', jE kd v ms i = some r' ∧ (match r, r' with
      | none, none => True
      | some (j, a), some (j', u) => j = j' ∧ VR φ a u
      | _, _ => False)
  | [], ms, i, r, hm, e => by
    injection e with e; subst e
    rw [show ms = [] from hm]
    exact ⟨none, rfl, trivial⟩
  | x :: es, ms, i, r, ⟨m, us, h1, h2, h3, h4⟩, e => by
    subst h1
    unfold qG at e
    split at e
    · rename_i hs
      injection e with e; subst e
      have := oV hk h2 hs
      refine ⟨some (i, m.val), by simp only [jE, this], rfl, h3⟩
    · rename_i hs
      have := oV hk h2 hs
      obtain ⟨r', g1, g2⟩ := lE hk es us (i + 1) r h4 e
      exact ⟨r', by simp only [jE, this, g1], g2⟩
    · cases e
theorem dO (hr : HR φ H n h0 h) {t : TypeId} {m k r : AV} {ok : Bool} {mv kv : Value} (hm : VR φ m mv) (hk' : VR φ k kv) (e : jm P t m k ok H = some r) (hk : ∀ u, VR φ r u → K u) : fI P t mv kv ok h K := by
  unfold jm at e
  split at e
  · rename_i b kt kd et hmk
    obtain ⟨p, hp, rfl⟩ := hm.kR
    split at e
    · rename_i es hb
      obtain ⟨ob, hB, hf, ms, cl, rfl, h1, _⟩ := hr.of hb hp
      have fin : ∀ {q}, qG kd k es 0 = some q → ∃ q', jE kd kv ms.toList 0 = some q' ∧ kP P t (.map (some p.B)) kv ok h = found (ao P et) ok q' ∧ (match q, q' with
        | none, none => True
        | some (j, a), some (j', u) => j = j' ∧ VR φ a u
        | _, _ => False) := fun {q} hq => by
        obtain ⟨q', g1, g2⟩ := lE hk' es ms.toList 0 q h1 hq
        refine ⟨q', g1, ?_, g2⟩
        simp only [kP, hmk, Option.bind_some, v7, hf, g1]
      split at e
      · rename_i j a hq
        obtain ⟨q', g1, g2, g3⟩ := fin hq
        cases q' with
        | none => exact g3.elim
        | some x =>
          obtain ⟨j', u⟩ := x
          obtain ⟨_, g3⟩ := g3
          injection e with e; subst e
          (try simp only [fI, g2, found])
          cases ok
          · exact hk _ g3
          · exact hk _ (.tup (cs := #[u, .bool true]) (.cons g3 (.cons (.bool _) .nil)))
      · rename_i hq
        obtain ⟨q', g1, g2, g3⟩ := fin hq
        cases q' with
        | some x => exact g3.elim
        | none =>
          split at e
          · rename_i z hz
            injection e with e; subst e
            simp only [fI, g2, found, hz, Option.map_some]
            cases ok
            · exact hk _ (kS z)
            · exact hk _ (.tup (cs := #[z, .bool false]) (.cons (kS z) (.cons (.bool _) .nil)))
          · cases e
      · cases e
    · cases e
  · cases e
theorem nz (hr : HR φ H n h0 h) (hf : FR φ σ ρ) {o : Op} {r : AV} (e : mg P o σ H = some r) (hk : ∀ u, VR φ r u → K u) : cK P o ρ h K := by
  unfold mg at e
  split at e
  · rename_i x
    injection e with e; subst e
    exact hk _ (hf.ev x)
  · rename_i x
    injection e with e; subst e
    exact hk _ (hf.ev x)
  · rename_i c a b
    have hc := hf.ev c
    (try simp only [cK])
    split at e
    · rename_i q
      rw [q] at hc
      rw [hc.bz]
      injection e with e; subst e
      exact hk _ (hf.ev a)
    · rename_i q
      rw [q] at hc
      rw [hc.bz]
      injection e with e; subst e
      exact hk _ (hf.ev b)
    · cases e
  · rename_i t parts
    simp only [Option.map_eq_some_iff] at e
    obtain ⟨l, e1, rfl⟩ := e
    obtain ⟨r', h1, h2⟩ := ui hf e1
    (try simp only [cK, h1])
    exact hk _ (.agg h2)
  · exact jZ hr (hf.ev _) e hk
  · rename_i x
    have hx := hf.ev x
    (try simp only [cK])
    split at e
    · rename_i b o q
      rw [q] at hx
      obtain ⟨p, hp, hv⟩ := hx.cf
      injection e with e; subst e
      rw [hv]
      exact hk _ (.ptr hp)
    · rename_i f a c q
      rw [q] at hx
      obtain ⟨a', c', hv, h1, h2⟩ := hx.lC
      injection e with e; subst e
      rw [hv]
      exact hk _ (.fn h1 h2)
    · cases e
  · exact jq hr (hf.ev _) (hf.ev _) e hk
  · exact qJ (hf.ev _) e hk
  · rename_i f first captured
    injection e with e; subst e
    refine hk _ (.fn ?_ ?_)
    · rw [Array.toList_map]; exact VRs.map hf.ev _
    · rw [Array.toList_map]; exact VRs.map hf.ev _
  · exact js hf (hf.ev _) e hk
  · exact mY (hf.ev _) e hk
  · exact rW (hf.ev _) e hk
  · exact mZ (hf.ev _) (hf.ev _) e hk
  · exact rX (hf.ev _) (hf.ev _) e hk
  · exact oU (hf.ev _) e hk
  · exact dO hr (hf.ev _) (hf.ev _) e hk
  · rename_i c
    have hm := VRs.map hf.ev c.args.toList
    (try simp only [cK])
    split at e
    · rename_i t x e1 e2 e3
      rw [e3] at hm
      obtain ⟨v, us, h1, h2, h3⟩ := hm.cons_inv
      rw [h3.aY] at h1
      (try simp only [e1, e2, h1, cz])
      exact jr hr h2 e hk
    · rename_i x y e1 e3
      rw [e3] at hm
      obtain ⟨v, us, h1, h2, h3⟩ := hm.cons_inv
      obtain ⟨u, ws, h4, h5, h6⟩ := h3.cons_inv
      rw [h4, h6.aY] at h1
      (try simp only [e1, h1, cz])
      exact m0 h2 h5 e hk
    · rename_i x y e1 e3
      rw [e3] at hm
      obtain ⟨v, us, h1, h2, h3⟩ := hm.cons_inv
      obtain ⟨u, ws, h4, h5, h6⟩ := h3.cons_inv
      rw [h4, h6.aY] at h1
      (try simp only [e1, h1, cz])
      exact m0 h2 h5 e hk
    · cases e
  · cases e
end
end Go.Proofs.Ytapjijhjnloimaa
namespace Go.Proofs.Ytapjijhjnloimaa
open Go Go.RowKit
theorem ze {φ : Ph} {a : AV} {v : Value} (h : VR φ a v) (e : me a = true) : v.oneCell' = true := by
  cases a <;> simp only [me] at e
  case agg => cases e
  case tup => cases e
  case bad => cases e
  case any u => rw [h.nX]; exact e
  case si => rw [h.dW]; rfl
  case rw =>
    rcases h.dX with ⟨_, he⟩ | ⟨p, y, C, _, rfl, _⟩
    · obtain ⟨a, rfl⟩ := he.is; rfl
    · rfl
  case fr => obtain ⟨a, C, rfl⟩ := h.AU; rfl
  case fa => obtain ⟨q, x, _, rfl, _⟩ := h.rT; rfl
  case sb => rw [h.gk]; rfl
  case ss => rw [h.mW.1]; rfl
  case sy => obtain ⟨p, C, _, rfl, _⟩ := h.rS; rfl
  case int => rw [h.bF]; rfl
  case str => rw [h.bZ.1]; rfl
  case bool => rw [h.bz]; rfl
  case nil => rw [h.aY]; rfl
  case ptr => obtain ⟨p, _, rfl⟩ := h.cf; rfl
  case nsl => rw [h.cq]; rfl
  case sl => obtain ⟨p, C, _, rfl, _⟩ := h.dt; rfl
  case esl => obtain ⟨p, x, C, _, rfl, _⟩ := h.gC; rfl
  case fn => obtain ⟨p, q, rfl, _⟩ := h.lC; rfl
  case map => obtain ⟨p, _, rfl⟩ := h.kR; rfl
theorem iN {φ : Ph} : ∀ {l : List AV} {vs : List Value}, VRs φ l vs → l.all me = true → vs.all Value.oneCell' = true
  | [], vs, h, _ => by rw [h.aY]; rfl
  | a :: l, vs, h, e => by
    obtain ⟨v, us, rfl, h1, h2⟩ := h.cons_inv
    simp only [List.all_cons, Bool.and_eq_true] at e ⊢
    exact ⟨ze h1 e.1, iN h2 e.2⟩
theorem CR.append {φ : Ph} {c : Array Value} {s : Nat} {l m : List AV} (h : CR φ c s l) (k : CR φ c (s + l.length) m) : CR φ c s (l ++ m) := fun i a e => by
  by_cases hi : i < l.length
  · rw [List.getElem?_append_left hi] at e; exact h i a e
  · rw [List.getElem?_append_right (by omega)] at e
    obtain ⟨v, h1, h2⟩ := k _ a e
    exact ⟨v, by rw [← h1]; congr 1; omega, h2⟩
theorem CR.drop {φ : Ph} {c : Array Value} {s o m : Nat} {l : List AV} (h : CR φ c s l) : CR φ c (s + o) ((l.drop o).take m) := fun i a e => by
  rw [List.getElem?_take] at e
  split at e
  · rw [List.getElem?_drop] at e
    obtain ⟨v, h1, h2⟩ := h _ a e
    exact ⟨v, by rw [← h1]; congr 1; omega, h2⟩
  · cases e
theorem CR.kept {φ : Ph} {c : Array Value} {s o : Nat} {l : List AV} {vs : List Value} (h : CR φ c s l) (ho : s + l.length ≤ o) : CR φ (cP c o vs) s l := fun i a e => by
  have := (List.getElem?_eq_some_iff.1 e).1
  rw [jn, if_neg (by omega)]
  exact h i a e
theorem CR.wrote {φ : Ph} {c : Array Value} {o : Nat} {l : List AV} {vs : List Value} (h : VRs φ l vs) (ho : o + l.length ≤ c.size) : CR φ (cP c o vs) o l := fun i a e => by
  have hi := (List.getElem?_eq_some_iff.1 e).1
  obtain ⟨v, h1, h2⟩ := h.at e
  have := h.length
  refine ⟨v, ?_, h2⟩
  rw [jn, if_pos (by omega), show o + i - o = i from by omega]
  exact h1
theorem lY.sub {fz : Nat × Nat} {o m o' m' : Nat} (h : lY fz o m) (h2 : o' + m' ≤ o + m) : lY fz o' m' := by
  unfold lY at *; omega
def mj (φ : Ph) (h0 : Hp) (v : AV) (H : AH) (n : Nat) (K : KH) : Prop := ∀ (ψ : Ph) (u : Value) (g : Hp), PLe φ ψ → HR ψ H n h0 g → VR ψ v u → K u g
section
variable {P : Program} {φ : Ph} {H H' : AH} {n n' : Nat} {h0 h : Hp} {K : KH} {σ : AE} {ρ : Env} {r : AV}
theorem oW (hr : HR φ H n h0 h) {l : List AV} {cs : Array Value} {el : TypeId} (hc : VRs φ l cs.toList) (e : DC l H n = some (r, H', n')) (hk : mj φ h0 r H' n' K) : Aq el cs h K := by
  unfold DC at e
  injection e with e; injection e with e1 e2; injection e2 with e2 e3
  subst e1 e2 e3
  have hl : l.length = cs.size := by simpa using hc.length
  have ho : OR (df φ n ⟨h.n, 0, cs.size⟩) ⟨h.n, 0, cs.size⟩ (.cells l true) (.cells cs el (0, 0)) :=
    ⟨cs, el, (0, 0), rfl, by simp only; omega, by simp only; omega, ff _ _, fun _ => rfl, CR.mono (hr.ple _) (CR.of' hc)⟩
  exact hk _ _ _ (hr.ple _) (hr.new ho aa) (.ptr (bf _ _ _))
theorem ml (hr : HR φ H n h0 h) {t : TypeId} {a x : AV} {av xv : Value} (ha : VR φ a av) (hx : VR φ x xv) (e : rQ P t a x H n = some (r, H', n')) (hk : mj φ h0 r H' n' K) : jO P t av xv h K := by
  unfold rQ at e
  split at e
  · rename_i b o
    obtain ⟨p, hp, rfl⟩ := ha.cf
    split at e
    · rename_i l z s hb hs
      obtain ⟨ob, hB, hf, c, ty, fz, rfl, h1, h2, h3, h4, h5⟩ := hr.of hb hp
      split at e
      · rename_i l' hq hset
        simp only [Bool.and_eq_true] at hq
        have hlen := Nat.eq_of_beq_eq_true hq.1
        have hc := hx.cells hq.2.1
        have hcl := hc.length
        have hcl2 : xv.cells.size = s := by rw [← hlen, hcl, Array.length_toList]
        obtain ⟨g1, g2, g3⟩ := eA _ _ _ _ hset
        injection e with e; injection e with e1 e2; injection e2 with e2 e3
        subst e1 e2 e3
        (try simp only [jO, hf])
        refine ⟨by rw [hs, hcl2], iN hc hq.2.2, by omega, h3.sub (by omega), ?_⟩
        refine hk _ _ _ (PLe.refl _) (hr.put hb hp ?_ aa) .undef
        exact ⟨_, ty, fz, rfl, by omega, by rw [da]; omega, h3, h4, h5.set hset hc (by omega)⟩
      · cases e
    · cases e
  · cases e
theorem ik : ∀ (l : List AV) (s : List Nat) (vs : List Value), VRs φ l vs → gU l = some s → bytesOf vs = some (s.map UInt8.ofNat) ∧ ∀ x ∈ s, x < 256
  | [], s, vs, h, e => by
    rw [h.aY]
    injection e with e; subst e
    exact ⟨rfl, fun _ hx => by cases hx⟩
  | a :: l, s, vs, h, e => by
    unfold gU at e
    split at e
    · rename_i q; cases q
    · rename_i m l' q
      injection q with q1 q2
      subst q1 q2
      obtain ⟨v, us, rfl, g1, g2⟩ := h.cons_inv
      rw [g1.bF]
      split at e
      · rename_i hlt
        have hlt : m < 256 := by simpa [Nat.blt_eq] using hlt
        simp only [Option.map_eq_some_iff] at e
        obtain ⟨s', e1, rfl⟩ := e
        obtain ⟨i1, i2⟩ := ik l s' us g2 e1
        refine ⟨?_, fun x hx => ?_⟩
        · (try simp only [bytesOf])
          rw [if_pos (by constructor <;> simp only [Int.ofNat_eq_natCast] <;> omega), i1]
          simp
        · rcases List.mem_cons.1 hx with rfl | hx
          · exact hlt
          · exact i2 x hx
      · cases e
    · rename_i m l' q
      injection q with q1 q2
      subst q1 q2
      obtain ⟨v, us, rfl, g1, g2⟩ := h.cons_inv
      rw [g1.dW]
      split at e
      · rename_i hlt
        have hlt : m < 256 := by simpa [Nat.blt_eq] using hlt
        simp only [Option.map_eq_some_iff] at e
        obtain ⟨s', e1, rfl⟩ := e
        obtain ⟨i1, i2⟩ := ik l s' us g2 e1
        refine ⟨?_, fun x hx => ?_⟩
        · (try simp only [bytesOf])
          rw [if_pos (by constructor <;> simp only [Int.ofNat_eq_natCast] <;> omega), i1]
          simp
        · rcases List.mem_cons.1 hx with rfl | hx
          · exact hlt
          · exact i2 x hx
      · cases e
    · cases e
theorem iC {s : List Nat} (hs : ∀ x ∈ s, x < 256) : (cW (di s)).toList = s.map fun c => .int .u8 (Int.ofNat c) := by
  simp only [cW, di, Array.toList_map, List.map_map]
  apply List.map_congr_left
  intro c hc
  simp only [Function.comp]
  congr 1
  rw [UInt8.toNat_ofNat', Nat.mod_eq_of_lt (hs c hc)]; rfl
theorem VRs.bytes (φ : Ph) (s : List Nat) : VRs φ (s.map fun c => .int .u8 (Int.ofNat c)) (s.map fun c => .int .u8 (Int.ofNat c)) := VRs.map (fun c => .int _ _) s
theorem ke (hr : HR φ H n h0 h) {src dst : TypeId} {x : AV} {xv : Value} (hx : VR φ x xv) (e : ua P src dst x H n = some (r, H', n')) (hk : mj φ h0 r H' n' K) : ew P src dst xv h K := by
  unfold ua at e
  split at e
  · rename_i k1 k2 k a h1 h2
    rw [hx.bF]
    injection e with e; injection e with e1 e2; injection e2 with e2 e3
    subst e1 e2 e3
    (try simp only [ew, h1, h2])
    exact hk _ _ _ (PLe.refl _) hr (.int _ _)
  · rename_i s h1 h2
    obtain ⟨rfl, hs⟩ := hx.bZ
    injection e with e; injection e with e1 e2; injection e2 with e2 e3
    subst e1 e2 e3
    (try simp only [ew, h1, h2])
    exact hk _ _ _ (PLe.refl _) hr (.str hs)
  · rename_i el s h1 h2
    obtain ⟨rfl, hs⟩ := hx.bZ
    split at e
    · rename_i he
      injection e with e; injection e with e1 e2; injection e2 with e2 e3
      subst e1 e2 e3
      (try simp only [ew, h1, h2])
      refine ⟨he, fun cap hcap => ?_⟩
      rw [eB] at hcap ⊢
      have hsz : (cW (di s) ++ Array.replicate (cap - s.length) (Value.int .u8 0)).size = cap := by
        have : (cW (di s)).size = s.length := by rw [← Array.length_toList, iC hs]; simp
        rw [Array.size_append, this, Array.size_replicate]; omega
      have ho : OR (df φ n ⟨h.n, 0, cap⟩) ⟨h.n, 0, cap⟩ (.cells (s.map fun c => .int .u8 (Int.ofNat c)) false) (.cells (cW (di s) ++ Array.replicate (cap - s.length) (.int .u8 0)) el (cap, cap + 1)) := by
        refine ⟨_, el, _, rfl, by simpa using hcap, by simp only [hsz]; omega, .inr (by simp only; omega), (fun q => by cases q), ?_⟩
        have := CR.of (φ := df φ n ⟨h.n, 0, cap⟩) (VRs.bytes _ s) (Array.replicate (cap - s.length) (Value.int .u8 0)).toList
        rw [← iC hs] at this
        have e2 : ((cW (di s)).toList ++ (Array.replicate (cap - s.length) (Value.int .u8 0)).toList).toArray = cW (di s) ++ Array.replicate (cap - s.length) (Value.int .u8 0) := by
          apply Array.ext'; simp
        rwa [e2] at this
      have := hk _ (.slice (some ⟨h.n, 0 + 0, none⟩) s.length cap) _ (hr.ple _) (hr.new ho aa) (.sl (bf _ _ _) (fun q => absurd q (by decide)) (fun _ => ⟨hcap, by simp⟩))
      exact this
    · cases e
  · rename_i el h1 h2
    rw [hx.cq]
    split at e
    · rename_i he
      injection e with e; injection e with e1 e2; injection e2 with e2 e3
      subst e1 e2 e3
      (try simp only [ew, h1, h2])
      exact ⟨he, hk _ _ _ (PLe.refl _) hr (.str (s := []) (fun _ hx => by cases hx))⟩
    · cases e
  · rename_i el b o len c k h1 h2
    obtain ⟨p, C, hp, rfl, _, _⟩ := hx.dt
    split at e
    · rename_i l z he hb
      obtain ⟨ob, hB, hf, c', ty, fz, rfl, _, _, _, _, h5⟩ := hr.of hb hp
      simp only [Option.map_eq_some_iff, Option.bind_eq_some_iff, Prod.mk.injEq] at e
      obtain ⟨s, ⟨l', e1, e2⟩, rfl, rfl, rfl⟩ := e
      obtain ⟨vs, g1, g2⟩ := h5.sub e1
      obtain ⟨g3, g4⟩ := ik l' s vs g2 e2
      simp only [ew, h1, h2, hf, g1, Option.bind_some, g3]
      exact ⟨he, hk _ _ _ (PLe.refl _) hr (.str g4)⟩
    · cases e
  · cases e
theorem kf (hr : HR φ H n h0 h) {t : TypeId} {x y : AV} {xv yv : Value} (hx : VR φ x xv) (hy : VR φ y yv) (e : oO P t x y H n = some (r, H', n')) (hk : mj φ h0 r H' n' K) : oA P t xv yv h K := by
  unfold oO at e
  split at e
  · rename_i el k1 l k2 c hu
    rw [hx.bF, hy.bF]
    split at e
    · rename_i k by' z hs hb hz
      split at e
      · rename_i hc
        obtain ⟨g1, g2, g3, g4⟩ := hc
        injection e with e; injection e with e1 e2; injection e2 with e2 e3
        subst e1 e2 e3
        (try simp only [oA, hu, hs, hb, hz])
        have hb2 : (by' : Int) * Int.ofNat c ≤ 281474976710656 := by
          have : ((by' * c : Nat) : Int) ≤ 281474976710656 := by omega
          rwa [Int.natCast_mul] at this
        refine ⟨by simp only [Int.ofNat_eq_natCast]; omega, by simp only [Int.ofNat_eq_natCast]; omega, hb2, by simp only [Int.ofNat_eq_natCast]; omega, ?_⟩
        rw [show (Int.ofNat l).toNat = l from rfl, show (Int.ofNat c).toNat = c from rfl]
        have hcp : madeCells z.cells (c * k) = (bT z.cells.toList c).toArray := by rw [← g4]; exact fh _ _
        rw [hcp]
        have hv := m1 (iM φ z) c
        have hl := hv.length
        have ho : OR (df φ n ⟨h.n, 0, (bT z.cells.toList c).length⟩) ⟨h.n, 0, (bT z.cells.toList c).length⟩ (.cells (eO (ofV z).cells c) true) (.cells (bT z.cells.toList c).toArray el (0, 0)) :=
          ⟨_, el, _, rfl, by simp only; omega, by simp, ff _ _, fun _ => rfl, CR.mono (hr.ple _) (CR.of' (by simpa using hv))⟩
        exact hk _ (.slice (some ⟨h.n, 0 + 0, none⟩) l c) _ (hr.ple _) (hr.new ho aa) (.sl (bf _ _ _) (fun _ => rfl) (fun q => (q rfl).elim))
      · cases e
    · cases e
  · cases e
theorem qK (hr : HR φ H n h0 h) {k m : Nat} {x : AV} {xv : Value} {l : List AV} (hx : VR φ x xv) (e : DD H k x = some (m, l)) : ∃ vs, bt h k xv = some (m, vs) ∧ VRs φ l vs := by
  unfold DD at e
  split at e
  · rw [hx.cq]
    injection e with e; injection e with e1 e2; subst e1 e2
    exact ⟨[], rfl, .nil⟩
  · rename_i b o m' c k'
    obtain ⟨p, C, hp, rfl, _, _⟩ := hx.dt
    split at e
    · rename_i l' z hb
      obtain ⟨ob, hB, hf, c', ty, fz, rfl, _, _, _, _, h5⟩ := hr.of hb hp
      simp only [Option.map_eq_some_iff, Prod.mk.injEq] at e
      obtain ⟨l2, e1, rfl, rfl⟩ := e
      obtain ⟨vs, g1, g2⟩ := h5.sub e1
      exact ⟨vs, by simp only [bt, hf, g1, Option.map_some], g2⟩
    · rename_i l' hb
      obtain ⟨ob, hB, hf, c', ty, fz, rfl, _, _, h5⟩ := hr.of hb hp
      simp only [Option.map_eq_some_iff, Prod.mk.injEq] at e
      obtain ⟨l2, e1, rfl, rfl⟩ := e
      obtain ⟨vs, g1, g2⟩ := h5.sub e1
      exact ⟨vs, by simp only [bt, hf, g1, Option.map_some], g2⟩
    · cases e
  · rename_i b
    obtain ⟨p, y, C, hp, rfl, _⟩ := hx.gC
    split at e
    · rename_i l' z hb
      obtain ⟨ob, hB, hf, c', ty, fz, rfl, _, _, _, _, h5⟩ := hr.of hb hp
      injection e with e; injection e with e1 e2; subst e1 e2
      exact ⟨[], by simp only [bt, hf, Nat.zero_mul, bS, Option.map_some], .nil⟩
    · cases e
  · rename_i s
    obtain ⟨rfl, hs⟩ := hx.bZ
    injection e with e; injection e with e1 e2; subst e1 e2
    refine ⟨_, by simp only [bt, eB]; rfl, ?_⟩
    rw [iC hs]
    exact VRs.bytes _ _
  · cases e
theorem iD (hr : HR φ H n h0 h) {t u : TypeId} {s x : AV} {sv xv : Value} (hs : VR φ s sv) (hx : VR φ x xv) (e : mh P t u s x H n = some (r, H', n')) (hk : mj φ h0 r H' n' K) : eL P t u sv xv h (mQ K) := by
  have wk : ∀ v g, K v g → mQ K v g := fun v g k => ⟨g, Sub.refl _, k⟩
  unfold mh at e
  split at e
  case h_2 => cases e
  rename_i el ud hu hud
  split at e
  case h_1 => cases e
  case h_3 => cases e
  rename_i ud2 _ _ _ _ k by' z hni hsz hbz hzz
  have hni' : ∀ q, ud2 ≠ .int q := fun q h => hni q h
  split at e
  case h_2 => cases e
  rename_i m new hsrc
  split at e
  case isFalse => cases e
  rename_i hc
  obtain ⟨c1, c2, c3, c4, c5⟩ := hc
  obtain ⟨nv, hn1, hn2⟩ := qK hr hx hsrc
  have hnl := hn2.length
  have hone := iN hn2 c5
  have hcpl : ∀ q, (bT z.cells.toList q).length = q * k := fun q => by rw [iB]; simp [c1]
  have grow : ∀ (old : List AV) (ov : List Value) (sn : Nat) (zz : Bool) (d : Nat) (G : AH) (ψ : Ph), ψ = φ → HR φ G n h0 h → VRs φ old ov → ov.length = sn * k → r = .sl n 0 (sn + m) (sn + m) k → H' = G.set (some (.cells (old ++ new) zz)) aa n → n' = n + 1 → xy el z (sn + m) ov nv h (mQ K) := by
    intro old ov sn zz d G ψ hψ hG ho hol hre hHe hne cap hcap
    subst hre hHe hne
    refine wk _ _ ?_
    have hlen : (ov ++ (nv ++ bT z.cells.toList (cap - (sn + m)))).length = cap * k := by
      simp only [List.length_append, hol, ← hnl, c4, hcpl]
      rw [← Nat.add_mul, ← Nat.add_mul]; congr 1; omega
    have hor : OR (df φ n ⟨h.n, 0, cap * k⟩) ⟨h.n, 0, cap * k⟩ (.cells (old ++ new) zz) (.cells (ov ++ (nv ++ bT z.cells.toList (cap - (sn + m)))).toArray el (0, 0)) := by
      refine ⟨_, el, _, rfl, ?_, by simp only [List.size_toArray, hlen]; omega, ff _ _, fun _ => rfl, ?_⟩
      · have := ho.length
        simp only [List.length_append, c4, this, hol]
        rw [← Nat.add_mul]; exact Nat.mul_le_mul_right k hcap
      · rw [← List.append_assoc]
        exact CR.mono (hG.ple _) (CR.of (ho.append hn2) _)
    have := hk _ (.slice (some ⟨h.n, 0 + 0, none⟩) (sn + m) cap) _ (hG.ple _) (hG.new hor aa) (.sl (bf _ _ _) (fun q => by omega) (fun _ => ⟨hcap, by simp⟩))
    exact this
  have fin : ∀ {base : Option Addr} {sLen sCap : Nat}, (sLen + m ≤ sCap → nr base k sLen m sCap nv h (mQ K)) → (sCap < sLen + m → (sLen + m) * by' ≤ 140737488355328 ∧ ∃ old, bt h k (.slice base sLen sCap) = some (sLen, old) ∧ xy el z (sLen + m) old nv h (mQ K)) → eL P t u (.slice base sLen sCap) xv h (mQ K) := fun a b =>
    ⟨el, ud2, k, by', z, m, nv, hu, hud, hni', hsz, hbz, hzz, c1, c2, hn1, a, b⟩
  split at e
  ·
    rw [hs.cq]
    split at e
    · injection e with e; injection e with e1 e2; injection e2 with e2 e3
      subst e1 e2 e3
      refine fin (fun _ => wk _ _ ?_) (fun q => by omega)
      exact hk _ _ _ (PLe.refl _) hr .nsl
    · rename_i hm0
      split at e
      · rename_i hby
        injection e with e; injection e with e1 e2; injection e2 with e2 e3
        refine fin (fun q => ?_) (fun _ => ⟨by simpa using hby, [], rfl, ?_⟩)
        · have : m = 0 := by omega
          exact (hm0 this).elim
        · exact grow [] [] 0 true aa H φ rfl hr .nil (by simp) (by rw [← e1]; simp) (by rw [← e2]; simp) e3.symm
      · cases e
  · rename_i b o sn c sk
    obtain ⟨p, C, hp, rfl, hC0, hC1⟩ := hs.dt
    have hcC : c ≤ C := by
      by_cases q : sk = 0
      · rw [hC0 q]; omega
      · exact (hC1 q).1
    split at e
    case h_2 => cases e
    rename_i l z' hb
    obtain ⟨ob, hB, hf, cc, ty, fz, rfl, h1, h2, h3, h4, h5⟩ := hr.of hb hp
    split at e
    · rename_i hle
      split at e
      · rename_i l' hset
        obtain ⟨g1, g2, g3⟩ := eA _ _ _ _ hset
        injection e with e; injection e with e1 e2; injection e2 with e2 e3
        subst e1 e2 e3
        refine fin (fun _ => ?_) (fun q => by omega)
        (try simp only [nr, hf])
        refine ⟨hone, by omega, h3.sub (by omega), wk _ _ ?_⟩
        refine hk _ _ _ (PLe.refl _) (hr.put hb hp ?_ aa) (.sl hp hC0 hC1)
        refine ⟨_, ty, fz, rfl, by omega, by rw [da]; omega, h3, h4, ?_⟩
        rw [Nat.add_assoc]
        exact h5.set hset hn2 (by omega)
      · cases e
    · rename_i hgt
      split at e
      case isFalse => cases e
      rename_i hby
      split at e
      · rename_i old hold
        injection e with e; injection e with e1 e2; injection e2 with e2 e3
        obtain ⟨ov, g1, g2⟩ := h5.sub hold
        have hol : ov.length = sn * k := by
          have := g2.length
          obtain ⟨q1, rfl⟩ := a8 hold
          rw [← this]; simp; omega
        have := hC0 rfl
        refine fin (fun q => by omega) (fun _ => ⟨hby, ov, by simp only [bt, hf, g1, Option.map_some], ?_⟩)
        exact grow old ov sn true aa H φ rfl hr g2 hol e1.symm e2.symm e3.symm
      · rename_i old sk' hold
        split at e
        case isFalse => cases e
        rename_i hsk
        obtain ⟨_, hT⟩ := hC1 (by omega)
        rw [hsk] at hT
        injection e with e; injection e with e1 e2; injection e2 with e2 e3
        obtain ⟨ov, g1, g2⟩ := h5.sub hold
        obtain ⟨q1, hold2⟩ := a8 hold
        have hol2 : old.length = sn * k := by subst hold2; simp; omega
        have hol : ov.length = sn * k := by
          have := g2.length
          omega
        refine fin (fun hstay => ?_) (fun _ => ⟨hby, ov, by simp only [bt, hf, g1, Option.map_some], ?_⟩)
        · subst e1 e2 e3
          (try simp only [nr, hf])
          have hCk : (sn + m) * k ≤ C * k := Nat.mul_le_mul_right k hstay
          have hadd : (sn + m) * k = sn * k + m * k := Nat.add_mul _ _ _
          refine ⟨hone, by omega, h3.sub (by omega), wk _ _ ?_⟩
          have hor : OR (df φ n ⟨p.B, p.s + o, C * k⟩) ⟨p.B, p.s + o, C * k⟩ (.cells (old ++ new) z') (.cells (cP cc (p.s + o + sn * k) nv) ty fz) := by
            refine ⟨_, ty, fz, rfl, by simp only [List.length_append]; omega, by rw [da]; simp only; omega, h3.sub (by simp only; omega), h4, CR.mono (hr.ple _) (CR.append ?_ ?_)⟩
            · subst hold2
              exact CR.kept (CR.drop h5) (by simp only; omega)
            · simp only
              rw [hol2]
              exact CR.wrote hn2 (by omega)
          have := hk _ (.slice (some ⟨p.B, p.s + o + 0, none⟩) (sn + m) C) _ (hr.ple _) (hr.rename (q := ⟨p.B, p.s + o, C * k⟩) hb hp rfl hor aa aa) (.sl (p := ⟨p.B, p.s + o, C * k⟩) (bf _ _ _) (fun q => by omega) (fun _ => ⟨hstay, by simp⟩))
          exact this
        · exact grow old ov sn z' aa _ φ rfl (hr.kill aa b) g2 hol e1.symm e2.symm e3.symm
      · cases e
  · cases e
theorem wA {x : AV} {v : Value} {m : Nat} (hx : VR φ x v) (e : xz x = some m) : As v = some m := by
  unfold xz at e
  split at e
  · rw [hx.cq]; exact e
  · obtain ⟨p, C, _, rfl, _⟩ := hx.dt; exact e
  · obtain ⟨p, y, C, _, rfl, _⟩ := hx.gC; exact e
  · obtain ⟨rfl, _⟩ := hx.bZ; simp only [As, eB]; exact e
  · cases e
theorem uj (hr : HR φ H n h0 h) {k q : Nat} {x : AV} {xv : Value} {l : List AV} (hx : VR φ x xv) (e : wx H k q x = some l) : ∃ vs, gR h k q xv = some vs ∧ VRs φ l vs := by
  unfold wx at e
  split at e
  · rw [hx.cq]
    injection e with e; subst e
    exact ⟨[], rfl, .nil⟩
  · rename_i b o m' c k'
    obtain ⟨p, C, hp, rfl, _, _⟩ := hx.dt
    split at e
    · rename_i l' z hb
      obtain ⟨ob, hB, hf, c', ty, fz, rfl, _, _, _, _, h5⟩ := hr.of hb hp
      obtain ⟨vs, g1, g2⟩ := h5.sub e
      exact ⟨vs, by simp only [gR, hf, g1], g2⟩
    · rename_i l' hb
      obtain ⟨ob, hB, hf, c', ty, fz, rfl, _, _, h5⟩ := hr.of hb hp
      obtain ⟨vs, g1, g2⟩ := h5.sub e
      exact ⟨vs, by simp only [gR, hf, g1], g2⟩
    · cases e
  · rename_i b
    obtain ⟨p, y, C, hp, rfl, _⟩ := hx.gC
    split at e
    · rename_i l' z hb
      obtain ⟨ob, hB, hf, c', ty, fz, rfl, _, _, _, _, h5⟩ := hr.of hb hp
      injection e with e; subst e
      exact ⟨[], by simp only [gR, hf, Nat.zero_mul, bS], .nil⟩
    · rename_i l' hb
      obtain ⟨ob, hB, hf, c', ty, fz, rfl, _, _, h5⟩ := hr.of hb hp
      injection e with e; subst e
      exact ⟨[], by simp only [gR, hf, Nat.zero_mul, bS], .nil⟩
    · cases e
  · rename_i s
    obtain ⟨rfl, hs⟩ := hx.bZ
    injection e with e; subst e
    refine ⟨_, rfl, ?_⟩
    rw [b6, ← List.map_take, List.map_map]
    have : ((fun b : UInt8 => Value.int .u8 (b.toNat : Int)) ∘ UInt8.ofNat) = fun c : Nat => Value.int .u8 ((UInt8.ofNat c).toNat : Int) := rfl
    rw [this]
    have h2 : ((s.take q).map fun c : Nat => Value.int .u8 ((UInt8.ofNat c).toNat : Int)) = (s.take q).map fun c : Nat => Value.int .u8 (Int.ofNat c) := List.map_congr_left fun c hc => by
      rw [UInt8.toNat_ofNat', Nat.mod_eq_of_lt (hs c (List.mem_of_mem_take hc))]; rfl
    rw [h2]
    exact VRs.bytes _ _
  · cases e
theorem kg (hr : HR φ H n h0 h) {t : TypeId} {d x : AV} {dv xv : Value} (hd : VR φ d dv) (hx : VR φ x xv) (e : ub P t d x H n = some (r, H', n')) (hk : mj φ h0 r H' n' K) : jP P t dv xv h K := by
  unfold ub at e
  split at e
  · rename_i el m dn hu hm hdn
    split at e
    · rename_i k hs
      split at e
      · rename_i cells hcells
        obtain ⟨vs, g1, g2⟩ := uj hr hx hcells
        have hlx := wA hx hm
        split at e
        · have : dn = 0 := by injection hdn with hdn; exact hdn.symm
          subst this
          rw [hd.cq]
          injection e with e; injection e with e1 e2; injection e2 with e2 e3
          subst e1 e2 e3
          (try simp only [jP, hu, hlx, hs, g1])
          exact hk _ _ _ (PLe.refl _) hr (.int _ _)
        · rename_i b
          have : dn = 0 := by injection hdn with hdn; exact hdn.symm
          subst this
          obtain ⟨p, y, C, hp, rfl, hy1, hy2⟩ := hd.gC
          split at e
          · rename_i l z hb
            obtain ⟨ob, hB, hf, cc, ty, fz, rfl, h1, h2, h3, h4, h5⟩ := hr.of hb hp
            rw [g2.aY] at g1
            injection e with e; injection e with e1 e2; injection e2 with e2 e3
            subst e1 e2 e3
            (try simp only [jP, hu, hlx, hs, g1, hf])
            refine ⟨rfl, by simp only [List.length_nil]; omega, h3.sub (by simp only [List.length_nil]; omega), ?_⟩
            exact hk _ _ _ (PLe.refl _) (hr.put hb hp (show OR φ p (.cells l z) (.cells cc ty fz) from ⟨cc, ty, fz, rfl, h1, h2, h3, h4, h5⟩) aa) (.int _ _)
          · cases e
        · rename_i b o dm c k'
          have : dn = dm := by injection hdn with hdn; exact hdn.symm
          subst this
          obtain ⟨p, C, hp, rfl, _, _⟩ := hd.dt
          split at e
          · rename_i l z hb
            obtain ⟨ob, hB, hf, cc, ty, fz, rfl, h1, h2, h3, h4, h5⟩ := hr.of hb hp
            split at e
            · rename_i l' hset hall
              obtain ⟨q1, q2, q3⟩ := eA _ _ _ _ hset
              have hgl := g2.length
              injection e with e; injection e with e1 e2; injection e2 with e2 e3
              subst e1 e2 e3
              (try simp only [jP, hu, hlx, hs, g1, hf])
              refine ⟨iN g2 hall, by omega, h3.sub (by omega), ?_⟩
              refine hk _ _ _ (PLe.refl _) (hr.put hb hp ?_ aa) (.int _ _)
              exact ⟨_, ty, fz, rfl, by omega, by rw [da]; omega, h3, h4, h5.set hset g2 (by omega)⟩
            · cases e
          · cases e
        · cases e
      · cases e
    · cases e
  · cases e
theorem wB {k v : AV} {kv vv : Value} (hk' : VR φ k kv) (hv : VR φ v vv) : ∀ (es : List (AV × AV)) (ms : List MapEntry) (q : Option (Nat × AV)) (q' : Option (Nat × Value)) (cl : Nat), MR φ es ms → oR ms cl → (match q, q' with
      | none, none => True
      | some (j, _), some (j', _) => j = j'
      | _, _ => False) → ∃ ms' cl', Au kv vv ms cl q' = .map ms' cl' ∧ MR φ (uc k v es q) ms'.toList ∧ oR ms'.toList cl' := by
  have app : ∀ (es : List (AV × AV)) (ms : List MapEntry) (m : MapEntry), MR φ es ms → VR φ k m.key → VR φ v m.val → MR φ (es ++ [(k, v)]) (ms ++ [m]) := by
    intro es
    induction es with
    | nil => intro ms m hm h1 h2; rw [show ms = [] from hm]; exact ⟨m, [], rfl, h1, h2, rfl⟩
    | cons x es ih =>
      intro ms m ⟨m', us, h1, h2, h3, h4⟩ h5 h6
      subst h1
      exact ⟨m', us ++ [m], rfl, h2, h3, ih us m h4 h5 h6⟩
  have chg_ : ∀ (es : List (AV × AV)) (ms : List MapEntry) (i : Nat) (u : AV), MR φ es ms → MR φ (uc k v es (some (i, u))) (chg kv vv ms i) := by
    intro es
    induction es with
    | nil => intro ms i u hm; rw [show ms = [] from hm]; cases i <;> rfl
    | cons x es ih =>
      intro ms i u ⟨m', us, h1, h2, h3, h4⟩
      subst h1
      cases i with
      | zero => exact ⟨_, us, rfl, hk', hv, h4⟩
      | succ i => exact ⟨m', _, rfl, h2, h3, ih us i u h4⟩
  have stm : ∀ (ms : List MapEntry) (i : Nat) (cl : Nat), oR ms cl → oR (chg kv vv ms i) cl := by
    intro ms i cl h
    rw [← v8]
    refine ⟨by rw [List.length_modify]; exact h.1, fun j e hj => ?_⟩
    rw [List.getElem?_modify] at hj
    cases hm : ms[j]? with
    | none => rw [hm] at hj; simp at hj
    | some m =>
      have hb := h.2 j m hm
      rw [hm] at hj
      by_cases q : i = j
      · simp [q] at hj; subst hj; exact hb
      · simp [q] at hj; subst hj; exact hb
  intro es ms q q' cl hm hst hq
  cases q with
  | none =>
    cases q' with
    | some x => exact hq.elim
    | none =>
      refine ⟨_, _, rfl, ?_, hst.push rfl⟩
      have : uc k v es none = es ++ [(k, v)] := by cases es <;> rfl
      rw [this]
      exact app es ms _ hm hk' hv
  | some y =>
    cases q' with
    | none => exact hq.elim
    | some x =>
      obtain ⟨j, a⟩ := y
      obtain ⟨j', a'⟩ := x
      have : j = j' := hq
      subst this
      exact ⟨_, _, rfl, chg_ es ms j a hm, stm ms j cl hst⟩
theorem lg (hr : HR φ H n h0 h) {t : TypeId} {m k v : AV} {mv kv vv : Value} (hm : VR φ m mv) (hk' : VR φ k kv) (hv : VR φ v vv) (e : nW P t m k v H n = some (r, H', n')) (hk : mj φ h0 r H' n' K) : ig P t mv kv vv h K := by
  unfold nW at e
  split at e
  · rename_i b kt kd et hmk
    obtain ⟨p, hp, rfl⟩ := hm.kR
    split at e
    · rename_i es hb
      obtain ⟨ob, hB, hf, ms, cl, rfl, h1, hst⟩ := hr.of hb hp
      split at e
      · rename_i q hq
        obtain ⟨q', g1, g2⟩ := lE hk' es ms.toList 0 q h1 hq
        obtain ⟨ms', cl', g3, g4, g5⟩ := wB hk' hv es ms.toList q q' cl h1 hst (by
          cases q <;> cases q' <;> first | trivial | exact g2.elim | exact g2.1)
        injection e with e; injection e with e1 e2; injection e2 with e2 e3
        subst e1 e2 e3
        simp only [ig, rF, hf, hmk, Option.bind_some, g1, Option.map_some, g3]
        exact hk _ _ _ (PLe.refl _) (hr.put hb hp (show OR φ p (.map _) (.map ms' cl') from ⟨ms', cl', rfl, g4, g5⟩) aa) .undef
      · cases e
    · cases e
  · cases e
theorem rZ (hr : HR φ H n h0 h) {t : TypeId} {x : AV} {v : Value} (hx : VR φ x v) (e : wy P t x H n = some (r, H', n')) (hk : mj φ h0 r H' n' K) : rI P t v h K := by
  unfold wy at e
  split at e
  · rename_i b
    obtain ⟨p, hp, rfl⟩ := hx.kR
    split at e
    · rename_i es hb ht
      obtain ⟨ob, hB, hf, ms, cl, rfl, h1, h2, _⟩ := hr.of hb hp
      injection e with e; injection e with e1 e2; injection e2 with e2 e3
      subst e1 e2 e3
      refine ⟨ht, ?_⟩
      (try simp only [hf])
      have hl : cl = es.length := h2.trans h1.length.symm
      subst hl
      have ho : OR (df φ n ⟨h.n, 0, 0⟩) ⟨h.n, 0, 0⟩ (.iter b es.length []) (.mapIter (some p.B) es.length #[] es.length) := ⟨rfl, p, hr.ple _ _ _ hp, rfl⟩
      exact hk _ (.pointer (some ⟨h.n, 0 + 0, none⟩)) _ (hr.ple _) (hr.new ho aa) (.ptr (bf _ _ _))
    · cases e
  · cases e
end
end Go.Proofs.Ytapjijhjnloimaa
namespace Go.Proofs.Ytapjijhjnloimaa
open Go Go.RowKit
def COk (P : Program) (f : FuncId) (g : List AV → AH → Nat → AR) : Prop := ∀ (args : List AV) (H : AH) (n : Nat) (v : AV) (H' : AH) (n' : Nat), g args H n = some (v, H', n') →
  ∀ (φ : Ph) (h0 h : Hp) (vs : Array Value) (K : KH), HR φ H n h0 h → VRs φ args vs.toList → mj φ h0 v H' n' K → cJ P f vs h K
section
variable {P : Program} {call : AC} {φ : Ph} {H H' : AH} {n n' : Nat} {h0 h : Hp} {K : KH} {σ : AE} {ρ : Env} {r : AV}
theorem uk (hcall : ∀ f, COk P f (call f)) (hr : HR φ H n h0 h) (hf : FR φ σ ρ) {o : Op} (e : xA P call o σ H n = some (r, H', n')) (hk : mj φ h0 r H' n' K) : bw P o ρ h K := by
  have quiet : ∀ {o : Op}, bu o = false → (match mg P o σ H with
      | some v => some (v, H, n)
      | none => none) = some (r, H', n') → bw P o ρ h K := fun {o} hl e => by
    unfold bw
    rw [hl]
    simp only [Bool.false_eq_true, if_false]
    split at e
    · rename_i v hv
      injection e with e; injection e with e1 e2; injection e2 with e2 e3
      subst e1 e2 e3
      exact nz hr hf hv fun u hu => hk φ u h (PLe.refl _) hr hu
    · cases e
  unfold xA at e
  split at e
  · rename_i el
    split at e
    · rename_i z hz
      show mP P el h K
      unfold mP
      (try simp only [hz])
      exact oW hr (iM φ z) e hk
    · cases e
  · rename_i el x
    split at e
    · rename_i hc
      show Aq el (ρ.ev x).cells h K
      exact oW hr ((hf.ev x).cells hc) e hk
    · cases e
  · rename_i t len parts
    split at e
    · rename_i l hl
      obtain ⟨el, r', h1, h2⟩ := rY hf hl
      injection e with e; injection e with e1 e2; injection e2 with e2 e3
      subst e1 e2 e3
      show (match dd P t len (parts.toList.map fun x => (x.1, ρ.ev x.2)) with
        | some (e, r) => K (.slice (some ⟨h.n, 0, none⟩) len len) ((h.put h.n (.cells r e (0, 0))).to (h.n + 1))
        | none => False)
      rw [h1]
      have hll : l.length = r'.size := by simpa using h2.length
      have ho : OR (df φ n ⟨h.n, 0, r'.size⟩) ⟨h.n, 0, r'.size⟩ (.cells l true) (.cells r' el (0, 0)) :=
        ⟨r', el, (0, 0), rfl, by simp only; omega, by simp only; omega, ff _ _, fun _ => rfl, CR.mono (hr.ple _) (CR.of' h2)⟩
      exact hk _ (.slice (some ⟨h.n, 0 + 0, none⟩) len len) _ (hr.ple _) (hr.new ho aa) (.sl (bf _ _ _) (fun _ => rfl) (fun q => (q rfl).elim))
    · cases e
  · exact ml hr (hf.ev _) (hf.ev _) e hk
  · exact ke hr (hf.ev _) e hk
  · exact kf hr (hf.ev _) (hf.ev _) e hk
  · rename_i t
    injection e with e; injection e with e1 e2; injection e2 with e2 e3
    subst e1 e2 e3
    show K (.map (some h.n)) ((h.put h.n (.map #[] 0)).to (h.n + 1))
    have ho : OR (df φ n ⟨h.n, 0, 0⟩) ⟨h.n, 0, 0⟩ (.map []) (.map #[] 0) := ⟨#[], 0, rfl, rfl, .nil⟩
    exact hk _ _ _ (hr.ple _) (hr.new ho aa) (.map (bf _ _ _))
  · exact lg hr (hf.ev _) (hf.ev _) (hf.ev _) e hk
  · exact lg hr (hf.ev _) (hf.ev _) (hf.ev _) e hk
  · exact rZ hr (hf.ev _) e hk
  · rename_i c
    have hm := VRs.map hf.ev c.args.toList
    obtain ⟨callee, args, ats⟩ := c
    dsimp only at e hm
    split at e
    · rename_i f
      have hfv := hf.ev f
      split at e
      · rename_i g a cs q
        rw [q] at hfv
        obtain ⟨a', c', hv, h1, h2⟩ := hfv.lC
        show qz P (ρ.ev f) (args.map ρ.ev) h K
        rw [hv]
        show cJ P g (a' ++ args.map ρ.ev ++ c') h K
        refine hcall g _ _ _ _ _ _ e φ h0 h _ K hr ?_ hk
        rw [Array.toList_append, Array.toList_append, Array.toList_map]
        exact (h1.append hm).append h2
      · cases e
    · show gS P .append ats.toList (args.toList.map ρ.ev) h K
      split at e
      · rename_i t u s x e1 e2
        rw [e2] at hm
        obtain ⟨v1, us, h1, h2, h3⟩ := hm.cons_inv
        obtain ⟨v2, ws, h4, h5, h6⟩ := h3.cons_inv
        rw [h4, h6.aY] at h1
        rw [e1, h1]
        exact iD hr h2 h5 e hk
      · cases e
    · show gS P .copy ats.toList (args.toList.map ρ.ev) h K
      split at e
      · rename_i t u s x e1 e2
        rw [e2] at hm
        obtain ⟨v1, us, h1, h2, h3⟩ := hm.cons_inv
        obtain ⟨v2, ws, h4, h5, h6⟩ := h3.cons_inv
        rw [h4, h6.aY] at h1
        rw [e1, h1]
        exact kg hr h2 h5 e hk
      · cases e
    · rename_i q1 q2 q3
      refine quiet ?_ e
      cases callee with
      | value f => exact (q1 f rfl).elim
      | invoke _ _ => rfl
      | builtin b => cases b <;> first | rfl | exact (q2 rfl).elim | exact (q3 rfl).elim
  · rename_i q1 q2 q3 q4 q5 q6 q7 q8 q9 q11 q10
    cases o
    case alloc => exact (q1 _ rfl).elim
    case box => exact (q2 _ _ rfl).elim
    case buildSlice => exact (q3 _ _ _ rfl).elim
    case store => exact (q4 _ _ _ rfl).elim
    case convert => exact (q5 _ _ _ rfl).elim
    case makeSlice => exact (q6 _ _ _ rfl).elim
    case mapUpdate => exact (q8 _ _ _ _ rfl).elim
    case insert => exact (q9 _ _ _ _ rfl).elim
    case range => exact (q11 _ _ rfl).elim
    case next => simp only [mg] at e; cases e
    case call => exact (q10 _ rfl).elim
    case makeMap t x =>
      cases x with
      | none => exact (q7 _ rfl).elim
      | some y => simp only [mg] at e; cases e
    all_goals exact quiet rfl e
end
end Go.Proofs.Ytapjijhjnloimaa
namespace Go.Proofs.Ytapjijhjnloimaa
open Go Go.RowKit
section
variable {P : Program} {call : AC} {φ : Ph} {H H' : AH} {n n' : Nat} {h0 h : Hp} {σ : AE} {ρ : Env}
def gx (ops : Array Oper) (j : Nat) : Option Nat := (ops[j]?).bind (·.dst)
noncomputable def gm (ops : Array Oper) (val : Nat → AV) (σ : AE) (L : Nat → Bool) : Nat → Nat → Option AV
  | 0, t => σ.get t
  | k + 1, t => if L k = true ∧ gx ops k = some t then some (val k) else gm ops val σ L k t
theorem fo {ops : Array Oper} {val : Nat → AV} {L L' : Nat → Bool} {t : Nat} : ∀ k, (∀ j, j < k → gx ops j = some t → L j = L' j) → gm ops val σ L k t = gm ops val σ L' k t
  | 0, _ => rfl
  | k + 1, h => by
    (try simp only [gm])
    rw [fo k fun j hj => h j (by omega)]
    by_cases hd : gx ops k = some t
    · rw [h k (by omega) hd]
    · rw [if_neg (fun q => hd q.2), if_neg (fun q => hd q.2)]
theorem oX {ops : Array Oper} {val : Nat → AV} {i t : Nat} : ∀ k, i ≤ k → gm ops val σ (fun j => decide (j < i)) k t = gm ops val σ (fun _ => true) i t
  | 0, h => by
    have : i = 0 := by omega
    subst this; rfl
  | k + 1, h => by
    by_cases hk : i = k + 1
    · subst hk
      exact fo (k + 1) fun j hj _ => by simp [hj]
    · (try simp only [gm])
      rw [if_neg (by simp; omega)]
      exact oX k (by omega)
theorem um {ops : Array Oper} {val : Nat → AV} {L L' : Nat → Bool} {i t : Nat} (hne : ∀ j, j ≠ i → L' j = L j) (hi : L' i = true) : ∀ k, i < k → (∀ j, i < j → j < k → gx ops i = some t → gx ops j = some t → L j = false) →
    gm ops val σ L' k t = if gx ops i = some t then some (val i) else gm ops val σ L k t
  | 0, h, _ => by omega
  | k + 1, h, hc => by
    (try simp only [gm])
    by_cases hk : k = i
    · subst hk
      by_cases hd : gx ops k = some t
      · rw [if_pos ⟨hi, hd⟩, if_pos hd]
      · rw [if_neg (fun q => hd q.2), if_neg hd, if_neg (fun q => hd q.2)]
        exact fo k fun j hj _ => hne j (by omega)
    · have ih : gm ops val σ L' k t = if gx ops i = some t then some (val i) else gm ops val σ L k t := um hne hi k (by omega) fun j h1 h2 => hc j h1 (by omega)
      rw [hne k hk, ih]
      by_cases hd : gx ops i = some t
      · by_cases hd2 : gx ops k = some t
        · have := hc k (by omega) (by omega) hd hd2
          rw [this]; simp
        · rw [if_neg (fun q => hd2 q.2), if_pos hd]; simp [hd]
      · rw [if_neg hd, if_neg hd]
end
end Go.Proofs.Ytapjijhjnloimaa
namespace Go.Proofs.Ytapjijhjnloimaa
open Go Go.RowKit
section
variable {P : Program} {call : AC} {φ : Ph} {H H' : AH} {n n' : Nat} {h0 h : Hp} {K : KH} {σ : AE} {ρ : Env} {r : AV}
theorem least {p : Nat → Prop} : ∀ n, p n → ∃ m, p m ∧ ∀ k, p k → m ≤ k := by
  intro n
  induction n using Nat.strongRecOn with
  | _ n ih =>
    intro hn
    by_cases h : ∃ k, k < n ∧ p k
    · obtain ⟨k, hk, hp⟩ := h
      exact ih k hk hp
    · exact ⟨n, hn, fun k hk => Nat.le_of_not_lt fun hlt => h ⟨k, hlt, hk⟩⟩
theorem oY : ∀ (l : List AV) (k : Nat) (σ : AE) (t : Nat) (a : AV), (oP l k σ).get t = some a → (k ≤ t ∧ l[t - k]? = some a) ∨ σ.get t = some a
  | [], k, σ, t, a, e => .inr e
  | v :: l, k, σ, t, a, e => by
    rcases oY l (k + 1) _ t a e with ⟨h1, h2⟩ | h
    · refine .inl ⟨by omega, ?_⟩
      obtain ⟨d, rfl⟩ : ∃ d, t = k + 1 + d := ⟨t - (k + 1), by omega⟩
      rw [show k + 1 + d - (k + 1) = d from by omega] at h2
      rw [show k + 1 + d - k = d + 1 from by omega]
      simpa using h2
    · rcases PM.an cX σ k t a h with ⟨rfl, h2⟩ | ⟨_, h2⟩
      · exact .inl ⟨Nat.le_refl _, by simpa using h2⟩
      · exact .inr h2
theorem uo {args : List AV} {vs : Array Value} (h : VRs φ args vs.toList) : FR φ (oP args 0 .nil) (eM vs.toList 0) := fun t a e => by
  rcases oY args 0 .nil t a e with ⟨_, h2⟩ | h2
  · obtain ⟨v, h3, h4⟩ := h.at h2
    rw [jW, if_pos (Nat.zero_le _)]
    rw [Nat.sub_zero] at h3 ⊢
    rw [h3]
    exact h4
  · cases h2
theorem uq {vs : List AV} {us : List Value} (h : VRs φ vs us) : VR φ (qH vs) (tY us) := by
  match vs, us, h with
  | [], us, h => rw [h.aY]; exact .tup (cs := #[]) .nil
  | [a], us, h =>
    obtain ⟨v, ws, rfl, h1, h2⟩ := h.cons_inv
    rw [h2.aY]; exact h1
  | a :: b :: l, us, h =>
    obtain ⟨v, ws, h0, h1, h2⟩ := h.cons_inv
    obtain ⟨v2, ws2, h3, h4, h5⟩ := h2.cons_inv
    subst h0 h3
    exact .tup (cs := (v :: v2 :: ws2).toArray) (by simpa using h)
def AW (P : Program) (f : FuncId) : Bool := ah P f && (match P.funcs[f]? with
  | some fn => (match fn.body with
    | some c => (aC c).all fun t => decide (t < fn.ntmps)
    | none => false)
  | none => false)
end
end Go.Proofs.Ytapjijhjnloimaa
namespace Go.Proofs.Ytapjijhjnloimaa
open Go Go.RowKit
def dS (w : World) : Hp := ⟨fun b => w.heap[b]?, w.heap.size⟩
theorem wC (w : World) : Is w (dS w) := ⟨rfl, fun _ _ h => h⟩
open Go.ChangeShapes Go.WideShapes Go.ChangeAt
section
variable {H : Type} {enc : TypeId × Value → H} {P : Program} {W W' : World}
theorem qL (hl : laidOutB P = true) (hb : Below W.heap.size W W') : ∀ (ts : List TypeId) (vs : List Value) (ds : List (DataW H)) (ps : List MemPlace), (ts.all fun t => P.readableRec t && decide (t < P.types.size)) = true →
    DataW.TrodAll enc P W 0 (fun _ => true) true ts vs ds ps → (∀ x ∈ ps, x.block < W.heap.size) → DataW.TrodAll enc P W' 0 (fun b => decide (b < W.heap.size)) true ts vs ds ps
  | [], vs, ds, ps, _, h, _ => by
    obtain ⟨rfl, rfl, rfl⟩ := trodAll_nil h
    exact h
  | t :: ts, vs, ds, ps, hr, h, hlt => by
    obtain ⟨v, vs', d, ds', p, q, rfl, rfl, rfl, h1, h2⟩ := trodAll_cons h
    simp only [List.all_cons, Bool.and_eq_true, decide_eq_true_eq] at hr
    exact trodAll_cons_mk (Below.trod hl hr.1.1 hr.1.2 h1 hb fun x hx => hlt x (List.mem_append_left _ hx)) (qL hl hb ts vs' ds' q hr.2 h2 fun x hx => hlt x (List.mem_append_right _ hx))
theorem AX {f : Func} {s : ChangeSpec} {apart fresh handsOn : Bool} {args : Array Value} {ds gs : List (DataW H)} {before : List MemPlace} {tb : TypeId} (hl : laidOutB P = true)
    (hr : (f.params.toList.all fun t => P.readableRec t && decide (t < P.types.size)) = true) (hres : f.resultTypes = #[tb]) (hub : P.underlying tb = some .bool) (hv : s.vars = [])
    (hfn : s.fn H (ds ++ gs) = { results := [.lit (.bool true)], args := ds }) (hW : DataW.Whole enc P f.params.toList s.vars apart W args.toList ds gs before) (hb : Below W.heap.size W W') :
    s.post enc P f apart fresh handsOn false W args (.bool true) W' := by
  have hlt := hW.lt
  have hW2 := hW
  obtain ⟨p, q, h1, h2, rfl, _, _⟩ := hW2
  refine ⟨ds, gs, p ++ q, [], p, [], hW, ?_, ?_, ?_, hb.frame _, fun k => by cases k⟩
  · rw [hfn, hres]
    exact trodAll_mk1 (shut_bool hub true)
  · rw [hfn]
    exact qL hl hb _ _ _ _ hr h1 fun x hx => hlt x (List.mem_append_left _ hx)
  · rw [hfn, hv]
    rfl
end
end Go.Proofs.Ytapjijhjnloimaa
namespace Go.Proofs.Ytapjijhjnloimaa
open Go Go.RowKit
noncomputable def AY (k j : IntKind) : Bool := IntKind.rec (IntKind.rec true false false false false false false false j) (IntKind.rec false true false false false false false false j) (IntKind.rec false false true false false false false false j) (IntKind.rec false false false true false false false false j)
  (IntKind.rec false false false false true false false false j) (IntKind.rec false false false false false true false false j) (IntKind.rec false false false false false false true false j) (IntKind.rec false false false false false false false true j) k
noncomputable def ltq (a b : Int) : Bool := Int.rec (fun m => Int.rec (fun n => Nat.blt m n) (fun _ => false) b) (fun m => Int.rec (fun _ => true) (fun n => Nat.blt n m) b) a
noncomputable def eqq (a b : Int) : Bool := Int.rec (fun m => Int.rec (fun n => Nat.beq m n) (fun _ => false) b) (fun m => Int.rec (fun _ => false) (fun n => Nat.beq m n) b) a
noncomputable def AZ : AC := fun _ _ _ _ => none
noncomputable def E9 (f : FuncId) : Bool := ah Try.prog f && (match Try.prog.funcs[f]? with
  | some fn => (match fn.body with
    | some c => (aC c).all fun t => decide (t < fn.ntmps)
    | none => false)
  | none => false)
end Go.Proofs.Ytapjijhjnloimaa
namespace Go.Proofs.Ytapjijhjnloimaa
open Go Go.RowKit
section
variable {r : AV × AH × Nat} {σ : AE} {H : AH} {n : Nat}
theorem A0 (k j : IntKind) : AY k j = decide (k = j) := by cases k <;> cases j <;> rfl
theorem A1 (a b : Int) : ltq a b = decide (a < b) := by
  cases a with
  | ofNat m =>
    cases b with
    | ofNat n =>
      show Nat.blt m n = _
      rw [Bool.eq_iff_iff, Nat.blt_eq, decide_eq_true_eq]
      simp only [Int.ofNat_eq_natCast]; omega
    | negSucc n =>
      show false = _
      symm; rw [decide_eq_false_iff_not]
      simp only [Int.ofNat_eq_natCast, Int.negSucc_eq]; omega
  | negSucc m =>
    cases b with
    | ofNat n =>
      show true = _
      symm; rw [decide_eq_true_eq]
      simp only [Int.ofNat_eq_natCast, Int.negSucc_eq]; omega
    | negSucc n =>
      show Nat.blt n m = _
      rw [Bool.eq_iff_iff, Nat.blt_eq, decide_eq_true_eq]
      simp only [Int.negSucc_eq]; omega
theorem A2 (a b : Int) : eqq a b = decide (a = b) := by
  cases a with
  | ofNat m =>
    cases b with
    | ofNat n =>
      show Nat.beq m n = _
      rw [Bool.eq_iff_iff, Nat.beq_eq, decide_eq_true_eq]
      simp only [Int.ofNat_eq_natCast]; omega
    | negSucc n =>
      show false = _
      symm; rw [decide_eq_false_iff_not]
      simp only [Int.ofNat_eq_natCast, Int.negSucc_eq]; omega
  | negSucc m =>
    cases b with
    | ofNat n =>
      show false = _
      symm; rw [decide_eq_false_iff_not]
      simp only [Int.ofNat_eq_natCast, Int.negSucc_eq]; omega
    | negSucc n =>
      show Nat.beq m n = _
      rw [Bool.eq_iff_iff, Nat.beq_eq, decide_eq_true_eq]
      simp only [Int.negSucc_eq]; omega
end
end Go.Proofs.Ytapjijhjnloimaa
namespace Go.Proofs.Ytapjijhjnloimaa
open Go Go.RowKit
theorem HR.grow {φ : Ph} {H : AH} {n : Nat} {h0 h g : Hp} (hr : HR φ H n h0 h) (hs : ∀ b o, h.f b = some o → g.f b = some o) (hn : h.n ≤ g.n) : HR φ H n h0 g :=
  ⟨fun b p e => ⟨(hr.dom b p e).1, Nat.lt_of_lt_of_le (hr.dom b p e).2 hn⟩, fun b o e =>
    (hr.live b o e).imp id fun ⟨p, ob, h1, h2, h3, h4⟩ => ⟨p, ob, h1, h2, hs _ _ h3, h4⟩, hr.inj, fun b o e => ⟨Nat.lt_of_lt_of_le (hr.base b o e).1 hn, hs _ _ (hr.base b o e).2⟩, Nat.le_trans hr.size hn, fun q hq => ⟨⟨(hr.frz q hq).1.1.grow hn (by obtain ⟨_, c, t, fz, h1, _⟩ := (hr.frz q hq).1.1; rw [h1, hs _ _ h1]), (hr.frz q hq).1.2⟩, (hr.frz q hq).2⟩, hr.k8 hn (fun _ _ h => ⟨h, rfl⟩) (fun _ h => h) (fun _ h => .inl h) (fun x Q B hx hB => by obtain ⟨o, ho⟩ := Q.ex _ _ _ B (hr.sep x Q hx).1 hB; rw [ho, hs _ _ ho]) fun b' o' p' e1 e2 e3 => .inl ⟨b', o', p', e1, e2, e3, rfl⟩⟩
theorem fp {h : Hp} (hw : Wf h) : HR Ph.no .nil 0 h h :=
  ⟨fun _ _ k => (by cases k), fun _ _ k => (by cases k), fun _ _ _ _ _ _ k => (by cases k), fun b o k => ⟨hw b o k, k⟩, Nat.le_refl _, fun _ k => k.elim, fun _ _ k => by cases k⟩
end Go.Proofs.Ytapjijhjnloimaa
namespace Go.Proofs.Ytapjijhjnloimaa
open Go Go.RowKit
section
variable {P : Program} {ops : Array Oper}
theorem A3 {m i : Nat} {o : Oper} (h : (ops.extract 0 m)[i]? = some o) : i < m ∧ ops[i]? = some o := by
  rw [Array.getElem?_extract] at h
  split at h
  · rename_i q
    exact ⟨by omega, by simpa using h⟩
  · cases h
theorem FQ {m i : Nat} {o : Oper} (hi : i < m) (h : ops[i]? = some o) : (ops.extract 0 m)[i]? = some o := by
  have := (Array.getElem?_eq_some_iff.1 h).1
  rw [Array.getElem?_extract, if_pos (by omega)]
  simpa using h
theorem zf {m : Nat} {o : Oper} {ρ : Env} {h : Hp} {K : Env → Hp → Prop} (k : aT P (ops.extract 0 m) o ρ h K) : aT P ops o ρ h K := by
  unfold aT at k ⊢
  split
  · rename_i e; rw [e] at k; exact k
  · rename_i j want e
    rw [e] at k
    dsimp only at k ⊢
    cases hg : eZ (ops.extract 0 m) j with
    | none => rw [hg] at k; exact k.elim
    | some t =>
      have : eZ ops j = some t := by
        unfold eZ at hg ⊢
        cases ho : (ops.extract 0 m)[j]? with
        | none => rw [ho] at hg; cases hg
        | some o' => rw [ho] at hg; rw [(A3 ho).2]; exact hg
      rw [hg] at k
      rw [this]
      exact k
theorem ur {l : Array Bool} {i j : Nat} (hi : i < l.size) : (l.setIfInBounds i true).getD j false = if j = i then true else l.getD j false := by
  rw [Array.getD_eq_getD_getElem?, Array.getD_eq_getD_getElem?, Array.getElem?_setIfInBounds]
  by_cases e : j = i
  · subst e; simp [hi]
  · rw [if_neg e, if_neg (Ne.symm e)]
theorem A4 {m : Nat} (hm : m ≤ ops.size) {ρ : Env} {h : Hp} {N N' : Env → Hp → Prop} (hed : jj ops = true)
    (ht : ∀ i, m ≤ i → i < ops.size → ∀ listed : Array Bool, Down ops listed → (∀ o, ops[i]? = some o → ∀ e ∈ o.after, Region.binds .any e = true → listed.getD e.on false = true) → ∀ j, j < i → listed.getD j false = true)
    (hp : wm P (ops.extract 0 m) ρ h N') (hN : ∀ ρ h, N' ρ h → gT P ops (ops.toList.drop m) ρ h N) : wm P ops ρ h N := by
  obtain ⟨_, I, h0, hs, hf⟩ := hp
  have hsz' : (ops.extract 0 m).size = m := by rw [Array.size_extract]; omega
  rw [hsz'] at h0 hs hf
  have tail : ∀ (k : Nat) (listed : Array Bool) (i : Nat) (o : Oper) (ρ : Env) (h : Hp), m ≤ k → ops[i]? = some o → listed.size = ops.size → (∀ j, j < ops.size → (listed.getD j false = true ↔ j < k)) → listed.getD i false = false → Down ops listed →
      (∀ e ∈ o.after, Region.binds .any e = true → listed.getD e.on false = true) → gT P ops (ops.toList.drop k) ρ h N →
      i = k ∧ aT P ops o ρ h fun ρ' h' => gT P ops (ops.toList.drop (k + 1)) ρ' h' N := fun k listed i o ρ h hk ho hsz hl hun hdn hedge ha => by
    have hi : i < ops.size := (Array.getElem?_eq_some_iff.1 ho).1
    have hik : k ≤ i := by
      refine Nat.le_of_not_lt fun q => ?_
      rw [(hl i hi).2 q] at hun; cases hun
    have hall := ht i (by omega) hi listed hdn (fun o' ho' e he hb => by rw [ho] at ho'; injection ho' with ho'; subst ho'; exact hedge e he hb)
    have hki : i = k := by
      refine Nat.le_antisymm (Nat.le_of_not_lt fun q => ?_) hik
      have := (hl k (by omega)).1 (hall k q)
      omega
    subst hki
    refine ⟨rfl, ?_⟩
    have e : ops.toList.drop i = o :: ops.toList.drop (i + 1) := by
      have h2 : ops.toList[i]? = some o := by simpa using ho
      obtain ⟨h3, h4⟩ := List.getElem?_eq_some_iff.1 h2
      rw [List.drop_eq_getElem_cons h3, h4]
    rw [e] at ha
    exact ji ha
  refine ⟨hed, fun listed ρ h => (∃ L' : Array Bool, L'.size = m ∧ (∀ j, j < m → L'.getD j false = listed.getD j false) ∧ (∀ j, m ≤ j → listed.getD j false = false) ∧ I L' ρ h) ∨
    ∃ k, m ≤ k ∧ k ≤ ops.size ∧ (∀ j, j < ops.size → (listed.getD j false = true ↔ j < k)) ∧ gT P ops (ops.toList.drop k) ρ h N, ?_, ?_, ?_⟩
  · refine .inl ⟨Array.replicate m false, by simp, fun j _ => ?_, fun j _ => ?_, h0⟩
    · simp [Array.getD]
    · simp [Array.getD]
  · intro listed i o ρ h hsz hdn ho hun hedge hJ hw
    have hi : i < ops.size := (Array.getElem?_eq_some_iff.1 ho).1
    have set1 : ∀ j, (listed.setIfInBounds i true).getD j false = if j = i then true else listed.getD j false := fun j => ur (by omega)
    rcases hJ with ⟨L', hL, hl, hno, hI⟩ | ⟨k, hk, hks, hl, ha⟩
    · by_cases him : i < m
      · have hds : Down (ops.extract 0 m) L' := fun j o' ho' hj e he hb => by
          obtain ⟨hjm, ho2⟩ := A3 ho'
          rw [hl j hjm] at hj
          have h1 := hdn j o' ho2 hj e he hb
          have hem : e.on < m := by
            refine Nat.lt_of_not_le fun q => ?_
            rw [hno e.on q] at h1; cases h1
          rw [hl e.on hem]; exact h1
        have hg := hs L' i o ρ h hL hds (FQ him ho) (by rw [hl i him]; exact hun) (fun e he hb => by
          have h1 := hedge e he hb
          have hem : e.on < m := by
            refine Nat.lt_of_not_le fun q => ?_
            rw [hno e.on q] at h1; cases h1
          rw [hl e.on hem]; exact h1) hI hw
        refine de (fun v h' hk => .inl ⟨L'.setIfInBounds i true, by simpa using hL, fun j hj => ?_, fun j hj => ?_, hk⟩) (zf hg)
        · rw [set1, ur (by omega), hl j hj]
        · rw [set1, if_neg (by omega)]; exact hno j hj
      · have hall := ht i (by omega) hi listed hdn (fun o' ho' e he hb => by rw [ho] at ho'; injection ho' with ho'; subst ho'; exact hedge e he hb)
        have hend : gT P ops (ops.toList.drop m) ρ h N := hN ρ h (hf L' ρ h hL (fun j hj => by rw [hl j hj]; exact hall j (by omega)) hI)
        obtain ⟨e, hg⟩ := tail m listed i o ρ h (Nat.le_refl _) ho hsz (fun j hj => ⟨fun q => Nat.lt_of_not_le fun q2 => (by rw [hno j q2] at q; cases q), fun q => hall j (by omega)⟩) hun hdn hedge hend
        refine de (fun v h' hk => .inr ⟨m + 1, by omega, by omega, fun j hj => ?_, hk⟩) hg
        rw [set1]
        by_cases e2 : j = i
        · rw [if_pos e2]; simp; omega
        · rw [if_neg e2]
          refine ⟨fun q => ?_, fun q => hall j (by omega)⟩
          refine Nat.lt_of_not_le fun q2 => ?_
          rw [hno j (by omega)] at q; cases q
    · obtain ⟨e, hg⟩ := tail k listed i o ρ h hk ho hsz hl hun hdn hedge ha
      refine de (fun v h' hk' => .inr ⟨k + 1, by omega, by omega, fun j hj => ?_, hk'⟩) hg
      rw [set1]
      by_cases e2 : j = i
      · rw [if_pos e2]; simp; omega
      · rw [if_neg e2, hl j hj]; omega
  · intro listed ρ h hsz hall hJ
    rcases hJ with ⟨L', hL, hl, hno, hI⟩ | ⟨k, hk, hks, hl, ha⟩
    · have hms : m = ops.size := by
        refine Nat.le_antisymm hm (Nat.le_of_not_lt fun q => ?_)
        have := hno m (Nat.le_refl _)
        rw [hall m q] at this; cases this
      have := hN ρ h (hf L' ρ h hL (fun j hj => by rw [hl j hj]; exact hall j (by omega)) hI)
      rw [List.drop_eq_nil_of_le (by simp; omega)] at this
      exact this
    · have hks2 : k = ops.size := by
        refine Nat.le_antisymm hks (Nat.le_of_not_lt fun q => ?_)
        have := (hl k q).1 (hall k q)
        omega
      rw [List.drop_eq_nil_of_le (by simp; omega)] at ha
      exact ha
def zg (ops : Array Oper) (m : Nat) : Array Oper := ⟨ops.toList.take m⟩
theorem DE (ops : Array Oper) (m : Nat) : zg ops m = ops.extract 0 m := by
  apply Array.ext'
  simp [zg]
end
end Go.Proofs.Ytapjijhjnloimaa
namespace Go.Proofs.Ytapjijhjnloimaa
open Go Go.RowKit
abbrev PK := AV → AH → Nat → Prop
abbrev CP := FuncId → List AV → AH → Nat → PK → Prop
abbrev KP := AE → AH → Nat → Prop
def bM {α : Type} (o : Option α) (k : α → Prop) : Prop := match o with
  | some a => k a
  | none => False
def dj (b : Bool) (t e : Prop) : Prop := match b with
  | true => t
  | false => e
def bY (φ : Ph) (h0 : Hp) (κ : PK) (K : KH) : Prop := ∀ (ψ : Ph) (v : AV) (H : AH) (n : Nat) (u : Value) (g : Hp), PLe φ ψ → HR ψ H n h0 g → VR ψ v u → κ v H n → K u g
def DF (y : Nat) (run : List AV → AH → Nat → PK → Prop) : Prop := ∀ (args : List AV) (H : AH) (n : Nat) (κ : PK), run args H n κ → ∀ (φ : Ph) (h0 h : Hp) (vs : Array Value) (K : KH), HR φ H n h0 h → VRs φ args vs.toList → bY φ h0 κ K → mS Try.prog y vs h K
inductive Yld (y : Nat) (args : List AV) (H : AH) (n : Nat) (κ : PK) : Prop where
  | mk (run : List AV → AH → Nat → PK → Prop) (ok : DF y run) (h : run args H n κ)
def A5 (v : AV) : Option Nat := match v with
  | .any (.func (.yield y) ⟨[]⟩ ⟨[]⟩) => some y
  | _ => none
def yOr (o : Option (Nat × List AV)) (A : Nat → List AV → Prop) (B : Prop) : Prop := match o with
  | some (y, xs) => A y xs
  | none => B
structure aj (b : Bool) (A B : Prop) : Prop where
  t : b = true → A
  f : b = false → B
theorem aj.dec {p : Prop} [Decidable p] {A B : Prop} (t : p → A) (f : ¬ p → B) : aj (decide p) A B := ⟨fun h => t (of_decide_eq_true h), fun h => f (of_decide_eq_false h)⟩
theorem aj.cQ {p : Prop} [Decidable p] {A B : Prop} (t : ¬ p → A) (f : p → B) : aj (!decide p) A B := ⟨fun h => t (by simpa using h), fun h => f (by simpa using h)⟩
inductive Ask {α : Type} (o : Option α) (κ : α → Prop) : Prop where
  | mk (a : α) (h : o = some a) (k : κ a)
inductive Idx (i : Int) (len : Nat) (κ : Nat → Prop) : Prop where
  | mk (j : Nat) (h : i = (j : Int)) (lt : j < len) (k : κ j)
def hd : AV → AV
  | .si k n => .int k n
  | .sb b => .bool b
  | .ss s => .str s
  | .sy b o n c k => .sl b o n c k
  | v => v
def mk : AV → AV
  | .int k n => .si k n
  | .bool b => .sb b
  | .str s => .ss s
  | .sl b o n c k => .sy b o n c k
  | v => v
def isS : AV → Bool
  | .si _ _ => true
  | .sb _ => true
  | .ss _ => true
  | .sy _ _ _ _ _ => true
  | _ => false
theorem aj.sb {A B : Prop} {b : Bool} (t : b = true → A) (f : b = false → B) : aj b A B := ⟨t, f⟩
theorem aj.nsb {A B : Prop} {b : Bool} (t : b = false → A) (f : b = true → B) : aj (!b) A B := ⟨fun h => t (by simpa using h), fun h => f (by simpa using h)⟩
def zh (op : BinOp) (k j : IntKind) (a b : Int) (c : Bool) (κ : AV → Prop) : Prop := match op with
  | .shl => (match c with
    | true => dj (ltq b 0) False (κ (.si k (k.wrap (a * 2 ^ min b.toNat k.bits))))
    | false => 0 ≤ b ∧ κ (.si k (k.wrap (a * 2 ^ min b.toNat k.bits))))
  | .shr => (match c with
    | true => dj (ltq b 0) False (κ (.si k (a.fdiv (2 ^ min b.toNat k.bits))))
    | false => 0 ≤ b ∧ κ (.si k (a.fdiv (2 ^ min b.toNat k.bits))))
  | op => dj (AY k j) (match op with
    | .add => κ (.si k (k.wrap (a + b)))
    | .sub => κ (.si k (k.wrap (a - b)))
    | .mul => κ (.si k (k.wrap (a * b)))
    | .quo => (match c with
      | true => dj (eqq b 0) False (κ (.si k (k.wrap (a.tdiv b))))
      | false => b ≠ 0 ∧ κ (.si k (k.wrap (a.tdiv b))))
    | .rem => (match c with
      | true => dj (eqq b 0) False (κ (.si k (a.tmod b)))
      | false => b ≠ 0 ∧ κ (.si k (a.tmod b)))
    | .and => κ (.si k (bE .and k a b))
    | .or => κ (.si k (bE .or k a b))
    | .xor => κ (.si k (bE .xor k a b))
    | .andNot => κ (.si k (bE .andNot k a b))
    | .eql => κ (.sb (decide (a = b)))
    | .neq => κ (.sb (!decide (a = b)))
    | .lss => κ (.sb (decide (a < b)))
    | .leq => κ (.sb (decide (a ≤ b)))
    | .gtr => κ (.sb (decide (b < a)))
    | .geq => κ (.sb (decide (b ≤ a)))
    | _ => False) False
def zi (op : BinOp) (a b : List Nat) (κ : AV → Prop) : Prop := match op with
  | .add => a.length + b.length ≤ 9223372036854775807 ∧ κ (.ss (a ++ b))
  | .eql => κ (.sb (jX a b))
  | .neq => κ (.sb (!jX a b))
  | .lss => κ (.sb (ltL a b))
  | .leq => κ (.sb (ltL a b || jX a b))
  | .gtr => κ (.sb (!(ltL a b || jX a b)))
  | .geq => κ (.sb (!ltL a b))
  | _ => False
noncomputable def A6 (op : BinOp) (t : TypeId) (a b : Bool) (κ : AV → Prop) : Prop := dj (nV Try.prog t) (match op with
  | .eql => κ (.sb (a == b))
  | .neq => κ (.sb (!(a == b)))
  | _ => False) False
noncomputable def wD (op : BinOp) (t : TypeId) (x y : AV) (H : AH) (κ : AV → Prop) : Prop := match x, y with
  | .int k a, .int j b => bM (DA op k j a b) κ
  | .int k a, .si j b => zh op k j a b false κ
  | .si k a, .int j b => zh op k j a b true κ
  | .si k a, .si j b => zh op k j a b false κ
  | .ss a, .ss b => zi op a b κ
  | .ss a, .str b => zi op a b κ
  | .str a, .ss b => zi op a b κ
  | .sb a, .sb b => A6 op t a b κ
  | .sb a, .bool b => A6 op t a b κ
  | .bool a, .sb b => A6 op t a b κ
  | .agg xs, .agg ys => dj (xs.any isS || ys.any isS) (bM (oM Try.prog op t (.agg (xs.map hd)) (.agg (ys.map hd)) H) fun v => κ (mk v)) (bM (oM Try.prog op t (.agg xs) (.agg ys) H) κ)
  | x, y => bM (oM Try.prog op t x y H) κ
noncomputable def unP (op : UnOp) (x : AV) (κ : AV → Prop) : Prop := match op, x with
  | .not, .sb b => κ (.sb (!b))
  | .neg, .si k n => κ (.si k (k.wrap (0 - n)))
  | .xor, .si k n => κ (.si k (bE .xor k (if k.signed then -1 else k.max) n))
  | op, x => bM (eun op x) κ
def uu (c : AV) (A B : Prop) : Prop := match c with
  | .bool true => A
  | .bool false => B
  | .sb q => aj q A B
  | _ => False
def kU (P : Program) (t : TypeId) : Option IntKind := match P.underlying t with
  | some (.int k) => some k
  | _ => none
noncomputable def un3 (κ : PK) (r : AV × AH × Nat) : Prop := Prod.rec (fun v q => Prod.rec (fun H n => κ v H n) q) r
noncomputable def uv (o : Op) (σ : AE) (H : AH) (n : Nat) (κ : PK) : Prop := bM (xA Try.prog AZ o σ H n) (un3 κ)
noncomputable def mmP (mx : Bool) (x y : AV) (κ : AV → Prop) : Prop := match x, y with
  | .si k a, .si _ b => κ (.si k (if mx then max a b else min a b))
  | .si k a, .int _ b => κ (.si k (if mx then max a b else min a b))
  | .int k a, .si _ b => κ (.si k (if mx then max a b else min a b))
  | x, y => bM (emm mx x y) κ
noncomputable def zj (t : TypeId) (x : AV) (H : AH) (κ : AV → Prop) : Prop := match x with
  | .ss _ => bM (za Try.prog t (hd x) H) fun v => κ (mk v)
  | .sy _ _ _ _ _ => bM (za Try.prog t (hd x) H) fun v => κ (mk v)
  | .rw _ _ n _ _ => dj (oL Try.prog t) (κ (.si .i64 n)) False
  | .fr n _ _ => dj (oL Try.prog t) (κ (.si .i64 n)) False
  | _ => bM (za Try.prog t x H) κ
noncomputable def ixP (ix : AV) (len : Nat) (s : Bool) (κ : Nat → Prop) : Prop := match ix, s with
  | .si _ i, _ => Idx i len κ
  | .int _ i, true => Idx i len κ
  | _, _ => bM (eix ix len) κ
noncomputable def fq (t : TypeId) (x ix : AV) (κ : AV → Prop) : Prop := match Try.prog.underlying t, x with
  | some (.slice e), .sl b o n _ _ => bM (ae Try.prog e) fun k => ixP ix n false fun i => κ (.ptr b (o + i * k))
  | some (.slice e), .sy b o n _ _ => bM (ae Try.prog e) fun k => ixP ix n true fun i => κ (.ptr b (o + i * k))
  | some (.slice e), .rw b o n _ _ => bM (ae Try.prog e) fun k => ixP ix n true fun i => κ (.ptr b (o + i * k))
  | some (.slice e), .fr n k' l => bM (ae Try.prog e) fun k => dj (Nat.beq k k') (ixP ix n true fun i => κ (.fa l (i * k))) False
  | some (.array len e), .ptr b o => bM (ae Try.prog e) fun k => ixP ix len false fun i => κ (.ptr b (o + i * k))
  | _, _ => False
noncomputable def m3 (t : TypeId) (x ix : AV) (κ : AV → Prop) : Prop := match Try.prog.underlying t, x with
  | some (.array len e), .agg l => bM (ae Try.prog e) fun k => ixP ix len false fun i => bM (qE Try.prog e l (i * k)) κ
  | some .string, .str s => ixP ix s.length false fun i => bM (nth s i) fun c => (match ix with
    | .int _ _ => κ (.int .u8 (Int.ofNat c))
    | _ => κ (.si .u8 (Int.ofNat c)))
  | some .string, .ss s => ixP ix s.length true fun i => Ask (nth s i) fun c => κ (.si .u8 (Int.ofNat c))
  | _, _ => False
noncomputable def oZ (l : List AV) (t : TypeId) (o : Nat) (κ : AV → Prop) : Prop := match aE Try.prog t with
  | some false => bM (nth l o) κ
  | some true => bM (ae Try.prog t) fun m => bM (bl l o m) fun r => κ (.agg r)
  | none => False
noncomputable def nA (t : TypeId) (a : AV) (H : AH) (κ : AV → Prop) : Prop := match a with
  | .ptr b o => (match H.get b with
    | some (.cells l _) => oZ l t o κ
    | some (.ro l) => oZ l t o κ
    | _ => False)
  | .fa l o => oZ l t o κ
  | _ => False
noncomputable def ju (t : TypeId) (a v : AV) (H : AH) (n : Nat) (κ : PK) : Prop := match a with
  | .ptr b o => (match H.get b with
    | some (.cells l z) => bM (ae Try.prog t) fun s => dj (Nat.beq v.cells.length s && (okC v && v.cells.all me)) (bM (dN l o v.cells) fun l' => κ cp (H.set (some (.cells l' z)) aa b) n) False
    | _ => False)
  | _ => False
noncomputable def mk3 (κ : PK) (r : AV × AH × Nat) : Prop := un3 (fun v H n => κ (mk v) H n) r
def isR : AV → Bool
  | .rw _ _ _ _ _ => true
  | .fr _ _ _ => true
  | _ => false
inductive RSl (lo hi mx : Option AV) (n : Nat) (κ : Nat → Nat → Prop) : Prop where
  | mk (l h : Nat) (hl : jl (lo.map hd) 0 = some l) (hh : jl (hi.map hd) n = some h) (hm : mx = none ∨ (hi.isSome = true ∧ jl (mx.map hd) 0 = some h)) (h1 : l ≤ h) (h2 : h ≤ n) (k : κ l h)
def rwO (o k l : Nat) : Option AV → Nat
  | none => o
  | some _ => o + l * k
def rwN (n l h : Nat) : Option AV → Option AV → Nat
  | none, none => n
  | some _, none => n - l
  | none, some _ => h
  | some _, some _ => h - l
def rwX (x : Nat) : Option AV → Option AV → Nat
  | none, _ => x
  | some _, none => (match x with
    | 0 => 0
    | 1 => 0
    | x + 2 => x + 2)
  | some _, some _ => (match x with
    | 4 => 4
    | _ => 1)
def xC (b o n k x : Nat) (lo hi mx : Option AV) (l h : Nat) : AV := .rw b (rwO o k l lo) (rwN n l h lo hi) k (rwX x hi mx)
noncomputable def A7 (t : TypeId) (b o n k x : Nat) (lo hi mx : Option AV) (κ : AV → Prop) : Prop := match Try.prog.underlying t with
  | some (.slice e) => bM (ae Try.prog e) fun es => dj (Nat.beq es k) (RSl lo hi mx n fun l h => κ (xC b o n k x lo hi mx l h)) False
  | _ => False
def frL (k : Nat) (L : List AV) (l h : Nat) : Option AV → Option AV → List AV
  | none, none => L
  | some _, none => L.drop (l * k)
  | none, some _ => L.take (h * k)
  | some _, some _ => (L.drop (l * k)).take ((h - l) * k)
noncomputable def A8 (t : TypeId) (n k : Nat) (L : List AV) (lo hi : Option AV) (κ : AV → Prop) : Prop := match Try.prog.underlying t with
  | some (.slice e) => bM (ae Try.prog e) fun es => dj (Nat.beq es k) (RSl lo hi none n fun l h => κ (.fr (rwN n l h lo hi) k (frL k L l h lo hi))) False
  | _ => False
inductive Nxt (H : AH) (a : AV) (s : Bool) (κ : AV → AH → Prop) : Prop where
  | mk (it b m : Nat) (seen : List Nat) (es : List (AV × AV)) (hs : s = false) (ha : a = .ptr it 0) (hi : H.get it = some (.iter b m seen)) (hb : H.get b = some (.map es)) (hm : es.length = m)
    (over : (∀ i, i < m → i ∈ seen) → κ (.tup [.bool false]) H)
    (step : ∀ i e, es[i]? = some e → i ∉ seen → κ (.tup [.bool true, Go.Proofs.Ytapjijhjnloimaa.mk e.1, e.2]) (H.set (some (.iter b m (seen ++ [i]))) aa it))
inductive Ent (H : AH) (a : AV) (κ : AV → Prop) : Prop where
  | mk (it b m i : Nat) (seen : List Nat) (es : List (AV × AV)) (e : AV × AV) (ha : a = .ptr it 0) (hi : H.get it = some (.iter b m (seen ++ [i]))) (hb : H.get b = some (.map es)) (hm : es.length = m) (he : es[i]? = some e)
    (k : κ (.tup [Go.Proofs.Ytapjijhjnloimaa.mk e.1, e.2]))
inductive sa (H : AH) (k : Nat) : AV → Nat → List AV → Prop where
  | rw {b o n k' x : Nat} {l new : List AV} (hb : H.get b = some (.ro l) ∨ ∃ z, H.get b = some (.cells l z)) (hs : bl l o (n * k) = some new) : sa H k (.rw b o n k' x) n new
  | old {x : AV} {m : Nat} {new : List AV} (e : DD H k (hd x) = some (m, new)) : sa H k x m new
  | fr {n : Nat} {l : List AV} : sa H k (.fr n k l) n l
inductive DG (H : AH) (k : Nat) : AV → Nat → List AV → AH → Bool → Prop where
  | nsl : DG H k .nsl 0 [] H true
  | rw {b o n : Nat} {l old : List AV} {z : Bool} (hb : H.get b = some (.cells l z)) (hs : bl l o (n * k) = some old) : DG H k (.rw b o n k 0) n old (H.set none aa b) z
  | sl {b o n c : Nat} {l old : List AV} {z : Bool} (hb : H.get b = some (.cells l z)) (hs : bl l o (n * k) = some old) (hn : n ≤ c) (hc : o + c * k ≤ l.length) : DG H k (.sl b o n c 0) n old (H.set none aa b) z
structure RTy (t u : TypeId) (k by' : Nat) : Prop where
  h : ∃ e ud z, Try.prog.underlying t = some (.slice e) ∧ Try.prog.underlying u = some ud ∧ (∀ q, ud ≠ .int q) ∧ ae Try.prog e = some k ∧ al Try.prog e = some by' ∧ ao Try.prog e = some z ∧ z.cells.size = k ∧ 0 < by' ∧ 0 < k
inductive iE (t u : TypeId) (s x : AV) (H : AH) (n : Nat) (κ : PK) : Prop where
  | grow (k by' m sn : Nat) (new old : List AV) (G : AH) (z : Bool) (ty : RTy t u k by') (src : sa H k x m new) (hnew : new.length = m * k) (hone : new.all me = true) (row : DG H k s sn old G z) (big : (sn + m) * by' ≤ 140737488355328)
    (k' : κ (.rw n 0 (sn + m) k 0) (G.set (some (.cells (old ++ new) z)) aa n) (n + 1))
  | exact (k by' m b o sn : Nat) (new old : List AV) (hs : s = .rw b o sn k 1) (ty : RTy t u k by') (src : sa H k x m new) (hnew : new.length = m * k) (hone : new.all me = true) (hm : m ≠ 0) (row : sa H k s sn old) (big : (sn + m) * by' ≤ 140737488355328)
    (k' : κ (.rw n 0 (sn + m) k 0) (H.set (some (.cells (old ++ new) true)) aa n) (n + 1))
  | k8 (k by' b o sn q : Nat) (l : List AV) (z : Bool) (hs : s = .rw b o sn k q) (hq : q ≠ 4) (ty : RTy t u k by') (src : sa H k x 0 []) (hb : H.get b = some (.cells l z)) (k' : κ (.rw b o sn k q) H n)
noncomputable def xD (t u : TypeId) (s x : AV) (H : AH) (n : Nat) (κ : PK) : Prop := dj (isR s || isR x) (iE t u s x H n κ) (dj (isS s || isS x) (Ask (mh Try.prog t u (hd s) (hd x) H n) (mk3 κ)) (bM (mh Try.prog t u s x H n) (un3 κ)))
inductive xE (t : TypeId) (s x : AV) (H : AH) (n : Nat) (κ : PK) : Prop where
  | mk (k m dn b o c kk bx ox kx qx : Nat) (l lx new l' : List AV) (z : Bool) (hs : hd s = .sl b o dn c kk) (hx : x = .rw bx ox m kx qx) (hq : qx ≠ 4) (ty : ∃ e, Try.prog.underlying t = some (.slice e) ∧ ae Try.prog e = some k)
    (hbx : H.get bx = some (.ro lx) ∨ ∃ z, H.get bx = some (.cells lx z)) (hsx : bl lx ox (m * k) = some new) (hb : H.get b = some (.cells l z)) (hone : (new.take (min m dn * k)).all me = true) (hset : dN l o (new.take (min m dn * k)) = some l')
    (k' : κ (.si .i64 ((min m dn : Nat) : Int)) (H.set (some (.cells l' z)) aa b) n)
noncomputable def Fa (t : TypeId) (s x : AV) (H : AH) (n : Nat) (κ : PK) : Prop := dj (isR x) (xE t s x H n κ) (dj (isS s || isS x) (Ask (ub Try.prog t (hd s) (hd x) H n) (mk3 κ)) (bM (ub Try.prog t s x H n) (un3 κ)))
noncomputable def Hw (t : TypeId) (l c : AV) (H : AH) (n : Nat) (κ : PK) : Prop := dj (isS l || isS c) (Ask (oO Try.prog t (hd l) (hd c) H n) (mk3 κ)) (bM (oO Try.prog t l c H n) (un3 κ))
noncomputable def dZ (t : TypeId) (x : AV) (lo hi mx : Option AV) (κ : AV → Prop) : Prop := match x with
  | .rw b o n k q => A7 t b o n k q lo hi mx κ
  | .fr n k q => (match mx with
    | none => A8 t n k q lo hi κ
    | some _ => False)
  | x => dj (isS x || (mV lo || (mV hi || mV mx))) (Ask (fm Try.prog t (hd x) (lo.map hd) (hi.map hd) (mx.map hd)) fun v => κ (mk v)) (bM (fm Try.prog t x lo hi mx) κ)
where mV : Option AV → Bool
  | some v => isS v
  | none => false
noncomputable def nB (c : Call) (call : CP) (σ : AE) (H : AH) (n : Nat) (κ : PK) : Prop := match c.callee with
  | .value f => (match eev σ f with
    | .fn g a cs => call g (a ++ c.args.toList.map (eev σ) ++ cs) H n κ
    | _ => False)
  | .builtin .len => (match c.argTypes.toList, c.args.toList.map (eev σ) with
    | [t], [x] => zj t x H fun v => κ v H n
    | _, _ => False)
  | .builtin .min => (match c.args.toList.map (eev σ) with
    | [x, y] => mmP false x y fun v => κ v H n
    | _ => False)
  | .builtin .max => (match c.args.toList.map (eev σ) with
    | [x, y] => mmP true x y fun v => κ v H n
    | _ => False)
  | .builtin .append => (match c.argTypes.toList, c.args.toList.map (eev σ) with
    | [t, u], [s, x] => xD t u s x H n κ
    | _, _ => False)
  | .builtin .copy => (match c.argTypes.toList, c.args.toList.map (eev σ) with
    | [t, _], [s, x] => Fa t s x H n κ
    | _, _ => False)
  | _ => False
inductive Hy (src dst : TypeId) (x : AV) (H : AH) (κ : AV → Prop) : Prop where
  | mk (b o n k q : Nat) (l new : List AV) (s : List Nat) (hx : x = .rw b o n k q) (hq : q ≠ 4) (ty : ∃ e, Try.prog.underlying src = some (.slice e) ∧ Try.prog.underlying e = some (.int .u8) ∧ Try.prog.underlying dst = some .string) (hb : H.get b = some (.ro l) ∨ ∃ z, H.get b = some (.cells l z)) (hl : bl l o n = some new) (hs : gU new = some s) (k' : κ (.ss s))
noncomputable def Fb (src dst : TypeId) (x : AV) (H : AH) (n : Nat) (κ : PK) : Prop := match x with
  | .si _ a => (match kU Try.prog src, kU Try.prog dst with
    | some _, some k => κ (.si k (k.wrap a)) H n
    | _, _ => False)
  | .rw _ _ _ _ _ => Hy src dst x H fun v => κ v H n
  | _ => dj (isS x) (Ask (ua Try.prog src dst (hd x) H n) (mk3 κ)) (bM (ua Try.prog src dst x H n) (un3 κ))
noncomputable def o8 (o : Op) (call : CP) (σ : AE) (H : AH) (n : Nat) (κ : PK) : Prop := match o with
  | .move x => κ (eev σ x) H n
  | .assign x => κ (eev σ x) H n
  | .pick c a b => uu (eev σ c) (κ (eev σ a) H n) (κ (eev σ b) H n)
  | .load t a => nA t (eev σ a) H fun v => κ v H n
  | .store t a x => ju t (eev σ a) (eev σ x) H n κ
  | .binOp op t x y _ => wD op t (eev σ x) (eev σ y) H fun v => κ v H n
  | .unOp op _ x => unP op (eev σ x) fun v => κ v H n
  | .indexAddr t x ix => fq t (eev σ x) (eev σ ix) fun v => κ v H n
  | .index t x ix => m3 t (eev σ x) (eev σ ix) fun v => κ v H n
  | .slice t x lo hi mx => dZ t (eev σ x) (lo.map (eev σ)) (hi.map (eev σ)) (mx.map (eev σ)) fun v => κ v H n
  | .makeSlice t l c => Hw t (eev σ l) (eev σ c) H n κ
  | .convert s d x => Fb s d (eev σ x) H n κ
  | .call c => nB c call σ H n κ
  | .lookup t m k ok => dj (isS (eev σ k)) (Ask (jm Try.prog t (eev σ m) (hd (eev σ k)) ok H) fun v => κ v H n) (bM (jm Try.prog t (eev σ m) (eev σ k) ok H) fun v => κ v H n)
  | .next it s => Nxt H (eev σ it) s fun v H => κ v H n
  | .entry it => Ent H (eev σ it) fun v => κ v H n
  | o => uv o σ H n κ
noncomputable def opP (ops : Array Oper) (o : Oper) (call : CP) (σ : AE) (H : AH) (n : Nat) (k : KP) : Prop := match o.guard with
  | none => o8 o.op call σ H n fun v H n => k (bU σ o.dst v) H n
  | some (j, want) => (match eZ ops j with
    | none => False
    | some t => (match aA (pa t) σ with
      | .bool q => (match q == want with
        | true => o8 o.op call σ H n fun v H n => k (bU σ o.dst v) H n
        | false => k (bU σ o.dst cp) H n)
      | .sb q => (match want with
        | true => aj q (o8 o.op call (bU σ (some t) (.bool true)) H n fun v H n => k (bU (bU σ (some t) (.bool true)) o.dst v) H n) (k (bU (bU σ (some t) (.bool false)) o.dst cp) H n)
        | false => aj q (k (bU (bU σ (some t) (.bool true)) o.dst cp) H n) (o8 o.op call (bU σ (some t) (.bool false)) H n fun v H n => k (bU (bU σ (some t) (.bool false)) o.dst v) H n))
      | .tup _ => k (bU σ o.dst cp) H n
      | _ => False))
noncomputable def nR (ops : Array Oper) (l : List Oper) : CP → AE → AH → Nat → KP → Prop :=
  List.rec (fun _ σ H n k => k σ H n) (fun o _ ih call σ H n k => opP ops o call σ H n fun σ H n => ih call σ H n k) l
noncomputable def DH (o : Oper) (σ : AE) : Option (Nat × List AV) := match valOf o with
  | some (f, xs) => (match A5 (eev σ f) with
    | some y => some (y, xs.toList.map (eev σ))
    | none => none)
  | none => none
noncomputable def zk (ops : Array Oper) (l : List Oper) : CP → AE → AH → Nat → KP → Prop :=
  List.rec (fun _ σ H n k => k σ H n) (fun o _ ih call σ H n k => yOr (DH o σ) (fun y xs => Yld y xs H n fun v H n => ih call (bU σ o.dst v) H n k) (opP ops o call σ H n fun σ H n => ih call σ H n k)) l
abbrev XP := CP → AE → AH → Nat → KP → (Nat → KP) → KP → Prop
noncomputable def FT (c : Operand) (q : Bool) (σ : AE) : AE := match c with
  | .tmp t => bU σ (some t) (.bool q)
  | _ => σ
noncomputable def A9 (c : Operand) (σ : AE) (A B : AE → Prop) : Prop := match eev σ c with
  | .bool true => A σ
  | .bool false => B σ
  | .sb q => aj q (A (FT c true σ)) (B (FT c false σ))
  | _ => False
def Cov (p : Nat) (σ : AE) (H : AH) (n : Nat) (s : AE × AH × Nat) : Prop := ∀ (φ : Ph) (h0 h : Hp) (ρ : Env), HR φ H n h0 h → FR φ σ ρ → ∃ ψ : Ph, ((∀ b q, b < p → φ b = some q → ψ b = some q) ∧ (∀ q, φ.z q → ψ.z q) ∧ ∀ q, ψ.y q → φ.y q) ∧ HR ψ s.2.1 s.2.2 h0 h ∧ FR ψ s.1 ρ
noncomputable def Fc (k : Nat) (body : AE → AH → Nat → KP → Prop) : KP := Nat.rec (fun _ _ _ => False) (fun _ ih σ H n => body σ H n ih) k
inductive bC (p : Nat) (body : AE → AH → Nat → KP → Prop) (σ : AE) (H : AH) (n : Nat) : Prop where
  | mk (α : Type) (m : Nat) (st : α → AE × AH) (μ : α → Nat) (a0 : α) (h0 : Cov p σ H n ((st a0).1, (st a0).2, m)) (h : ∀ a, body (st a).1 (st a).2 m fun σ' H' n' => ∃ a', μ a' < μ a ∧ Cov p σ' H' n' ((st a').1, (st a').2, m))
  | roll (k : Nat) (h : Fc k body σ H n)
inductive xF (p : Nat) (A : KP → Prop) (B : KP) : Prop where
  | go (h : A B)
  | mk (α : Type) (m : Nat) (st : α → AE × AH) (hA : A fun σ H n => ∃ a, Cov p σ H n ((st a).1, (st a).2, m)) (hB : ∀ a, B (st a).1 (st a).2 m)
abbrev DB := Option Nat × List Nat
abbrev DT := List (Nat × List DB)
noncomputable def findD (D : DT) (id : Nat) : Option (List DB) := List.rec none (fun x _ ih => Bool.rec ih (some x.2) (Nat.beq x.1 id)) D
noncomputable def gy (σ : AE) (ts : List Nat) : AE := List.rec .nil (fun t _ ih => mU (aA (pa t) σ) (pa t) ih) ts
noncomputable def qP (o : Op) (σ : AE) (H : AH) (κ : AV → Prop) : Prop := match o with
  | .move x => κ (eev σ x)
  | .assign x => κ (eev σ x)
  | .pick c a b => uu (eev σ c) (κ (eev σ a)) (κ (eev σ b))
  | .load t a => nA t (eev σ a) H κ
  | .binOp op t x y _ => wD op t (eev σ x) (eev σ y) H κ
  | .unOp op _ x => unP op (eev σ x) κ
  | .indexAddr t x ix => fq t (eev σ x) (eev σ ix) κ
  | .index t x ix => m3 t (eev σ x) (eev σ ix) κ
  | .slice t x lo hi mx => dZ t (eev σ x) (lo.map (eev σ)) (hi.map (eev σ)) (mx.map (eev σ)) κ
  | .lookup t m k ok => dj (isS (eev σ k)) (Ask (jm Try.prog t (eev σ m) (hd (eev σ k)) ok H) κ) (bM (jm Try.prog t (eev σ m) (eev σ k) ok H) κ)
  | .call ⟨.builtin .len, xs, ts⟩ => (match ts.toList, xs.toList.map (eev σ) with
    | [t], [x] => zj t x H κ
    | _, _ => False)
  | .call ⟨.builtin .min, xs, _⟩ => (match xs.toList.map (eev σ) with
    | [x, y] => mmP false x y κ
    | _ => False)
  | .call ⟨.builtin .max, xs, _⟩ => (match xs.toList.map (eev σ) with
    | [x, y] => mmP true x y κ
    | _ => False)
  | o => bM (mg Try.prog o σ H) κ
noncomputable def uw (ops : Array Oper) (o : Oper) (b : DB) (cd : CP) (hist : List (AH × Nat)) (σ : AE) (H : AH) (n : Nat) (k : KP) : Prop :=
  let go : AE → Prop := fun σ => (match b.1 with
    | none => (match o.op with
      | .call c => nB c cd (gy σ b.2) H n fun v H n => k (bU σ o.dst v) H n
      | .store t a x => ju t (eev (gy σ b.2) a) (eev (gy σ b.2) x) H n fun v H n => k (bU σ o.dst v) H n
      | .buildSlice t len parts => dj (Nat.blt n 1000000) (match H.get n with
        | none => uv (.buildSlice t len parts) (gy σ b.2) H n fun v H n => k (bU σ o.dst v) H n
        | some _ => False) False
      | _ => False)
    | some j => bM (nth ((H, n) :: hist) j) fun r => qP o.op (gy σ b.2) r.1 fun v => k (bU σ o.dst v) H n)
  match o.guard with
  | none => go σ
  | some (j, want) => (match eZ ops j with
    | none => False
    | some t => (match aA (pa t) σ with
      | .bool q => (match q == want with
        | true => go σ
        | false => k (bU σ o.dst cp) H n)
      | .sb q => (match want with
        | true => aj q (go (bU σ (some t) (.bool true))) (k (bU (bU σ (some t) (.bool false)) o.dst cp) H n)
        | false => aj q (k (bU (bU σ (some t) (.bool true)) o.dst cp) H n) (go (bU σ (some t) (.bool false))))
      | .tup _ => k (bU σ o.dst cp) H n
      | _ => False))
noncomputable def Ba (ops : Array Oper) (l : List Oper) : List DB → CP → List (AH × Nat) → AE → AH → Nat → KP → Prop :=
  List.rec (fun _ _ _ σ H n k => k σ H n) (fun o _ ih bs cd hist σ H n k => List.rec False (fun b bs' _ => uw ops o b cd hist σ H n fun σ' H' n' => ih bs' cd ((H, n) :: hist) σ' H' n' k) bs) l
def Bb (A : List Nat) (i : Nat) (o : Oper) : Nat := o.after.toList.foldl (fun m e => if Region.binds .any e && decide (e.on < i) then m ||| (2 ^ e.on ||| A.getD e.on 0) else m) 0
def m4 : List Oper → Nat → List Nat → List Nat
  | [], _, A => A
  | o :: l, i, A => m4 l (i + 1) (A ++ [Bb A i o])
def Bd (A : List Nat) (ops : Array Oper) : Bool := (List.range ops.size).all fun i => match ops[i]? with
  | some o => A.getD i 0 == Bb A i o
  | none => true
def m5 (A : List Nat) (j i : Nat) : Bool := (A.getD i 0).testBit j
def nZ : Op → Bool
  | .call ⟨.value _, _, _⟩ => true
  | .buildSlice _ _ _ => true
  | _ => false
def iF : Op → Bool
  | .store _ _ _ => true
  | _ => false
def sc (ops : Array Oper) (j : Nat) : Bool := match ops[j]? with
  | some o => bu o.op
  | none => false
def n5 (ops : Array Oper) (o : Oper) (ts : List Nat) : Bool := match o.guard with
  | none => true
  | some (j, _) => (match eZ ops j with
    | some t => ts.contains t
    | none => true)
def FU (A : List Nat) (ops : Array Oper) (bs : List DB) (i : Nat) : Bool := match ops[i]?, bs[i]? with
  | some o, some b => b.2.all (fun t => (looks ops o).contains t) && n5 ops o b.2 && (match b.1 with
      | none => nZ o.op || (iF o.op && (List.range ops.size).all fun j => Nat.beq j i || m5 A j i)
      | some k => !bu o.op && (decide (k ≤ i) && (List.range (i - k)).all fun j => !sc ops j || m5 A j i)) &&
    (List.range i).all fun j => (match ops[j]? with
      | some a => a.apart ops o && (!bu a.op || !bu o.op)
      | none => true) || m5 A j i
  | _, _ => false
def o9 (ops : Array Oper) (bs : List DB) : Bool := jj ops && (Bd (m4 ops.toList 0 []) ops && (List.range ops.size).all (FU (m4 ops.toList 0 []) ops bs))
def il : List Nat → List (Nat × Nat)
  | a :: b :: l => (a, b) :: il l
  | _ => []
def ft : List Nat → Nat → Nat → Bool
  | [], _, _ => false
  | x :: π, a, b => Nat.beq x a || (!Nat.beq x b && ft π a b)
def Be : Nat → List (List Bool)
  | 0 => [[]]
  | m + 1 => (Be m).flatMap fun l => [true :: l, false :: l]
def okL (P : Program) (ops : Array Oper) (R : List (Nat × Nat)) : List Nat → List Nat → Bool
  | _, [] => true
  | acc, i :: l => acc.all (fun j => jG P ops j i || (jK ops 5 j i || (R.contains (j, i) || R.contains (i, j)))) && okL P ops R (i :: acc) l
def xG (P : Program) (ops : Array Oper) (R : List (Nat × Nat)) (i : Nat) : Bool := match ops[i]? with
  | some o => (!bu o.op || mR P o.op) || R.all fun p => Nat.beq p.1 i || (Nat.beq p.2 i || (jK ops 5 p.1 i || jK ops 5 p.2 i))
  | none => true
def leB (ops : Array Oper) (j i : Nat) : Bool := Nat.beq j i || jK ops 5 j i
def DI (p : Nat × Nat) (b : Bool) : Nat × Nat := match b with
  | true => p
  | false => (p.2, p.1)
def Bf (ops : Array Oper) (R : List (Nat × Nat)) (os : List Bool) : Bool := ((R.zip os).map fun x => DI x.1 x.2).all fun x => ((R.zip os).map fun x => DI x.1 x.2).all fun y => !(leB ops x.2 y.1 && leB ops y.2 x.1)
def Bg (P : Program) (ops : Array Oper) (bs : List DB) : Bool := jj ops && (match bs with
  | [] => false
  | h :: πs => (List.range ops.size).all (xG P ops (il h.2)) && ((il h.2).all (fun p => !Nat.beq p.1 p.2) && (((Be (il h.2).length).all fun os => !Bf ops (il h.2) os || πs.any fun π => (il h.2).map (fun p => ft π.2 p.1 p.2) == os) &&
    πs.all fun π => decide (π.2.Nodup) && (π.2.length == ops.size && (π.2.all (fun i => decide (i < ops.size)) && okL P ops (il h.2) [] π.2)))))
def Bh (bs : List DB) : Bool := match bs with
  | (some k, _) :: _ => Nat.beq k 1000000
  | _ => false
noncomputable def qM (l : List Oper) (π : List Nat) : List Oper := List.rec [] (fun i _ ih => match nth l i with
  | some o => o :: ih
  | none => ih) π
noncomputable def FV (ops : Array Oper) (πs : List DB) (call : CP) (σ : AE) (H : AH) (n : Nat) (k : KP) : Prop := List.rec True (fun π _ ih => nR ops (qM ops.toList π.2) call σ H n k ∧ ih) πs
def wE (ops : Array Oper) (m : Nat) : Bool := jj ops && (Bd (m4 ops.toList 0 []) ops && (List.range ops.size).all fun i => Nat.blt i m || (List.range i).all fun j => m5 (m4 ops.toList 0 []) j i)
noncomputable def DJ (ops : Array Oper) (bs : List DB) (call cd : CP) (σ : AE) (H : AH) (n : Nat) (k : KP) : Prop := match Bh bs with
  | true => FV ops bs.tail call σ H n k
  | false => (match Nat.blt bs.length ops.size with
    | true => Ba (zg ops bs.length) (zg ops bs.length).toList bs cd [] σ H n fun σ H n => nR ops (ops.toList.drop bs.length) call σ H n k
    | false => Ba ops ops.toList bs cd [] σ H n k)
def xH (P : Program) (ops : Array Oper) (bs : List DB) : Bool := match Bh bs with
  | true => Bg P ops bs
  | false => (match Nat.blt bs.length ops.size with
    | true => o9 (zg ops bs.length) bs && wE ops bs.length
    | false => o9 ops bs)
noncomputable def iG (D : DT) (c : Code) : Bool := Code.rec (motive := fun _ => Bool)
  true
  (fun id ops draw => Bool.rec true (Option.rec (tV Try.prog ops) (fun bs => xH Try.prog ops bs) (findD D id)) draw)
  (fun _ _ a b => Bool.rec false b a)
  (fun _ _ _ a b => Bool.rec false b a)
  (fun _ _ b => b)
  (fun _ b => b)
  (fun _ _ _ _ _ _ => true)
  (fun _ => true)
  (fun _ b => b)
  (fun _ => true)
  (fun _ => true)
  true
  (fun _ => true) c
noncomputable def FX (c : Code) : Option Nat := Code.rec (motive := fun _ => Option Nat) none (fun id _ _ => some id) (fun _ _ a _ => a) (fun _ _ _ _ _ => none) (fun _ _ b => b) (fun _ b => b) (fun _ _ _ _ _ _ => none) (fun _ => none) (fun _ b => b) (fun _ => none) (fun _ => none) none (fun _ => none) c
noncomputable def wF (D : DT) (c : Code) : Bool := List.rec false (fun x l _ => Option.rec false (fun id => Option.rec false (fun _ => true) (findD (x :: l) (id + 1000000))) (FX c)) D
noncomputable def fU (p : Nat) (cd : CP) (D : DT) (c : Code) : XP := Code.rec (motive := fun _ => XP)
  (fun _ σ H n kn _ _ => kn σ H n)
  (fun id ops draw => Bool.rec (fun call σ H n kn _ _ => zk ops ops.toList call σ H n kn) (Option.rec (fun call σ H n kn _ _ => nR ops ops.toList call σ H n kn) (fun bs call σ H n kn _ _ => DJ ops bs call cd σ H n kn) (findD D id)) draw)
  (fun _ bc a b call σ H n kn kx kr => Bool.rec (a call σ H n (fun σ H n => b call σ H n kn kx kr) kx kr) (xF p (fun k => a call σ H n k kx kr) (fun σ H n => b call σ H n kn kx kr)) (wF D bc))
  (fun c _ _ a b call σ H n kn kx kr => A9 c σ (fun σ => a call σ H n kn kx kr) (fun σ => b call σ H n kn kx kr))
  (fun id _ b call σ H n kn kx kr => b call σ H n kn (fun i σ H n => dj (Nat.beq i id) (kn σ H n) (kx i σ H n)) kr)
  (fun _ b call σ H n _ kx kr => bC p (fun σ H n k => b call σ H n k kx kr) σ H n)
  (fun _ _ _ _ _ _ _ _ _ _ _ _ _ => False)
  (fun i _ σ H n _ kx _ => kx i σ H n)
  (fun _ b call σ H n kn kx kr => b call σ H n kn kx kr)
  (fun _ _ σ H n kn _ _ => kn σ H n)
  (fun _ _ _ _ _ _ _ _ => False)
  (fun _ σ H n _ _ kr => kr σ H n)
  (fun _ _ _ _ _ _ _ _ => False) c
noncomputable def ux (rs : List ResultVar) (σ : AE) (H : AH) (k : List AV → Prop) : Prop :=
  List.rec (fun k => k []) (fun r _ ih k => ResultVar.rec (fun t => ih fun vs => k (aA (pa t) σ :: vs)) (fun a t => nA t (aA (pa a) σ) H fun v => ih fun vs => k (v :: vs)) r) rs k
noncomputable def FY (call cd : CP) (D : DT) (c : Code) (rs : List ResultVar) (m : Nat) (args : List AV) (H : AH) (n : Nat) (κ : PK) : Prop :=
  dj (Nat.ble args.length m) (fU n cd D c call (oP args 0 .nil) H n (fun σ H n => ux rs σ H fun vs => κ (qH vs) H n) (fun _ _ _ _ => False) (fun σ H n => ux rs σ H fun vs => κ (qH vs) H n)) False
inductive EP where
  | no
  | run (D : DT) (c : Code) (rs : List ResultVar) (m : Nat)
  | nat (g : List AV → AH → Nat → PK → Prop)
  | det (g : List AV → AH → Nat → PK → Prop)
noncomputable def pb (F : FuncId → EP) : CP := fun f args H n κ => EP.rec (fun _ _ _ _ => False) (fun _ _ _ _ _ _ _ _ => False) (fun _ _ _ _ _ => False) (fun g => g) (F f) args H n κ
noncomputable def az (F : FuncId → EP) (d : Nat) : CP := Nat.rec (fun _ _ _ _ _ => False) (fun _ ih f args H n κ => EP.rec (fun _ _ _ _ => False) (fun D c rs m => FY ih (pb F) D c rs m) (fun g => g) (fun g => g) (F f) args H n κ) d
noncomputable def xI (D : DT) (f : FuncId) : EP := match Try.prog.funcs[f]? with
  | some fn => (match fn.body with
    | some c => .run D c fn.results.toList fn.ntmps
    | none => .no)
  | none => .no
noncomputable def uy (D : DT) (f : FuncId) : Bool := match Try.prog.funcs[f]? with
  | some fn => (match fn.body with
    | some c => iG D c
    | none => false)
  | none => false
noncomputable def evP (f : FuncId) : EP := Bool.rec .no (Bool.rec .no (xI [] f) (uy [] f)) (E9 f)
end Go.Proofs.Ytapjijhjnloimaa
