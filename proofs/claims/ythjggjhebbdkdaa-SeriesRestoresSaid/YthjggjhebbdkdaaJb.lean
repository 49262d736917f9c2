/- Texts of our own, joined: the engine, the machine that runs code, and what is known of the functions. -/
import Derived.Test.YthjggjhebbdkdaaRows
import Derived.WalkKit
import Derived.Deep.Quiet
import Derived.ProofKit
import Derived.Laws.StructEq
import Derived.LaidEql
import Derived.Laws.BytesArg
import Derived.Maps.RangeRun
import Derived.RangeFuncSeq
import Derived.Scope
import Derived.Test.YthjggjhebbdkdaaJa
import Derived.Laws.Strings
import Derived.Laws.Strings2
import Derived.Below
import Derived.Carry
import Derived.OpenShut
set_option linter.unusedSimpArgs false
set_option linter.unusedVariables false
set_option maxHeartbeats 16000000
set_option maxRecDepth 100000
namespace Go.Proofs.Ythjggjhebbdkdaa
open Go
@[go_sem] theorem tab.sz2 : ah Try.prog 2 = some 1 := by kernel_rfl
@[go_sem] theorem tab.by2 : an Try.prog 2 = some 8 := by kernel_rfl
@[go_sem] theorem tab.ze2 : au Try.prog 2 = some (Go.Value.int Go.IntKind.i64 0) := by kernel_rfl
@[go_sem] theorem tab.un2 : Program.underlying Try.prog 2 = some (Go.TypeDesc.int Go.IntKind.i64) := by kernel_rfl
@[go_sem] theorem tab.ag2 : aJ Try.prog 2 = some false := by kernel_rfl
@[go_sem] theorem tab.sz3 : ah Try.prog 3 = some 1 := by kernel_rfl
@[go_sem] theorem tab.by3 : an Try.prog 3 = some 8 := by kernel_rfl
@[go_sem] theorem tab.ze3 : au Try.prog 3 = some (Go.Value.int Go.IntKind.i64 0) := by kernel_rfl
@[go_sem] theorem tab.un3 : Program.underlying Try.prog 3 = some (Go.TypeDesc.int Go.IntKind.i64) := by kernel_rfl
@[go_sem] theorem tab.ag3 : aJ Try.prog 3 = some false := by kernel_rfl
@[go_sem] theorem tab.sz4 : ah Try.prog 4 = some 1 := by kernel_rfl
@[go_sem] theorem tab.by4 : an Try.prog 4 = some 1 := by kernel_rfl
@[go_sem] theorem tab.ze4 : au Try.prog 4 = some (Go.Value.bool false) := by kernel_rfl
@[go_sem] theorem tab.un4 : Program.underlying Try.prog 4 = some Go.TypeDesc.bool := by kernel_rfl
@[go_sem] theorem tab.ag4 : aJ Try.prog 4 = some false := by kernel_rfl
@[go_sem] theorem tab.sz5 : ah Try.prog 5 = some 1 := by kernel_rfl
@[go_sem] theorem tab.by5 : an Try.prog 5 = some 1 := by kernel_rfl
@[go_sem] theorem tab.ze5 : au Try.prog 5 = some (Go.Value.int Go.IntKind.u8 0) := by kernel_rfl
@[go_sem] theorem tab.un5 : Program.underlying Try.prog 5 = some (Go.TypeDesc.int Go.IntKind.u8) := by kernel_rfl
@[go_sem] theorem tab.ag5 : aJ Try.prog 5 = some false := by kernel_rfl
@[go_sem] theorem tab.sz6 : ah Try.prog 6 = some 1 := by kernel_rfl
@[go_sem] theorem tab.by6 : an Try.prog 6 = some 1 := by kernel_rfl
@[go_sem] theorem tab.ze6 : au Try.prog 6 = some (Go.Value.int Go.IntKind.u8 0) := by kernel_rfl
@[go_sem] theorem tab.un6 : Program.underlying Try.prog 6 = some (Go.TypeDesc.int Go.IntKind.u8) := by kernel_rfl
@[go_sem] theorem tab.ag6 : aJ Try.prog 6 = some false := by kernel_rfl
@[go_sem] theorem tab.sz7 : ah Try.prog 7 = some 4 := by kernel_rfl
@[go_sem] theorem tab.by7 : an Try.prog 7 = some 24 := by kernel_rfl
@[go_sem] theorem tab.ze7 : au Try.prog 7 = some (Go.Value.agg #[(Go.Value.int Go.IntKind.i64 0), (Go.Value.int Go.IntKind.i64 0), (Go.Value.bool false), (Go.Value.int Go.IntKind.u8 0)]) := by kernel_rfl
@[go_sem] theorem tab.un7 : Program.underlying Try.prog 7 = some (Go.TypeDesc.struct #[{ name := "x", type := 2, offset := 0, embedded := false, tag := "", pkgPath := "runtime", byteOffset := 0 }, { name := "y", type := 3, offset := 1, embedded := false, tag := "", pkgPath := "runtime", byteOffset := 8 }, { name := "signed", type := 4, offset := 2, embedded := false, tag := "", pkgPath := "runtime", byteOffset := 16 }, { name := "code", type := 6, offset := 3, embedded := false, tag := "", pkgPath := "runtime", byteOffset := 17 }]) := by kernel_rfl
@[go_sem] theorem tab.ag7 : aJ Try.prog 7 = some true := by kernel_rfl
@[go_sem] theorem tab.eq7 : eo Try.prog 7 = some [(0, 0), (0, 1), (2, 2), (0, 3)] := by kernel_rfl
@[go_sem] theorem tab.MX : ai Try.prog 7 0 = some (2, 0) := by kernel_rfl
@[go_sem] theorem tab.MY : ai Try.prog 7 1 = some (3, 1) := by kernel_rfl
@[go_sem] theorem tab.MZ : ai Try.prog 7 2 = some (4, 2) := by kernel_rfl
@[go_sem] theorem tab.M0 : ai Try.prog 7 3 = some (6, 3) := by kernel_rfl
@[go_sem] theorem tab.sz8 : ah Try.prog 8 = some 4 := by kernel_rfl
@[go_sem] theorem tab.by8 : an Try.prog 8 = some 24 := by kernel_rfl
@[go_sem] theorem tab.ze8 : au Try.prog 8 = some (Go.Value.agg #[(Go.Value.int Go.IntKind.i64 0), (Go.Value.int Go.IntKind.i64 0), (Go.Value.bool false), (Go.Value.int Go.IntKind.u8 0)]) := by kernel_rfl
@[go_sem] theorem tab.un8 : Program.underlying Try.prog 8 = some (Go.TypeDesc.struct #[{ name := "x", type := 2, offset := 0, embedded := false, tag := "", pkgPath := "runtime", byteOffset := 0 }, { name := "y", type := 3, offset := 1, embedded := false, tag := "", pkgPath := "runtime", byteOffset := 8 }, { name := "signed", type := 4, offset := 2, embedded := false, tag := "", pkgPath := "runtime", byteOffset := 16 }, { name := "code", type := 6, offset := 3, embedded := false, tag := "", pkgPath := "runtime", byteOffset := 17 }]) := by kernel_rfl
@[go_sem] theorem tab.ag8 : aJ Try.prog 8 = some true := by kernel_rfl
@[go_sem] theorem tab.eq8 : eo Try.prog 8 = some [(0, 0), (0, 1), (2, 2), (0, 3)] := by kernel_rfl
@[go_sem] theorem tab.M1 : ai Try.prog 8 0 = some (2, 0) := by kernel_rfl
@[go_sem] theorem tab.M3 : ai Try.prog 8 1 = some (3, 1) := by kernel_rfl
@[go_sem] theorem tab.M4 : ai Try.prog 8 2 = some (4, 2) := by kernel_rfl
@[go_sem] theorem tab.M5 : ai Try.prog 8 3 = some (6, 3) := by kernel_rfl
@[go_sem] theorem tab.sz9 : ah Try.prog 9 = some 1 := by kernel_rfl
@[go_sem] theorem tab.by9 : an Try.prog 9 = some 16 := by kernel_rfl
@[go_sem] theorem tab.ze9 : au Try.prog 9 = some (Go.Value.string { data := #[] }) := by kernel_rfl
@[go_sem] theorem tab.un9 : Program.underlying Try.prog 9 = some Go.TypeDesc.string := by kernel_rfl
@[go_sem] theorem tab.ag9 : aJ Try.prog 9 = some false := by kernel_rfl
@[go_sem] theorem tab.PY : ah Try.prog 10 = some 1 := by kernel_rfl
@[go_sem] theorem tab.PZ : an Try.prog 10 = some 16 := by kernel_rfl
@[go_sem] theorem tab.P0 : au Try.prog 10 = some (Go.Value.string { data := #[] }) := by kernel_rfl
@[go_sem] theorem tab.P5 : Program.underlying Try.prog 10 = some Go.TypeDesc.string := by kernel_rfl
@[go_sem] theorem tab.P6 : aJ Try.prog 10 = some false := by kernel_rfl
@[go_sem] theorem tab.P7 : ah Try.prog 11 = some 1 := by kernel_rfl
@[go_sem] theorem tab.P8 : an Try.prog 11 = some 16 := by kernel_rfl
@[go_sem] theorem tab.P9 : au Try.prog 11 = some (Go.Value.string { data := #[] }) := by kernel_rfl
@[go_sem] theorem tab.Qa : Program.underlying Try.prog 11 = some Go.TypeDesc.string := by kernel_rfl
@[go_sem] theorem tab.Qb : aJ Try.prog 11 = some false := by kernel_rfl
@[go_sem] theorem tab.Qc : ah Try.prog 12 = some 1 := by kernel_rfl
@[go_sem] theorem tab.Qd : an Try.prog 12 = some 8 := by kernel_rfl
@[go_sem] theorem tab.Qe : au Try.prog 12 = some (Go.Value.int Go.IntKind.u64 0) := by kernel_rfl
@[go_sem] theorem tab.Qf : Program.underlying Try.prog 12 = some (Go.TypeDesc.int Go.IntKind.u64) := by kernel_rfl
@[go_sem] theorem tab.Qg : aJ Try.prog 12 = some false := by kernel_rfl
@[go_sem] theorem tab.Qh : ah Try.prog 13 = some 2 := by kernel_rfl
@[go_sem] theorem tab.Qi : an Try.prog 13 = some 24 := by kernel_rfl
@[go_sem] theorem tab.Qj : au Try.prog 13 = some (Go.Value.agg #[(Go.Value.string { data := #[] }), (Go.Value.int Go.IntKind.u64 0)]) := by kernel_rfl
@[go_sem] theorem tab.Qk : Program.underlying Try.prog 13 = some (Go.TypeDesc.struct #[{ name := "msg", type := 9, offset := 0, embedded := false, tag := "", pkgPath := "runtime", byteOffset := 0 }, { name := "addr", type := 12, offset := 1, embedded := false, tag := "", pkgPath := "runtime", byteOffset := 16 }]) := by kernel_rfl
@[go_sem] theorem tab.Ql : aJ Try.prog 13 = some true := by kernel_rfl
@[go_sem] theorem tab.LQ : ai Try.prog 13 0 = some (9, 0) := by kernel_rfl
@[go_sem] theorem tab.LR : ai Try.prog 13 1 = some (12, 1) := by kernel_rfl
@[go_sem] theorem tab.Qm : ah Try.prog 14 = some 2 := by kernel_rfl
@[go_sem] theorem tab.Qn : an Try.prog 14 = some 24 := by kernel_rfl
@[go_sem] theorem tab.Qo : au Try.prog 14 = some (Go.Value.agg #[(Go.Value.string { data := #[] }), (Go.Value.int Go.IntKind.u64 0)]) := by kernel_rfl
@[go_sem] theorem tab.Qp : Program.underlying Try.prog 14 = some (Go.TypeDesc.struct #[{ name := "msg", type := 9, offset := 0, embedded := false, tag := "", pkgPath := "runtime", byteOffset := 0 }, { name := "addr", type := 12, offset := 1, embedded := false, tag := "", pkgPath := "runtime", byteOffset := 16 }]) := by kernel_rfl
@[go_sem] theorem tab.Qq : aJ Try.prog 14 = some true := by kernel_rfl
@[go_sem] theorem tab.LS : ai Try.prog 14 0 = some (9, 0) := by kernel_rfl
@[go_sem] theorem tab.LU : ai Try.prog 14 1 = some (12, 1) := by kernel_rfl
@[go_sem] theorem tab.Qr : ah Try.prog 15 = some 1 := by kernel_rfl
@[go_sem] theorem tab.Qs : an Try.prog 15 = some 8 := by kernel_rfl
@[go_sem] theorem tab.Qt : au Try.prog 15 = some (Go.Value.pointer none) := by kernel_rfl
@[go_sem] theorem tab.Qu : Program.underlying Try.prog 15 = some (Go.TypeDesc.pointer 147) := by kernel_rfl
@[go_sem] theorem tab.Qv : aJ Try.prog 15 = some false := by kernel_rfl
@[go_sem] theorem tab.Qw : ah Try.prog 16 = some 1 := by kernel_rfl
@[go_sem] theorem tab.Qx : an Try.prog 16 = some 8 := by kernel_rfl
@[go_sem] theorem tab.Qy : au Try.prog 16 = some (Go.Value.pointer none) := by kernel_rfl
@[go_sem] theorem tab.Qz : Program.underlying Try.prog 16 = some (Go.TypeDesc.pointer 150) := by kernel_rfl
@[go_sem] theorem tab.QA : aJ Try.prog 16 = some false := by kernel_rfl
@[go_sem] theorem tab.QB : ah Try.prog 17 = some 1 := by kernel_rfl
@[go_sem] theorem tab.QC : an Try.prog 17 = some 8 := by kernel_rfl
@[go_sem] theorem tab.QD : au Try.prog 17 = some (Go.Value.pointer none) := by kernel_rfl
@[go_sem] theorem tab.QE : Program.underlying Try.prog 17 = some (Go.TypeDesc.pointer 159) := by kernel_rfl
@[go_sem] theorem tab.QF : aJ Try.prog 17 = some false := by kernel_rfl
@[go_sem] theorem tab.QG : ah Try.prog 18 = some 1 := by kernel_rfl
@[go_sem] theorem tab.QH : an Try.prog 18 = some 8 := by kernel_rfl
@[go_sem] theorem tab.QI : au Try.prog 18 = some (Go.Value.agg #[(Go.Value.pointer none)]) := by kernel_rfl
@[go_sem] theorem tab.QJ : Program.underlying Try.prog 18 = some (Go.TypeDesc.struct #[{ name := "typ", type := 17, offset := 0, embedded := false, tag := "", pkgPath := "internal/runtime/maps", byteOffset := 0 }]) := by kernel_rfl
@[go_sem] theorem tab.QK : aJ Try.prog 18 = some true := by kernel_rfl
@[go_sem] theorem tab.LV : ai Try.prog 18 0 = some (17, 0) := by kernel_rfl
@[go_sem] theorem tab.QL : ah Try.prog 19 = some 1 := by kernel_rfl
@[go_sem] theorem tab.QM : an Try.prog 19 = some 8 := by kernel_rfl
@[go_sem] theorem tab.QN : au Try.prog 19 = some (Go.Value.agg #[(Go.Value.pointer none)]) := by kernel_rfl
@[go_sem] theorem tab.QO : Program.underlying Try.prog 19 = some (Go.TypeDesc.struct #[{ name := "typ", type := 17, offset := 0, embedded := false, tag := "", pkgPath := "internal/runtime/maps", byteOffset := 0 }]) := by kernel_rfl
@[go_sem] theorem tab.QP : aJ Try.prog 19 = some true := by kernel_rfl
@[go_sem] theorem tab.LW : ai Try.prog 19 0 = some (17, 0) := by kernel_rfl
@[go_sem] theorem tab.QQ : ah Try.prog 20 = some 1 := by kernel_rfl
@[go_sem] theorem tab.QR : an Try.prog 20 = some 16 := by kernel_rfl
@[go_sem] theorem tab.QS : au Try.prog 20 = some Go.Value.nilIface := by kernel_rfl
@[go_sem] theorem tab.QT : aJ Try.prog 20 = some false := by kernel_rfl
@[go_sem] theorem tab.QU : ah Try.prog 21 = some 1 := by kernel_rfl
@[go_sem] theorem tab.QV : an Try.prog 21 = some 4 := by kernel_rfl
@[go_sem] theorem tab.QW : au Try.prog 21 = some (Go.Value.int Go.IntKind.i32 0) := by kernel_rfl
@[go_sem] theorem tab.QX : Program.underlying Try.prog 21 = some (Go.TypeDesc.int Go.IntKind.i32) := by kernel_rfl
@[go_sem] theorem tab.QY : aJ Try.prog 21 = some false := by kernel_rfl
@[go_sem] theorem tab.QZ : ah Try.prog 22 = some 1 := by kernel_rfl
@[go_sem] theorem tab.Q0 : an Try.prog 22 = some 24 := by kernel_rfl
@[go_sem] theorem tab.Q1 : au Try.prog 22 = some (Go.Value.slice none 0 0) := by kernel_rfl
@[go_sem] theorem tab.Q5 : Program.underlying Try.prog 22 = some (Go.TypeDesc.slice 31) := by kernel_rfl
@[go_sem] theorem tab.Q6 : aJ Try.prog 22 = some false := by kernel_rfl
@[go_sem] theorem tab.Q7 : ah Try.prog 23 = some 3 := by kernel_rfl
@[go_sem] theorem tab.Q8 : an Try.prog 23 = some 24 := by kernel_rfl
@[go_sem] theorem tab.Q9 : au Try.prog 23 = some (Go.Value.agg #[(Go.Value.int Go.IntKind.i64 0), (Go.Value.int Go.IntKind.i64 0), (Go.Value.int Go.IntKind.i64 0)]) := by kernel_rfl
@[go_sem] theorem tab.Ra : Program.underlying Try.prog 23 = some (Go.TypeDesc.array 3 3) := by kernel_rfl
@[go_sem] theorem tab.Rb : aJ Try.prog 23 = some true := by kernel_rfl
@[go_sem] theorem tab.Rc : ah Try.prog 24 = some 1 := by kernel_rfl
@[go_sem] theorem tab.Rd : an Try.prog 24 = some 8 := by kernel_rfl
@[go_sem] theorem tab.Re : au Try.prog 24 = some (Go.Value.pointer none) := by kernel_rfl
@[go_sem] theorem tab.Rf : Program.underlying Try.prog 24 = some (Go.TypeDesc.pointer 78) := by kernel_rfl
@[go_sem] theorem tab.Rg : aJ Try.prog 24 = some false := by kernel_rfl
@[go_sem] theorem tab.Rh : ah Try.prog 25 = some 1 := by kernel_rfl
@[go_sem] theorem tab.Ri : an Try.prog 25 = some 8 := by kernel_rfl
@[go_sem] theorem tab.Rj : au Try.prog 25 = some (Go.Value.int Go.IntKind.i64 0) := by kernel_rfl
@[go_sem] theorem tab.Rk : Program.underlying Try.prog 25 = some (Go.TypeDesc.int Go.IntKind.i64) := by kernel_rfl
@[go_sem] theorem tab.Rl : aJ Try.prog 25 = some false := by kernel_rfl
@[go_sem] theorem tab.Rm : ah Try.prog 28 = some 2 := by kernel_rfl
@[go_sem] theorem tab.Rn : an Try.prog 28 = some 16 := by kernel_rfl
@[go_sem] theorem tab.Ro : au Try.prog 28 = some (Go.Value.agg #[(Go.Value.int Go.IntKind.i64 0), (Go.Value.int Go.IntKind.i64 0)]) := by kernel_rfl
@[go_sem] theorem tab.Rp : Program.underlying Try.prog 28 = some (Go.TypeDesc.struct #[{ name := "T", type := 3, offset := 0, embedded := false, tag := "", pkgPath := "", byteOffset := 0 }, { name := "V", type := 3, offset := 1, embedded := false, tag := "", pkgPath := "", byteOffset := 8 }]) := by kernel_rfl
@[go_sem] theorem tab.Rq : aJ Try.prog 28 = some true := by kernel_rfl
@[go_sem] theorem tab.Rr : eo Try.prog 28 = some [(0, 0), (0, 1)] := by kernel_rfl
@[go_sem] theorem tab.LX : ai Try.prog 28 0 = some (3, 0) := by kernel_rfl
@[go_sem] theorem tab.LY : ai Try.prog 28 1 = some (3, 1) := by kernel_rfl
@[go_sem] theorem tab.Rs : ah Try.prog 29 = some 2 := by kernel_rfl
@[go_sem] theorem tab.Rt : an Try.prog 29 = some 16 := by kernel_rfl
@[go_sem] theorem tab.Ru : au Try.prog 29 = some (Go.Value.agg #[(Go.Value.int Go.IntKind.i64 0), (Go.Value.int Go.IntKind.i64 0)]) := by kernel_rfl
@[go_sem] theorem tab.Rv : Program.underlying Try.prog 29 = some (Go.TypeDesc.struct #[{ name := "T", type := 3, offset := 0, embedded := false, tag := "", pkgPath := "", byteOffset := 0 }, { name := "V", type := 3, offset := 1, embedded := false, tag := "", pkgPath := "", byteOffset := 8 }]) := by kernel_rfl
@[go_sem] theorem tab.Rw : aJ Try.prog 29 = some true := by kernel_rfl
@[go_sem] theorem tab.Rx : eo Try.prog 29 = some [(0, 0), (0, 1)] := by kernel_rfl
@[go_sem] theorem tab.LZ : ai Try.prog 29 0 = some (3, 0) := by kernel_rfl
@[go_sem] theorem tab.L0 : ai Try.prog 29 1 = some (3, 1) := by kernel_rfl
@[go_sem] theorem tab.Ry : ah Try.prog 30 = some 4 := by kernel_rfl
@[go_sem] theorem tab.Rz : an Try.prog 30 = some 32 := by kernel_rfl
@[go_sem] theorem tab.RA : au Try.prog 30 = some (Go.Value.agg #[(Go.Value.int Go.IntKind.i64 0), (Go.Value.int Go.IntKind.i64 0), (Go.Value.int Go.IntKind.i64 0), (Go.Value.int Go.IntKind.i64 0)]) := by kernel_rfl
@[go_sem] theorem tab.RB : Program.underlying Try.prog 30 = some (Go.TypeDesc.struct #[{ name := "Kind", type := 3, offset := 0, embedded := false, tag := "", pkgPath := "", byteOffset := 0 }, { name := "X", type := 29, offset := 1, embedded := false, tag := "", pkgPath := "", byteOffset := 8 }, { name := "P", type := 3, offset := 3, embedded := false, tag := "", pkgPath := "", byteOffset := 24 }]) := by kernel_rfl
@[go_sem] theorem tab.RC : aJ Try.prog 30 = some true := by kernel_rfl
@[go_sem] theorem tab.L1 : ai Try.prog 30 0 = some (3, 0) := by kernel_rfl
@[go_sem] theorem tab.L2 : ai Try.prog 30 1 = some (29, 1) := by kernel_rfl
@[go_sem] theorem tab.L3 : ai Try.prog 30 2 = some (3, 3) := by kernel_rfl
@[go_sem] theorem tab.RD : ah Try.prog 31 = some 4 := by kernel_rfl
@[go_sem] theorem tab.RE : an Try.prog 31 = some 32 := by kernel_rfl
@[go_sem] theorem tab.RF : au Try.prog 31 = some (Go.Value.agg #[(Go.Value.int Go.IntKind.i64 0), (Go.Value.int Go.IntKind.i64 0), (Go.Value.int Go.IntKind.i64 0), (Go.Value.int Go.IntKind.i64 0)]) := by kernel_rfl
@[go_sem] theorem tab.RG : Program.underlying Try.prog 31 = some (Go.TypeDesc.struct #[{ name := "Kind", type := 3, offset := 0, embedded := false, tag := "", pkgPath := "", byteOffset := 0 }, { name := "X", type := 29, offset := 1, embedded := false, tag := "", pkgPath := "", byteOffset := 8 }, { name := "P", type := 3, offset := 3, embedded := false, tag := "", pkgPath := "", byteOffset := 24 }]) := by kernel_rfl
@[go_sem] theorem tab.RH : aJ Try.prog 31 = some true := by kernel_rfl
@[go_sem] theorem tab.L4 : ai Try.prog 31 0 = some (3, 0) := by kernel_rfl
@[go_sem] theorem tab.L5 : ai Try.prog 31 1 = some (29, 1) := by kernel_rfl
@[go_sem] theorem tab.L6 : ai Try.prog 31 2 = some (3, 3) := by kernel_rfl
@[go_sem] theorem tab.RI : ah Try.prog 35 = some 1 := by kernel_rfl
@[go_sem] theorem tab.RJ : an Try.prog 35 = some 24 := by kernel_rfl
@[go_sem] theorem tab.RK : au Try.prog 35 = some (Go.Value.slice none 0 0) := by kernel_rfl
@[go_sem] theorem tab.RL : Program.underlying Try.prog 35 = some (Go.TypeDesc.slice 29) := by kernel_rfl
@[go_sem] theorem tab.RM : aJ Try.prog 35 = some false := by kernel_rfl
@[go_sem] theorem tab.RN : ah Try.prog 42 = some 2 := by kernel_rfl
@[go_sem] theorem tab.RO : an Try.prog 42 = some 16 := by kernel_rfl
@[go_sem] theorem tab.RP : au Try.prog 42 = some (Go.Value.agg #[(Go.Value.int Go.IntKind.i64 0), (Go.Value.int Go.IntKind.i64 0)]) := by kernel_rfl
@[go_sem] theorem tab.RQ : Program.underlying Try.prog 42 = some (Go.TypeDesc.array 2 3) := by kernel_rfl
@[go_sem] theorem tab.RR : aJ Try.prog 42 = some true := by kernel_rfl
@[go_sem] theorem tab.RS : ah Try.prog 43 = some 1 := by kernel_rfl
@[go_sem] theorem tab.RT : an Try.prog 43 = some 8 := by kernel_rfl
@[go_sem] theorem tab.RU : au Try.prog 43 = some (Go.Value.pointer none) := by kernel_rfl
@[go_sem] theorem tab.RV : Program.underlying Try.prog 43 = some (Go.TypeDesc.pointer 87) := by kernel_rfl
@[go_sem] theorem tab.RW : aJ Try.prog 43 = some false := by kernel_rfl
@[go_sem] theorem tab.RX : ah Try.prog 53 = some 1 := by kernel_rfl
@[go_sem] theorem tab.RY : an Try.prog 53 = some 24 := by kernel_rfl
@[go_sem] theorem tab.RZ : au Try.prog 53 = some (Go.Value.slice none 0 0) := by kernel_rfl
@[go_sem] theorem tab.R0 : Program.underlying Try.prog 53 = some (Go.TypeDesc.slice 58) := by kernel_rfl
@[go_sem] theorem tab.R1 : aJ Try.prog 53 = some false := by kernel_rfl
@[go_sem] theorem tab.R2 : ah Try.prog 54 = some 1 := by kernel_rfl
@[go_sem] theorem tab.R3 : an Try.prog 54 = some 8 := by kernel_rfl
@[go_sem] theorem tab.R4 : au Try.prog 54 = some (Go.Value.pointer none) := by kernel_rfl
@[go_sem] theorem tab.R5 : Program.underlying Try.prog 54 = some (Go.TypeDesc.pointer 90) := by kernel_rfl
@[go_sem] theorem tab.R6 : aJ Try.prog 54 = some false := by kernel_rfl
@[go_sem] theorem tab.R7 : ah Try.prog 57 = some 4 := by kernel_rfl
@[go_sem] theorem tab.R8 : an Try.prog 57 = some 32 := by kernel_rfl
@[go_sem] theorem tab.R9 : au Try.prog 57 = some (Go.Value.agg #[(Go.Value.int Go.IntKind.i64 0), (Go.Value.int Go.IntKind.i64 0), (Go.Value.int Go.IntKind.i64 0), (Go.Value.int Go.IntKind.i64 0)]) := by kernel_rfl
@[go_sem] theorem tab.Sa : Program.underlying Try.prog 57 = some (Go.TypeDesc.struct #[{ name := "Kind", type := 3, offset := 0, embedded := false, tag := "", pkgPath := "", byteOffset := 0 }, { name := "S", type := 29, offset := 1, embedded := false, tag := "", pkgPath := "", byteOffset := 8 }, { name := "P", type := 3, offset := 3, embedded := false, tag := "", pkgPath := "", byteOffset := 24 }]) := by kernel_rfl
@[go_sem] theorem tab.Sb : aJ Try.prog 57 = some true := by kernel_rfl
@[go_sem] theorem tab.L7 : ai Try.prog 57 0 = some (3, 0) := by kernel_rfl
@[go_sem] theorem tab.L8 : ai Try.prog 57 1 = some (29, 1) := by kernel_rfl
@[go_sem] theorem tab.L9 : ai Try.prog 57 2 = some (3, 3) := by kernel_rfl
@[go_sem] theorem tab.Sc : ah Try.prog 58 = some 4 := by kernel_rfl
@[go_sem] theorem tab.Sd : an Try.prog 58 = some 32 := by kernel_rfl
@[go_sem] theorem tab.Se : au Try.prog 58 = some (Go.Value.agg #[(Go.Value.int Go.IntKind.i64 0), (Go.Value.int Go.IntKind.i64 0), (Go.Value.int Go.IntKind.i64 0), (Go.Value.int Go.IntKind.i64 0)]) := by kernel_rfl
@[go_sem] theorem tab.Sf : Program.underlying Try.prog 58 = some (Go.TypeDesc.struct #[{ name := "Kind", type := 3, offset := 0, embedded := false, tag := "", pkgPath := "", byteOffset := 0 }, { name := "S", type := 29, offset := 1, embedded := false, tag := "", pkgPath := "", byteOffset := 8 }, { name := "P", type := 3, offset := 3, embedded := false, tag := "", pkgPath := "", byteOffset := 24 }]) := by kernel_rfl
@[go_sem] theorem tab.Sh : aJ Try.prog 58 = some true := by kernel_rfl
@[go_sem] theorem tab.Ma : ai Try.prog 58 0 = some (3, 0) := by kernel_rfl
@[go_sem] theorem tab.Mb : ai Try.prog 58 1 = some (29, 1) := by kernel_rfl
@[go_sem] theorem tab.Mc : ai Try.prog 58 2 = some (3, 3) := by kernel_rfl
@[go_sem] theorem tab.Si : ah Try.prog 61 = some 1 := by kernel_rfl
@[go_sem] theorem tab.Sj : an Try.prog 61 = some 2 := by kernel_rfl
@[go_sem] theorem tab.Sk : au Try.prog 61 = some (Go.Value.int Go.IntKind.u16 0) := by kernel_rfl
@[go_sem] theorem tab.Sl : Program.underlying Try.prog 61 = some (Go.TypeDesc.int Go.IntKind.u16) := by kernel_rfl
@[go_sem] theorem tab.Sm : aJ Try.prog 61 = some false := by kernel_rfl
@[go_sem] theorem tab.Sn : ah Try.prog 66 = some 1 := by kernel_rfl
@[go_sem] theorem tab.So : an Try.prog 66 = some 8 := by kernel_rfl
@[go_sem] theorem tab.Sp : au Try.prog 66 = some (Go.Value.pointer none) := by kernel_rfl
@[go_sem] theorem tab.Sq : Program.underlying Try.prog 66 = some (Go.TypeDesc.pointer 99) := by kernel_rfl
@[go_sem] theorem tab.Ss : aJ Try.prog 66 = some false := by kernel_rfl
@[go_sem] theorem tab.St : ah Try.prog 76 = some 1 := by kernel_rfl
@[go_sem] theorem tab.Su : an Try.prog 76 = some 24 := by kernel_rfl
@[go_sem] theorem tab.Sv : au Try.prog 76 = some (Go.Value.slice none 0 0) := by kernel_rfl
@[go_sem] theorem tab.Sw : Program.underlying Try.prog 76 = some (Go.TypeDesc.slice 54) := by kernel_rfl
@[go_sem] theorem tab.Sx : aJ Try.prog 76 = some false := by kernel_rfl
@[go_sem] theorem tab.Sy : ah Try.prog 77 = some 6 := by kernel_rfl
@[go_sem] theorem tab.Sz : an Try.prog 77 = some 64 := by kernel_rfl
@[go_sem] theorem tab.SA : au Try.prog 77 = some (Go.Value.agg #[(Go.Value.int Go.IntKind.i64 0), (Go.Value.int Go.IntKind.i64 0), (Go.Value.int Go.IntKind.i64 0), (Go.Value.int Go.IntKind.i64 0), (Go.Value.int Go.IntKind.i64 0), (Go.Value.slice none 0 0)]) := by kernel_rfl
@[go_sem] theorem tab.SB : Program.underlying Try.prog 77 = some (Go.TypeDesc.struct #[{ name := "size", type := 3, offset := 0, embedded := false, tag := "", pkgPath := "tachograph/series", byteOffset := 0 }, { name := "retention", type := 3, offset := 1, embedded := false, tag := "", pkgPath := "tachograph/series", byteOffset := 8 }, { name := "policy", type := 3, offset := 2, embedded := false, tag := "", pkgPath := "tachograph/series", byteOffset := 16 }, { name := "max", type := 3, offset := 3, embedded := false, tag := "", pkgPath := "tachograph/series", byteOffset := 24 }, { name := "floor", type := 3, offset := 4, embedded := false, tag := "", pkgPath := "tachograph/series", byteOffset := 32 }, { name := "chunks", type := 76, offset := 5, embedded := false, tag := "", pkgPath := "tachograph/series", byteOffset := 40 }]) := by kernel_rfl
@[go_sem] theorem tab.SC : aJ Try.prog 77 = some true := by kernel_rfl
@[go_sem] theorem tab.Md : ai Try.prog 77 0 = some (3, 0) := by kernel_rfl
@[go_sem] theorem tab.Me : ai Try.prog 77 1 = some (3, 1) := by kernel_rfl
@[go_sem] theorem tab.Mf : ai Try.prog 77 2 = some (3, 2) := by kernel_rfl
@[go_sem] theorem tab.Mg : ai Try.prog 77 3 = some (3, 3) := by kernel_rfl
@[go_sem] theorem tab.Mh : ai Try.prog 77 4 = some (3, 4) := by kernel_rfl
@[go_sem] theorem tab.Mi : ai Try.prog 77 5 = some (76, 5) := by kernel_rfl
@[go_sem] theorem tab.SD : ah Try.prog 78 = some 6 := by kernel_rfl
@[go_sem] theorem tab.SE : an Try.prog 78 = some 64 := by kernel_rfl
@[go_sem] theorem tab.SF : au Try.prog 78 = some (Go.Value.agg #[(Go.Value.int Go.IntKind.i64 0), (Go.Value.int Go.IntKind.i64 0), (Go.Value.int Go.IntKind.i64 0), (Go.Value.int Go.IntKind.i64 0), (Go.Value.int Go.IntKind.i64 0), (Go.Value.slice none 0 0)]) := by kernel_rfl
@[go_sem] theorem tab.SG : Program.underlying Try.prog 78 = some (Go.TypeDesc.struct #[{ name := "size", type := 3, offset := 0, embedded := false, tag := "", pkgPath := "tachograph/series", byteOffset := 0 }, { name := "retention", type := 3, offset := 1, embedded := false, tag := "", pkgPath := "tachograph/series", byteOffset := 8 }, { name := "policy", type := 3, offset := 2, embedded := false, tag := "", pkgPath := "tachograph/series", byteOffset := 16 }, { name := "max", type := 3, offset := 3, embedded := false, tag := "", pkgPath := "tachograph/series", byteOffset := 24 }, { name := "floor", type := 3, offset := 4, embedded := false, tag := "", pkgPath := "tachograph/series", byteOffset := 32 }, { name := "chunks", type := 76, offset := 5, embedded := false, tag := "", pkgPath := "tachograph/series", byteOffset := 40 }]) := by kernel_rfl
@[go_sem] theorem tab.SH : aJ Try.prog 78 = some true := by kernel_rfl
@[go_sem] theorem tab.Mj : ai Try.prog 78 0 = some (3, 0) := by kernel_rfl
@[go_sem] theorem tab.Mk : ai Try.prog 78 1 = some (3, 1) := by kernel_rfl
@[go_sem] theorem tab.Ml : ai Try.prog 78 2 = some (3, 2) := by kernel_rfl
@[go_sem] theorem tab.Mm : ai Try.prog 78 3 = some (3, 3) := by kernel_rfl
@[go_sem] theorem tab.Mn : ai Try.prog 78 4 = some (3, 4) := by kernel_rfl
@[go_sem] theorem tab.Mo : ai Try.prog 78 5 = some (76, 5) := by kernel_rfl
@[go_sem] theorem tab.SI : ah Try.prog 82 = some 1 := by kernel_rfl
@[go_sem] theorem tab.SJ : an Try.prog 82 = some 24 := by kernel_rfl
@[go_sem] theorem tab.SK : au Try.prog 82 = some (Go.Value.slice none 0 0) := by kernel_rfl
@[go_sem] theorem tab.SL : Program.underlying Try.prog 82 = some (Go.TypeDesc.slice 3) := by kernel_rfl
@[go_sem] theorem tab.SM : aJ Try.prog 82 = some false := by kernel_rfl
@[go_sem] theorem tab.SN : ah Try.prog 86 = some 5 := by kernel_rfl
@[go_sem] theorem tab.SO : an Try.prog 86 = some 56 := by kernel_rfl
@[go_sem] theorem tab.SQ : au Try.prog 86 = some (Go.Value.agg #[(Go.Value.int Go.IntKind.i64 0), (Go.Value.int Go.IntKind.i64 0), (Go.Value.int Go.IntKind.i64 0), (Go.Value.int Go.IntKind.i64 0), (Go.Value.slice none 0 0)]) := by kernel_rfl
@[go_sem] theorem tab.SR : Program.underlying Try.prog 86 = some (Go.TypeDesc.struct #[{ name := "Retention", type := 3, offset := 0, embedded := false, tag := "", pkgPath := "", byteOffset := 0 }, { name := "Policy", type := 3, offset := 1, embedded := false, tag := "", pkgPath := "", byteOffset := 8 }, { name := "Max", type := 3, offset := 2, embedded := false, tag := "", pkgPath := "", byteOffset := 16 }, { name := "Floor", type := 3, offset := 3, embedded := false, tag := "", pkgPath := "", byteOffset := 24 }, { name := "L", type := 35, offset := 4, embedded := false, tag := "", pkgPath := "", byteOffset := 32 }]) := by kernel_rfl
@[go_sem] theorem tab.SS : aJ Try.prog 86 = some true := by kernel_rfl
@[go_sem] theorem tab.Mp : ai Try.prog 86 0 = some (3, 0) := by kernel_rfl
@[go_sem] theorem tab.Mq : ai Try.prog 86 1 = some (3, 1) := by kernel_rfl
@[go_sem] theorem tab.Mr : ai Try.prog 86 2 = some (3, 2) := by kernel_rfl
@[go_sem] theorem tab.Ms : ai Try.prog 86 3 = some (3, 3) := by kernel_rfl
@[go_sem] theorem tab.Mt : ai Try.prog 86 4 = some (35, 4) := by kernel_rfl
@[go_sem] theorem tab.SU : ah Try.prog 87 = some 5 := by kernel_rfl
@[go_sem] theorem tab.SV : an Try.prog 87 = some 56 := by kernel_rfl
@[go_sem] theorem tab.SW : au Try.prog 87 = some (Go.Value.agg #[(Go.Value.int Go.IntKind.i64 0), (Go.Value.int Go.IntKind.i64 0), (Go.Value.int Go.IntKind.i64 0), (Go.Value.int Go.IntKind.i64 0), (Go.Value.slice none 0 0)]) := by kernel_rfl
@[go_sem] theorem tab.SX : Program.underlying Try.prog 87 = some (Go.TypeDesc.struct #[{ name := "Retention", type := 3, offset := 0, embedded := false, tag := "", pkgPath := "", byteOffset := 0 }, { name := "Policy", type := 3, offset := 1, embedded := false, tag := "", pkgPath := "", byteOffset := 8 }, { name := "Max", type := 3, offset := 2, embedded := false, tag := "", pkgPath := "", byteOffset := 16 }, { name := "Floor", type := 3, offset := 3, embedded := false, tag := "", pkgPath := "", byteOffset := 24 }, { name := "L", type := 35, offset := 4, embedded := false, tag := "", pkgPath := "", byteOffset := 32 }]) := by kernel_rfl
@[go_sem] theorem tab.SY : aJ Try.prog 87 = some true := by kernel_rfl
@[go_sem] theorem tab.Mu : ai Try.prog 87 0 = some (3, 0) := by kernel_rfl
@[go_sem] theorem tab.Mv : ai Try.prog 87 1 = some (3, 1) := by kernel_rfl
@[go_sem] theorem tab.Mw : ai Try.prog 87 2 = some (3, 2) := by kernel_rfl
@[go_sem] theorem tab.Mx : ai Try.prog 87 3 = some (3, 3) := by kernel_rfl
@[go_sem] theorem tab.My : ai Try.prog 87 4 = some (35, 4) := by kernel_rfl
@[go_sem] theorem tab.SZ : ah Try.prog 89 = some 4 := by kernel_rfl
@[go_sem] theorem tab.S1 : an Try.prog 89 = some 40 := by kernel_rfl
@[go_sem] theorem tab.S2 : au Try.prog 89 = some (Go.Value.agg #[(Go.Value.int Go.IntKind.i64 0), (Go.Value.string { data := #[] }), (Go.Value.int Go.IntKind.i64 0), (Go.Value.int Go.IntKind.i64 0)]) := by kernel_rfl
@[go_sem] theorem tab.S3 : Program.underlying Try.prog 89 = some (Go.TypeDesc.struct #[{ name := "size", type := 3, offset := 0, embedded := false, tag := "", pkgPath := "tachograph/chunk", byteOffset := 0 }, { name := "s", type := 9, offset := 1, embedded := false, tag := "", pkgPath := "tachograph/chunk", byteOffset := 8 }, { name := "bits", type := 3, offset := 2, embedded := false, tag := "", pkgPath := "tachograph/chunk", byteOffset := 24 }, { name := "n", type := 3, offset := 3, embedded := false, tag := "", pkgPath := "tachograph/chunk", byteOffset := 32 }]) := by kernel_rfl
@[go_sem] theorem tab.S4 : aJ Try.prog 89 = some true := by kernel_rfl
@[go_sem] theorem tab.S5 : eo Try.prog 89 = some [(0, 0), (1, 1), (0, 2), (0, 3)] := by kernel_rfl
@[go_sem] theorem tab.Mz : ai Try.prog 89 0 = some (3, 0) := by kernel_rfl
@[go_sem] theorem tab.MA : ai Try.prog 89 1 = some (9, 1) := by kernel_rfl
@[go_sem] theorem tab.MB : ai Try.prog 89 2 = some (3, 2) := by kernel_rfl
@[go_sem] theorem tab.MC : ai Try.prog 89 3 = some (3, 3) := by kernel_rfl
@[go_sem] theorem tab.S6 : ah Try.prog 90 = some 4 := by kernel_rfl
@[go_sem] theorem tab.S7 : an Try.prog 90 = some 40 := by kernel_rfl
@[go_sem] theorem tab.S8 : au Try.prog 90 = some (Go.Value.agg #[(Go.Value.int Go.IntKind.i64 0), (Go.Value.string { data := #[] }), (Go.Value.int Go.IntKind.i64 0), (Go.Value.int Go.IntKind.i64 0)]) := by kernel_rfl
@[go_sem] theorem tab.S9 : Program.underlying Try.prog 90 = some (Go.TypeDesc.struct #[{ name := "size", type := 3, offset := 0, embedded := false, tag := "", pkgPath := "tachograph/chunk", byteOffset := 0 }, { name := "s", type := 9, offset := 1, embedded := false, tag := "", pkgPath := "tachograph/chunk", byteOffset := 8 }, { name := "bits", type := 3, offset := 2, embedded := false, tag := "", pkgPath := "tachograph/chunk", byteOffset := 24 }, { name := "n", type := 3, offset := 3, embedded := false, tag := "", pkgPath := "tachograph/chunk", byteOffset := 32 }]) := by kernel_rfl
@[go_sem] theorem tab.Ta : aJ Try.prog 90 = some true := by kernel_rfl
@[go_sem] theorem tab.Tb : eo Try.prog 90 = some [(0, 0), (1, 1), (0, 2), (0, 3)] := by kernel_rfl
@[go_sem] theorem tab.MD : ai Try.prog 90 0 = some (3, 0) := by kernel_rfl
@[go_sem] theorem tab.ME : ai Try.prog 90 1 = some (9, 1) := by kernel_rfl
@[go_sem] theorem tab.MF : ai Try.prog 90 2 = some (3, 2) := by kernel_rfl
@[go_sem] theorem tab.MG : ai Try.prog 90 3 = some (3, 3) := by kernel_rfl
@[go_sem] theorem tab.Tc : ah Try.prog 98 = some 2 := by kernel_rfl
@[go_sem] theorem tab.Td : an Try.prog 98 = some 32 := by kernel_rfl
@[go_sem] theorem tab.Te : au Try.prog 98 = some (Go.Value.agg #[(Go.Value.int Go.IntKind.i64 0), (Go.Value.slice none 0 0)]) := by kernel_rfl
@[go_sem] theorem tab.Tf : Program.underlying Try.prog 98 = some (Go.TypeDesc.struct #[{ name := "Size", type := 3, offset := 0, embedded := false, tag := "", pkgPath := "", byteOffset := 0 }, { name := "L", type := 35, offset := 1, embedded := false, tag := "", pkgPath := "", byteOffset := 8 }]) := by kernel_rfl
@[go_sem] theorem tab.Tg : aJ Try.prog 98 = some true := by kernel_rfl
@[go_sem] theorem tab.MH : ai Try.prog 98 0 = some (3, 0) := by kernel_rfl
@[go_sem] theorem tab.MI : ai Try.prog 98 1 = some (35, 1) := by kernel_rfl
@[go_sem] theorem tab.Th : ah Try.prog 99 = some 2 := by kernel_rfl
@[go_sem] theorem tab.Ti : an Try.prog 99 = some 32 := by kernel_rfl
@[go_sem] theorem tab.Tj : au Try.prog 99 = some (Go.Value.agg #[(Go.Value.int Go.IntKind.i64 0), (Go.Value.slice none 0 0)]) := by kernel_rfl
@[go_sem] theorem tab.Tk : Program.underlying Try.prog 99 = some (Go.TypeDesc.struct #[{ name := "Size", type := 3, offset := 0, embedded := false, tag := "", pkgPath := "", byteOffset := 0 }, { name := "L", type := 35, offset := 1, embedded := false, tag := "", pkgPath := "", byteOffset := 8 }]) := by kernel_rfl
@[go_sem] theorem tab.Tl : aJ Try.prog 99 = some true := by kernel_rfl
@[go_sem] theorem tab.MJ : ai Try.prog 99 0 = some (3, 0) := by kernel_rfl
@[go_sem] theorem tab.MK : ai Try.prog 99 1 = some (35, 1) := by kernel_rfl
@[go_sem] theorem tab.M6 : ah Try.prog 108 = some 1 := by kernel_rfl
@[go_sem] theorem tab.M7 : an Try.prog 108 = some 8 := by kernel_rfl
@[go_sem] theorem tab.M8 : au Try.prog 108 = some (Go.Value.pointer none) := by kernel_rfl
@[go_sem] theorem tab.M9 : Program.underlying Try.prog 108 = some (Go.TypeDesc.pointer 130) := by kernel_rfl
@[go_sem] theorem tab.Na : aJ Try.prog 108 = some false := by kernel_rfl
@[go_sem] theorem tab.Nb : ah Try.prog 111 = some 1 := by kernel_rfl
@[go_sem] theorem tab.Nc : an Try.prog 111 = some 8 := by kernel_rfl
@[go_sem] theorem tab.Nd : au Try.prog 111 = some (Go.Value.pointer none) := by kernel_rfl
@[go_sem] theorem tab.Nf : Program.underlying Try.prog 111 = some (Go.TypeDesc.pointer 113) := by kernel_rfl
@[go_sem] theorem tab.Ng : aJ Try.prog 111 = some false := by kernel_rfl
@[go_sem] theorem tab.Nh : ah Try.prog 112 = some 5 := by kernel_rfl
@[go_sem] theorem tab.Ni : an Try.prog 112 = some 40 := by kernel_rfl
@[go_sem] theorem tab.Nj : au Try.prog 112 = some (Go.Value.agg #[(Go.Value.pointer none), (Go.Value.int Go.IntKind.i64 0), (Go.Value.int Go.IntKind.i64 0), (Go.Value.int Go.IntKind.i64 0), (Go.Value.int Go.IntKind.i64 0)]) := by kernel_rfl
@[go_sem] theorem tab.Nk : Program.underlying Try.prog 112 = some (Go.TypeDesc.struct #[{ name := "r", type := 108, offset := 0, embedded := false, tag := "", pkgPath := "tachograph/delta", byteOffset := 0 }, { name := "last", type := 29, offset := 1, embedded := false, tag := "", pkgPath := "tachograph/delta", byteOffset := 8 }, { name := "step", type := 3, offset := 3, embedded := false, tag := "", pkgPath := "tachograph/delta", byteOffset := 24 }, { name := "e", type := 25, offset := 4, embedded := false, tag := "", pkgPath := "tachograph/delta", byteOffset := 32 }]) := by kernel_rfl
@[go_sem] theorem tab.Nl : aJ Try.prog 112 = some true := by kernel_rfl
@[go_sem] theorem tab.KZ : ai Try.prog 112 0 = some (108, 0) := by kernel_rfl
@[go_sem] theorem tab.K0 : ai Try.prog 112 1 = some (29, 1) := by kernel_rfl
@[go_sem] theorem tab.K1 : ai Try.prog 112 2 = some (3, 3) := by kernel_rfl
@[go_sem] theorem tab.K2 : ai Try.prog 112 3 = some (25, 4) := by kernel_rfl
@[go_sem] theorem tab.Nm : ah Try.prog 113 = some 5 := by kernel_rfl
@[go_sem] theorem tab.Nn : an Try.prog 113 = some 40 := by kernel_rfl
@[go_sem] theorem tab.No : au Try.prog 113 = some (Go.Value.agg #[(Go.Value.pointer none), (Go.Value.int Go.IntKind.i64 0), (Go.Value.int Go.IntKind.i64 0), (Go.Value.int Go.IntKind.i64 0), (Go.Value.int Go.IntKind.i64 0)]) := by kernel_rfl
@[go_sem] theorem tab.Np : Program.underlying Try.prog 113 = some (Go.TypeDesc.struct #[{ name := "r", type := 108, offset := 0, embedded := false, tag := "", pkgPath := "tachograph/delta", byteOffset := 0 }, { name := "last", type := 29, offset := 1, embedded := false, tag := "", pkgPath := "tachograph/delta", byteOffset := 8 }, { name := "step", type := 3, offset := 3, embedded := false, tag := "", pkgPath := "tachograph/delta", byteOffset := 24 }, { name := "e", type := 25, offset := 4, embedded := false, tag := "", pkgPath := "tachograph/delta", byteOffset := 32 }]) := by kernel_rfl
@[go_sem] theorem tab.Nq : aJ Try.prog 113 = some true := by kernel_rfl
@[go_sem] theorem tab.K3 : ai Try.prog 113 0 = some (108, 0) := by kernel_rfl
@[go_sem] theorem tab.K4 : ai Try.prog 113 1 = some (29, 1) := by kernel_rfl
@[go_sem] theorem tab.K5 : ai Try.prog 113 2 = some (3, 3) := by kernel_rfl
@[go_sem] theorem tab.K6 : ai Try.prog 113 3 = some (25, 4) := by kernel_rfl
@[go_sem] theorem tab.Nr : ah Try.prog 115 = some 1 := by kernel_rfl
@[go_sem] theorem tab.Ns : an Try.prog 115 = some 24 := by kernel_rfl
@[go_sem] theorem tab.Nt : au Try.prog 115 = some (Go.Value.slice none 0 0) := by kernel_rfl
@[go_sem] theorem tab.Nu : Program.underlying Try.prog 115 = some (Go.TypeDesc.slice 4) := by kernel_rfl
@[go_sem] theorem tab.Nv : aJ Try.prog 115 = some false := by kernel_rfl
@[go_sem] theorem tab.Nw : ah Try.prog 119 = some 1 := by kernel_rfl
@[go_sem] theorem tab.Nx : an Try.prog 119 = some 24 := by kernel_rfl
@[go_sem] theorem tab.Ny : au Try.prog 119 = some (Go.Value.slice none 0 0) := by kernel_rfl
@[go_sem] theorem tab.Nz : Program.underlying Try.prog 119 = some (Go.TypeDesc.slice 9) := by kernel_rfl
@[go_sem] theorem tab.NA : aJ Try.prog 119 = some false := by kernel_rfl
@[go_sem] theorem tab.NB : ah Try.prog 120 = some 1 := by kernel_rfl
@[go_sem] theorem tab.NC : an Try.prog 120 = some 8 := by kernel_rfl
@[go_sem] theorem tab.ND : au Try.prog 120 = some (Go.Value.pointer none) := by kernel_rfl
@[go_sem] theorem tab.NF : Program.underlying Try.prog 120 = some (Go.TypeDesc.pointer 123) := by kernel_rfl
@[go_sem] theorem tab.NG : aJ Try.prog 120 = some false := by kernel_rfl
@[go_sem] theorem tab.NH : ah Try.prog 121 = some 1 := by kernel_rfl
@[go_sem] theorem tab.NI : an Try.prog 121 = some 24 := by kernel_rfl
@[go_sem] theorem tab.NJ : au Try.prog 121 = some (Go.Value.slice none 0 0) := by kernel_rfl
@[go_sem] theorem tab.NK : Program.underlying Try.prog 121 = some (Go.TypeDesc.slice 5) := by kernel_rfl
@[go_sem] theorem tab.NL : aJ Try.prog 121 = some false := by kernel_rfl
@[go_sem] theorem tab.NM : ah Try.prog 122 = some 2 := by kernel_rfl
@[go_sem] theorem tab.NN : an Try.prog 122 = some 32 := by kernel_rfl
@[go_sem] theorem tab.NO : au Try.prog 122 = some (Go.Value.agg #[(Go.Value.slice none 0 0), (Go.Value.int Go.IntKind.i64 0)]) := by kernel_rfl
@[go_sem] theorem tab.NP : Program.underlying Try.prog 122 = some (Go.TypeDesc.struct #[{ name := "b", type := 121, offset := 0, embedded := false, tag := "", pkgPath := "tachograph/bits", byteOffset := 0 }, { name := "n", type := 3, offset := 1, embedded := false, tag := "", pkgPath := "tachograph/bits", byteOffset := 24 }]) := by kernel_rfl
@[go_sem] theorem tab.NQ : aJ Try.prog 122 = some true := by kernel_rfl
@[go_sem] theorem tab.K7 : ai Try.prog 122 0 = some (121, 0) := by kernel_rfl
@[go_sem] theorem tab.K8 : ai Try.prog 122 1 = some (3, 1) := by kernel_rfl
@[go_sem] theorem tab.NR : ah Try.prog 123 = some 2 := by kernel_rfl
@[go_sem] theorem tab.NS : an Try.prog 123 = some 32 := by kernel_rfl
@[go_sem] theorem tab.NT : au Try.prog 123 = some (Go.Value.agg #[(Go.Value.slice none 0 0), (Go.Value.int Go.IntKind.i64 0)]) := by kernel_rfl
@[go_sem] theorem tab.NU : Program.underlying Try.prog 123 = some (Go.TypeDesc.struct #[{ name := "b", type := 121, offset := 0, embedded := false, tag := "", pkgPath := "tachograph/bits", byteOffset := 0 }, { name := "n", type := 3, offset := 1, embedded := false, tag := "", pkgPath := "tachograph/bits", byteOffset := 24 }]) := by kernel_rfl
@[go_sem] theorem tab.NV : aJ Try.prog 123 = some true := by kernel_rfl
@[go_sem] theorem tab.K9 : ai Try.prog 123 0 = some (121, 0) := by kernel_rfl
@[go_sem] theorem tab.La : ai Try.prog 123 1 = some (3, 1) := by kernel_rfl
@[go_sem] theorem tab.NW : ah Try.prog 125 = some 1 := by kernel_rfl
@[go_sem] theorem tab.NX : an Try.prog 125 = some 8 := by kernel_rfl
@[go_sem] theorem tab.NY : au Try.prog 125 = some (Go.Value.int Go.IntKind.u64 0) := by kernel_rfl
@[go_sem] theorem tab.NZ : Program.underlying Try.prog 125 = some (Go.TypeDesc.int Go.IntKind.u64) := by kernel_rfl
@[go_sem] theorem tab.N0 : aJ Try.prog 125 = some false := by kernel_rfl
@[go_sem] theorem tab.N1 : ah Try.prog 129 = some 4 := by kernel_rfl
@[go_sem] theorem tab.N2 : an Try.prog 129 = some 40 := by kernel_rfl
@[go_sem] theorem tab.N3 : au Try.prog 129 = some (Go.Value.agg #[(Go.Value.string { data := #[] }), (Go.Value.int Go.IntKind.i64 0), (Go.Value.int Go.IntKind.i64 0), (Go.Value.bool false)]) := by kernel_rfl
@[go_sem] theorem tab.N4 : Program.underlying Try.prog 129 = some (Go.TypeDesc.struct #[{ name := "s", type := 9, offset := 0, embedded := false, tag := "", pkgPath := "tachograph/bits", byteOffset := 0 }, { name := "n", type := 3, offset := 1, embedded := false, tag := "", pkgPath := "tachograph/bits", byteOffset := 16 }, { name := "at", type := 3, offset := 2, embedded := false, tag := "", pkgPath := "tachograph/bits", byteOffset := 24 }, { name := "made", type := 4, offset := 3, embedded := false, tag := "", pkgPath := "tachograph/bits", byteOffset := 32 }]) := by kernel_rfl
@[go_sem] theorem tab.N5 : aJ Try.prog 129 = some true := by kernel_rfl
@[go_sem] theorem tab.N6 : eo Try.prog 129 = some [(1, 0), (0, 1), (0, 2), (2, 3)] := by kernel_rfl
@[go_sem] theorem tab.Lb : ai Try.prog 129 0 = some (9, 0) := by kernel_rfl
@[go_sem] theorem tab.Lc : ai Try.prog 129 1 = some (3, 1) := by kernel_rfl
@[go_sem] theorem tab.Ld : ai Try.prog 129 2 = some (3, 2) := by kernel_rfl
@[go_sem] theorem tab.Le : ai Try.prog 129 3 = some (4, 3) := by kernel_rfl
@[go_sem] theorem tab.N7 : ah Try.prog 130 = some 4 := by kernel_rfl
@[go_sem] theorem tab.N8 : an Try.prog 130 = some 40 := by kernel_rfl
@[go_sem] theorem tab.N9 : au Try.prog 130 = some (Go.Value.agg #[(Go.Value.string { data := #[] }), (Go.Value.int Go.IntKind.i64 0), (Go.Value.int Go.IntKind.i64 0), (Go.Value.bool false)]) := by kernel_rfl
@[go_sem] theorem tab.Oa : Program.underlying Try.prog 130 = some (Go.TypeDesc.struct #[{ name := "s", type := 9, offset := 0, embedded := false, tag := "", pkgPath := "tachograph/bits", byteOffset := 0 }, { name := "n", type := 3, offset := 1, embedded := false, tag := "", pkgPath := "tachograph/bits", byteOffset := 16 }, { name := "at", type := 3, offset := 2, embedded := false, tag := "", pkgPath := "tachograph/bits", byteOffset := 24 }, { name := "made", type := 4, offset := 3, embedded := false, tag := "", pkgPath := "tachograph/bits", byteOffset := 32 }]) := by kernel_rfl
@[go_sem] theorem tab.Ob : aJ Try.prog 130 = some true := by kernel_rfl
@[go_sem] theorem tab.Oc : eo Try.prog 130 = some [(1, 0), (0, 1), (0, 2), (2, 3)] := by kernel_rfl
@[go_sem] theorem tab.Lf : ai Try.prog 130 0 = some (9, 0) := by kernel_rfl
@[go_sem] theorem tab.Lg : ai Try.prog 130 1 = some (3, 1) := by kernel_rfl
@[go_sem] theorem tab.Lh : ai Try.prog 130 2 = some (3, 2) := by kernel_rfl
@[go_sem] theorem tab.Li : ai Try.prog 130 3 = some (4, 3) := by kernel_rfl
@[go_sem] theorem tab.Od : ah Try.prog 136 = some 5 := by kernel_rfl
@[go_sem] theorem tab.Oe : an Try.prog 136 = some 40 := by kernel_rfl
@[go_sem] theorem tab.Of : au Try.prog 136 = some (Go.Value.agg #[(Go.Value.int Go.IntKind.i64 0), (Go.Value.int Go.IntKind.i64 0), (Go.Value.int Go.IntKind.i64 0), (Go.Value.int Go.IntKind.i64 0), (Go.Value.int Go.IntKind.i64 0)]) := by kernel_rfl
@[go_sem] theorem tab.Og : Program.underlying Try.prog 136 = some (Go.TypeDesc.array 5 3) := by kernel_rfl
@[go_sem] theorem tab.Oh : aJ Try.prog 136 = some true := by kernel_rfl
@[go_sem] theorem tab.Oi : ah Try.prog 138 = some 1 := by kernel_rfl
@[go_sem] theorem tab.Oj : an Try.prog 138 = some 8 := by kernel_rfl
@[go_sem] theorem tab.Ok : au Try.prog 138 = some (Go.Value.int Go.IntKind.u64 0) := by kernel_rfl
@[go_sem] theorem tab.Ol : Program.underlying Try.prog 138 = some (Go.TypeDesc.int Go.IntKind.u64) := by kernel_rfl
@[go_sem] theorem tab.Om : aJ Try.prog 138 = some false := by kernel_rfl
@[go_sem] theorem tab.On : ah Try.prog 146 = some 4 := by kernel_rfl
@[go_sem] theorem tab.Oo : an Try.prog 146 = some 40 := by kernel_rfl
@[go_sem] theorem tab.Oq : au Try.prog 146 = some (Go.Value.agg #[(Go.Value.pointer none), (Go.Value.pointer none), (Go.Value.pointer none), (Go.Value.string { data := #[] })]) := by kernel_rfl
@[go_sem] theorem tab.Ot : Program.underlying Try.prog 146 = some (Go.TypeDesc.struct #[{ name := "_interface", type := 17, offset := 0, embedded := false, tag := "", pkgPath := "runtime", byteOffset := 0 }, { name := "concrete", type := 17, offset := 1, embedded := false, tag := "", pkgPath := "runtime", byteOffset := 8 }, { name := "asserted", type := 17, offset := 2, embedded := false, tag := "", pkgPath := "runtime", byteOffset := 16 }, { name := "missingMethod", type := 9, offset := 3, embedded := false, tag := "", pkgPath := "runtime", byteOffset := 24 }]) := by kernel_rfl
@[go_sem] theorem tab.Ou : aJ Try.prog 146 = some true := by kernel_rfl
@[go_sem] theorem tab.Lj : ai Try.prog 146 0 = some (17, 0) := by kernel_rfl
@[go_sem] theorem tab.Lk : ai Try.prog 146 1 = some (17, 1) := by kernel_rfl
@[go_sem] theorem tab.Ll : ai Try.prog 146 2 = some (17, 2) := by kernel_rfl
@[go_sem] theorem tab.Lm : ai Try.prog 146 3 = some (9, 3) := by kernel_rfl
@[go_sem] theorem tab.Ov : ah Try.prog 147 = some 4 := by kernel_rfl
@[go_sem] theorem tab.Ow : an Try.prog 147 = some 40 := by kernel_rfl
@[go_sem] theorem tab.Ox : au Try.prog 147 = some (Go.Value.agg #[(Go.Value.pointer none), (Go.Value.pointer none), (Go.Value.pointer none), (Go.Value.string { data := #[] })]) := by kernel_rfl
@[go_sem] theorem tab.Oy : Program.underlying Try.prog 147 = some (Go.TypeDesc.struct #[{ name := "_interface", type := 17, offset := 0, embedded := false, tag := "", pkgPath := "runtime", byteOffset := 0 }, { name := "concrete", type := 17, offset := 1, embedded := false, tag := "", pkgPath := "runtime", byteOffset := 8 }, { name := "asserted", type := 17, offset := 2, embedded := false, tag := "", pkgPath := "runtime", byteOffset := 16 }, { name := "missingMethod", type := 9, offset := 3, embedded := false, tag := "", pkgPath := "runtime", byteOffset := 24 }]) := by kernel_rfl
@[go_sem] theorem tab.Oz : aJ Try.prog 147 = some true := by kernel_rfl
@[go_sem] theorem tab.Ln : ai Try.prog 147 0 = some (17, 0) := by kernel_rfl
@[go_sem] theorem tab.Lo : ai Try.prog 147 1 = some (17, 1) := by kernel_rfl
@[go_sem] theorem tab.Lp : ai Try.prog 147 2 = some (17, 2) := by kernel_rfl
@[go_sem] theorem tab.Lq : ai Try.prog 147 3 = some (9, 3) := by kernel_rfl
@[go_sem] theorem tab.OA : ah Try.prog 148 = some 0 := by kernel_rfl
@[go_sem] theorem tab.OB : an Try.prog 148 = some 0 := by kernel_rfl
@[go_sem] theorem tab.OC : au Try.prog 148 = some (Go.Value.agg #[]) := by kernel_rfl
@[go_sem] theorem tab.OD : Program.underlying Try.prog 148 = some (Go.TypeDesc.array 0 16) := by kernel_rfl
@[go_sem] theorem tab.OE : aJ Try.prog 148 = some true := by kernel_rfl
@[go_sem] theorem tab.OF : ah Try.prog 149 = some 0 := by kernel_rfl
@[go_sem] theorem tab.OG : an Try.prog 149 = some 0 := by kernel_rfl
@[go_sem] theorem tab.OH : au Try.prog 149 = some (Go.Value.agg #[]) := by kernel_rfl
@[go_sem] theorem tab.OI : Program.underlying Try.prog 149 = some (Go.TypeDesc.struct #[{ name := "_", type := 148, offset := 0, embedded := false, tag := "", pkgPath := "runtime", byteOffset := 0 }]) := by kernel_rfl
@[go_sem] theorem tab.OJ : aJ Try.prog 149 = some true := by kernel_rfl
@[go_sem] theorem tab.OK : ah Try.prog 150 = some 0 := by kernel_rfl
@[go_sem] theorem tab.OL : an Try.prog 150 = some 0 := by kernel_rfl
@[go_sem] theorem tab.OM : au Try.prog 150 = some (Go.Value.agg #[]) := by kernel_rfl
@[go_sem] theorem tab.ON : Program.underlying Try.prog 150 = some (Go.TypeDesc.struct #[{ name := "_", type := 148, offset := 0, embedded := false, tag := "", pkgPath := "runtime", byteOffset := 0 }]) := by kernel_rfl
@[go_sem] theorem tab.OO : aJ Try.prog 150 = some true := by kernel_rfl
@[go_sem] theorem tab.OP : ah Try.prog 151 = some 1 := by kernel_rfl
@[go_sem] theorem tab.OQ : an Try.prog 151 = some 4 := by kernel_rfl
@[go_sem] theorem tab.OS : au Try.prog 151 = some (Go.Value.int Go.IntKind.u32 0) := by kernel_rfl
@[go_sem] theorem tab.OT : Program.underlying Try.prog 151 = some (Go.TypeDesc.int Go.IntKind.u32) := by kernel_rfl
@[go_sem] theorem tab.OU : aJ Try.prog 151 = some false := by kernel_rfl
@[go_sem] theorem tab.OV : ah Try.prog 152 = some 1 := by kernel_rfl
@[go_sem] theorem tab.OW : an Try.prog 152 = some 1 := by kernel_rfl
@[go_sem] theorem tab.OX : au Try.prog 152 = some (Go.Value.int Go.IntKind.u8 0) := by kernel_rfl
@[go_sem] theorem tab.OY : Program.underlying Try.prog 152 = some (Go.TypeDesc.int Go.IntKind.u8) := by kernel_rfl
@[go_sem] theorem tab.OZ : aJ Try.prog 152 = some false := by kernel_rfl
@[go_sem] theorem tab.O0 : ah Try.prog 153 = some 1 := by kernel_rfl
@[go_sem] theorem tab.O1 : an Try.prog 153 = some 1 := by kernel_rfl
@[go_sem] theorem tab.O3 : au Try.prog 153 = some (Go.Value.int Go.IntKind.u8 0) := by kernel_rfl
@[go_sem] theorem tab.O4 : Program.underlying Try.prog 153 = some (Go.TypeDesc.int Go.IntKind.u8) := by kernel_rfl
@[go_sem] theorem tab.O5 : aJ Try.prog 153 = some false := by kernel_rfl
@[go_sem] theorem tab.O6 : ah Try.prog 155 = some 1 := by kernel_rfl
@[go_sem] theorem tab.O7 : an Try.prog 155 = some 8 := by kernel_rfl
@[go_sem] theorem tab.O8 : au Try.prog 155 = some (Go.Value.pointer none) := by kernel_rfl
@[go_sem] theorem tab.O9 : Program.underlying Try.prog 155 = some (Go.TypeDesc.pointer 5) := by kernel_rfl
@[go_sem] theorem tab.Pb : aJ Try.prog 155 = some false := by kernel_rfl
@[go_sem] theorem tab.Pc : ah Try.prog 156 = some 1 := by kernel_rfl
@[go_sem] theorem tab.Pd : an Try.prog 156 = some 4 := by kernel_rfl
@[go_sem] theorem tab.Pe : au Try.prog 156 = some (Go.Value.int Go.IntKind.i32 0) := by kernel_rfl
@[go_sem] theorem tab.Pg : Program.underlying Try.prog 156 = some (Go.TypeDesc.int Go.IntKind.i32) := by kernel_rfl
@[go_sem] theorem tab.Pj : aJ Try.prog 156 = some false := by kernel_rfl
@[go_sem] theorem tab.Pm : ah Try.prog 157 = some 1 := by kernel_rfl
@[go_sem] theorem tab.Pn : an Try.prog 157 = some 4 := by kernel_rfl
@[go_sem] theorem tab.Po : au Try.prog 157 = some (Go.Value.int Go.IntKind.i32 0) := by kernel_rfl
@[go_sem] theorem tab.Pp : Program.underlying Try.prog 157 = some (Go.TypeDesc.int Go.IntKind.i32) := by kernel_rfl
@[go_sem] theorem tab.Pq : aJ Try.prog 157 = some false := by kernel_rfl
@[go_sem] theorem tab.Pr : ah Try.prog 158 = some 11 := by kernel_rfl
@[go_sem] theorem tab.Pt : an Try.prog 158 = some 48 := by kernel_rfl
@[go_sem] theorem tab.Pu : au Try.prog 158 = some (Go.Value.agg #[(Go.Value.int Go.IntKind.u64 0), (Go.Value.int Go.IntKind.u64 0), (Go.Value.int Go.IntKind.u32 0), (Go.Value.int Go.IntKind.u8 0), (Go.Value.int Go.IntKind.u8 0), (Go.Value.int Go.IntKind.u8 0), (Go.Value.int Go.IntKind.u8 0), Go.Value.nilFunc, (Go.Value.pointer none), (Go.Value.int Go.IntKind.i32 0), (Go.Value.int Go.IntKind.i32 0)]) := by kernel_rfl
@[go_sem] theorem tab.Pv : Program.underlying Try.prog 158 = some (Go.TypeDesc.struct #[{ name := "Size_", type := 12, offset := 0, embedded := false, tag := "", pkgPath := "", byteOffset := 0 }, { name := "PtrBytes", type := 12, offset := 1, embedded := false, tag := "", pkgPath := "", byteOffset := 8 }, { name := "Hash", type := 151, offset := 2, embedded := false, tag := "", pkgPath := "", byteOffset := 16 }, { name := "TFlag", type := 152, offset := 3, embedded := false, tag := "", pkgPath := "", byteOffset := 20 }, { name := "Align_", type := 5, offset := 4, embedded := false, tag := "", pkgPath := "", byteOffset := 21 }, { name := "FieldAlign_", type := 5, offset := 5, embedded := false, tag := "", pkgPath := "", byteOffset := 22 }, { name := "Kind_", type := 153, offset := 6, embedded := false, tag := "", pkgPath := "", byteOffset := 23 }, { name := "Equal", type := 154, offset := 7, embedded := false, tag := "", pkgPath := "", byteOffset := 24 }, { name := "GCData", type := 155, offset := 8, embedded := false, tag := "", pkgPath := "", byteOffset := 32 }, { name := "Str", type := 156, offset := 9, embedded := false, tag := "", pkgPath := "", byteOffset := 40 }, { name := "PtrToThis", type := 157, offset := 10, embedded := false, tag := "", pkgPath := "", byteOffset := 44 }]) := by kernel_rfl
@[go_sem] theorem tab.Pw : aJ Try.prog 158 = some true := by kernel_rfl
@[go_sem] theorem tab.Lr : ai Try.prog 158 0 = some (12, 0) := by kernel_rfl
@[go_sem] theorem tab.Ls : ai Try.prog 158 1 = some (12, 1) := by kernel_rfl
@[go_sem] theorem tab.Lt : ai Try.prog 158 2 = some (151, 2) := by kernel_rfl
@[go_sem] theorem tab.Lu : ai Try.prog 158 3 = some (152, 3) := by kernel_rfl
@[go_sem] theorem tab.Lv : ai Try.prog 158 4 = some (5, 4) := by kernel_rfl
@[go_sem] theorem tab.Lw : ai Try.prog 158 5 = some (5, 5) := by kernel_rfl
@[go_sem] theorem tab.Lx : ai Try.prog 158 6 = some (153, 6) := by kernel_rfl
@[go_sem] theorem tab.Ly : ai Try.prog 158 7 = some (154, 7) := by kernel_rfl
@[go_sem] theorem tab.Lz : ai Try.prog 158 8 = some (155, 8) := by kernel_rfl
@[go_sem] theorem tab.LA : ai Try.prog 158 9 = some (156, 9) := by kernel_rfl
@[go_sem] theorem tab.Jx : ai Try.prog 158 10 = some (157, 10) := by kernel_rfl
@[go_sem] theorem tab.Px : ah Try.prog 159 = some 11 := by kernel_rfl
@[go_sem] theorem tab.Py : an Try.prog 159 = some 48 := by kernel_rfl
@[go_sem] theorem tab.Pz : au Try.prog 159 = some (Go.Value.agg #[(Go.Value.int Go.IntKind.u64 0), (Go.Value.int Go.IntKind.u64 0), (Go.Value.int Go.IntKind.u32 0), (Go.Value.int Go.IntKind.u8 0), (Go.Value.int Go.IntKind.u8 0), (Go.Value.int Go.IntKind.u8 0), (Go.Value.int Go.IntKind.u8 0), Go.Value.nilFunc, (Go.Value.pointer none), (Go.Value.int Go.IntKind.i32 0), (Go.Value.int Go.IntKind.i32 0)]) := by kernel_rfl
@[go_sem] theorem tab.PA : Program.underlying Try.prog 159 = some (Go.TypeDesc.struct #[{ name := "Size_", type := 12, offset := 0, embedded := false, tag := "", pkgPath := "", byteOffset := 0 }, { name := "PtrBytes", type := 12, offset := 1, embedded := false, tag := "", pkgPath := "", byteOffset := 8 }, { name := "Hash", type := 151, offset := 2, embedded := false, tag := "", pkgPath := "", byteOffset := 16 }, { name := "TFlag", type := 152, offset := 3, embedded := false, tag := "", pkgPath := "", byteOffset := 20 }, { name := "Align_", type := 5, offset := 4, embedded := false, tag := "", pkgPath := "", byteOffset := 21 }, { name := "FieldAlign_", type := 5, offset := 5, embedded := false, tag := "", pkgPath := "", byteOffset := 22 }, { name := "Kind_", type := 153, offset := 6, embedded := false, tag := "", pkgPath := "", byteOffset := 23 }, { name := "Equal", type := 154, offset := 7, embedded := false, tag := "", pkgPath := "", byteOffset := 24 }, { name := "GCData", type := 155, offset := 8, embedded := false, tag := "", pkgPath := "", byteOffset := 32 }, { name := "Str", type := 156, offset := 9, embedded := false, tag := "", pkgPath := "", byteOffset := 40 }, { name := "PtrToThis", type := 157, offset := 10, embedded := false, tag := "", pkgPath := "", byteOffset := 44 }]) := by kernel_rfl
@[go_sem] theorem tab.PB : aJ Try.prog 159 = some true := by kernel_rfl
@[go_sem] theorem tab.LB : ai Try.prog 159 0 = some (12, 0) := by kernel_rfl
@[go_sem] theorem tab.LC : ai Try.prog 159 1 = some (12, 1) := by kernel_rfl
@[go_sem] theorem tab.LD : ai Try.prog 159 2 = some (151, 2) := by kernel_rfl
@[go_sem] theorem tab.LF : ai Try.prog 159 3 = some (152, 3) := by kernel_rfl
@[go_sem] theorem tab.LG : ai Try.prog 159 4 = some (5, 4) := by kernel_rfl
@[go_sem] theorem tab.LH : ai Try.prog 159 5 = some (5, 5) := by kernel_rfl
@[go_sem] theorem tab.LI : ai Try.prog 159 6 = some (153, 6) := by kernel_rfl
@[go_sem] theorem tab.LJ : ai Try.prog 159 7 = some (154, 7) := by kernel_rfl
@[go_sem] theorem tab.LK : ai Try.prog 159 8 = some (155, 8) := by kernel_rfl
@[go_sem] theorem tab.LL : ai Try.prog 159 9 = some (156, 9) := by kernel_rfl
@[go_sem] theorem tab.Jy : ai Try.prog 159 10 = some (157, 10) := by kernel_rfl
@[go_sem] theorem tab.PC : ah Try.prog 160 = some 1 := by kernel_rfl
@[go_sem] theorem tab.PD : an Try.prog 160 = some 8 := by kernel_rfl
@[go_sem] theorem tab.PE : au Try.prog 160 = some (Go.Value.pointer none) := by kernel_rfl
@[go_sem] theorem tab.PF : aJ Try.prog 160 = some false := by kernel_rfl
@[go_sem] theorem tab.ca3 : aj Try.prog 3 = true := by kernel_rfl
@[go_sem] theorem tab.ca4 : aj Try.prog 4 = true := by kernel_rfl
@[go_sem] theorem tab.ca5 : aj Try.prog 5 = true := by kernel_rfl
@[go_sem] theorem tab.ca6 : aj Try.prog 6 = true := by kernel_rfl
@[go_sem] theorem tab.ca7 : aj Try.prog 7 = true := by kernel_rfl
@[go_sem] theorem tab.ca8 : aj Try.prog 8 = true := by kernel_rfl
@[go_sem] theorem tab.ca9 : aj Try.prog 9 = true := by kernel_rfl
@[go_sem] theorem tab.Tm : aj Try.prog 10 = true := by kernel_rfl
@[go_sem] theorem tab.Tn : aj Try.prog 11 = true := by kernel_rfl
@[go_sem] theorem tab.To : aj Try.prog 12 = true := by kernel_rfl
@[go_sem] theorem tab.Tp : aj Try.prog 13 = true := by kernel_rfl
@[go_sem] theorem tab.Tq : aj Try.prog 14 = true := by kernel_rfl
@[go_sem] theorem tab.Ts : aj Try.prog 15 = true := by kernel_rfl
@[go_sem] theorem tab.Tt : aj Try.prog 16 = true := by kernel_rfl
@[go_sem] theorem tab.Tu : aj Try.prog 17 = true := by kernel_rfl
@[go_sem] theorem tab.Tv : aj Try.prog 18 = true := by kernel_rfl
@[go_sem] theorem tab.Tw : aj Try.prog 19 = true := by kernel_rfl
@[go_sem] theorem tab.Tx : aj Try.prog 20 = true := by kernel_rfl
@[go_sem] theorem tab.Ty : aj Try.prog 21 = true := by kernel_rfl
@[go_sem] theorem tab.Tz : aj Try.prog 22 = true := by kernel_rfl
@[go_sem] theorem tab.TA : aj Try.prog 23 = true := by kernel_rfl
@[go_sem] theorem tab.TB : aj Try.prog 24 = true := by kernel_rfl
@[go_sem] theorem tab.TC : aj Try.prog 25 = true := by kernel_rfl
@[go_sem] theorem tab.TD : aj Try.prog 26 = true := by kernel_rfl
@[go_sem] theorem tab.TE : aj Try.prog 27 = true := by kernel_rfl
@[go_sem] theorem tab.TF : aj Try.prog 28 = true := by kernel_rfl
@[go_sem] theorem tab.TG : aj Try.prog 29 = true := by kernel_rfl
@[go_sem] theorem tab.TH : aj Try.prog 30 = true := by kernel_rfl
@[go_sem] theorem tab.TI : aj Try.prog 31 = true := by kernel_rfl
@[go_sem] theorem tab.TJ : aj Try.prog 32 = true := by kernel_rfl
@[go_sem] theorem tab.TK : aj Try.prog 33 = true := by kernel_rfl
@[go_sem] theorem tab.TL : aj Try.prog 34 = true := by kernel_rfl
@[go_sem] theorem tab.TM : aj Try.prog 35 = true := by kernel_rfl
@[go_sem] theorem tab.TN : aj Try.prog 36 = true := by kernel_rfl
@[go_sem] theorem tab.TO : aj Try.prog 37 = true := by kernel_rfl
@[go_sem] theorem tab.TP : aj Try.prog 38 = true := by kernel_rfl
@[go_sem] theorem tab.TQ : aj Try.prog 39 = true := by kernel_rfl
@[go_sem] theorem tab.TS : aj Try.prog 40 = true := by kernel_rfl
@[go_sem] theorem tab.TT : aj Try.prog 41 = true := by kernel_rfl
@[go_sem] theorem tab.TU : aj Try.prog 42 = true := by kernel_rfl
@[go_sem] theorem tab.TV : aj Try.prog 43 = true := by kernel_rfl
@[go_sem] theorem tab.TW : aj Try.prog 44 = true := by kernel_rfl
@[go_sem] theorem tab.TX : aj Try.prog 45 = true := by kernel_rfl
@[go_sem] theorem tab.TY : aj Try.prog 46 = true := by kernel_rfl
@[go_sem] theorem tab.TZ : aj Try.prog 47 = true := by kernel_rfl
@[go_sem] theorem tab.T0 : aj Try.prog 48 = true := by kernel_rfl
@[go_sem] theorem tab.T1 : aj Try.prog 49 = true := by kernel_rfl
@[go_sem] theorem tab.T3 : aj Try.prog 50 = true := by kernel_rfl
@[go_sem] theorem tab.T4 : aj Try.prog 51 = true := by kernel_rfl
@[go_sem] theorem tab.T5 : aj Try.prog 52 = true := by kernel_rfl
@[go_sem] theorem tab.T6 : aj Try.prog 53 = true := by kernel_rfl
@[go_sem] theorem tab.T7 : aj Try.prog 54 = true := by kernel_rfl
@[go_sem] theorem tab.T8 : aj Try.prog 55 = true := by kernel_rfl
@[go_sem] theorem tab.T9 : aj Try.prog 56 = true := by kernel_rfl
@[go_sem] theorem tab.Ua : aj Try.prog 57 = true := by kernel_rfl
@[go_sem] theorem tab.Ub : aj Try.prog 58 = true := by kernel_rfl
@[go_sem] theorem tab.Uc : aj Try.prog 59 = true := by kernel_rfl
@[go_sem] theorem tab.Ud : aj Try.prog 60 = true := by kernel_rfl
@[go_sem] theorem tab.Ue : aj Try.prog 61 = true := by kernel_rfl
@[go_sem] theorem tab.Uf : aj Try.prog 62 = true := by kernel_rfl
@[go_sem] theorem tab.Ug : aj Try.prog 63 = true := by kernel_rfl
@[go_sem] theorem tab.Uh : aj Try.prog 64 = true := by kernel_rfl
@[go_sem] theorem tab.Ui : aj Try.prog 65 = true := by kernel_rfl
@[go_sem] theorem tab.Uj : aj Try.prog 66 = true := by kernel_rfl
@[go_sem] theorem tab.Uk : aj Try.prog 67 = true := by kernel_rfl
@[go_sem] theorem tab.Ul : aj Try.prog 68 = true := by kernel_rfl
@[go_sem] theorem tab.Um : aj Try.prog 69 = true := by kernel_rfl
@[go_sem] theorem tab.Un : aj Try.prog 70 = true := by kernel_rfl
@[go_sem] theorem tab.Uo : aj Try.prog 71 = true := by kernel_rfl
@[go_sem] theorem tab.Uq : aj Try.prog 72 = true := by kernel_rfl
@[go_sem] theorem tab.Ur : aj Try.prog 73 = true := by kernel_rfl
@[go_sem] theorem tab.Us : aj Try.prog 74 = true := by kernel_rfl
@[go_sem] theorem tab.Ut : aj Try.prog 75 = true := by kernel_rfl
@[go_sem] theorem tab.Uu : aj Try.prog 76 = true := by kernel_rfl
@[go_sem] theorem tab.Uv : aj Try.prog 77 = true := by kernel_rfl
@[go_sem] theorem tab.Uw : aj Try.prog 78 = true := by kernel_rfl
@[go_sem] theorem tab.Ux : aj Try.prog 79 = true := by kernel_rfl
@[go_sem] theorem tab.Uy : aj Try.prog 80 = true := by kernel_rfl
@[go_sem] theorem tab.Uz : aj Try.prog 81 = true := by kernel_rfl
@[go_sem] theorem tab.UA : aj Try.prog 82 = true := by kernel_rfl
@[go_sem] theorem tab.UB : aj Try.prog 83 = true := by kernel_rfl
@[go_sem] theorem tab.UC : aj Try.prog 84 = true := by kernel_rfl
@[go_sem] theorem tab.UD : aj Try.prog 85 = true := by kernel_rfl
@[go_sem] theorem tab.UE : aj Try.prog 86 = true := by kernel_rfl
@[go_sem] theorem tab.UF : aj Try.prog 87 = true := by kernel_rfl
@[go_sem] theorem tab.UG : aj Try.prog 88 = true := by kernel_rfl
@[go_sem] theorem tab.UH : aj Try.prog 89 = true := by kernel_rfl
@[go_sem] theorem tab.UI : aj Try.prog 90 = true := by kernel_rfl
@[go_sem] theorem tab.UJ : aj Try.prog 91 = true := by kernel_rfl
@[go_sem] theorem tab.UK : aj Try.prog 92 = true := by kernel_rfl
@[go_sem] theorem tab.UL : aj Try.prog 93 = true := by kernel_rfl
@[go_sem] theorem tab.UM : aj Try.prog 94 = true := by kernel_rfl
@[go_sem] theorem tab.UN : aj Try.prog 95 = true := by kernel_rfl
@[go_sem] theorem tab.UO : aj Try.prog 96 = true := by kernel_rfl
@[go_sem] theorem tab.UP : aj Try.prog 97 = true := by kernel_rfl
@[go_sem] theorem tab.UQ : aj Try.prog 98 = true := by kernel_rfl
@[go_sem] theorem tab.UR : aj Try.prog 99 = true := by kernel_rfl
@[go_sem] theorem tab.PH : aj Try.prog 100 = true := by kernel_rfl
@[go_sem] theorem tab.PI : aj Try.prog 101 = true := by kernel_rfl
@[go_sem] theorem tab.PJ : aj Try.prog 102 = true := by kernel_rfl
@[go_sem] theorem tab.PL : aj Try.prog 103 = true := by kernel_rfl
@[go_sem] theorem tab.PN : aj Try.prog 104 = true := by kernel_rfl
@[go_sem] theorem tab.PO : aj Try.prog 105 = true := by kernel_rfl
@[go_sem] theorem tab.PQ : aj Try.prog 106 = true := by kernel_rfl
@[go_sem] theorem tab.PR : aj Try.prog 107 = true := by kernel_rfl
@[go_sem] theorem tab.PS : aj Try.prog 108 = true := by kernel_rfl
@[go_sem] theorem tab.PT : aj Try.prog 109 = true := by kernel_rfl
@[go_sem] theorem tab.PU : aj Try.prog 110 = true := by kernel_rfl
@[go_sem] theorem tab.PV : aj Try.prog 111 = true := by kernel_rfl
@[go_sem] theorem tab.PW : aj Try.prog 112 = true := by kernel_rfl
@[go_sem] theorem tab.PX : aj Try.prog 113 = true := by kernel_rfl
theorem tab.mixed : Try.prog.follows .mixedOrders = true := by kernel_rfl
end Go.Proofs.Ythjggjhebbdkdaa
namespace Go.Proofs.Ythjggjhebbdkdaa
open Go Go.RowKit
def nP (r : Option (List UInt8)) (C : Value → Prop) : Prop := match r with
  | some l => C (.string ⟨l.toArray⟩)
  | none => False
section
variable (P : Program) (C : Value → Prop) (t : TypeId) (h : Hp) (K : KH) (b o n i : Nat) (x y v : Value)
theorem p6 (d : Int) : bnd none d = some d := id rfl
end
class Cn (α : Type) where
  go : α
end Go.Proofs.Ythjggjhebbdkdaa
namespace Go.Proofs.Ythjggjhebbdkdaa
open Go Go.RowKit
section
variable (P : Program) (ops : Array Oper) (l : List Oper) (ρ : Env) (h : Hp) (N R : EH) (X : Nat → EH) (K : KH) (C : Value → Prop) (d : Option Nat) (op : Op) (ty : TypeId) (pos : String) (af : Array Edge)
def gs : List Oper → Nat → Option Nat
  | [], _ => none
  | o :: _, 0 => o.dst
  | _ :: l, n + 1 => gs l n
end
attribute [go_sem ↓] pE mP
attribute [go_sem] p6 BZ Ai Aj B0 bB ly cS mS fp cV b6 b7 bytesOf
attribute [go_sem] lA found B4 chg
attribute [go_sem] Bool.not_not true_or or_true false_or or_false Nat.le_refl Nat.zero_le sU List.set_cons_zero if_true if_false Int.le_refl
attribute [go_sem] Bool.not_true Bool.not_false List.map_cons List.map_nil List.map_toArray List.append_toArray List.nil_append List.cons_append List.append_nil Option.map_some Option.map_none Option.isSome_some Option.isSome_none Option.isNone_some Option.isNone_none
attribute [go_sem] List.getElem?_toArray List.getElem?_cons_zero List.getElem?_cons_succ Option.bind_some Value.cells List.size_toArray List.length_cons List.length_nil List.all_cons List.all_nil Value.oneCell' Bool.and_true Bool.true_and true_and and_true eq_self List.setIfInBounds_toArray List.set_cons_zero List.set_cons_succ
attribute [go_sem] pG fo
theorem al {x : Int} (h1 : -9223372036854775808 ≤ x) (h2 : x ≤ 9223372036854775807) : IntKind.i64.wrap x = x := by
  rw [IntKind.wrap_i64]; omega
end Go.Proofs.Ythjggjhebbdkdaa
namespace Go.Proofs.Ythjggjhebbdkdaa
open Go Go.RowKit
theorem jg (z : List Value) : ∀ n, (b7 z n).length = n * z.length
  | 0 => by simp [b7]
  | n + 1 => by simp [b7, jg z n, Nat.succ_mul, Nat.add_comm]
attribute [go_sem] Nat.add_assoc
end Go.Proofs.Ythjggjhebbdkdaa
namespace Go.Proofs.Ythjggjhebbdkdaa
open Go Go.RowKit
section
variable {α : Type} (v : Option α) (f n : Nat) (l r : PM α) (u : Option α)
theorem PM.get_nil : (PM.nil : PM α).get n = none := id rfl
theorem PM.bf : (PM.node l u r).get (n + 1) = if n % 2 = 0 then l.get (n / 2) else r.get (n / 2) := by
  show (Nat.rec (l.get (n / 2)) (fun _ _ => r.get (n / 2)) (n % 2) : Option α) = _
  rcases Nat.mod_two_eq_zero_or_one n with e | e <;> rw [e] <;> rfl
theorem PM.Cu (t : PM α) : PM.set v 0 t n = .nil := id rfl
theorem PM.Cv : PM.set v (f + 1) .nil 0 = .node .nil v .nil := id rfl
theorem PM.vm : PM.set v (f + 1) .nil (n + 1) = if n % 2 = 0 then .node (PM.set v f .nil (n / 2)) none .nil else .node .nil none (PM.set v f .nil (n / 2)) := by
  show (Nat.rec (.node (PM.set v f .nil (n / 2)) none .nil) (fun _ _ => .node .nil none (PM.set v f .nil (n / 2))) (n % 2) : PM α) = _
  rcases Nat.mod_two_eq_zero_or_one n with e | e <;> rw [e] <;> rfl
theorem PM.AF : PM.set v (f + 1) (.node l u r) 0 = .node l v r := id rfl
theorem PM.rY : PM.set v (f + 1) (.node l u r) (n + 1) = if n % 2 = 0 then .node (PM.set v f l (n / 2)) u r else .node l u (PM.set v f r (n / 2)) := by
  show (Nat.rec (.node (PM.set v f l (n / 2)) u r) (fun _ _ => .node l u (PM.set v f r (n / 2))) (n % 2) : PM α) = _
  rcases Nat.mod_two_eq_zero_or_one n with e | e <;> rw [e] <;> rfl
end
theorem PM.ak {α : Type} {v : Option α} : ∀ (f : Nat) (t : PM α) (n m : Nat) (x : α), (PM.set v f t n).get m = some x → (m = n ∧ v = some x) ∨ (m ≠ n ∧ t.get m = some x)
  | 0, t, n, m, x, h => by rw [PM.Cu, PM.get_nil] at h; cases h
  | f + 1, .nil, 0, m, x, h => by
    rw [PM.Cv] at h
    cases m with
    | zero => exact .inl ⟨rfl, h⟩
    | succ m => rw [PM.bf] at h; split at h <;> cases h
  | f + 1, .nil, n + 1, m, x, h => by
    rw [PM.vm] at h
    cases m with
    | zero => split at h <;> cases h
    | succ m =>
      split at h
      · rw [PM.bf] at h
        split at h
        · rcases PM.ak f .nil (n / 2) (m / 2) x h with ⟨h1, h2⟩ | ⟨_, h2⟩
          · exact .inl ⟨by omega, h2⟩
          · cases h2
        · cases h
      · rw [PM.bf] at h
        split at h
        · cases h
        · rcases PM.ak f .nil (n / 2) (m / 2) x h with ⟨h1, h2⟩ | ⟨_, h2⟩
          · exact .inl ⟨by omega, h2⟩
          · cases h2
  | f + 1, .node l u r, 0, m, x, h => by
    rw [PM.AF] at h
    cases m with
    | zero => exact .inl ⟨rfl, h⟩
    | succ m => rw [PM.bf] at h; exact .inr ⟨by omega, by rw [PM.bf]; exact h⟩
  | f + 1, .node l u r, n + 1, m, x, h => by
    rw [PM.rY] at h
    cases m with
    | zero => split at h <;> exact .inr ⟨by omega, h⟩
    | succ m =>
      split at h
      · rename_i hn
        rw [PM.bf] at h
        split at h
        · rename_i hm
          rcases PM.ak f l (n / 2) (m / 2) x h with ⟨h1, h2⟩ | ⟨h1, h2⟩
          · exact .inl ⟨by omega, h2⟩
          · exact .inr ⟨by omega, by rw [PM.bf, if_pos hm]; exact h2⟩
        · rename_i hm
          exact .inr ⟨by omega, by rw [PM.bf, if_neg hm]; exact h⟩
      · rename_i hn
        rw [PM.bf] at h
        split at h
        · rename_i hm
          exact .inr ⟨by omega, by rw [PM.bf, if_pos hm]; exact h⟩
        · rename_i hm
          rcases PM.ak f r (n / 2) (m / 2) x h with ⟨h1, h2⟩ | ⟨h1, h2⟩
          · exact .inl ⟨by omega, h2⟩
          · exact .inr ⟨by omega, by rw [PM.bf, if_neg hm]; exact h2⟩
theorem PM.aC {α : Type} {v : Option α} {x : α} : ∀ (f : Nat) (t : PM α) (n m : Nat), n + 1 < 2 ^ f → m ≠ n → t.get m = some x → (PM.set v f t n).get m = some x
  | 0, t, n, m, h, _, _ => by simp at h
  | f + 1, .nil, n, m, h, hm, e => by cases e
  | f + 1, .node l u r, 0, m, h, hm, e => by
    cases m with
    | zero => exact absurd rfl hm
    | succ m =>
      show (PM.node l v r).get (m + 1) = some x
      rw [PM.bf] at e ⊢
      exact e
  | f + 1, .node l u r, n + 1, m, h, hm, e => by
    have hp : (PM.node l u r).set v (f + 1) (n + 1) = (Nat.rec (.node (PM.set v f l (n / 2)) u r) (fun _ _ => .node l u (PM.set v f r (n / 2))) (n % 2) : PM α) := rfl
    have h2 : n / 2 + 1 < 2 ^ f := by rw [Nat.pow_succ] at h; omega
    rcases Nat.mod_two_eq_zero_or_one n with q | q <;> rw [q] at hp
    · have hp : (PM.node l u r).set v (f + 1) (n + 1) = .node (PM.set v f l (n / 2)) u r := hp
      rw [hp]
      cases m with
      | zero => exact e
      | succ m =>
        rw [PM.bf] at e ⊢
        split
        · rename_i hq
          rw [if_pos hq] at e
          exact PM.aC f l (n / 2) (m / 2) h2 (by omega) e
        · rename_i hq
          rw [if_neg hq] at e
          exact e
    · have hp : (PM.node l u r).set v (f + 1) (n + 1) = .node l u (PM.set v f r (n / 2)) := hp
      rw [hp]
      cases m with
      | zero => exact e
      | succ m =>
        rw [PM.bf] at e ⊢
        split
        · rename_i hq
          rw [if_pos hq] at e
          exact e
        · rename_i hq
          rw [if_neg hq] at e
          exact PM.aC f r (n / 2) (m / 2) h2 (by omega) e
theorem jt : ∀ (f n : Nat) (t : AE) (a : AV), ay (pathOf f n) t = a → a = .bad ∨ t.get n = some a
  | 0, n, t, a, h => .inl h.symm
  | f + 1, 0, t, a, h => by
    cases t with
    | nil => exact .inl h.symm
    | node l u r =>
      cases u with
      | none => exact .inl h.symm
      | some v => exact .inr (congrArg some h)
  | f + 1, n + 1, t, a, h => by
    have hp : pathOf (f + 1) (n + 1) = (Nat.rec (.lo (pathOf f (n / 2))) (fun _ _ => .hi (pathOf f (n / 2))) (n % 2) : Pa) := rfl
    rw [hp] at h
    cases t with
    | nil =>
      left
      rcases Nat.mod_two_eq_zero_or_one n with e | e <;> (rw [e] at h; exact h.symm)
    | node l u r =>
      rw [PM.bf]
      rcases Nat.mod_two_eq_zero_or_one n with e | e
      · rw [e] at h
        rw [if_pos e]
        exact jt f (n / 2) l a h
      · rw [e] at h
        rw [if_neg (by omega)]
        exact jt f (n / 2) r a h
theorem kS {v : AV} : ∀ (f : Nat) (t : AE) (n m : Nat) (x : AV), (nO v (pathOf f n) t).get m = some x → (m = n ∧ v = x) ∨ (m ≠ n ∧ t.get m = some x)
  | 0, t, n, m, x, h => by cases h
  | f + 1, t, 0, m, x, h => by
    cases t with
    | nil =>
      cases m with
      | zero => exact .inl ⟨rfl, by injection h⟩
      | succ m =>
        have h : (PM.node PM.nil (some v) PM.nil).get (m + 1) = some x := h
        rw [PM.bf] at h; split at h <;> cases h
    | node l u r =>
      cases m with
      | zero => exact .inl ⟨rfl, by injection h⟩
      | succ m =>
        have h : (PM.node l (some v) r).get (m + 1) = some x := h
        rw [PM.bf] at h; exact .inr ⟨by omega, by rw [PM.bf]; exact h⟩
  | f + 1, t, n + 1, m, x, h => by
    have hp : pathOf (f + 1) (n + 1) = (Nat.rec (.lo (pathOf f (n / 2))) (fun _ _ => .hi (pathOf f (n / 2))) (n % 2) : Pa) := rfl
    rw [hp] at h
    have ih := kS (v := v) f
    rcases Nat.mod_two_eq_zero_or_one n with e | e <;> rw [e] at h
    · have h : (PM.rec (.node (nO v (pathOf f (n / 2)) .nil) none .nil) (fun l u r _ _ => .node (nO v (pathOf f (n / 2)) l) u r) t : AE).get m = some x := h
      cases t with
      | nil =>
        have h : (PM.node (nO v (pathOf f (n / 2)) .nil) none .nil).get m = some x := h
        cases m with
        | zero => cases h
        | succ m =>
          rw [PM.bf] at h
          split at h
          · rcases ih _ _ _ _ h with ⟨h1, h2⟩ | ⟨_, h2⟩
            · exact .inl ⟨by omega, h2⟩
            · cases h2
          · cases h
      | node l u r =>
        have h : (PM.node (nO v (pathOf f (n / 2)) l) u r).get m = some x := h
        cases m with
        | zero => exact .inr ⟨by omega, h⟩
        | succ m =>
          rw [PM.bf] at h
          split at h
          · rename_i hm
            rcases ih _ _ _ _ h with ⟨h1, h2⟩ | ⟨h1, h2⟩
            · exact .inl ⟨by omega, h2⟩
            · exact .inr ⟨by omega, by rw [PM.bf, if_pos hm]; exact h2⟩
          · rename_i hm
            exact .inr ⟨by omega, by rw [PM.bf, if_neg hm]; exact h⟩
    · have h : (PM.rec (.node .nil none (nO v (pathOf f (n / 2)) .nil)) (fun l u r _ _ => .node l u (nO v (pathOf f (n / 2)) r)) t : AE).get m = some x := h
      cases t with
      | nil =>
        have h : (PM.node .nil none (nO v (pathOf f (n / 2)) .nil)).get m = some x := h
        cases m with
        | zero => cases h
        | succ m =>
          rw [PM.bf] at h
          split at h
          · cases h
          · rcases ih _ _ _ _ h with ⟨h1, h2⟩ | ⟨_, h2⟩
            · exact .inl ⟨by omega, h2⟩
            · cases h2
      | node l u r =>
        have h : (PM.node l u (nO v (pathOf f (n / 2)) r)).get m = some x := h
        cases m with
        | zero => exact .inr ⟨by omega, h⟩
        | succ m =>
          rw [PM.bf] at h
          split at h
          · rename_i hm
            exact .inr ⟨by omega, by rw [PM.bf, if_pos hm]; exact h⟩
          · rename_i hm
            rcases ih _ _ _ _ h with ⟨h1, h2⟩ | ⟨h1, h2⟩
            · exact .inl ⟨by omega, h2⟩
            · exact .inr ⟨by omega, by rw [PM.bf, if_neg hm]; exact h2⟩
structure Pl where
  B : Nat
  s : Nat
  T : Nat
structure Ph where
  f : Nat → Option Pl
  z : Fz → Prop
  y : Fz → Prop
  s : Nat → Nat → Prop
instance : CoeFun Ph (fun _ => Nat → Option Pl) := ⟨Ph.f⟩
abbrev Ph.no : Ph := ⟨fun _ => none, fun _ => False, fun _ => False, fun _ _ => False⟩
structure PLe (φ ψ : Ph) : Prop where
  b : ∀ b p, φ b = some p → ψ b = some p
  z : ∀ q, φ.z q → ψ.z q
  y : ∀ q, ψ.y q → φ.y q
structure SLe (φ ψ : Ph) : Prop where
  b : ∀ b p, φ b = some p → ψ b = some p
  z : ∀ q, φ.z q → ψ.z q
instance {φ ψ : Ph} : CoeFun (SLe φ ψ) (fun _ => ∀ b p, φ b = some p → ψ b = some p) := ⟨SLe.b⟩
theorem PLe.s {φ ψ : Ph} (h : PLe φ ψ) : SLe φ ψ := ⟨h.b, h.z⟩
instance {φ ψ : Ph} : CoeFun (PLe φ ψ) (fun _ => ∀ b p, φ b = some p → ψ b = some p) := ⟨PLe.b⟩
theorem PLe.refl (φ : Ph) : PLe φ φ := ⟨fun _ _ h => h, fun _ h => h, fun _ h => h⟩
theorem PLe.trans {a b c : Ph} (h : PLe a b) (k : PLe b c) : PLe a c := ⟨fun x p e => k x p (h x p e), fun q e => k.z q (h.z q e), fun q e => h.y q (k.y q e)⟩
def dz (s : List Nat) : ByteArray := ⟨(s.map UInt8.ofNat).toArray⟩
def Emp (x : Nat) (v : Value) : Prop := v = .slice none 0 0 ∨ (x = 4 ∧ ∃ a, v = .slice (some a) 0 0)
mutual
def VR (φ : Ph) : AV → Value → Prop
  | .int k n, v => v = .int k n
  | .str s, v => v = .string (dz s) ∧ ∀ x ∈ s, x < 256
  | .bool b, v => v = .bool b
  | .nil, v => v = .pointer none
  | .ptr b o, v => ∃ p, φ b = some p ∧ v = .pointer (some ⟨p.B, p.s + o, none⟩)
  | .nsl, v => v = .slice none 0 0
  | .sl b o n c k, v => ∃ p C, φ b = some p ∧ v = .slice (some ⟨p.B, p.s + o, none⟩) n C ∧ (k = 0 → C = c) ∧ (k ≠ 0 → c ≤ C ∧ o + C * k = p.T)
  | .esl b, v => ∃ p x C, φ b = some p ∧ v = .slice (some ⟨p.B, x, none⟩) 0 C ∧ p.s ≤ x ∧ x ≤ p.s + p.T
  | .agg l, v => ∃ cs, v = .agg cs ∧ VRs φ l cs.toList
  | .tup l, v => ∃ cs, v = .tuple cs ∧ VRs φ l cs.toList
  | .fn f a c, v => ∃ xs cs, v = .func (.func f) xs cs ∧ VRs φ a xs.toList ∧ VRs φ c cs.toList
  | .map b, v => ∃ p, φ b = some p ∧ v = .map (some p.B)
  | .any u, v => v = u
  | .bad, _ => True
  | .si k n, v => v = .int k n
  | .sb b, v => v = .bool b
  | .ss s, v => v = .string (dz s) ∧ ∀ x ∈ s, x < 256
  | .sy b o n c k, v => ∃ p C, φ b = some p ∧ v = .slice (some ⟨p.B, p.s + o, none⟩) n C ∧ (k = 0 → C = c) ∧ (k ≠ 0 → c ≤ C ∧ o + C * k = p.T)
  | .rw b o n k x, v => (n = 0 ∧ Emp x v) ∨ ∃ p a C, φ b = some p ∧ v = .slice (some ⟨p.B, a, none⟩) n C ∧ (n ≠ 0 → a = p.s + o) ∧ p.s ≤ a ∧ n ≤ C ∧ a + n * k ≤ p.s + p.T ∧ (x < 2 → a + C * k ≤ p.s + p.T) ∧ (x = 1 → C = n)
  | .fr n k l, v => (n = 0 ∧ l = [] ∧ ∃ a C, v = .slice a 0 C ∧ (a = none → C = 0)) ∨ ∃ q o C, φ.z q ∧ v = .slice (some ⟨q.B, q.s + o, none⟩) n C ∧ n ≤ C ∧ bu q.L o (n * k) = some l
  | .fa l o, v => ∃ q x, φ.z q ∧ v = .pointer (some ⟨q.B, q.s + x + o, none⟩) ∧ bu q.L x l.length = some l
def VRs (φ : Ph) : List AV → List Value → Prop
  | [], vs => vs = []
  | a :: l, vs => ∃ v us, vs = v :: us ∧ VR φ a v ∧ VRs φ l us
end
mutual
theorem VR.cz {φ ψ : Ph} (he : SLe φ ψ) : ∀ (a : AV) (v : Value), VR φ a v → VR ψ a v
  | .int k n, v, h => by simp only [VR] at h ⊢; exact h
  | .str s, v, h => by simp only [VR] at h ⊢; exact h
  | .bool b, v, h => by simp only [VR] at h ⊢; exact h
  | .nil, v, h => by simp only [VR] at h ⊢; exact h
  | .ptr b o, v, h => by
    simp only [VR] at h ⊢
    obtain ⟨p, h1, h2⟩ := h
    exact ⟨p, he _ _ h1, h2⟩
  | .nsl, v, h => by simp only [VR] at h ⊢; exact h
  | .sl b o n c k, v, h => by
    simp only [VR] at h ⊢
    obtain ⟨p, C, h1, h2⟩ := h
    exact ⟨p, C, he _ _ h1, h2⟩
  | .esl b, v, h => by
    simp only [VR] at h ⊢
    obtain ⟨p, x, C, h1, h2⟩ := h
    exact ⟨p, x, C, he _ _ h1, h2⟩
  | .agg l, v, h => by
    simp only [VR] at h ⊢
    obtain ⟨cs, h1, h2⟩ := h
    exact ⟨cs, h1, VRs.cz he l _ h2⟩
  | .tup l, v, h => by
    simp only [VR] at h ⊢
    obtain ⟨cs, h1, h2⟩ := h
    exact ⟨cs, h1, VRs.cz he l _ h2⟩
  | .fn f a c, v, h => by
    simp only [VR] at h ⊢
    obtain ⟨xs, cs, h1, h2, h3⟩ := h
    exact ⟨xs, cs, h1, VRs.cz he a _ h2, VRs.cz he c _ h3⟩
  | .map b, v, h => by
    simp only [VR] at h ⊢
    obtain ⟨p, h1, h2⟩ := h
    exact ⟨p, he _ _ h1, h2⟩
  | .any u, v, h => by simp only [VR] at h ⊢; exact h
  | .bad, v, h => by simp only [VR]
  | .si k n, v, h => by simp only [VR] at h ⊢; exact h
  | .sb b, v, h => by simp only [VR] at h ⊢; exact h
  | .ss s, v, h => by simp only [VR] at h ⊢; exact h
  | .sy b o n c k, v, h => by
    simp only [VR] at h ⊢
    obtain ⟨p, C, h1, h2⟩ := h
    exact ⟨p, C, he _ _ h1, h2⟩
  | .rw b o n k x, v, h => by
    simp only [VR] at h ⊢
    rcases h with h | ⟨p, a, C, h1, h2⟩
    · exact .inl h
    · exact .inr ⟨p, a, C, he _ _ h1, h2⟩
  | .fr n k l, v, h => by
    simp only [VR] at h ⊢
    rcases h with h | ⟨q, o, C, h1, h2⟩
    · exact .inl h
    · exact .inr ⟨q, o, C, he.z _ h1, h2⟩
  | .fa l o, v, h => by
    simp only [VR] at h ⊢
    obtain ⟨q, x, h1, h2⟩ := h
    exact ⟨q, x, he.z _ h1, h2⟩
theorem VRs.cz {φ ψ : Ph} (he : SLe φ ψ) : ∀ (l : List AV) (vs : List Value), VRs φ l vs → VRs ψ l vs
  | [], vs, h => by simp only [VRs] at h ⊢; exact h
  | a :: l, vs, h => by
    simp only [VRs] at h ⊢
    obtain ⟨v, us, h1, h2, h3⟩ := h
    exact ⟨v, us, h1, VR.cz he a v h2, VRs.cz he l us h3⟩
end
theorem VR.mono {φ ψ : Ph} (he : PLe φ ψ) (a : AV) (v : Value) (h : VR φ a v) : VR ψ a v := VR.cz he.s a v h
theorem VRs.mono {φ ψ : Ph} (he : PLe φ ψ) (l : List AV) (vs : List Value) (h : VRs φ l vs) : VRs ψ l vs := VRs.cz he.s l vs h
section
variable {φ : Ph}
theorem VRs.nil : VRs φ [] [] := by simp only [VRs]
theorem VRs.cons {a : AV} {v : Value} {l : List AV} {vs : List Value} (h : VR φ a v) (k : VRs φ l vs) : VRs φ (a :: l) (v :: vs) := by
  (try simp only [VRs]); exact ⟨v, vs, rfl, h, k⟩
theorem VRs.aW {vs : List Value} (h : VRs φ [] vs) : vs = [] := by simpa only [VRs] using h
theorem VRs.cons_inv {a : AV} {l : List AV} {vs : List Value} (h : VRs φ (a :: l) vs) : ∃ v us, vs = v :: us ∧ VR φ a v ∧ VRs φ l us := by simpa only [VRs] using h
theorem VRs.length : ∀ {l : List AV} {vs : List Value}, VRs φ l vs → l.length = vs.length
  | [], vs, h => by rw [h.aW]; rfl
  | a :: l, vs, h => by
    obtain ⟨v, us, rfl, _, h2⟩ := h.cons_inv
    simp [h2.length]
theorem VRs.append : ∀ {l m : List AV} {vs us : List Value}, VRs φ l vs → VRs φ m us → VRs φ (l ++ m) (vs ++ us)
  | [], m, vs, us, h, k => by rw [h.aW]; exact k
  | a :: l, m, vs, us, h, k => by
    obtain ⟨v, ws, rfl, h1, h2⟩ := h.cons_inv
    exact .cons h1 (h2.append k)
theorem VRs.at : ∀ {l : List AV} {vs : List Value}, VRs φ l vs → ∀ {i : Nat} {a : AV}, l[i]? = some a → ∃ v, vs[i]? = some v ∧ VR φ a v
  | [], vs, h, i, a, e => by simp at e
  | b :: l, vs, h, 0, a, e => by
    obtain ⟨v, us, rfl, h1, _⟩ := h.cons_inv
    simp only [List.getElem?_cons_zero, Option.some.injEq] at e
    subst e
    exact ⟨v, rfl, h1⟩
  | b :: l, vs, h, i + 1, a, e => by
    obtain ⟨v, us, rfl, _, h2⟩ := h.cons_inv
    simp only [List.getElem?_cons_succ] at e
    simpa using h2.at e
theorem VRs.take : ∀ {l : List AV} {vs : List Value}, VRs φ l vs → ∀ (n : Nat), VRs φ (l.take n) (vs.take n)
  | _, _, _, 0 => by simp [VRs]
  | [], vs, h, n + 1 => by rw [h.aW]; simp [VRs]
  | a :: l, vs, h, n + 1 => by
    obtain ⟨v, us, rfl, h1, h2⟩ := h.cons_inv
    simpa using VRs.cons h1 (h2.take n)
theorem VRs.drop : ∀ {l : List AV} {vs : List Value}, VRs φ l vs → ∀ (n : Nat), VRs φ (l.drop n) (vs.drop n)
  | _, _, h, 0 => by simpa using h
  | [], vs, h, n + 1 => by rw [h.aW]; simp [VRs]
  | a :: l, vs, h, n + 1 => by
    obtain ⟨v, us, rfl, h1, h2⟩ := h.cons_inv
    simpa using h2.drop n
theorem VRs.map {β : Type} {f : β → AV} {g : β → Value} (h : ∀ x, VR φ (f x) (g x)) : ∀ l : List β, VRs φ (l.map f) (l.map g)
  | [] => .nil
  | x :: l => .cons (h x) (VRs.map h l)
theorem VR.bJ {k : IntKind} {n : Int} {v : Value} (h : VR φ (.int k n) v) : v = .int k n := by simpa only [VR] using h
theorem VR.bF {b : Bool} {v : Value} (h : VR φ (.bool b) v) : v = .bool b := by simpa only [VR] using h
theorem VR.aW {v : Value} (h : VR φ .nil v) : v = .pointer none := by simpa only [VR] using h
theorem VR.cg {v : Value} (h : VR φ .nsl v) : v = .slice none 0 0 := by simpa only [VR] using h
theorem VR.cj {s : List Nat} {v : Value} (h : VR φ (.str s) v) : v = .string (dz s) ∧ ∀ x ∈ s, x < 256 := by simpa only [VR] using h
theorem VR.ct {b o : Nat} {v : Value} (h : VR φ (.ptr b o) v) : ∃ p, φ b = some p ∧ v = .pointer (some ⟨p.B, p.s + o, none⟩) := by simpa only [VR] using h
theorem VR.dI {b o n c k : Nat} {v : Value} (h : VR φ (.sl b o n c k) v) : ∃ p C, φ b = some p ∧ v = .slice (some ⟨p.B, p.s + o, none⟩) n C ∧ (k = 0 → C = c) ∧ (k ≠ 0 → c ≤ C ∧ o + C * k = p.T) := by simpa only [VR] using h
theorem VR.ic {b : Nat} {v : Value} (h : VR φ (.esl b) v) : ∃ p x C, φ b = some p ∧ v = .slice (some ⟨p.B, x, none⟩) 0 C ∧ p.s ≤ x ∧ x ≤ p.s + p.T := by simpa only [VR] using h
theorem VR.eJ {l : List AV} {v : Value} (h : VR φ (.agg l) v) : ∃ cs, v = .agg cs ∧ VRs φ l cs.toList := by simpa only [VR] using h
theorem VR.dt {l : List AV} {v : Value} (h : VR φ (.tup l) v) : ∃ cs, v = .tuple cs ∧ VRs φ l cs.toList := by simpa only [VR] using h
theorem VR.mi {f : Nat} {a c : List AV} {v : Value} (h : VR φ (.fn f a c) v) : ∃ xs cs, v = .func (.func f) xs cs ∧ VRs φ a xs.toList ∧ VRs φ c cs.toList := by simpa only [VR] using h
theorem VR.lC {b : Nat} {v : Value} (h : VR φ (.map b) v) : ∃ p, φ b = some p ∧ v = .map (some p.B) := by simpa only [VR] using h
theorem VR.pb {u v : Value} (h : VR φ (.any u) v) : v = u := by simpa only [VR] using h
theorem VR.eL {k : IntKind} {n : Int} {v : Value} (h : VR φ (.si k n) v) : v = .int k n := by simpa only [VR] using h
theorem VR.gX {b : Bool} {v : Value} (h : VR φ (.sb b) v) : v = .bool b := by simpa only [VR] using h
theorem VR.nQ {s : List Nat} {v : Value} (h : VR φ (.ss s) v) : v = .string (dz s) ∧ ∀ x ∈ s, x < 256 := by simpa only [VR] using h
theorem VR.tm {b o n c k : Nat} {v : Value} (h : VR φ (.sy b o n c k) v) : ∃ p C, φ b = some p ∧ v = .slice (some ⟨p.B, p.s + o, none⟩) n C ∧ (k = 0 → C = c) ∧ (k ≠ 0 → c ≤ C ∧ o + C * k = p.T) := by simpa only [VR] using h
theorem VR.eM {b o n k x : Nat} {v : Value} (h : VR φ (.rw b o n k x) v) : (n = 0 ∧ Emp x v) ∨ ∃ p a C, φ b = some p ∧ v = .slice (some ⟨p.B, a, none⟩) n C ∧ (n ≠ 0 → a = p.s + o) ∧ p.s ≤ a ∧ n ≤ C ∧ a + n * k ≤ p.s + p.T ∧ (x < 2 → a + C * k ≤ p.s + p.T) ∧ (x = 1 → C = n) := by simpa only [VR] using h
theorem VR.rwe {b o k x n : Nat} {v : Value} (hn : n = 0) (h : Emp x v) : VR φ (.rw b o n k x) v := by subst hn; simp only [VR]; exact .inl ⟨trivial, h⟩
theorem VR.rwn {b o k x : Nat} : VR φ (.rw b o 0 k x) (.slice none 0 0) := .rwe rfl (.inl rfl)
theorem VR.nR {n k : Nat} {l : List AV} {v : Value} (h : VR φ (.fr n k l) v) : (n = 0 ∧ l = [] ∧ ∃ a C, v = .slice a 0 C ∧ (a = none → C = 0)) ∨ ∃ q o C, φ.z q ∧ v = .slice (some ⟨q.B, q.s + o, none⟩) n C ∧ n ≤ C ∧ bu q.L o (n * k) = some l := by simpa only [VR] using h
theorem VR.tn {l : List AV} {o : Nat} {v : Value} (h : VR φ (.fa l o) v) : ∃ q x, φ.z q ∧ v = .pointer (some ⟨q.B, q.s + x + o, none⟩) ∧ bu q.L x l.length = some l := by simpa only [VR] using h
theorem VR.fre {k C : Nat} {a : Option Addr} (h : a = none → C = 0) : VR φ (.fr 0 k []) (.slice a 0 C) := by simp only [VR]; exact .inl ⟨trivial, trivial, a, C, rfl, h⟩
theorem VR.fr {n k o C : Nat} {l : List AV} {q : Fz} (hq : φ.z q) (hn : n ≤ C) (hl : bu q.L o (n * k) = some l) : VR φ (.fr n k l) (.slice (some ⟨q.B, q.s + o, none⟩) n C) := by simp only [VR]; exact .inr ⟨q, o, C, hq, rfl, hn, hl⟩
theorem VR.fa {x o : Nat} {l : List AV} {q : Fz} (hq : φ.z q) (hl : bu q.L x l.length = some l) : VR φ (.fa l o) (.pointer (some ⟨q.B, q.s + x + o, none⟩)) := by simp only [VR]; exact ⟨q, x, hq, rfl, hl⟩
theorem VR.Cw {n k : Nat} {l : List AV} {v : Value} (h : VR φ (.fr n k l) v) : ∃ a C, v = .slice a n C := by
  rcases h.nR with ⟨rfl, _, a, C, h, _⟩ | ⟨q, o, C, _, h, _⟩ <;> exact ⟨_, _, h⟩
def rI : AV → Bool
  | .int _ _ => true
  | .str _ => true
  | .bool _ => true
  | .si _ _ => true
  | .sb _ => true
  | .ss _ => true
  | .nil => true
  | .nsl => true
  | .any _ => true
  | .bad => true
  | .fr _ _ _ => true
  | .fa _ _ => true
  | _ => false
theorem m3 {ψ : Ph} (hz : ∀ q, φ.z q → ψ.z q) {a : AV} {v : Value} (h : rI a = true) (hv : VR φ a v) : VR ψ a v := by
  cases a <;> first | (cases h; done) | skip
  case fr =>
    simp only [VR] at hv ⊢
    rcases hv with h | ⟨q, o, C, h1, h2⟩
    · exact .inl h
    · exact .inr ⟨q, o, C, hz _ h1, h2⟩
  case fa =>
    simp only [VR] at hv ⊢
    obtain ⟨q, o, h1, h2⟩ := hv
    exact ⟨q, o, hz _ h1, h2⟩
  all_goals (simp only [VR] at hv ⊢; try exact hv)
theorem Emp.nil {x : Nat} {v : Value} (h : Emp x v) (hx : x ≠ 4) : v = .slice none 0 0 := h.elim id fun h => absurd h.1 hx
theorem Emp.is {x : Nat} {v : Value} (h : Emp x v) : ∃ a, v = .slice a 0 0 := h.elim (fun h => ⟨_, h⟩) fun ⟨_, a, h⟩ => ⟨_, h⟩
theorem VR.rwx {b o n k a C x : Nat} {p : Pl} (h : φ b = some p) (h1 : n ≠ 0 → a = p.s + o) (h2 : p.s ≤ a) (h3 : n ≤ C) (h4 : a + n * k ≤ p.s + p.T) (h5 : x < 2 → a + C * k ≤ p.s + p.T) (h6 : x = 1 → C = n) : VR φ (.rw b o n k x) (.slice (some ⟨p.B, a, none⟩) n C) := by simp only [VR]; exact .inr ⟨p, a, C, h, rfl, h1, h2, h3, h4, h5, h6⟩
theorem VR.rw {b o n k a C : Nat} {p : Pl} (h : φ b = some p) (h1 : n ≠ 0 → a = p.s + o) (h2 : p.s ≤ a) (h3 : n ≤ C) (h4 : a + C * k ≤ p.s + p.T) : VR φ (.rw b o n k 0) (.slice (some ⟨p.B, a, none⟩) n C) := .rwx h h1 h2 h3 (Nat.le_trans (Nat.add_le_add_left (Nat.mul_le_mul_right k h3) a) h4) (fun _ => h4) (fun q => by cases q)
theorem VR.si (k : IntKind) (n : Int) : VR φ (.si k n) (.int k n) := by simp only [VR]
theorem VR.sb (b : Bool) : VR φ (.sb b) (.bool b) := by simp only [VR]
theorem VR.ss {s : List Nat} (h : ∀ x ∈ s, x < 256) : VR φ (.ss s) (.string (dz s)) := by simp only [VR]; exact ⟨trivial, h⟩
theorem VR.sy {b o n c k C : Nat} {p : Pl} (h : φ b = some p) (h0 : k = 0 → C = c) (h1 : k ≠ 0 → c ≤ C ∧ o + C * k = p.T) : VR φ (.sy b o n c k) (.slice (some ⟨p.B, p.s + o, none⟩) n C) := by simp only [VR]; exact ⟨p, C, h, rfl, h0, h1⟩
theorem VR.int (k : IntKind) (n : Int) : VR φ (.int k n) (.int k n) := by simp only [VR]
theorem VR.bool (b : Bool) : VR φ (.bool b) (.bool b) := by simp only [VR]
theorem VR.nil : VR φ .nil (.pointer none) := by simp only [VR]
theorem VR.nsl : VR φ .nsl (.slice none 0 0) := by simp only [VR]
theorem VR.str {s : List Nat} (h : ∀ x ∈ s, x < 256) : VR φ (.str s) (.string (dz s)) := by simp only [VR]; exact ⟨trivial, h⟩
theorem VR.ptr {b o : Nat} {p : Pl} (h : φ b = some p) : VR φ (.ptr b o) (.pointer (some ⟨p.B, p.s + o, none⟩)) := by simp only [VR]; exact ⟨p, h, rfl⟩
theorem VR.sl {b o n c k C : Nat} {p : Pl} (h : φ b = some p) (h0 : k = 0 → C = c) (h1 : k ≠ 0 → c ≤ C ∧ o + C * k = p.T) : VR φ (.sl b o n c k) (.slice (some ⟨p.B, p.s + o, none⟩) n C) := by simp only [VR]; exact ⟨p, C, h, rfl, h0, h1⟩
theorem VR.esl {b x C : Nat} {p : Pl} (h : φ b = some p) (h1 : p.s ≤ x) (h2 : x ≤ p.s + p.T) : VR φ (.esl b) (.slice (some ⟨p.B, x, none⟩) 0 C) := by simp only [VR]; exact ⟨p, x, C, h, rfl, h1, h2⟩
theorem VR.agg {l : List AV} {cs : Array Value} (h : VRs φ l cs.toList) : VR φ (.agg l) (.agg cs) := by simp only [VR]; exact ⟨cs, rfl, h⟩
theorem VR.tup {l : List AV} {cs : Array Value} (h : VRs φ l cs.toList) : VR φ (.tup l) (.tuple cs) := by simp only [VR]; exact ⟨cs, rfl, h⟩
theorem VR.fn {f : Nat} {a c : List AV} {xs cs : Array Value} (h : VRs φ a xs.toList) (k : VRs φ c cs.toList) : VR φ (.fn f a c) (.func (.func f) xs cs) := by simp only [VR]; exact ⟨xs, cs, rfl, h, k⟩
theorem VR.map {b : Nat} {p : Pl} (h : φ b = some p) : VR φ (.map b) (.map (some p.B)) := by simp only [VR]; exact ⟨p, h, rfl⟩
theorem VR.any (v : Value) : VR φ (.any v) v := by simp only [VR]
theorem VR.bad (v : Value) : VR φ .bad v := by simp only [VR]
theorem VR.undef : VR φ cJ Go.undef := VR.tup (cs := #[]) VRs.nil
theorem AG (s : ByteArray) : dz (s.data.toList.map UInt8.toNat) = s := by
  obtain ⟨⟨l⟩⟩ := s
  simp [dz, List.map_map, Function.comp_def]
theorem mj (v : Value) : VR φ (vi v) v := by
  unfold vi
  split
  · exact .int _ _
  · rename_i s
    have := VR.str (φ := φ) (s := s.data.toList.map UInt8.toNat) (by
      intro x hx
      simp only [List.mem_map] at hx
      obtain ⟨y, _, rfl⟩ := hx
      exact y.toNat_lt)
    rwa [AG] at this
  · exact .bool _
  · exact .nil
  · exact .nsl
  · exact .any _
theorem lD (v : Value) : VR φ (ofV v) v := by
  unfold ofV
  split
  · rename_i cs
    refine .agg ?_
    have := VRs.map (φ := φ) (f := vi) (g := id) mj cs.toList
    simpa using this
  · rename_i cs
    refine .tup ?_
    have := VRs.map (φ := φ) (f := vi) (g := id) mj cs.toList
    simpa using this
  · exact mj _
theorem VR.cells {a : AV} {v : Value} (h : VR φ a v) (hc : okC a = true) : VRs φ a.cells v.cells.toList := by
  cases a <;> simp only [AV.cells]
  case agg l => obtain ⟨cs, rfl, h1⟩ := h.eJ; exact h1
  case bad => cases hc
  case any u => have := h.pb; subst this; simp only [okC] at hc; cases v <;> first | exact .cons h .nil | cases hc
  case si => have := h.eL; subst this; exact .cons h .nil
  case sb => have := h.gX; subst this; exact .cons h .nil
  case ss => obtain ⟨rfl, _⟩ := h.nQ; exact .cons h .nil
  case sy => obtain ⟨p, C, _, rfl, _⟩ := h.tm; exact .cons h .nil
  case rw =>
    rcases h.eM with ⟨_, he⟩ | ⟨p, y, C, _, rfl, _⟩
    · obtain ⟨a, rfl⟩ := he.is; exact .cons h .nil
    · exact .cons h .nil
  case fr => obtain ⟨a, C, rfl⟩ := h.Cw; exact .cons h .nil
  case fa => obtain ⟨q, o, _, rfl, _⟩ := h.tn; exact .cons h .nil
  case int => have := h.bJ; subst this; exact .cons h .nil
  case str => obtain ⟨rfl, _⟩ := h.cj; exact .cons h .nil
  case bool => have := h.bF; subst this; exact .cons h .nil
  case nil => have := h.aW; subst this; exact .cons h .nil
  case ptr => obtain ⟨p, _, rfl⟩ := h.ct; exact .cons h .nil
  case nsl => have := h.cg; subst this; exact .cons h .nil
  case sl => obtain ⟨p, C, _, rfl, _⟩ := h.dI; exact .cons h .nil
  case esl => obtain ⟨p, x, C, _, rfl, _⟩ := h.ic; exact .cons h .nil
  case tup => obtain ⟨p, rfl, _⟩ := h.dt; exact .cons h .nil
  case fn => obtain ⟨p, q, rfl, _⟩ := h.mi; exact .cons h .nil
  case map => obtain ⟨p, _, rfl⟩ := h.lC; exact .cons h .nil
end
end Go.Proofs.Ythjggjhebbdkdaa
namespace Go.Proofs.Ythjggjhebbdkdaa
open Go Go.RowKit
theorem ep {α : Type} : ∀ (l : List α) (i : Nat), nth l i = l[i]?
  | [], _ => by simp [nth]
  | _ :: _, 0 => by simp [nth]
  | _ :: l, i + 1 => by simp [nth, ep l i]
theorem bj {α : Type} {l r : List α} {o n : Nat} (h : bu l o n = some r) : o + n ≤ l.length ∧ r = (l.drop o).take n := by
  unfold bu at h
  split at h
  · rename_i e
    injection h with h
    exact ⟨Nat.le_of_ble_eq_true e, h.symm⟩
  · cases h
theorem eX : ∀ (l : List AV) (o : Nat) (xs r : List AV), ez l o xs = some r → r.length = l.length ∧ o + xs.length ≤ l.length ∧ ∀ i : Nat, r[i]? = if o ≤ i ∧ i < o + xs.length then xs[i - o]? else l[i]?
  | l, 0, [], r, h => by
    have : r = l := by cases l <;> (unfold ez at h; injection h with h; exact h.symm)
    subst this
    refine ⟨rfl, by simp, fun i => ?_⟩
    rw [if_neg (by simp only [List.length_nil]; omega)]
  | [], 0, x :: xs, r, h => by unfold ez at h; cases h
  | [], o + 1, xs, r, h => by cases xs <;> (unfold ez at h; cases h)
  | y :: l, 0, x :: xs, r, h => by
    simp only [ez, Option.map_eq_some_iff] at h
    obtain ⟨t, ht, rfl⟩ := h
    obtain ⟨h1, h2, h3⟩ := eX l 0 xs t ht
    refine ⟨by simp [h1], by simp only [List.length_cons]; omega, fun i => ?_⟩
    cases i with
    | zero => simp
    | succ i =>
      simp only [List.getElem?_cons_succ, h3, List.length_cons]
      by_cases hi : i < xs.length
      · rw [if_pos (by omega), if_pos (by omega)]; simp
      · rw [if_neg (by omega), if_neg (by omega)]
  | y :: l, o + 1, xs, r, h => by
    have h : (ez l o xs).map (y :: ·) = some r := by cases xs <;> (unfold ez at h; exact h)
    simp only [Option.map_eq_some_iff] at h
    obtain ⟨t, ht, rfl⟩ := h
    obtain ⟨h1, h2, h3⟩ := eX l o xs t ht
    refine ⟨by simp [h1], by simp only [List.length_cons]; omega, fun i => ?_⟩
    cases i with
    | zero => simp
    | succ i =>
      simp only [List.getElem?_cons_succ, h3]
      by_cases hi : o ≤ i ∧ i < o + xs.length
      · rw [if_pos hi, if_pos (by omega)]; congr 1; omega
      · rw [if_neg hi, if_neg (by omega)]
theorem dk : ∀ (vs : List Value) (c : Array Value) (o : Nat), (cV c o vs).size = c.size
  | [], _, _ => rfl
  | v :: vs, c, o => by simp [cV, dk vs]
theorem jZ : ∀ (vs : List Value) (c : Array Value) (o i : Nat), (cV c o vs)[i]? = if o ≤ i ∧ i < o + vs.length ∧ i < c.size then vs[i - o]? else c[i]?
  | [], c, o, i => by rw [if_neg (by simp; omega)]; rfl
  | v :: vs, c, o, i => by
    simp only [cV, jZ vs, Array.size_setIfInBounds, List.length_cons]
    by_cases h : i = o
    · subst h
      rw [if_neg (by omega)]
      by_cases hi : i < c.size
      · rw [if_pos (by omega)]; simp [hi]
      · rw [if_neg (by omega)]; simp [hi]
    · by_cases h2 : o + 1 ≤ i ∧ i < o + 1 + vs.length ∧ i < c.size
      · rw [if_pos h2, if_pos (by omega)]
        obtain ⟨d, rfl⟩ : ∃ d, i = o + 1 + d := ⟨i - (o + 1), by omega⟩
        rw [show o + 1 + d - (o + 1) = d from by omega, show o + 1 + d - o = d + 1 from by omega]
        simp
      · rw [if_neg h2, if_neg (by omega)]
        simp [Array.getElem?_setIfInBounds, Ne.symm h]
def CR (φ : Ph) (c : Array Value) (s : Nat) (l : List AV) : Prop := ∀ i a, l[i]? = some a → ∃ v, c[s + i]? = some v ∧ VR φ a v
theorem CR.cz {φ ψ : Ph} (he : SLe φ ψ) {c : Array Value} {s : Nat} {l : List AV} (h : CR φ c s l) : CR ψ c s l := fun i a e =>
  let ⟨v, h1, h2⟩ := h i a e
  ⟨v, h1, VR.cz he _ _ h2⟩
theorem CR.mono {φ ψ : Ph} (he : PLe φ ψ) {c : Array Value} {s : Nat} {l : List AV} (h : CR φ c s l) : CR ψ c s l := h.cz he.s
theorem CR.b6 {φ : Ph} {c : Array Value} {s : Nat} {l : List AV} (h : CR φ c s l) : ∀ (n o : Nat), o + n ≤ l.length → ∃ vs, b6 c (s + o) n = some vs ∧ VRs φ ((l.drop o).take n) vs
  | 0, o, _ => ⟨[], rfl, by simpa using VRs.nil⟩
  | n + 1, o, hle => by
    obtain ⟨v, h1, h2⟩ := h o (l[o]'(by omega)) (List.getElem?_eq_getElem (by omega))
    obtain ⟨vs, h3, h4⟩ := CR.b6 h n (o + 1) (by omega)
    refine ⟨v :: vs, ?_, ?_⟩
    · simp only [Go.Proofs.Ythjggjhebbdkdaa.b6, h1]
      rw [show s + o + 1 = s + (o + 1) from by omega, h3]
    · rw [List.drop_eq_getElem_cons (by omega), List.take_succ_cons]
      exact .cons h2 h4
theorem CR.sub {φ : Ph} {c : Array Value} {s : Nat} {l r : List AV} {o n : Nat} (h : CR φ c s l) (e : bu l o n = some r) : ∃ vs, Go.Proofs.Ythjggjhebbdkdaa.b6 c (s + o) n = some vs ∧ VRs φ r vs := by
  obtain ⟨h1, rfl⟩ := bj e
  exact h.b6 n o h1
theorem CR.nth {φ : Ph} {c : Array Value} {s : Nat} {l : List AV} {o : Nat} {a : AV} (h : CR φ c s l) (e : Go.Proofs.Ythjggjhebbdkdaa.nth l o = some a) : ∃ v, c[s + o]? = some v ∧ VR φ a v := h o a (by rw [← ep]; exact e)
theorem CR.set {φ : Ph} {c : Array Value} {s o : Nat} {l r xs : List AV} {vs : List Value} (h : CR φ c s l) (e : ez l o xs = some r) (hv : VRs φ xs vs) (hs : s + l.length ≤ c.size) : CR φ (cV c (s + o) vs) s r := by
  obtain ⟨h1, h2, h3⟩ := eX l o xs r e
  intro i a hi
  have hlt : i < l.length := by
    have := (List.getElem?_eq_some_iff.1 hi).1
    omega
  rw [h3] at hi
  rw [jZ, ← hv.length]
  split at hi
  · rename_i hc
    rw [if_pos (by omega), show s + i - (s + o) = i - o from by omega]
    exact hv.at hi
  · rename_i hc
    rw [if_neg (by omega)]
    exact h i a hi
theorem CR.of {φ : Ph} {l : List AV} {vs : List Value} (h : VRs φ l vs) (r : List Value) : CR φ (vs ++ r).toArray 0 l := fun i a e => by
  obtain ⟨v, h1, h2⟩ := h.at e
  refine ⟨v, ?_, h2⟩
  have := (List.getElem?_eq_some_iff.1 h1).1
  simp [List.getElem?_append_left this, h1]
theorem CR.of' {φ : Ph} {l : List AV} {c : Array Value} (h : VRs φ l c.toList) : CR φ c 0 l := fun i a e => by
  obtain ⟨v, h1, h2⟩ := h.at e
  exact ⟨v, by simpa using h1, h2⟩
def MR (φ : Ph) : List (AV × AV) → List MapEntry → Prop
  | [], ms => ms = []
  | e :: es, ms => ∃ m us, ms = m :: us ∧ VR φ e.1 m.key ∧ VR φ e.2 m.val ∧ MR φ es us
theorem MR.cz {φ ψ : Ph} (he : SLe φ ψ) : ∀ (es : List (AV × AV)) (ms : List MapEntry), MR φ es ms → MR ψ es ms
  | [], ms, h => h
  | e :: es, ms, ⟨m, us, h1, h2, h3, h4⟩ => ⟨m, us, h1, VR.cz he _ _ h2, VR.cz he _ _ h3, MR.cz he es us h4⟩
theorem MR.length {φ : Ph} : ∀ {es : List (AV × AV)} {ms : List MapEntry}, MR φ es ms → es.length = ms.length
  | [], ms, h => by rw [show ms = [] from h]; rfl
  | e :: es, ms, ⟨m, us, h1, _, _, h4⟩ => by subst h1; simp [MR.length h4]
def p7 (ms : List MapEntry) (cl : Nat) : Prop := cl = ms.length ∧ ∀ (i : Nat) (e : MapEntry), ms[i]? = some e → e.born = i
theorem p7.nil : p7 [] 0 := ⟨rfl, fun i e h => by simp at h⟩
theorem p7.push {ms : List MapEntry} {cl : Nat} (h : p7 ms cl) {m : MapEntry} (hm : m.born = cl) : p7 (ms ++ [m]) (cl + 1) := by
  refine ⟨by simp [h.1], fun i e hi => ?_⟩
  rcases Nat.lt_trichotomy i ms.length with hl | rfl | hl
  · rw [List.getElem?_append_left hl] at hi; exact h.2 i e hi
  · rw [List.getElem?_append_right (Nat.le_refl _)] at hi
    simp at hi
    subst hi
    exact hm.trans h.1
  · rw [List.getElem?_eq_none (by simp; omega)] at hi; cases hi
def OR (φ : Ph) (p : Pl) : AO → Obj → Prop
  | .cells l z, ob => ∃ c t fz, ob = .cells c t fz ∧ l.length ≤ p.T ∧ p.s + p.T ≤ c.size ∧ mQ fz p.s p.T ∧ (z = true → fz = (0, 0)) ∧ CR φ c p.s l
  | .map es, ob => ∃ ms cl, ob = .map ms cl ∧ MR φ es ms.toList ∧ p7 ms.toList cl
  | .iter b m seen, ob => p.s = 0 ∧ ∃ q, φ b = some q ∧ ob = .mapIter (some q.B) m seen.toArray m
  | .ro l, ob => ∃ c t fz, ob = .cells c t fz ∧ l.length ≤ p.T ∧ p.s + p.T ≤ c.size ∧ CR φ c p.s l
  | .sep _, _ => False
def AO.AI : AO → Option HP
  | .sep Q => some Q
  | _ => none
def AO.own : AO → Bool
  | .ro _ => false
  | _ => true
theorem OR.cz {φ ψ : Ph} (he : SLe φ ψ) {p : Pl} {o : AO} {ob : Obj} (h : OR φ p o ob) : OR ψ p o ob := by
  cases o with
  | cells l z => obtain ⟨c, t, fz, h1, h2, h3, h4, h5, h6⟩ := h; exact ⟨c, t, fz, h1, h2, h3, h4, h5, h6.cz he⟩
  | map es => obtain ⟨ms, cl, h1, h2, h3⟩ := h; exact ⟨ms, cl, h1, MR.cz he _ _ h2, h3⟩
  | iter b m seen => obtain ⟨h0, q, h1, h2⟩ := h; exact ⟨h0, q, he _ _ h1, h2⟩
  | ro l => obtain ⟨c, t, fz, h1, h2, h3, h4⟩ := h; exact ⟨c, t, fz, h1, h2, h3, h4.cz he⟩
  | sep Q => exact h.elim
theorem OR.mono {φ ψ : Ph} (he : PLe φ ψ) {p : Pl} {o : AO} {ob : Obj} (h : OR φ p o ob) : OR ψ p o ob := h.cz he.s
def AO.under : AO → Obj → Option Obj
  | .ro _, ob => some ob
  | _, _ => none
theorem AO.bk {o : AO} (h : o.own = true) (ob : Obj) : o.under ob = none := by cases o <;> first | rfl | cases h
def AO.void : AO → Bool
  | .cells [] _ => true
  | .ro [] => true
  | _ => false
def AO.free : AO → Bool
  | .sep _ => true
  | o => o.void
theorem AO.yR {o : AO} (h : o.void = true) : o.free = true := by cases o <;> first | exact h | rfl
def FzR (φ : Ph) (h : Hp) (q : Fz) : Prop := (q.B < h.n ∧ q.L.all rI = true) ∧ ∃ c t fz, h.f q.B = some (.cells c t fz) ∧ q.s + q.L.length ≤ c.size ∧ CR φ c q.s q.L
theorem FzR.mono {φ ψ : Ph} (he : ∀ q, φ.z q → ψ.z q) {h : Hp} {q : Fz} (k : FzR φ h q) : FzR ψ h q := by
  obtain ⟨h0, c, t, fz, h1, h2, h3⟩ := k
  refine ⟨h0, c, t, fz, h1, h2, fun i a hi => ?_⟩
  obtain ⟨v, h4, h5⟩ := h3 i a hi
  exact ⟨v, h4, m3 he (List.all_eq_true.1 h0.2 a (List.mem_of_getElem? hi)) h5⟩
theorem FzR.grow {φ : Ph} {h g : Hp} {q : Fz} (k : FzR φ h q) (hn : h.n ≤ g.n) (hf : g.f q.B = h.f q.B) : FzR φ g q := by
  obtain ⟨h0, c, t, fz, h1, h2⟩ := k
  exact ⟨⟨Nat.lt_of_lt_of_le h0.1 hn, h0.2⟩, c, t, fz, hf.trans h1, h2⟩
structure HR (φ : Ph) (H : AH) (n : Nat) (h0 h : Hp) : Prop where
  dom : ∀ b p, φ b = some p → b < n ∧ p.B < h.n
  live : ∀ b o, H.get b = some o → (φ b = none ∧ o.free = true) ∨ ∃ p ob, φ b = some p ∧ h0.f p.B = o.under ob ∧ h.f p.B = some ob ∧ OR φ p o ob
  inj : ∀ b b' o o' p p', H.get b = some o → H.get b' = some o' → o.own = true → o'.own = true → φ b = some p → φ b' = some p' → p.B = p'.B → b = b'
  base : ∀ b o, h0.f b = some o → b < h.n ∧ h.f b = some o
  size : h0.n ≤ h.n
  frz : ∀ q, φ.z q → (FzR φ h q ∧ (φ.y q ∨ h0.f q.B = none)) ∧ ∀ b' o' p', H.get b' = some o' → o'.own = true → φ b' = some p' → p'.B ≠ q.B
  sep : ∀ b Q, H.get b = some (.sep Q) → Q.P φ.z (φ.s b) h ∧ ∀ B, φ.s b B → (B < h.n ∧ h0.f B = none) ∧ (∀ b' o' p', H.get b' = some o' → o'.own = true → φ b' = some p' → p'.B ≠ B) ∧ (∀ q, φ.z q → q.B ≠ B) ∧ ∀ b' Q', H.get b' = some (.sep Q') → b' ≠ b → ¬ φ.s b' B
theorem HR.lR {φ ψ : Ph} {H H' : AH} {n : Nat} {h0 h g : Hp} (hr : HR φ H n h0 h) (hn : h.n ≤ g.n) (hH : ∀ b Q, H'.get b = some (.sep Q) → H.get b = some (.sep Q) ∧ ψ.s b = φ.s b) (hz : ∀ q, φ.z q → ψ.z q) (hz2 : ∀ q, ψ.z q → φ.z q ∨ ∀ b Q, H.get b = some (.sep Q) → ¬ φ.s b q.B)
    (hg : ∀ b Q B, H.get b = some (.sep Q) → φ.s b B → g.f B = h.f B) (ho : ∀ b' o' p', H'.get b' = some o' → o'.own = true → ψ b' = some p' → (∃ b o p, H.get b = some o ∧ o.own = true ∧ φ b = some p ∧ p.B = p'.B) ∨ h.f p'.B = none ∨ ∀ b Q, H.get b = some (.sep Q) → ¬ φ.s b p'.B) :
    ∀ b Q, H'.get b = some (.sep Q) → Q.P ψ.z (ψ.s b) g ∧ ∀ B, ψ.s b B → (B < g.n ∧ h0.f B = none) ∧ (∀ b' o' p', H'.get b' = some o' → o'.own = true → ψ b' = some p' → p'.B ≠ B) ∧ (∀ q, ψ.z q → q.B ≠ B) ∧ ∀ b' Q', H'.get b' = some (.sep Q') → b' ≠ b → ¬ ψ.s b' B := fun b Q hb => by
  obtain ⟨h1, h2⟩ := hH b Q hb
  obtain ⟨h3, h4⟩ := hr.sep b Q h1
  rw [h2]
  refine ⟨Q.mono _ _ _ _ hz (Q.loc _ _ _ _ hn (fun B hB => hg b Q B h1 hB) h3), fun B hB => ?_⟩
  obtain ⟨k1, k2, k3, k4⟩ := h4 B hB
  refine ⟨⟨Nat.lt_of_lt_of_le k1.1 hn, k1.2⟩, fun b' o' p' e1 e2 e3 e4 => ?_, fun q hq e => ?_, fun b' Q' e1 e2 e3 => ?_⟩
  · rcases ho b' o' p' e1 e2 e3 with ⟨c, o, p, g1, g2, g3, g4⟩ | g | g
    · exact k2 c o p g1 g2 g3 (g4.trans e4)
    · obtain ⟨x, hx⟩ := Q.ex _ _ _ B h3 hB
      rw [e4, hx] at g; cases g
    · exact g b Q h1 (e4 ▸ hB)
  · rcases hz2 q hq with g | g
    · exact k3 q g e
    · exact g b Q h1 (e ▸ hB)
  · obtain ⟨f1, f2⟩ := hH b' Q' e1
    rw [f2] at e3
    exact k4 b' Q' f1 e2 e3
theorem HR.of {φ : Ph} {H : AH} {n : Nat} {h0 h : Hp} (hr : HR φ H n h0 h) {b : Nat} {o : AO} {p : Pl} (hb : H.get b = some o) (hp : φ b = some p) : ∃ ob, h0.f p.B = o.under ob ∧ h.f p.B = some ob ∧ OR φ p o ob := by
  rcases hr.live b o hb with ⟨h1, _⟩ | ⟨q, ob, h1, h2, h3, h4⟩
  · rw [hp] at h1; cases h1
  rw [hp] at h1
  injection h1 with h1
  subst h1
  exact ⟨ob, h2, h3, h4⟩
theorem HR.put {φ : Ph} {H : AH} {n : Nat} {h0 h : Hp} (hr : HR φ H n h0 h) {b : Nat} {o o' : AO} {p : Pl} {ob' : Obj} (hb : H.get b = some o) (hp : φ b = some p) (ho : OR φ p o' ob') (d : Nat) (hw : o.own = true := by rfl) (hw' : o'.own = true := by rfl) : HR φ (H.set (some o') d b) n h0 (h.put p.B ob') := by
  obtain ⟨ob, hB, _, _⟩ := hr.of hb hp
  rw [AO.bk hw] at hB
  have nosep : ∀ x Q, (H.set (some o') d b).get x = some (.sep Q) → H.get x = some (.sep Q) := fun x Q hx => by
    rcases PM.ak d H b x _ hx with ⟨_, h2⟩ | ⟨_, h2⟩
    · injection h2 with h2; subst h2; exact ho.elim
    · exact h2
  refine ⟨hr.dom, fun x q hx => ?_, fun x y q q' px py hx hy hwx hwy hpx hpy e => ?_, fun x q hx => ?_, hr.size, fun q hq => ?_, hr.lR (Nat.le_refl _) (fun x Q hx => ⟨nosep x Q hx, rfl⟩) (fun _ h => h) (fun _ h => .inl h) (fun x Q B hx hB => aT _ _ _ _ fun e => ((hr.sep x Q hx).2 B hB).2.1 b o p hb hw hp e.symm) fun b' o1 p' e1 e2 e3 => ?_⟩
  rotate_left 4
  · rcases PM.ak d H b b' o1 e1 with ⟨rfl, _⟩ | ⟨_, h2⟩
    · exact .inl ⟨_, o, p', hb, hw, e3, rfl⟩
    · exact .inl ⟨b', o1, p', h2, e2, e3, rfl⟩
  · rcases PM.ak d H b x q hx with ⟨rfl, h2⟩ | ⟨h1, h2⟩
    · injection h2 with h2
      subst h2
      exact .inr ⟨p, ob', hp, by rw [AO.bk hw']; exact hB, bB _ _ _, ho⟩
    · rcases hr.live x q h2 with hv | ⟨px, obx, h3, h4, h5, h6⟩
      · exact .inl hv
      refine .inr ⟨px, obx, h3, h4, ?_, h6⟩
      rw [aT _ _ _ _ (fun e => by
        cases hq : q.own with
        | true => exact h1 (hr.inj x b q o px p h2 hb hq hw h3 hp e)
        | false =>
          rw [e, hB] at h4
          cases q <;> first | (cases hq; done) | (simp [AO.under] at h4; done))]
      exact h5
  · have lv : ∀ z r, (H.set (some o') d b).get z = some r → r.own = true → ∃ r', H.get z = some r' ∧ r'.own = true := fun z r hz hw2 => by
      rcases PM.ak d H b z r hz with ⟨rfl, _⟩ | ⟨_, h2⟩
      · exact ⟨o, hb, hw⟩
      · exact ⟨r, h2, hw2⟩
    obtain ⟨r, hr1, hr3⟩ := lv x q hx hwx
    obtain ⟨r', hr2, hr4⟩ := lv y q' hy hwy
    exact hr.inj x y r r' px py hr1 hr2 hr3 hr4 hpx hpy e
  · obtain ⟨h1, h2⟩ := hr.base x q hx
    exact ⟨h1, by rw [aT _ _ _ _ (fun e => by subst e; rw [hB] at hx; cases hx)]; exact h2⟩
  · obtain ⟨⟨h1, h9⟩, h2⟩ := hr.frz q hq
    refine ⟨⟨h1.grow (Nat.le_refl _) (aT _ _ _ _ fun e => h2 b o p hb hw hp e.symm), h9⟩, fun y oy py hy hwy hpy => ?_⟩
    rcases PM.ak d H b y oy hy with ⟨rfl, _⟩ | ⟨_, h3⟩
    · exact h2 y o py hb hw hpy
    · exact h2 y oy py h3 hwy hpy
def du (φ : Ph) (n : Nat) (p : Pl) : Ph := ⟨fun x => if x = n then some p else φ x, φ.z, φ.y, φ.s⟩
theorem HR.ple {φ : Ph} {H : AH} {n : Nat} {h0 h : Hp} (hr : HR φ H n h0 h) (p : Pl) : PLe φ (du φ n p) := ⟨fun b q e => by
  show (if b = n then some p else φ b) = some q
  rw [if_neg (by have := (hr.dom b q e).1; omega)]
  exact e, fun _ h => h, fun _ h => h⟩
theorem bl (φ : Ph) (n : Nat) (p : Pl) : du φ n p n = some p := by simp [du]
theorem HR.new {φ : Ph} {H : AH} {n : Nat} {h0 h : Hp} (hr : HR φ H n h0 h) {s T : Nat} {o : AO} {ob : Obj} (ho : OR (du φ n ⟨h.n, s, T⟩) ⟨h.n, s, T⟩ o ob) (d : Nat) (hw : o.own = true := by rfl) : HR (du φ n ⟨h.n, s, T⟩) (H.set (some o) d n) (n + 1) h0 ((h.put h.n ob).to (h.n + 1)) := by
  have old : ∀ x q, H.get x = some q → (φ x = none ∧ q.free = true) ∨ ∃ p ob', φ x = some p ∧ x < n ∧ p.B < h.n ∧ h0.f p.B = q.under ob' ∧ h.f p.B = some ob' ∧ OR φ p q ob' := fun x q hx => by
    rcases hr.live x q hx with hv | ⟨px, obx, h3, h4, h5, h6⟩
    · exact .inl hv
    exact .inr ⟨px, obx, h3, (hr.dom x px h3).1, (hr.dom x px h3).2, h4, h5, h6⟩
  have hno : h0.f h.n = none := by
    cases hx : h0.f h.n with
    | none => rfl
    | some o => exact absurd (hr.base _ _ hx).1 (Nat.lt_irrefl _)
  have nosep : ∀ x Q, (H.set (some o) d n).get x = some (.sep Q) → x ≠ n ∧ H.get x = some (.sep Q) := fun x Q hx => by
    rcases PM.ak d H n x _ hx with ⟨_, h2⟩ | h2
    · injection h2 with h2; subst h2; exact ho.elim
    · exact h2
  refine ⟨fun x q hx => ?_, fun x q hx => ?_, fun x y q q' px py hx hy hwx hwy hpx hpy e => ?_, fun x q hx => ?_, ?_, fun q hq => ?_, hr.lR (Nat.le_succ _) (fun x Q hx => ⟨(nosep x Q hx).2, rfl⟩) (fun _ h => h) (fun _ h => .inl h) (fun x Q B hx hB => ?_) fun b' o1 p' e1 e2 e3 => ?_⟩
  rotate_left 6
  · have : B < h.n := ((hr.sep x Q hx).2 B hB).1.1
    rw [Aj, aT _ _ _ _ (by omega)]
  · rcases PM.ak d H n b' o1 e1 with ⟨rfl, _⟩ | ⟨h1, h2⟩
    · rw [bl] at e3; injection e3 with e3; subst e3
      exact .inr (.inr fun x Q hx hB => by have : h.n < h.n := ((hr.sep x Q hx).2 _ hB).1.1; omega)
    · simp only [du, if_neg h1] at e3
      exact .inl ⟨b', o1, p', h2, e2, e3, rfl⟩
  · simp only [du] at hx
    split at hx
    · injection hx with hx; subst hx; simp only [Ai]; omega
    · have := hr.dom x q hx; simp only [Ai]; omega
  · rcases PM.ak d H n x q hx with ⟨rfl, h2⟩ | ⟨h1, h2⟩
    · injection h2 with h2
      subst h2
      exact .inr ⟨_, ob, bl _ _ _, by rw [AO.bk hw]; exact hno, by rw [Aj]; exact bB _ _ _, ho⟩
    · rcases old x q h2 with ⟨hv, hv2⟩ | ⟨px, obx, h3, h4, h5, h6, h7, h8⟩
      · exact .inl ⟨by simp only [du, if_neg h1]; exact hv, hv2⟩
      refine .inr ⟨px, obx, hr.ple _ _ _ h3, h6, ?_, h8.mono (hr.ple _)⟩
      rw [Aj, aT _ _ _ _ (by omega)]; exact h7
  · have cs : ∀ z r pz, (H.set (some o) d n).get z = some r → du φ n ⟨h.n, s, T⟩ z = some pz → (z = n ∧ pz.B = h.n) ∨ (z ≠ n ∧ H.get z = some r ∧ φ z = some pz ∧ pz.B < h.n) := fun z r pz hz hpz => by
      rcases PM.ak d H n z r hz with ⟨rfl, _⟩ | ⟨h1, h2⟩
      · rw [bl] at hpz; injection hpz with hpz; subst hpz; exact .inl ⟨rfl, rfl⟩
      · simp only [du, if_neg h1] at hpz
        exact .inr ⟨h1, h2, hpz, (hr.dom _ _ hpz).2⟩
    rcases cs x q px hx hpx with ⟨a1, a2⟩ | ⟨a1, a2, a3, a4⟩ <;> rcases cs y q' py hy hpy with ⟨b1, b2⟩ | ⟨b1, b2, b3, b4⟩
    · omega
    · omega
    · omega
    · exact hr.inj x y q q' px py a2 b2 hwx hwy a3 b3 e
  · obtain ⟨h1, h2⟩ := hr.base x q hx
    exact ⟨by simp only [Ai]; omega, by rw [Aj, aT _ _ _ _ (by omega)]; exact h2⟩
  · have := hr.size
    (try simp only [Ai]); omega
  · obtain ⟨⟨h1, h9⟩, h2⟩ := hr.frz q hq
    have hlt := h1.1.1
    refine ⟨⟨FzR.mono (hr.ple _).z (h1.grow (g := (h.put h.n ob).to (h.n + 1)) (by simp only [Ai]; omega) (by rw [Aj, aT _ _ _ _ (by omega)])), h9⟩, fun y oy py hy hwy hpy => ?_⟩
    rcases PM.ak d H n y oy hy with ⟨rfl, _⟩ | ⟨h3, h4⟩
    · rw [bl] at hpy; injection hpy with hpy; subst hpy; exact fun e => by simp only at e; omega
    · simp only [du, if_neg h3] at hpy
      exact h2 y oy py h4 hwy hpy
theorem HR.kill {φ : Ph} {H : AH} {n : Nat} {h0 h : Hp} (hr : HR φ H n h0 h) (d b : Nat) : HR φ (H.set none d b) n h0 h := by
  have old : ∀ x q, (H.set none d b).get x = some q → H.get x = some q := fun x q hx => by
    rcases PM.ak d H b x q hx with ⟨_, h2⟩ | ⟨_, h2⟩
    · cases h2
    · exact h2
  exact ⟨hr.dom, fun x q hx => hr.live x q (old x q hx), fun x y q q' px py hx hy => hr.inj x y q q' px py (old x q hx) (old y q' hy), hr.base, hr.size, fun q hq => ⟨(hr.frz q hq).1, fun y oy py hy => (hr.frz q hq).2 y oy py (old y oy hy)⟩, hr.lR (Nat.le_refl _) (fun x Q hx => ⟨old x _ hx, rfl⟩) (fun _ h => h) (fun _ h => .inl h) (fun _ _ _ _ _ => rfl) fun b' o' p' e1 e2 e3 => .inl ⟨b', o', p', old b' o' e1, e2, e3, rfl⟩⟩
theorem HR.rename {φ : Ph} {H : AH} {n : Nat} {h0 h : Hp} (hr : HR φ H n h0 h) {b : Nat} {o o' : AO} {p q : Pl} {ob' : Obj} (hb : H.get b = some o) (hp : φ b = some p) (hq : q.B = p.B) (ho : OR (du φ n q) q o' ob') (d d' : Nat) (hw : o.own = true := by rfl) (hw' : o'.own = true := by rfl) :
    HR (du φ n q) ((H.set none d' b).set (some o') d n) (n + 1) h0 (h.put p.B ob') := by
  obtain ⟨ob, hB, _, _⟩ := hr.of hb hp
  rw [AO.bk hw] at hB
  have hpB := (hr.dom b p hp).2
  have old : ∀ x r, (H.set none d' b).get x = some r → x ≠ b ∧ H.get x = some r := fun x r hx => by
    rcases PM.ak d' H b x r hx with ⟨_, h2⟩ | ⟨h1, h2⟩
    · cases h2
    · exact ⟨h1, h2⟩
  refine ⟨fun x r hx => ?_, fun x r hx => ?_, fun x y r r' px py hx hy hwx hwy hpx hpy e => ?_, fun x r hx => ?_, hr.size, fun z hzq => ?_, hr.lR (Nat.le_refl _) (fun x Q hx => ?_) (fun _ h => h) (fun _ h => .inl h) (fun x Q B hx hB => aT _ _ _ _ fun e => ((hr.sep x Q hx).2 B hB).2.1 b o p hb hw hp e.symm) fun b' o1 p' e1 e2 e3 => ?_⟩
  rotate_left 5
  · rcases PM.ak d _ n x _ hx with ⟨_, h2⟩ | ⟨_, h2⟩
    · injection h2 with h2; subst h2; exact ho.elim
    · exact ⟨(old x _ h2).2, rfl⟩
  · rcases PM.ak d _ n b' o1 e1 with ⟨rfl, _⟩ | ⟨h1, h2⟩
    · rw [bl] at e3; injection e3 with e3; subst e3
      exact .inl ⟨b, o, p, hb, hw, hp, hq.symm⟩
    · simp only [du, if_neg h1] at e3
      exact .inl ⟨b', o1, p', (old b' o1 h2).2, e2, e3, rfl⟩
  · simp only [du] at hx
    split at hx
    · injection hx with hx; subst hx; simp only [BZ]; omega
    · have := hr.dom x r hx; simp only [BZ]; omega
  · rcases PM.ak d _ n x r hx with ⟨rfl, h2⟩ | ⟨h1, h2⟩
    · injection h2 with h2
      subst h2
      exact .inr ⟨_, ob', bl _ _ _, by rw [hq, AO.bk hw']; exact hB, by rw [hq]; exact bB _ _ _, ho⟩
    · obtain ⟨h3, h4⟩ := old x r h2
      rcases hr.live x r h4 with ⟨hv, hv2⟩ | ⟨px, obx, h5, h6, h7, h8⟩
      · exact .inl ⟨by simp only [du, if_neg h1]; exact hv, hv2⟩
      refine .inr ⟨px, obx, hr.ple _ _ _ h5, h6, ?_, h8.mono (hr.ple _)⟩
      rw [aT _ _ _ _ (fun e => by
        cases hq : r.own with
        | true => exact h3 (hr.inj x b r o px p h4 hb hq hw h5 hp e)
        | false =>
          rw [e, hB] at h6
          cases r <;> first | (cases hq; done) | (simp [AO.under] at h6; done))]
      exact h7
  · have cs : ∀ z r pz, ((H.set none d' b).set (some o') d n).get z = some r → du φ n q z = some pz → (z = n ∧ pz.B = p.B) ∨ (z ≠ n ∧ z ≠ b ∧ H.get z = some r ∧ φ z = some pz) := fun z r pz hz hpz => by
      rcases PM.ak d _ n z r hz with ⟨rfl, _⟩ | ⟨h1, h2⟩
      · rw [bl] at hpz; injection hpz with hpz; subst hpz; exact .inl ⟨rfl, hq⟩
      · simp only [du, if_neg h1] at hpz
        obtain ⟨h3, h4⟩ := old z r h2
        exact .inr ⟨h1, h3, h4, hpz⟩
    rcases cs x r px hx hpx with ⟨a1, a2⟩ | ⟨a1, a2, a3, a4⟩ <;> rcases cs y r' py hy hpy with ⟨b1, b2⟩ | ⟨b1, b2, b3, b4⟩
    · omega
    · exact (b2 (hr.inj y b r' o py p b3 hb hwy hw b4 hp (by omega))).elim
    · exact (a2 (hr.inj x b r o px p a3 hb hwx hw a4 hp (by omega))).elim
    · exact hr.inj x y r r' px py a3 b3 hwx hwy a4 b4 e
  · obtain ⟨h1, h2⟩ := hr.base x r hx
    exact ⟨h1, by rw [aT _ _ _ _ (fun e => by subst e; rw [hB] at hx; cases hx)]; exact h2⟩
  · obtain ⟨⟨h1, h9⟩, h2⟩ := hr.frz z hzq
    refine ⟨⟨FzR.mono (hr.ple _).z (h1.grow (g := h.put p.B ob') (Nat.le_refl _) (aT _ _ _ _ fun e => h2 b o p hb hw hp e.symm)), h9⟩, fun y oy py hy hwy hpy => ?_⟩
    rcases PM.ak d _ n y oy hy with ⟨rfl, _⟩ | ⟨h3, h4⟩
    · rw [bl] at hpy; injection hpy with hpy; subst hpy; rw [hq]; exact h2 b o p hb hw hp
    · simp only [du, if_neg h3] at hpy
      exact h2 y oy py (old y oy h4).2 hwy hpy
def FR (φ : Ph) (σ : AE) (ρ : Env) : Prop := ∀ t a, σ.get t = some a → VR φ a (ρ t)
theorem FR.mono {φ ψ : Ph} (he : PLe φ ψ) {σ : AE} {ρ : Env} (h : FR φ σ ρ) : FR ψ σ ρ := fun t a e => VR.mono he _ _ (h t a e)
theorem FR.ev {φ : Ph} {σ : AE} {ρ : Env} (h : FR φ σ ρ) (x : Operand) : VR φ (eev σ x) (ρ.ev x) := by
  cases x with
  | tmp t =>
    simp only [eev, Env.ev]
    rcases jt db t σ _ rfl with e | e
    · show VR φ (ay (pathOf db t) σ) (ρ t)
      rw [e]; exact .bad _
    · exact h t _ e
  | const v => exact lD v
  | global g => exact .any _
  | func f => exact .fn (xs := #[]) (cs := #[]) .nil .nil
theorem FR.at {φ : Ph} {σ : AE} {ρ : Env} (h : FR φ σ ρ) (t : Nat) : VR φ (ay (pa t) σ) (ρ t) := FR.ev h (.tmp t)
theorem FR.put {φ : Ph} {σ : AE} {ρ : Env} (h : FR φ σ ρ) (d : Option Nat) {a : AV} {v : Value} (hv : VR φ a v) : FR φ (b8 σ d a) (ρ.put d v) := by
  cases d with
  | none => exact h
  | some d =>
    intro t x e
    rcases kS db σ d t x e with ⟨rfl, h2⟩ | ⟨h1, h2⟩
    · subst h2
      rw [mP, pE]; exact hv
    · rw [mP, HL _ _ _ _ h1]; exact h t x h2
theorem cn (s : List Nat) : (dz s).toList = s.map UInt8.ofNat := ByteArray.toList_mk _
theorem eY (s : List Nat) : (dz s).size = s.length := by
  show (s.map UInt8.ofNat).toArray.size = _
  simp
theorem vn (a b : List Nat) : dz a ++ dz b = dz (a ++ b) := by
  apply ByteArray.ext
  simp [dz]
theorem tp (s : List Nat) (l h : Nat) : (dz s).extract l h = dz ((s.drop l).take (h - l)) := by
  unfold dz
  rw [ByteArray.extract_mk]
  simp [List.map_take, List.map_drop]
theorem ofNat_inj {a b : Nat} (ha : a < 256) (hb : b < 256) (h : UInt8.ofNat a = UInt8.ofNat b) : a = b := by
  have := congrArg UInt8.toNat h
  simp only [UInt8.toNat_ofNat'] at this
  omega
theorem lE : ∀ (a b : List Nat), (∀ x ∈ a, x < 256) → (∀ x ∈ b, x < 256) → kR a b = (a.map UInt8.ofNat == b.map UInt8.ofNat)
  | [], [], _, _ => by simp [kR]
  | [], _ :: _, _, _ => by simp [kR]
  | _ :: _, [], _, _ => by simp [kR]
  | a :: x, b :: y, ha, hb => by
    unfold kR
    have ih := lE x y (fun z hz => ha z (by simp [hz])) (fun z hz => hb z (by simp [hz]))
    rw [List.map_cons, List.map_cons, List.cons_beq_cons]
    split
    · rename_i e
      have := Nat.eq_of_beq_eq_true e
      subst this
      simp [ih]
    · rename_i e
      have hne : a ≠ b := fun q => by subst q; simp at e
      have : UInt8.ofNat a ≠ UInt8.ofNat b := fun q => hne (ofNat_inj (ha a (by simp)) (hb b (by simp)) q)
      simp [this]
theorem vo : ∀ (a b : List Nat), (∀ x ∈ a, x < 256) → (∀ x ∈ b, x < 256) → ltL a b = Op.bytesLess (a.map UInt8.ofNat) (b.map UInt8.ofNat)
  | [], [], _, _ => by simp [ltL, Op.bytesLess]
  | [], _ :: _, _, _ => by simp [ltL, Op.bytesLess]
  | _ :: _, [], _, _ => by simp [ltL, Op.bytesLess]
  | a :: x, b :: y, ha, hb => by
    unfold ltL
    have ih := vo x y (fun z hz => ha z (by simp [hz])) (fun z hz => hb z (by simp [hz]))
    have ha' := ha a (by simp)
    have hb' := hb b (by simp)
    rw [List.map_cons, List.map_cons, Op.bytesLess]
    split
    · rename_i e
      have := Nat.eq_of_beq_eq_true e
      subst this
      simp [ih]
    · rename_i e
      have hne : a ≠ b := fun q => by subst q; simp at e
      have h2 : UInt8.ofNat a ≠ UInt8.ofNat b := fun q => hne (ofNat_inj ha' hb' q)
      have h3 : decide (UInt8.ofNat a < UInt8.ofNat b) = Nat.blt a b := by
        rw [Bool.eq_iff_iff, decide_eq_true_eq, UInt8.lt_iff_toNat_lt, UInt8.toNat_ofNat', UInt8.toNat_ofNat', Nat.mod_eq_of_lt ha', Nat.mod_eq_of_lt hb']
        simp [Nat.blt_eq]
      simp [h2, h3]
section
variable {P : Program} {φ : Ph} {H : AH} {n : Nat} {h0 h : Hp} {K : Value → Prop}
theorem p8 {op : BinOp} {t : TypeId} {k k' : IntKind} {a b : Int} {r : AV} (e : Fa op k k' a b = some r) (hk : ∀ v, VR φ r v → K v) : iz P op t (.int k a) (.int k' b) K := by
  unfold Fa at e
  (try simp only [iz])
  cases op <;> simp only at e ⊢
  case shl => split at e <;> first | (injection e with e; subst e; exact ⟨by assumption, hk _ (.int _ _)⟩) | cases e
  case shr => split at e <;> first | (injection e with e; subst e; exact ⟨by assumption, hk _ (.int _ _)⟩) | cases e
  case quo =>
    split at e
    · rename_i hkk
      split at e
      · cases e
      · rename_i hb; injection e with e; subst e; exact ⟨hkk, hb, hk _ (.int _ _)⟩
    · cases e
  case rem =>
    split at e
    · rename_i hkk
      split at e
      · cases e
      · rename_i hb; injection e with e; subst e; exact ⟨hkk, hb, hk _ (.int _ _)⟩
    · cases e
  case neq =>
    split at e
    · rename_i hkk
      injection e with e; subst e
      refine ⟨hkk, ?_⟩
      have : decide (a ≠ b) = !decide (a = b) := by by_cases q : a = b <;> simp [q]
      rw [this]; exact hk _ (.bool _)
    · cases e
  all_goals
    split at e
    · rename_i hkk
      injection e with e; subst e
      exact ⟨hkk, hk _ (by first | exact .int _ _ | exact .bool _)⟩
    · cases e
theorem p9 {op : BinOp} {t : TypeId} {a b : List Nat} {r : AV} (ha : ∀ x ∈ a, x < 256) (hb : ∀ x ∈ b, x < 256) (e : Cp op a b = some r) (hk : ∀ v, VR φ r v → K v) : iz P op t (.string (dz a)) (.string (dz b)) K := by
  unfold Cp at e
  have e1 : kR a b = ((dz a).toList == (dz b).toList) := by rw [cn, cn]; exact lE a b ha hb
  have e2 : ltL a b = Op.bytesLess (dz a).toList (dz b).toList := by rw [cn, cn]; exact vo a b ha hb
  cases op <;> simp only at e <;> simp only [iz]
  case add =>
    split at e
    · rename_i hle
      injection e with e; subst e
      refine ⟨by rw [eY, eY]; exact hle, ?_⟩
      rw [vn]
      exact hk _ (.str fun x hx => (List.mem_append.1 hx).elim (ha x) (hb x))
    · cases e
  all_goals first | (cases e; done) | (injection e with e; subst e; (first | rw [← e1, ← e2] | rw [← e1] | rw [← e2]); exact hk _ (.bool _))
end
end Go.Proofs.Ythjggjhebbdkdaa
namespace Go.Proofs.Ythjggjhebbdkdaa
open Go Go.RowKit
theorem VRs.of {φ : Ph} : ∀ {l : List AV} {vs : List Value}, l.length = vs.length → (∀ (i : Nat) (a : AV), l[i]? = some a → ∃ v, vs[i]? = some v ∧ VR φ a v) → VRs φ l vs
  | [], [], _, _ => .nil
  | [], _ :: _, h, _ => by simp at h
  | _ :: _, [], h, _ => by simp at h
  | a :: l, v :: vs, h, k => by
    obtain ⟨u, h1, h2⟩ := k 0 a rfl
    simp only [List.getElem?_cons_zero, Option.some.injEq] at h1
    subst h1
    refine .cons h2 (VRs.of (by simpa using h) fun i b e => ?_)
    obtain ⟨w, h3, h4⟩ := k (i + 1) b (by simpa using e)
    exact ⟨w, by simpa using h3, h4⟩
theorem VRs.ML {φ : Ph} {l : List AV} {c : Array Value} (h : VRs φ l c.toList) : CR φ c 0 l := CR.of' h
theorem CR.Jz {φ : Ph} {l : List AV} {c : Array Value} (hl : l.length = c.size) (h : CR φ c 0 l) : VRs φ l c.toList :=
  VRs.of (by simpa using hl) fun i a e => by
    obtain ⟨v, h1, h2⟩ := h i a e
    exact ⟨v, by simpa using h1, h2⟩
theorem ju (φ : Ph) (z : Value) : VRs φ (ofV z).cells z.cells.toList := by
  have h := lD (φ := φ) z
  have hc : okC (ofV z) = true := by
    unfold ofV
    split
    · rfl
    · rfl
    · rename_i h1 h2
      unfold vi
      split <;> first | rfl | (cases z <;> first | rfl | exact (h1 _ rfl).elim | exact (h2 _ rfl).elim)
  exact h.cells hc
section
variable {P : Program} {φ : Ph} {H : AH} {n : Nat} {h0 h : Hp} {K : Value → Prop}
theorem kT (hr : HR φ H n h0 h) {t : TypeId} {a r : AV} {v : Value} (ha : VR φ a v) (e : rT P t a H = some r) (hk : ∀ u, VR φ r u → K u) : fJ P t v h K := by
  unfold rT at e
  split at e
  · rename_i b o
    obtain ⟨p, hp, rfl⟩ := ha.ct
    split at e
    · rename_i l z hb
      obtain ⟨ob, hB, hf, c, t', fz, rfl, h1, h2, h3, h4, h5⟩ := hr.of hb hp
      (try simp only [fJ, hf])
      split at e
      · rename_i hg
        obtain ⟨v, h6, h7⟩ := h5.nth e
        (try simp only [hg, h6])
        exact hk v h7
      · rename_i hg
        split at e
        · rename_i m hm
          simp only [Option.map_eq_some_iff] at e
          obtain ⟨l', e1, rfl⟩ := e
          obtain ⟨vs, h6, h7⟩ := h5.sub e1
          (try simp only [hg, hm, h6])
          exact hk _ (.agg (by simpa using h7))
        · cases e
      · cases e
    · rename_i l hb
      obtain ⟨ob, hB, hf, c, t', fz, rfl, h1, h2, h5⟩ := hr.of hb hp
      (try simp only [fJ, hf])
      split at e
      · rename_i hg
        obtain ⟨v, h6, h7⟩ := h5.nth e
        (try simp only [hg, h6])
        exact hk v h7
      · rename_i hg
        split at e
        · rename_i m hm
          simp only [Option.map_eq_some_iff] at e
          obtain ⟨l', e1, rfl⟩ := e
          obtain ⟨vs, h6, h7⟩ := h5.sub e1
          (try simp only [hg, hm, h6])
          exact hk _ (.agg (by simpa using h7))
        · cases e
      · cases e
    · cases e
  · cases e
theorem gJ {op : BinOp} {q : Option Bool} {r : AV} (e : mY op q = some r) : ∃ b, q = some b ∧ (op = .eql ∧ r = .bool b ∨ op = .neq ∧ r = .bool (!b)) := by
  unfold mY at e
  split at e
  · cases e
  · rename_i b
    cases op <;> simp only at e <;> first | (cases e; done) | (injection e with e; subst e; exact ⟨b, rfl, by simp⟩)
theorem j0 {xs ys : List AV} {vs us : Array Value} (hx : VRs φ xs vs.toList) (hy : VRs φ ys us.toList) : ∀ (l : List (Nat × Nat)) (q : Bool), oA xs ys l = some q → fo vs us l = some q
  | [], q, e => e
  | (k, o) :: l, q, e => by
    unfold oA at e
    simp only [ep] at e
    split at e
    · rename_i k1 a k2 b e1 e2
      obtain ⟨v1, g1, g2⟩ := hx.at e1
      obtain ⟨v2, g3, g4⟩ := hy.at e2
      rw [g2.bJ, Array.getElem?_toList] at g1
      rw [g4.bJ, Array.getElem?_toList] at g3
      split at e
      · rename_i hc
        simp only [Option.map_eq_some_iff] at e
        obtain ⟨q', e3, rfl⟩ := e
        (try simp only [fo, g1, g3])
        rw [if_pos hc, j0 hx hy l q' e3]; rfl
      · cases e
    · rename_i a b e1 e2
      obtain ⟨v1, g1, g2⟩ := hx.at e1
      obtain ⟨v2, g3, g4⟩ := hy.at e2
      rw [g2.cj.1, Array.getElem?_toList] at g1
      rw [g4.cj.1, Array.getElem?_toList] at g3
      split at e
      · rename_i hc
        simp only [Option.map_eq_some_iff] at e
        obtain ⟨q', e3, rfl⟩ := e
        (try simp only [fo, g1, g3])
        rw [if_pos hc, j0 hx hy l q' e3, cn, cn, lE a b g2.cj.2 g4.cj.2]; rfl
      · cases e
    · rename_i a b e1 e2
      obtain ⟨v1, g1, g2⟩ := hx.at e1
      obtain ⟨v2, g3, g4⟩ := hy.at e2
      rw [g2.bF, Array.getElem?_toList] at g1
      rw [g4.bF, Array.getElem?_toList] at g3
      split at e
      · rename_i hc
        simp only [Option.map_eq_some_iff] at e
        obtain ⟨q', e3, rfl⟩ := e
        (try simp only [fo, g1, g3])
        rw [if_pos hc, j0 hx hy l q' e3]; rfl
      · cases e
    · cases e
theorem vp {t : TypeId} (e : xJ P t = true) : ∃ x, P.underlying t = some (.pointer x) := by
  unfold xJ at e
  split at e
  · exact ⟨_, by assumption⟩
  · cases e
theorem xP {t : TypeId} (e : pX P t = true) : ∃ x, P.underlying t = some (.slice x) := by
  unfold pX at e
  split at e
  · exact ⟨_, by assumption⟩
  · cases e
theorem m4 {t : TypeId} (e : o8 P t = true) : P.underlying t = some .bool := by
  unfold o8 at e
  split at e
  · assumption
  · cases e
theorem oB (hr : HR φ H n h0 h) {b : Nat} {p : Pl} (hp : φ b = some p) (e : tj H b = true) : ∃ c t o, H.get b = some o ∧ o.own = true ∧ h.f p.B = some (.cells c t (0, 0)) := by
  unfold tj at e
  split at e
  · rename_i l hb
    obtain ⟨ob, hB, hf, c, t', fz, rfl, _, _, _, h4, _⟩ := hr.of hb hp
    have := h4 rfl
    subst this
    exact ⟨c, t', _, hb, rfl, hf⟩
  · cases e
theorem j5 (hr : HR φ H n h0 h) {op : BinOp} {t : TypeId} {x y r : AV} {v u : Value} (hx : VR φ x v) (hy : VR φ y u) (e : oT P op t x y H = some r) (hk : ∀ u, VR φ r u → K u) : gH P op t v u h K := by
  unfold oT at e
  split at e
  · rename_i k a k' b
    rw [hx.bJ, hy.bJ]
    show iz P op t (.int k a) (.int k' b) K
    exact p8 e hk
  · rename_i a b
    obtain ⟨rfl, ha⟩ := hx.cj
    obtain ⟨rfl, hb⟩ := hy.cj
    show iz P op t (.string (dz a)) (.string (dz b)) K
    exact p9 ha hb e hk
  · rename_i a b
    rw [hx.bF, hy.bF]
    split at e
    · rename_i ht
      have ht := m4 ht
      obtain ⟨q, hq, ⟨rfl, rfl⟩ | ⟨rfl, rfl⟩⟩ := gJ e
      · injection hq with hq; subst hq
        exact ⟨ht, hk _ (.bool _)⟩
      · injection hq with hq; subst hq
        exact ⟨ht, hk _ (.bool _)⟩
    · cases e
  · rename_i b o b' o'
    obtain ⟨p, hp, rfl⟩ := hx.ct
    obtain ⟨p', hp', rfl⟩ := hy.ct
    obtain ⟨q, hq, hop⟩ := gJ e
    have key : ∃ el k, P.underlying t = some (.pointer el) ∧ ah P el = some (k + 1) ∧
        ((⟨p.B, p.s + o, none⟩ : Addr) = ⟨p'.B, p'.s + o', none⟩ ∨ (∃ ca ta cb tb, h.f p.B = some (.cells ca ta (0, 0)) ∧ h.f p'.B = some (.cells cb tb (0, 0)))) ∧ q = decide ((⟨p.B, p.s + o, none⟩ : Addr) = ⟨p'.B, p'.s + o', none⟩) := by
      unfold Jw at hq
      split at hq
      · rename_i el hu
        split at hq
        · rename_i k hs
          refine ⟨el, k, hu, hs, ?_⟩
          split at hq
          · rename_i hbb
            simp only [Bool.and_eq_true] at hbb
            have h1 := Nat.eq_of_beq_eq_true hbb.1
            have h2 := Nat.eq_of_beq_eq_true hbb.2
            subst h1 h2
            rw [hp] at hp'
            injection hp' with hp'
            subst hp'
            injection hq with hq
            subst hq
            exact ⟨.inl rfl, by simp⟩
          · rename_i hbb
            split at hq
            · rename_i hpl
              injection hq with hq
              subst hq
              simp only [Bool.and_eq_true] at hpl
              obtain ⟨c, ty, ob, g1, g5, g2⟩ := oB hr hp hpl.1
              obtain ⟨c', ty', ob', g3, g6, g4⟩ := oB hr hp' hpl.2
              refine ⟨.inr ⟨c, ty, c', ty', g2, g4⟩, ?_⟩
              have hne : ¬ (⟨p.B, p.s + o, none⟩ : Addr) = ⟨p'.B, p'.s + o', none⟩ := fun q => by
                injection q with q1 q2
                have := hr.inj b b' _ _ p p' g1 g3 g5 g6 hp hp' q1
                subst this
                rw [hp] at hp'
                injection hp' with hp'
                subst hp'
                have : o = o' := by omega
                subst this
                simp at hbb
              simp [hne]
            · cases hq
        · cases hq
      · cases hq
    obtain ⟨el, k, hu, hs, hc, rfl⟩ := key
    rcases hop with ⟨rfl, rfl⟩ | ⟨rfl, rfl⟩
    · (try simp only [gH, Al, hu])
      exact ⟨⟨k, hs⟩, hc, hk _ (.bool _)⟩
    · (try simp only [gH, Al, hu])
      exact ⟨⟨k, hs⟩, hc, hk _ (.bool _)⟩
  · rw [hy.aW]
    split at e
    · rename_i ht
      obtain ⟨el, ht⟩ := vp ht
      obtain ⟨q, hq, hop⟩ := gJ e
      have key : ∃ a, v = .pointer a ∧ q = a.isNone := by
        unfold Cq at hq
        split at hq
        · injection hq with hq; exact ⟨none, hx.aW, hq.symm⟩
        · obtain ⟨p, _, rfl⟩ := hx.ct
          injection hq with hq; exact ⟨_, rfl, hq.symm⟩
        · injection hq with hq; exact ⟨_, hx.pb, hq.symm⟩
        · cases hq
      obtain ⟨a, rfl, rfl⟩ := key
      have hab : gH P op t (.pointer a) (.pointer none) h K = iz P op t (.pointer a) (.pointer none) K := by cases a <;> rfl
      rw [hab]
      rcases hop with ⟨rfl, rfl⟩ | ⟨rfl, rfl⟩
      · (try simp only [iz, ht]); exact hk _ (.bool _)
      · (try simp only [iz, ht]); exact hk _ (.bool _)
    · cases e
  · rw [hy.cg]
    split at e
    · rename_i ht
      obtain ⟨el, ht⟩ := xP ht
      obtain ⟨q, hq, hop⟩ := gJ e
      have key : ∃ a m c, v = .slice a m c ∧ q = a.isNone := by
        unfold Cr at hq
        split at hq
        · injection hq with hq; exact ⟨none, _, _, hx.cg, hq.symm⟩
        · obtain ⟨p, C, _, rfl, _⟩ := hx.dI
          injection hq with hq; exact ⟨_, _, _, rfl, hq.symm⟩
        · obtain ⟨p, x, C, _, rfl, _⟩ := hx.ic
          injection hq with hq; exact ⟨_, _, _, rfl, hq.symm⟩
        · cases hq
      obtain ⟨a, m, c, rfl, rfl⟩ := key
      rcases hop with ⟨rfl, rfl⟩ | ⟨rfl, rfl⟩
      · (try simp only [gH, iz, ht]); exact hk _ (.bool _)
      · (try simp only [gH, iz, ht]); exact hk _ (.bool _)
    · cases e
  · rename_i xs ys
    obtain ⟨vs, rfl, h1⟩ := hx.eJ
    obtain ⟨us, rfl, h2⟩ := hy.eJ
    obtain ⟨q, hq, hop⟩ := gJ e
    have key : pG P t vs us = some q := by
      simp only [Option.bind_eq_some_iff] at hq
      obtain ⟨l, hl, hq⟩ := hq
      simp only [pG, hl, Option.bind_some]
      exact j0 h1 h2 l q hq
    rcases hop with ⟨rfl, rfl⟩ | ⟨rfl, rfl⟩
    · (try simp only [gH, iz, key]); exact hk _ (.bool _)
    · (try simp only [gH, iz, key]); exact hk _ (.bool _)
  · cases e
theorem rZ {op : UnOp} {x r : AV} {v : Value} (hx : VR φ x v) (e : eun op x = some r) (hk : ∀ u, VR φ r u → K u) : aun op v K := by
  unfold eun at e
  split at e
  · rw [hx.bF]; injection e with e; subst e; exact hk _ (.bool _)
  · rw [hx.bJ]; injection e with e; subst e; exact hk _ (.int _ _)
  · rw [hx.bJ]; injection e with e; subst e; exact hk _ (.int _ _)
  · cases e
theorem kU {t : TypeId} {l : List AV} {off : Nat} {r : AV} {cs : Array Value} (hl : VRs φ l cs.toList) (e : rU P t l off = some r) (hk : ∀ u, VR φ r u → K u) : jL P t cs off K := by
  unfold rU at e
  split at e
  · rename_i hg
    obtain ⟨v, h1, h2⟩ := hl.at (by rw [← ep]; exact e)
    rw [Array.getElem?_toList] at h1
    (try simp only [jL, hg, h1])
    exact hk v h2
  · rename_i hg
    split at e
    · rename_i m hm
      simp only [Option.map_eq_some_iff] at e
      obtain ⟨l', e1, rfl⟩ := e
      obtain ⟨h1, rfl⟩ := bj e1
      (try simp only [jL, hg, hm])
      refine hk _ (.agg ?_)
      have := (hl.drop off).take m
      rw [Array.toList_extract, List.extract_eq_take_drop]
      rw [show off + m - off = m from by omega]
      exact this
    · cases e
  · cases e
theorem tq {s : TypeId} {x r : AV} {i : Nat} {v : Value} (hx : VR φ x v) (e : xK P s x i = some r) (hk : ∀ u, VR φ r u → K u) : l8 P s v i K := by
  unfold xK at e
  split at e
  · rename_i l t off ht
    obtain ⟨cs, rfl, h1⟩ := hx.eJ
    (try simp only [l8, ht])
    exact kU h1 e hk
  · cases e
theorem nS {s : TypeId} {x r : AV} {i : Nat} {v : Value} (hx : VR φ x v) (e : mg P s x i = some r) (hk : ∀ u, VR φ r u → K u) : dN P s v i K := by
  unfold mg at e
  split at e
  · rename_i b o t off ht
    obtain ⟨p, hp, rfl⟩ := hx.ct
    injection e with e; subst e
    (try simp only [dN, ht])
    rw [Nat.add_assoc]
    exact hk _ (.ptr hp)
  · rename_i l o t off ht
    obtain ⟨q, y, hq, rfl, hl⟩ := hx.tn
    injection e with e; subst e
    (try simp only [dN, ht])
    rw [Nat.add_assoc]
    exact hk _ (.fa hq hl)
  · cases e
theorem kV {ix : AV} {len i : Nat} {v : Value} (hx : VR φ ix v) (e : eix ix len = some i) : i < len ∧ ∃ k, v = .int k (i : Int) := by
  unfold eix at e
  split at e
  · rename_i k j
    split at e
    · rename_i hb
      injection e with e; subst e
      exact ⟨by simpa [Nat.blt_eq] using hb, k, hx.bJ⟩
    · cases e
  · cases e
theorem nT {t : TypeId} {x ix r : AV} {v u : Value} (hx : VR φ x v) (hi : VR φ ix u) (e : mh P t x ix = some r) (hk : ∀ u, VR φ r u → K u) : bY P t v u K := by
  unfold mh at e
  split at e
  · rename_i el b o m c k hu
    obtain ⟨p, C, hp, rfl, _, _⟩ := hx.dI
    split at e
    · rename_i i es e1 e2
      obtain ⟨h1, kk, rfl⟩ := kV hi e1
      injection e with e; subst e
      (try simp only [bY, hu, e2])
      refine ⟨by omega, by omega, ?_⟩
      rw [Int.toNat_natCast, Nat.add_assoc]
      exact hk _ (.ptr hp)
    · cases e
  · rename_i len el b o hu
    obtain ⟨p, hp, rfl⟩ := hx.ct
    split at e
    · rename_i i es e1 e2
      obtain ⟨h1, kk, rfl⟩ := kV hi e1
      injection e with e; subst e
      (try simp only [bY, hu, e2])
      refine ⟨by omega, by omega, ?_⟩
      rw [Int.toNat_natCast, Nat.add_assoc]
      exact hk _ (.ptr hp)
    · cases e
  · cases e
theorem tu {t : TypeId} {x ix r : AV} {v u : Value} (hx : VR φ x v) (hi : VR φ ix u) (e : xL P t x ix = some r) (hk : ∀ u, VR φ r u → K u) : gW P t v u K := by
  unfold xL at e
  split at e
  · rename_i len el l hu
    obtain ⟨cs, rfl, hl⟩ := hx.eJ
    split at e
    · rename_i i es e1 e2
      obtain ⟨h1, kk, rfl⟩ := kV hi e1
      (try simp only [gW, hu, e2])
      refine ⟨by omega, by omega, ?_⟩
      rw [Int.toNat_natCast]
      exact kU hl e hk
    · cases e
  · rename_i s hu
    obtain ⟨rfl, hs⟩ := hx.cj
    split at e
    · rename_i i e1
      obtain ⟨h1, kk, rfl⟩ := kV hi e1
      simp only [Option.map_eq_some_iff, ep] at e
      obtain ⟨c, hc, rfl⟩ := e
      have h2 := hs c (List.mem_of_getElem? hc)
      simp only [gW, hu, cn, Int.toNat_natCast, List.getElem?_map, hc, Option.map_some]
      refine ⟨by omega, hk _ ?_⟩
      have : ((UInt8.ofNat c).toNat : Int) = Int.ofNat c := by
        rw [UInt8.toNat_ofNat', Nat.mod_eq_of_lt h2]; rfl
      rw [this]; exact .int _ _
    · cases e
  · cases e
theorem qa {x r : AV} {i : Nat} {v : Value} (hx : VR φ x v) (e : pY x i = some r) (hk : ∀ u, VR φ r u → K u) : iA v i K := by
  unfold pY at e
  split at e
  · rename_i l
    obtain ⟨cs, rfl, hl⟩ := hx.dt
    obtain ⟨v, h1, h2⟩ := hl.at (by rw [← ep]; exact e)
    rw [Array.getElem?_toList] at h1
    (try simp only [iA, h1])
    exact hk v h2
  · cases e
theorem j6 (hr : HR φ H n h0 h) {t : TypeId} {x r : AV} {v : Value} (hx : VR φ x v) (e : AD P t x H = some r) (hk : ∀ u, VR φ r u → K u) : jO P t v h K := by
  unfold AD at e
  split at e
  · rename_i s hu
    obtain ⟨rfl, _⟩ := hx.cj
    injection e with e; subst e
    (try simp only [jO, hu, eY])
    exact hk _ (.int _ _)
  · rename_i el hu
    rw [hx.cg]
    injection e with e; subst e
    (try simp only [jO, hu])
    exact hk _ (.int _ _)
  · rename_i el b hu
    obtain ⟨p, x, C, _, rfl, _⟩ := hx.ic
    injection e with e; subst e
    (try simp only [jO, hu])
    exact hk _ (.int _ _)
  · rename_i el b o m c k hu
    obtain ⟨p, C, hp, rfl, _, _⟩ := hx.dI
    injection e with e; subst e
    (try simp only [jO, hu])
    exact hk _ (.int _ _)
  · rename_i m el x hu
    injection e with e; subst e
    (try simp only [jO, hu])
    exact hk _ (.int _ _)
  · rename_i k el b hu
    obtain ⟨p, hp, rfl⟩ := hx.lC
    split at e
    · rename_i es hb
      obtain ⟨ob, hB, hf, ms, cl, rfl, h1, _⟩ := hr.of hb hp
      injection e with e; subst e
      have := MR.length h1
      (try simp only [jO, hu, hf])
      rw [show (ms.size : Int) = (es.length : Int) from by simp [this]]
      exact hk _ (.int _ _)
    · cases e
  · cases e
theorem nU {q : Bool} {x y r : AV} {v u : Value} (hx : VR φ x v) (hy : VR φ y u) (e : emm q x y = some r) (hk : ∀ u, VR φ r u → K u) : bZ q v u K := by
  unfold emm at e
  split at e
  · rw [hx.bJ, hy.bJ]
    injection e with e; subst e
    exact hk _ (.int _ _)
  · cases e
end
end Go.Proofs.Ythjggjhebbdkdaa
namespace Go.Proofs.Ythjggjhebbdkdaa
open Go Go.RowKit
section
variable {P : Program} {φ : Ph} {H : AH} {n : Nat} {h0 h : Hp} {K : Value → Prop} {σ : AE} {ρ : Env}
theorem dH (hf : FR φ σ ρ) {x : Option Operand} {d i : Nat} (e : jX (x.map (eev σ)) d = some i) (d' : Int) (hd : x = none → (i : Int) = d') : bnd (x.map ρ.ev) d' = some (i : Int) := by
  cases x with
  | none => simp only [Option.map_none, bnd]; rw [hd rfl]
  | some y =>
    simp only [Option.map_some, jX] at e
    have hy := hf.ev y
    split at e
    · rename_i q; cases q
    · rename_i k j q
      injection e with e; subst e
      injection q with q
      rw [q] at hy
      simp only [Option.map_some, hy.bJ, bnd]
      rfl
    · cases e
theorem cu {d i : Nat} (e : jX none d = some i) : i = d := by injection e with e; exact e.symm
theorem isSome_map {α β : Type} (f : α → β) (x : Option α) : (x.map f).isSome = x.isSome := by cases x <;> rfl
theorem ie (B o l hh m k : Nat) : fq (some ⟨B, o, none⟩) l hh m k = .slice (some ⟨B, if m = l then o else o + l * k, none⟩) (hh - l) (m - l) := by
  unfold fq
  split
  · rfl
  · simp only [Option.map_some, iy]
theorem j7 (hf : FR φ σ ρ) {t : TypeId} {x r : AV} {v : Value} {lo hi mx : Option Operand} (hx : VR φ x v) (e : fV P t x (lo.map (eev σ)) (hi.map (eev σ)) (mx.map (eev σ)) = some r) (hk : ∀ u, VR φ r u → K u) :
    cI P t v (lo.map ρ.ev) (hi.map ρ.ev) (mx.map ρ.ev) K := by
  unfold fV at e
  split at e
  ·
    rename_i s
    obtain ⟨rfl, hs⟩ := hx.cj
    split at e
    · rename_i l hh hu hmx el eh
      split at e
      · rename_i hc
        injection e with e; subst e
        have hmn : mx = none := by cases mx with | none => rfl | some y => cases hmx
        subst hmn
        have e1 := dH hf el 0 (fun q => by subst q; rw [cu el]; rfl)
        have e2 := dH hf eh ((dz s).size : Int) (fun q => by subst q; rw [cu eh, eY])
        simp only [cI, hu, e1, e2, Option.map_none, Option.isSome_none]
        refine ⟨trivial, trivial, by omega, by omega, by rw [eY]; omega, ?_⟩
        rw [Int.toNat_natCast, Int.toNat_natCast, tp]
        exact hk _ (.str fun x hx => hs x (List.mem_of_mem_drop (List.mem_of_mem_take hx)))
      · cases e
    · cases e
  ·
    rw [hx.cg]
    split at e
    · rename_i el l hh m hu el' eh em
      split at e
      · rename_i hc
        obtain ⟨rfl, rfl, rfl, hmx, hsz⟩ := hc
        injection e with e; subst e
        obtain ⟨k, hsz⟩ := Option.isSome_iff_exists.1 hsz
        have e1 := dH hf el' 0 (fun q => rfl)
        have e2 := dH hf eh ((0 : Nat) : Int) (fun q => rfl)
        have e3 := dH hf em ((0 : Nat) : Int) (fun q => rfl)
        (try simp only [cI, hu, hsz, e1, e2, e3])
        rw [isSome_map, isSome_map] at hmx
        refine ⟨by rw [isSome_map, isSome_map]; exact hmx, by omega, by omega, ?_, by omega, hk _ ?_⟩
        · unfold pK; split
          · trivial
          · omega
        · exact .nsl
      · cases e
    · cases e
  ·
    rename_i b
    obtain ⟨p, x, C, hp, rfl, hx1, hx2⟩ := hx.ic
    split at e
    · rename_i el l hh hu hmx el' eh
      split at e
      · rename_i hc
        obtain ⟨rfl, rfl, hsz⟩ := hc
        injection e with e; subst e
        obtain ⟨k, hsz⟩ := Option.isSome_iff_exists.1 hsz
        have hmn : mx = none := by cases mx with | none => rfl | some y => cases hmx
        subst hmn
        have e1 := dH hf el' 0 (fun q => rfl)
        have e2 := dH hf eh ((0 : Nat) : Int) (fun q => rfl)
        simp only [cI, hu, hsz, e1, e2, Option.map_none, p6, Option.isSome_none]
        refine ⟨fun q => (Bool.false_ne_true q).elim, by omega, by omega, ?_, by omega, hk _ ?_⟩
        · unfold pK; split
          · trivial
          · omega
        · show VR φ (.esl b) (fq (some ⟨p.B, x, none⟩) 0 0 C k)
          rw [ie, Nat.zero_mul, Nat.add_zero, ite_self]
          exact .esl hp hx1 hx2
      · cases e
    · cases e
  ·
    rename_i b o m c k
    obtain ⟨p, C, hp, rfl, hC0, hC1⟩ := hx.dI
    split at e
    · rename_i el hu
      split at e
      · rename_i es l hh mm hs el' eh em
        split at e
        · rename_i hc
          obtain ⟨h1, h2, h3⟩ := hc
          have e1 := dH hf el' 0 (fun q => by subst q; rw [cu el']; rfl)
          have e2 := dH hf eh (m : Int) (fun q => by subst q; rw [cu eh])
          have hcC : c ≤ C := by
            by_cases q : k = 0
            · rw [hC0 q]; omega
            · exact (hC1 q).1
          have ups : ∀ M : Int, (hh : Int) ≤ M → pK (hi.map ρ.ev) (hh : Int) M := fun M hM => by
            unfold pK; split
            · trivial
            · exact hM
          have exact_ : (mx.isSome = true → hi.isSome = true) → (mx = none → mm = C) → K (.slice (some ⟨p.B, p.s + (if mm = l then o else o + l * es), none⟩) (hh - l) (mm - l)) → cI P t (.slice (some ⟨p.B, p.s + o, none⟩) m C) (lo.map ρ.ev) (hi.map ρ.ev) (mx.map ρ.ev) K := fun hmx hmc hK => by
            have e3 := dH hf em (C : Int) (fun q => by rw [hmc q])
            (try simp only [cI, hu, hs, e1, e2, e3])
            refine ⟨by rw [isSome_map, isSome_map]; exact hmx, by omega, by omega, ups _ (by omega), by omega, ?_⟩
            rw [Int.toNat_natCast, Int.toNat_natCast, Int.toNat_natCast, ie]
            have : (if mm = l then p.s + o else p.s + o + l * es) = p.s + (if mm = l then o else o + l * es) := by split <;> omega
            rw [this]
            exact hK
          split at e
          · rename_i hmx
            have hmn : mx = none := by cases mx with | none => rfl | some y => cases hmx
            subst hmn
            have hm := cu em
            injection e with e; subst e
            exact exact_ (fun q => by cases q) (fun _ => by rw [hm, hC0 rfl]) (hk _ (.sl hp (fun _ => rfl) (fun q => (q rfl).elim)))
          · rename_i y hmx
            split at e
            · rename_i hhi
              injection e with e; subst e
              rw [isSome_map] at hhi
              have hmn : mx ≠ none := fun q => by subst q; cases hmx
              exact exact_ (fun _ => hhi) (fun q => (hmn q).elim) (hk _ (.sl hp (fun _ => rfl) (fun q => (q rfl).elim)))
            · cases e
          · rename_i k' hmx
            have hmn : mx = none := by cases mx with | none => rfl | some y => cases hmx
            subst hmn
            obtain ⟨_, hT⟩ := hC1 (by omega)
            split at e
            · rename_i hes
              subst hes
              have hm := cu em
              have red : K (fq (some ⟨p.B, p.s + o, none⟩) l hh C (k' + 1)) → cI P t (.slice (some ⟨p.B, p.s + o, none⟩) m C) (lo.map ρ.ev) (hi.map ρ.ev) (Option.map ρ.ev none) K := fun hK => by
                simp only [cI, hu, hs, e1, e2, Option.map_none, p6]
                refine ⟨(fun q => by cases q), by omega, by omega, ups _ (by omega), by omega, ?_⟩
                rw [Int.toNat_natCast, Int.toNat_natCast, Int.toNat_natCast]
                exact hK
              refine red ?_
              rw [ie]
              split at e
              · rename_i hl
                injection e with e; subst e
                have e4 : (if C = l then p.s + o else p.s + o + l * (k' + 1)) = p.s + (o + l * (k' + 1)) := by
                  split
                  · rename_i q
                    have : l = 0 := by omega
                    subst this; omega
                  · omega
                rw [e4]
                refine hk _ (.sl hp (fun q => by omega) (fun _ => ⟨by omega, ?_⟩))
                have : l * (k' + 1) + (C - l) * (k' + 1) = C * (k' + 1) := by
                  rw [← Nat.add_mul]; congr 1; omega
                rw [Nat.add_assoc, this]; exact hT
              · rename_i hl
                injection e with e; subst e
                have : hh - l = 0 := by omega
                have hlc : l = c := by omega
                have hck : l * (k' + 1) ≤ C * (k' + 1) := Nat.mul_le_mul_right _ (by omega)
                rw [this]
                exact hk _ (.esl hp (by split <;> omega) (by rw [show C * (k' + 1) = C * k'.succ from rfl] at hck; split <;> omega))
            · cases e
          · rename_i y hmx
            split at e
            · rename_i hhi
              injection e with e; subst e
              rw [isSome_map] at hhi
              have hmn : mx ≠ none := fun q => by subst q; cases hmx
              exact exact_ (fun _ => hhi) (fun q => (hmn q).elim) (hk _ (.sl hp (fun _ => rfl) (fun q => (q rfl).elim)))
            · cases e
        · cases e
      · cases e
    · cases e
  · cases e
theorem j8 {place : Nat → Option (Nat × Nat)} : ∀ (ps : List (Nat × Operand)) (cells r : List AV) (c : Array Value), FR φ σ ρ → VRs φ cells c.toList → rV place cells (ps.map fun x => (x.1, eev σ x.2)) = some r →
    ∃ r', mS place c (ps.map fun x => (x.1, ρ.ev x.2)) = some r' ∧ VRs φ r r'.toList
  | [], cells, r, c, _, hc, e => by
    injection e with e; subst e
    exact ⟨c, rfl, hc⟩
  | x :: ps, cells, r, c, hf, hc, e => by
    simp only [List.map_cons, rV] at e
    split at e
    · cases e
    · rename_i off size hp
      split at e
      · rename_i c2 hb hset
        simp only [Bool.and_eq_true] at hb
        have hlen := Nat.eq_of_beq_eq_true hb.1
        have hv := (hf.ev x.2).cells hb.2.1
        have hle := Nat.le_of_ble_eq_true hb.2.2
        have hl := hv.length
        obtain ⟨g1, g2, g3⟩ := eX _ _ _ _ hset
        have hcl := hc.length
        have hcs : cells.length = c.size := by simpa using hcl
        have hset2 := (hc.ML).set hset hv (by omega)
        rw [Nat.zero_add] at hset2
        have := hset2.Jz (by rw [dk]; omega)
        obtain ⟨r', h1, h2⟩ := j8 ps c2 r _ hf this e
        refine ⟨r', ?_, h2⟩
        simp only [List.map_cons, mS, hp]
        have hsz : x.2 = x.2 := rfl
        have h3 : (ρ.ev x.2).cells.size = size := by rw [← hlen, hl, Array.length_toList]
        rw [if_pos ⟨h3, by omega⟩]
        exact h1
      · cases e
theorem vq (hf : FR φ σ ρ) {t : TypeId} {ps : Array (Nat × Operand)} {r : List AV} (e : xM P t (ps.toList.map fun x => (x.1, eev σ x.2)) = some r) :
    ∃ r', ly P t (ps.toList.map fun x => (x.1, ρ.ev x.2)) = some r' ∧ VRs φ r r'.toList := by
  unfold xM at e
  unfold ly
  split at e
  · rename_i z hz
    (try simp only [hz])
    split at e
    · rename_i fs hu
      (try simp only [hu])
      split at e
      · rename_i hall
        rw [if_pos hall]
        exact j8 _ _ _ _ hf (ju φ z) e
      · cases e
    · rename_i m el hu
      (try simp only [hu])
      split at e
      · rename_i s hs
        (try simp only [hs])
        exact j8 _ _ _ _ hf (ju φ z) e
      · cases e
    · cases e
  · cases e
theorem nV {z : List AV} {zs : List Value} (hz : VRs φ z zs) : ∀ m, VRs φ (fv z m) (b7 zs m)
  | 0 => .nil
  | m + 1 => hz.append (nV hz m)
theorem tv (hf : FR φ σ ρ) {t : TypeId} {len : Nat} {ps : Array (Nat × Operand)} {r : List AV} (e : tl P t len (ps.toList.map fun x => (x.1, eev σ x.2)) = some r) :
    ∃ el r', cS P t len (ps.toList.map fun x => (x.1, ρ.ev x.2)) = some (el, r') ∧ VRs φ r r'.toList := by
  unfold tl at e
  unfold cS
  split at e
  · rename_i el hu
    (try simp only [hu])
    split at e
    · rename_i s z hs hz
      (try simp only [hs, hz])
      split at e
      · rename_i hc
        rw [if_pos hc]
        obtain ⟨r', h1, h2⟩ := j8 ps.toList _ _ (b7 z.cells.toList len).toArray hf (by simpa using nV (ju φ z) len) e
        exact ⟨el, r', by rw [h1]; rfl, h2⟩
      · cases e
    · cases e
  · cases e
theorem qb {kd : TypeDesc} {a b : AV} {v u : Value} {q : Bool} (ha : VR φ a v) (hb : VR φ b u) (e : Ct kd a b = some q) : Instr.sameNow kd v u = some q := by
  unfold Ct at e
  split at e
  · rename_i k m k' m'
    rw [ha.bJ, hb.bJ]
    split at e
    · rename_i hk
      injection e with e; subst e
      simp only [Instr.sameNow]
      rw [if_pos hk]
      congr 1
    · cases e
  · rename_i s r
    obtain ⟨rfl, h1⟩ := ha.cj
    obtain ⟨rfl, h2⟩ := hb.cj
    injection e with e; subst e
    simp only [Instr.sameNow]
    congr 1
    rw [lE s r h1 h2, Bool.eq_iff_iff, bytes_beq, beq_iff_eq]
    constructor
    · intro q
      have := congrArg ByteArray.toList q
      rwa [cn, cn] at this
    · intro q
      unfold dz; rw [q]
  · cases e
theorem ml {kd : TypeDesc} {k : AV} {v : Value} (hk : VR φ k v) : ∀ (es : List (AV × AV)) (ms : List MapEntry) (i : Nat) (r : Option (Nat × AV)), MR φ es ms → rW kd k es i = some r →
    ∃ r', ko kd v ms i = some r' ∧ (match r, r' with
      | none, none => True
      | some (j, a), some (j', u) => j = j' ∧ VR φ a u
      | _, _ => False)
  | [], ms, i, r, hm, e => by
    injection e with e; subst e
    rw [show ms = [] from hm]
    exact ⟨none, rfl, trivial⟩
  | x :: es, ms, i, r, ⟨m, us, h1, h2, h3, h4⟩, e => by
    subst h1
    unfold rW at e
    split at e
    · rename_i hs
      injection e with e; subst e
      have := qb hk h2 hs
      refine ⟨some (i, m.val), by simp only [ko, this], rfl, h3⟩
    · rename_i hs
      have := qb hk h2 hs
      obtain ⟨r', g1, g2⟩ := ml hk es us (i + 1) r h4 e
      exact ⟨r', by simp only [ko, this, g1], g2⟩
    · cases e
theorem eA (hr : HR φ H n h0 h) {t : TypeId} {m k r : AV} {ok : Bool} {mv kv : Value} (hm : VR φ m mv) (hk' : VR φ k kv) (e : jY P t m k ok H = some r) (hk : ∀ u, VR φ r u → K u) : gE P t mv kv ok h K := by
  unfold jY at e
  split at e
  · rename_i b kt kd et hmk
    obtain ⟨p, hp, rfl⟩ := hm.lC
    split at e
    · rename_i es hb
      obtain ⟨ob, hB, hf, ms, cl, rfl, h1, _⟩ := hr.of hb hp
      have fin : ∀ {q}, rW kd k es 0 = some q → ∃ q', ko kd kv ms.toList 0 = some q' ∧ lA P t (.map (some p.B)) kv ok h = found (au P et) ok q' ∧ (match q, q' with
        | none, none => True
        | some (j, a), some (j', u) => j = j' ∧ VR φ a u
        | _, _ => False) := fun {q} hq => by
        obtain ⟨q', g1, g2⟩ := ml hk' es ms.toList 0 q h1 hq
        refine ⟨q', g1, ?_, g2⟩
        simp only [lA, hmk, Option.bind_some, xz, hf, g1]
      split at e
      · rename_i j a hq
        obtain ⟨q', g1, g2, g3⟩ := fin hq
        cases q' with
        | none => exact g3.elim
        | some x =>
          obtain ⟨j', u⟩ := x
          obtain ⟨_, g3⟩ := g3
          injection e with e; subst e
          (try simp only [gE, g2, found])
          cases ok
          · exact hk _ g3
          · exact hk _ (.tup (cs := #[u, .bool true]) (.cons g3 (.cons (.bool _) .nil)))
      · rename_i hq
        obtain ⟨q', g1, g2, g3⟩ := fin hq
        cases q' with
        | some x => exact g3.elim
        | none =>
          split at e
          · rename_i z hz
            injection e with e; subst e
            simp only [gE, g2, found, hz, Option.map_some]
            cases ok
            · exact hk _ (lD z)
            · exact hk _ (.tup (cs := #[z, .bool false]) (.cons (lD z) (.cons (.bool _) .nil)))
          · cases e
      · cases e
    · cases e
  · cases e
theorem oC (hr : HR φ H n h0 h) (hf : FR φ σ ρ) {o : Op} {r : AV} (e : mZ P o σ H = some r) (hk : ∀ u, VR φ r u → K u) : cT P o ρ h K := by
  unfold mZ at e
  split at e
  · rename_i x
    injection e with e; subst e
    exact hk _ (hf.ev x)
  · rename_i x
    injection e with e; subst e
    exact hk _ (hf.ev x)
  · rename_i c a b
    have hc := hf.ev c
    (try simp only [cT])
    split at e
    · rename_i q
      rw [q] at hc
      rw [hc.bF]
      injection e with e; subst e
      exact hk _ (hf.ev a)
    · rename_i q
      rw [q] at hc
      rw [hc.bF]
      injection e with e; subst e
      exact hk _ (hf.ev b)
    · cases e
  · rename_i t parts
    simp only [Option.map_eq_some_iff] at e
    obtain ⟨l, e1, rfl⟩ := e
    obtain ⟨r', h1, h2⟩ := vq hf e1
    (try simp only [cT, h1])
    exact hk _ (.agg h2)
  · exact kT hr (hf.ev _) e hk
  · rename_i x
    have hx := hf.ev x
    (try simp only [cT])
    split at e
    · rename_i b o q
      rw [q] at hx
      obtain ⟨p, hp, hv⟩ := hx.ct
      injection e with e; subst e
      rw [hv]
      exact hk _ (.ptr hp)
    · rename_i f a c q
      rw [q] at hx
      obtain ⟨a', c', hv, h1, h2⟩ := hx.mi
      injection e with e; subst e
      rw [hv]
      exact hk _ (.fn h1 h2)
    · cases e
  · exact j5 hr (hf.ev _) (hf.ev _) e hk
  · exact rZ (hf.ev _) e hk
  · rename_i f first captured
    injection e with e; subst e
    refine hk _ (.fn ?_ ?_)
    · rw [Array.toList_map]; exact VRs.map hf.ev _
    · rw [Array.toList_map]; exact VRs.map hf.ev _
  · exact j7 hf (hf.ev _) e hk
  · exact nS (hf.ev _) e hk
  · exact tq (hf.ev _) e hk
  · exact nT (hf.ev _) (hf.ev _) e hk
  · exact tu (hf.ev _) (hf.ev _) e hk
  · exact qa (hf.ev _) e hk
  · exact eA hr (hf.ev _) (hf.ev _) e hk
  · rename_i c
    have hm := VRs.map hf.ev c.args.toList
    (try simp only [cT])
    split at e
    · rename_i t x e1 e2 e3
      rw [e3] at hm
      obtain ⟨v, us, h1, h2, h3⟩ := hm.cons_inv
      rw [h3.aW] at h1
      (try simp only [e1, e2, h1, cP])
      exact j6 hr h2 e hk
    · rename_i x y e1 e3
      rw [e3] at hm
      obtain ⟨v, us, h1, h2, h3⟩ := hm.cons_inv
      obtain ⟨u, ws, h4, h5, h6⟩ := h3.cons_inv
      rw [h4, h6.aW] at h1
      (try simp only [e1, h1, cP])
      exact nU h2 h5 e hk
    · rename_i x y e1 e3
      rw [e3] at hm
      obtain ⟨v, us, h1, h2, h3⟩ := hm.cons_inv
      obtain ⟨u, ws, h4, h5, h6⟩ := h3.cons_inv
      rw [h4, h6.aW] at h1
      (try simp only [e1, h1, cP])
      exact nU h2 h5 e hk
    · cases e
  · cases e
end
end Go.Proofs.Ythjggjhebbdkdaa
namespace Go.Proofs.Ythjggjhebbdkdaa
open Go Go.RowKit
theorem AJ {φ : Ph} {a : AV} {v : Value} (h : VR φ a v) (e : mf a = true) : v.oneCell' = true := by
  cases a <;> simp only [mf] at e
  case agg => cases e
  case tup => cases e
  case bad => cases e
  case any u => rw [h.pb]; exact e
  case si => rw [h.eL]; rfl
  case rw =>
    rcases h.eM with ⟨_, he⟩ | ⟨p, y, C, _, rfl, _⟩
    · obtain ⟨a, rfl⟩ := he.is; rfl
    · rfl
  case fr => obtain ⟨a, C, rfl⟩ := h.Cw; rfl
  case fa => obtain ⟨q, x, _, rfl, _⟩ := h.tn; rfl
  case sb => rw [h.gX]; rfl
  case ss => rw [h.nQ.1]; rfl
  case sy => obtain ⟨p, C, _, rfl, _⟩ := h.tm; rfl
  case int => rw [h.bJ]; rfl
  case str => rw [h.cj.1]; rfl
  case bool => rw [h.bF]; rfl
  case nil => rw [h.aW]; rfl
  case ptr => obtain ⟨p, _, rfl⟩ := h.ct; rfl
  case nsl => rw [h.cg]; rfl
  case sl => obtain ⟨p, C, _, rfl, _⟩ := h.dI; rfl
  case esl => obtain ⟨p, x, C, _, rfl, _⟩ := h.ic; rfl
  case fn => obtain ⟨p, q, rfl, _⟩ := h.mi; rfl
  case map => obtain ⟨p, _, rfl⟩ := h.lC; rfl
theorem jv {φ : Ph} : ∀ {l : List AV} {vs : List Value}, VRs φ l vs → l.all mf = true → vs.all Value.oneCell' = true
  | [], vs, h, _ => by rw [h.aW]; rfl
  | a :: l, vs, h, e => by
    obtain ⟨v, us, rfl, h1, h2⟩ := h.cons_inv
    simp only [List.all_cons, Bool.and_eq_true] at e ⊢
    exact ⟨AJ h1 e.1, jv h2 e.2⟩
theorem CR.append {φ : Ph} {c : Array Value} {s : Nat} {l m : List AV} (h : CR φ c s l) (k : CR φ c (s + l.length) m) : CR φ c s (l ++ m) := fun i a e => by
  by_cases hi : i < l.length
  · rw [List.getElem?_append_left hi] at e; exact h i a e
  · rw [List.getElem?_append_right (by omega)] at e
    obtain ⟨v, h1, h2⟩ := k _ a e
    exact ⟨v, by rw [← h1]; congr 1; omega, h2⟩
theorem CR.drop {φ : Ph} {c : Array Value} {s o m : Nat} {l : List AV} (h : CR φ c s l) : CR φ c (s + o) ((l.drop o).take m) := fun i a e => by
  rw [List.getElem?_take] at e
  split at e
  · rw [List.getElem?_drop] at e
    obtain ⟨v, h1, h2⟩ := h _ a e
    exact ⟨v, by rw [← h1]; congr 1; omega, h2⟩
  · cases e
theorem CR.kept {φ : Ph} {c : Array Value} {s o : Nat} {l : List AV} {vs : List Value} (h : CR φ c s l) (ho : s + l.length ≤ o) : CR φ (cV c o vs) s l := fun i a e => by
  have := (List.getElem?_eq_some_iff.1 e).1
  rw [jZ, if_neg (by omega)]
  exact h i a e
theorem CR.wrote {φ : Ph} {c : Array Value} {o : Nat} {l : List AV} {vs : List Value} (h : VRs φ l vs) (ho : o + l.length ≤ c.size) : CR φ (cV c o vs) o l := fun i a e => by
  have hi := (List.getElem?_eq_some_iff.1 e).1
  obtain ⟨v, h1, h2⟩ := h.at e
  have := h.length
  refine ⟨v, ?_, h2⟩
  rw [jZ, if_pos (by omega), show o + i - o = i from by omega]
  exact h1
theorem mQ.sub {fz : Nat × Nat} {o m o' m' : Nat} (h : mQ fz o m) (h2 : o' + m' ≤ o + m) : mQ fz o' m' := by
  unfold mQ at *; omega
def m5 (φ : Ph) (h0 : Hp) (v : AV) (H : AH) (n : Nat) (K : KH) : Prop := ∀ (ψ : Ph) (u : Value) (g : Hp), PLe φ ψ → HR ψ H n h0 g → VR ψ v u → K u g
section
variable {P : Program} {φ : Ph} {H H' : AH} {n n' : Nat} {h0 h : Hp} {K : KH} {σ : AE} {ρ : Env} {r : AV}
theorem qc (hr : HR φ H n h0 h) {l : List AV} {cs : Array Value} {el : TypeId} (hc : VRs φ l cs.toList) (e : Fb l H n = some (r, H', n')) (hk : m5 φ h0 r H' n' K) : B1 el cs h K := by
  unfold Fb at e
  injection e with e; injection e with e1 e2; injection e2 with e2 e3
  subst e1 e2 e3
  have hl : l.length = cs.size := by simpa using hc.length
  have ho : OR (du φ n ⟨h.n, 0, cs.size⟩) ⟨h.n, 0, cs.size⟩ (.cells l true) (.cells cs el (0, 0)) :=
    ⟨cs, el, (0, 0), rfl, by simp only; omega, by simp only; omega, fP _ _, fun _ => rfl, CR.mono (hr.ple _) (CR.of' hc)⟩
  exact hk _ _ _ (hr.ple _) (hr.new ho aa) (.ptr (bl _ _ _))
theorem m6 (hr : HR φ H n h0 h) {t : TypeId} {a x : AV} {av xv : Value} (ha : VR φ a av) (hx : VR φ x xv) (e : tk P t a x H n = some (r, H', n')) (hk : m5 φ h0 r H' n' K) : kG P t av xv h K := by
  unfold tk at e
  split at e
  · rename_i b o
    obtain ⟨p, hp, rfl⟩ := ha.ct
    split at e
    · rename_i l z s hb hs
      obtain ⟨ob, hB, hf, c, ty, fz, rfl, h1, h2, h3, h4, h5⟩ := hr.of hb hp
      split at e
      · rename_i l' hq hset
        simp only [Bool.and_eq_true] at hq
        have hlen := Nat.eq_of_beq_eq_true hq.1
        have hc := hx.cells hq.2.1
        have hcl := hc.length
        have hcl2 : xv.cells.size = s := by rw [← hlen, hcl, Array.length_toList]
        obtain ⟨g1, g2, g3⟩ := eX _ _ _ _ hset
        injection e with e; injection e with e1 e2; injection e2 with e2 e3
        subst e1 e2 e3
        (try simp only [kG, hf])
        refine ⟨by rw [hs, hcl2], jv hc hq.2.2, by omega, h3.sub (by omega), ?_⟩
        refine hk _ _ _ (PLe.refl _) (hr.put hb hp ?_ aa) .undef
        exact ⟨_, ty, fz, rfl, by omega, by rw [dk]; omega, h3, h4, h5.set hset hc (by omega)⟩
      · cases e
    · cases e
  · cases e
theorem iT : ∀ (l : List AV) (s : List Nat) (vs : List Value), VRs φ l vs → iF l = some s → bytesOf vs = some (s.map UInt8.ofNat) ∧ ∀ x ∈ s, x < 256
  | [], s, vs, h, e => by
    rw [h.aW]
    injection e with e; subst e
    exact ⟨rfl, fun _ hx => by cases hx⟩
  | a :: l, s, vs, h, e => by
    unfold iF at e
    split at e
    · rename_i q; cases q
    · rename_i m l' q
      injection q with q1 q2
      subst q1 q2
      obtain ⟨v, us, rfl, g1, g2⟩ := h.cons_inv
      rw [g1.bJ]
      split at e
      · rename_i hlt
        have hlt : m < 256 := by simpa [Nat.blt_eq] using hlt
        simp only [Option.map_eq_some_iff] at e
        obtain ⟨s', e1, rfl⟩ := e
        obtain ⟨i1, i2⟩ := iT l s' us g2 e1
        refine ⟨?_, fun x hx => ?_⟩
        · (try simp only [bytesOf])
          rw [if_pos (by constructor <;> simp only [Int.ofNat_eq_natCast] <;> omega), i1]
          simp
        · rcases List.mem_cons.1 hx with rfl | hx
          · exact hlt
          · exact i2 x hx
      · cases e
    · rename_i m l' q
      injection q with q1 q2
      subst q1 q2
      obtain ⟨v, us, rfl, g1, g2⟩ := h.cons_inv
      rw [g1.eL]
      split at e
      · rename_i hlt
        have hlt : m < 256 := by simpa [Nat.blt_eq] using hlt
        simp only [Option.map_eq_some_iff] at e
        obtain ⟨s', e1, rfl⟩ := e
        obtain ⟨i1, i2⟩ := iT l s' us g2 e1
        refine ⟨?_, fun x hx => ?_⟩
        · (try simp only [bytesOf])
          rw [if_pos (by constructor <;> simp only [Int.ofNat_eq_natCast] <;> omega), i1]
          simp
        · rcases List.mem_cons.1 hx with rfl | hx
          · exact hlt
          · exact i2 x hx
      · cases e
    · cases e
theorem jh {s : List Nat} (hs : ∀ x ∈ s, x < 256) : (da (dz s)).toList = s.map fun c => .int .u8 (Int.ofNat c) := by
  simp only [da, dz, Array.toList_map, List.map_map]
  apply List.map_congr_left
  intro c hc
  simp only [Function.comp]
  congr 1
  rw [UInt8.toNat_ofNat', Nat.mod_eq_of_lt (hs c hc)]; rfl
theorem VRs.bytes (φ : Ph) (s : List Nat) : VRs φ (s.map fun c => .int .u8 (Int.ofNat c)) (s.map fun c => .int .u8 (Int.ofNat c)) := VRs.map (fun c => .int _ _) s
theorem kW (hr : HR φ H n h0 h) {src dst : TypeId} {x : AV} {xv : Value} (hx : VR φ x xv) (e : vj P src dst x H n = some (r, H', n')) (hk : m5 φ h0 r H' n' K) : eV P src dst xv h K := by
  unfold vj at e
  split at e
  · rename_i k1 k2 k a h1 h2
    rw [hx.bJ]
    injection e with e; injection e with e1 e2; injection e2 with e2 e3
    subst e1 e2 e3
    (try simp only [eV, h1, h2])
    exact hk _ _ _ (PLe.refl _) hr (.int _ _)
  · rename_i s h1 h2
    obtain ⟨rfl, hs⟩ := hx.cj
    injection e with e; injection e with e1 e2; injection e2 with e2 e3
    subst e1 e2 e3
    (try simp only [eV, h1, h2])
    exact hk _ _ _ (PLe.refl _) hr (.str hs)
  · rename_i el s h1 h2
    obtain ⟨rfl, hs⟩ := hx.cj
    split at e
    · rename_i he
      injection e with e; injection e with e1 e2; injection e2 with e2 e3
      subst e1 e2 e3
      (try simp only [eV, h1, h2])
      refine ⟨he, fun cap hcap => ?_⟩
      rw [eY] at hcap ⊢
      have hsz : (da (dz s) ++ Array.replicate (cap - s.length) (Value.int .u8 0)).size = cap := by
        have : (da (dz s)).size = s.length := by rw [← Array.length_toList, jh hs]; simp
        rw [Array.size_append, this, Array.size_replicate]; omega
      have ho : OR (du φ n ⟨h.n, 0, cap⟩) ⟨h.n, 0, cap⟩ (.cells (s.map fun c => .int .u8 (Int.ofNat c)) false) (.cells (da (dz s) ++ Array.replicate (cap - s.length) (.int .u8 0)) el (cap, cap + 1)) := by
        refine ⟨_, el, _, rfl, by simpa using hcap, by simp only [hsz]; omega, .inr (by simp only; omega), (fun q => by cases q), ?_⟩
        have := CR.of (φ := du φ n ⟨h.n, 0, cap⟩) (VRs.bytes _ s) (Array.replicate (cap - s.length) (Value.int .u8 0)).toList
        rw [← jh hs] at this
        have e2 : ((da (dz s)).toList ++ (Array.replicate (cap - s.length) (Value.int .u8 0)).toList).toArray = da (dz s) ++ Array.replicate (cap - s.length) (Value.int .u8 0) := by
          apply Array.ext'; simp
        rwa [e2] at this
      have := hk _ (.slice (some ⟨h.n, 0 + 0, none⟩) s.length cap) _ (hr.ple _) (hr.new ho aa) (.sl (bl _ _ _) (fun q => absurd q (by decide)) (fun _ => ⟨hcap, by simp⟩))
      exact this
    · cases e
  · rename_i el h1 h2
    rw [hx.cg]
    split at e
    · rename_i he
      injection e with e; injection e with e1 e2; injection e2 with e2 e3
      subst e1 e2 e3
      (try simp only [eV, h1, h2])
      exact ⟨he, hk _ _ _ (PLe.refl _) hr (.str (s := []) (fun _ hx => by cases hx))⟩
    · cases e
  · rename_i el b o len c k h1 h2
    obtain ⟨p, C, hp, rfl, _, _⟩ := hx.dI
    split at e
    · rename_i l z he hb
      obtain ⟨ob, hB, hf, c', ty, fz, rfl, _, _, _, _, h5⟩ := hr.of hb hp
      simp only [Option.map_eq_some_iff, Option.bind_eq_some_iff, Prod.mk.injEq] at e
      obtain ⟨s, ⟨l', e1, e2⟩, rfl, rfl, rfl⟩ := e
      obtain ⟨vs, g1, g2⟩ := h5.sub e1
      obtain ⟨g3, g4⟩ := iT l' s vs g2 e2
      simp only [eV, h1, h2, hf, g1, Option.bind_some, g3]
      exact ⟨he, hk _ _ _ (PLe.refl _) hr (.str g4)⟩
    · cases e
  · cases e
theorem kX (hr : HR φ H n h0 h) {t : TypeId} {x y : AV} {xv yv : Value} (hx : VR φ x xv) (hy : VR φ y yv) (e : pZ P t x y H n = some (r, H', n')) (hk : m5 φ h0 r H' n' K) : pM P t xv yv h K := by
  unfold pZ at e
  split at e
  · rename_i el k1 l k2 c hu
    rw [hx.bJ, hy.bJ]
    split at e
    · rename_i k by' z hs hb hz
      split at e
      · rename_i hc
        obtain ⟨g1, g2, g3, g4⟩ := hc
        injection e with e; injection e with e1 e2; injection e2 with e2 e3
        subst e1 e2 e3
        (try simp only [pM, hu, hs, hb, hz])
        have hb2 : (by' : Int) * Int.ofNat c ≤ 281474976710656 := by
          have : ((by' * c : Nat) : Int) ≤ 281474976710656 := by omega
          rwa [Int.natCast_mul] at this
        refine ⟨by simp only [Int.ofNat_eq_natCast]; omega, by simp only [Int.ofNat_eq_natCast]; omega, hb2, by simp only [Int.ofNat_eq_natCast]; omega, ?_⟩
        rw [show (Int.ofNat l).toNat = l from rfl, show (Int.ofNat c).toNat = c from rfl]
        have hcp : madeCells z.cells (c * k) = (b7 z.cells.toList c).toArray := by rw [← g4]; exact fQ _ _
        rw [hcp]
        have hv := nV (ju φ z) c
        have hl := hv.length
        have ho : OR (du φ n ⟨h.n, 0, (b7 z.cells.toList c).length⟩) ⟨h.n, 0, (b7 z.cells.toList c).length⟩ (.cells (fv (ofV z).cells c) true) (.cells (b7 z.cells.toList c).toArray el (0, 0)) :=
          ⟨_, el, _, rfl, by simp only; omega, by simp, fP _ _, fun _ => rfl, CR.mono (hr.ple _) (CR.of' (by simpa using hv))⟩
        exact hk _ (.slice (some ⟨h.n, 0 + 0, none⟩) l c) _ (hr.ple _) (hr.new ho aa) (.sl (bl _ _ _) (fun _ => rfl) (fun q => (q rfl).elim))
      · cases e
    · cases e
  · cases e
theorem sa (hr : HR φ H n h0 h) {k m : Nat} {x : AV} {xv : Value} {l : List AV} (hx : VR φ x xv) (e : Fc H k x = some (m, l)) : ∃ vs, bC h k xv = some (m, vs) ∧ VRs φ l vs := by
  unfold Fc at e
  split at e
  · rw [hx.cg]
    injection e with e; injection e with e1 e2; subst e1 e2
    exact ⟨[], rfl, .nil⟩
  · rename_i b o m' c k'
    obtain ⟨p, C, hp, rfl, _, _⟩ := hx.dI
    split at e
    · rename_i l' z hb
      obtain ⟨ob, hB, hf, c', ty, fz, rfl, _, _, _, _, h5⟩ := hr.of hb hp
      simp only [Option.map_eq_some_iff, Prod.mk.injEq] at e
      obtain ⟨l2, e1, rfl, rfl⟩ := e
      obtain ⟨vs, g1, g2⟩ := h5.sub e1
      exact ⟨vs, by simp only [bC, hf, g1, Option.map_some], g2⟩
    · rename_i l' hb
      obtain ⟨ob, hB, hf, c', ty, fz, rfl, _, _, h5⟩ := hr.of hb hp
      simp only [Option.map_eq_some_iff, Prod.mk.injEq] at e
      obtain ⟨l2, e1, rfl, rfl⟩ := e
      obtain ⟨vs, g1, g2⟩ := h5.sub e1
      exact ⟨vs, by simp only [bC, hf, g1, Option.map_some], g2⟩
    · cases e
  · rename_i b
    obtain ⟨p, y, C, hp, rfl, _⟩ := hx.ic
    split at e
    · rename_i l' z hb
      obtain ⟨ob, hB, hf, c', ty, fz, rfl, _, _, _, _, h5⟩ := hr.of hb hp
      injection e with e; injection e with e1 e2; subst e1 e2
      exact ⟨[], by simp only [bC, hf, Nat.zero_mul, b6, Option.map_some], .nil⟩
    · cases e
  · rename_i s
    obtain ⟨rfl, hs⟩ := hx.cj
    injection e with e; injection e with e1 e2; subst e1 e2
    refine ⟨_, by simp only [bC, eY]; rfl, ?_⟩
    rw [jh hs]
    exact VRs.bytes _ _
  · cases e
theorem ji (hr : HR φ H n h0 h) {t u : TypeId} {s x : AV} {sv xv : Value} (hs : VR φ s sv) (hx : VR φ x xv) (e : m0 P t u s x H n = some (r, H', n')) (hk : m5 φ h0 r H' n' K) : ft P t u sv xv h (nK K) := by
  have wk : ∀ v g, K v g → nK K v g := fun v g k => ⟨g, Sub.refl _, k⟩
  unfold m0 at e
  split at e
  case h_2 => cases e
  rename_i el ud hu hud
  split at e
  case h_1 => cases e
  case h_3 => cases e
  rename_i ud2 _ _ _ _ k by' z hni hsz hbz hzz
  have hni' : ∀ q, ud2 ≠ .int q := fun q h => hni q h
  split at e
  case h_2 => cases e
  rename_i m new hsrc
  split at e
  case isFalse => cases e
  rename_i hc
  obtain ⟨c1, c2, c3, c4, c5⟩ := hc
  obtain ⟨nv, hn1, hn2⟩ := sa hr hx hsrc
  have hnl := hn2.length
  have hone := jv hn2 c5
  have hcpl : ∀ q, (b7 z.cells.toList q).length = q * k := fun q => by rw [jg]; simp [c1]
  have grow : ∀ (old : List AV) (ov : List Value) (sn : Nat) (zz : Bool) (d : Nat) (G : AH) (ψ : Ph), ψ = φ → HR φ G n h0 h → VRs φ old ov → ov.length = sn * k → r = .sl n 0 (sn + m) (sn + m) k → H' = G.set (some (.cells (old ++ new) zz)) aa n → n' = n + 1 → yM el z (sn + m) ov nv h (nK K) := by
    intro old ov sn zz d G ψ hψ hG ho hol hre hHe hne cap hcap
    subst hre hHe hne
    refine wk _ _ ?_
    have hlen : (ov ++ (nv ++ b7 z.cells.toList (cap - (sn + m)))).length = cap * k := by
      simp only [List.length_append, hol, ← hnl, c4, hcpl]
      rw [← Nat.add_mul, ← Nat.add_mul]; congr 1; omega
    have hor : OR (du φ n ⟨h.n, 0, cap * k⟩) ⟨h.n, 0, cap * k⟩ (.cells (old ++ new) zz) (.cells (ov ++ (nv ++ b7 z.cells.toList (cap - (sn + m)))).toArray el (0, 0)) := by
      refine ⟨_, el, _, rfl, ?_, by simp only [List.size_toArray, hlen]; omega, fP _ _, fun _ => rfl, ?_⟩
      · have := ho.length
        simp only [List.length_append, c4, this, hol]
        rw [← Nat.add_mul]; exact Nat.mul_le_mul_right k hcap
      · rw [← List.append_assoc]
        exact CR.mono (hG.ple _) (CR.of (ho.append hn2) _)
    have := hk _ (.slice (some ⟨h.n, 0 + 0, none⟩) (sn + m) cap) _ (hG.ple _) (hG.new hor aa) (.sl (bl _ _ _) (fun q => by omega) (fun _ => ⟨hcap, by simp⟩))
    exact this
  have fin : ∀ {base : Option Addr} {sLen sCap : Nat}, (sLen + m ≤ sCap → ou base k sLen m sCap nv h (nK K)) → (sCap < sLen + m → (sLen + m) * by' ≤ 140737488355328 ∧ ∃ old, bC h k (.slice base sLen sCap) = some (sLen, old) ∧ yM el z (sLen + m) old nv h (nK K)) → ft P t u (.slice base sLen sCap) xv h (nK K) := fun a b =>
    ⟨el, ud2, k, by', z, m, nv, hu, hud, hni', hsz, hbz, hzz, c1, c2, hn1, a, b⟩
  split at e
  ·
    rw [hs.cg]
    split at e
    · injection e with e; injection e with e1 e2; injection e2 with e2 e3
      subst e1 e2 e3
      refine fin (fun _ => wk _ _ ?_) (fun q => by omega)
      exact hk _ _ _ (PLe.refl _) hr .nsl
    · rename_i hm0
      split at e
      · rename_i hby
        injection e with e; injection e with e1 e2; injection e2 with e2 e3
        refine fin (fun q => ?_) (fun _ => ⟨by simpa using hby, [], rfl, ?_⟩)
        · have : m = 0 := by omega
          exact (hm0 this).elim
        · exact grow [] [] 0 true aa H φ rfl hr .nil (by simp) (by rw [← e1]; simp) (by rw [← e2]; simp) e3.symm
      · cases e
  · rename_i b o sn c sk
    obtain ⟨p, C, hp, rfl, hC0, hC1⟩ := hs.dI
    have hcC : c ≤ C := by
      by_cases q : sk = 0
      · rw [hC0 q]; omega
      · exact (hC1 q).1
    split at e
    case h_2 => cases e
    rename_i l z' hb
    obtain ⟨ob, hB, hf, cc, ty, fz, rfl, h1, h2, h3, h4, h5⟩ := hr.of hb hp
    split at e
    · rename_i hle
      split at e
      · rename_i l' hset
        obtain ⟨g1, g2, g3⟩ := eX _ _ _ _ hset
        injection e with e; injection e with e1 e2; injection e2 with e2 e3
        subst e1 e2 e3
        refine fin (fun _ => ?_) (fun q => by omega)
        (try simp only [ou, hf])
        refine ⟨hone, by omega, h3.sub (by omega), wk _ _ ?_⟩
        refine hk _ _ _ (PLe.refl _) (hr.put hb hp ?_ aa) (.sl hp hC0 hC1)
        refine ⟨_, ty, fz, rfl, by omega, by rw [dk]; omega, h3, h4, ?_⟩
        rw [Nat.add_assoc]
        exact h5.set hset hn2 (by omega)
      · cases e
    · rename_i hgt
      split at e
      case isFalse => cases e
      rename_i hby
      split at e
      · rename_i old hold
        injection e with e; injection e with e1 e2; injection e2 with e2 e3
        obtain ⟨ov, g1, g2⟩ := h5.sub hold
        have hol : ov.length = sn * k := by
          have := g2.length
          obtain ⟨q1, rfl⟩ := bj hold
          rw [← this]; simp; omega
        have := hC0 rfl
        refine fin (fun q => by omega) (fun _ => ⟨hby, ov, by simp only [bC, hf, g1, Option.map_some], ?_⟩)
        exact grow old ov sn true aa H φ rfl hr g2 hol e1.symm e2.symm e3.symm
      · rename_i old sk' hold
        split at e
        case isFalse => cases e
        rename_i hsk
        obtain ⟨_, hT⟩ := hC1 (by omega)
        rw [hsk] at hT
        injection e with e; injection e with e1 e2; injection e2 with e2 e3
        obtain ⟨ov, g1, g2⟩ := h5.sub hold
        obtain ⟨q1, hold2⟩ := bj hold
        have hol2 : old.length = sn * k := by subst hold2; simp; omega
        have hol : ov.length = sn * k := by
          have := g2.length
          omega
        refine fin (fun hstay => ?_) (fun _ => ⟨hby, ov, by simp only [bC, hf, g1, Option.map_some], ?_⟩)
        · subst e1 e2 e3
          (try simp only [ou, hf])
          have hCk : (sn + m) * k ≤ C * k := Nat.mul_le_mul_right k hstay
          have hadd : (sn + m) * k = sn * k + m * k := Nat.add_mul _ _ _
          refine ⟨hone, by omega, h3.sub (by omega), wk _ _ ?_⟩
          have hor : OR (du φ n ⟨p.B, p.s + o, C * k⟩) ⟨p.B, p.s + o, C * k⟩ (.cells (old ++ new) z') (.cells (cV cc (p.s + o + sn * k) nv) ty fz) := by
            refine ⟨_, ty, fz, rfl, by simp only [List.length_append]; omega, by rw [dk]; simp only; omega, h3.sub (by simp only; omega), h4, CR.mono (hr.ple _) (CR.append ?_ ?_)⟩
            · subst hold2
              exact CR.kept (CR.drop h5) (by simp only; omega)
            · simp only
              rw [hol2]
              exact CR.wrote hn2 (by omega)
          have := hk _ (.slice (some ⟨p.B, p.s + o + 0, none⟩) (sn + m) C) _ (hr.ple _) (hr.rename (q := ⟨p.B, p.s + o, C * k⟩) hb hp rfl hor aa aa) (.sl (p := ⟨p.B, p.s + o, C * k⟩) (bl _ _ _) (fun q => by omega) (fun _ => ⟨hstay, by simp⟩))
          exact this
        · exact grow old ov sn z' aa _ φ rfl (hr.kill aa b) g2 hol e1.symm e2.symm e3.symm
      · cases e
  · cases e
theorem xQ {x : AV} {v : Value} {m : Nat} (hx : VR φ x v) (e : yP x = some m) : B3 v = some m := by
  unfold yP at e
  split at e
  · rw [hx.cg]; exact e
  · obtain ⟨p, C, _, rfl, _⟩ := hx.dI; exact e
  · obtain ⟨p, y, C, _, rfl, _⟩ := hx.ic; exact e
  · obtain ⟨rfl, _⟩ := hx.cj; simp only [B3, eY]; exact e
  · cases e
theorem vr (hr : HR φ H n h0 h) {k q : Nat} {x : AV} {xv : Value} {l : List AV} (hx : VR φ x xv) (e : xN H k q x = some l) : ∃ vs, iC h k q xv = some vs ∧ VRs φ l vs := by
  unfold xN at e
  split at e
  · rw [hx.cg]
    injection e with e; subst e
    exact ⟨[], rfl, .nil⟩
  · rename_i b o m' c k'
    obtain ⟨p, C, hp, rfl, _, _⟩ := hx.dI
    split at e
    · rename_i l' z hb
      obtain ⟨ob, hB, hf, c', ty, fz, rfl, _, _, _, _, h5⟩ := hr.of hb hp
      obtain ⟨vs, g1, g2⟩ := h5.sub e
      exact ⟨vs, by simp only [iC, hf, g1], g2⟩
    · rename_i l' hb
      obtain ⟨ob, hB, hf, c', ty, fz, rfl, _, _, h5⟩ := hr.of hb hp
      obtain ⟨vs, g1, g2⟩ := h5.sub e
      exact ⟨vs, by simp only [iC, hf, g1], g2⟩
    · cases e
  · rename_i b
    obtain ⟨p, y, C, hp, rfl, _⟩ := hx.ic
    split at e
    · rename_i l' z hb
      obtain ⟨ob, hB, hf, c', ty, fz, rfl, _, _, _, _, h5⟩ := hr.of hb hp
      injection e with e; subst e
      exact ⟨[], by simp only [iC, hf, Nat.zero_mul, b6], .nil⟩
    · rename_i l' hb
      obtain ⟨ob, hB, hf, c', ty, fz, rfl, _, _, h5⟩ := hr.of hb hp
      injection e with e; subst e
      exact ⟨[], by simp only [iC, hf, Nat.zero_mul, b6], .nil⟩
    · cases e
  · rename_i s
    obtain ⟨rfl, hs⟩ := hx.cj
    injection e with e; subst e
    refine ⟨_, rfl, ?_⟩
    rw [cn, ← List.map_take, List.map_map]
    have : ((fun b : UInt8 => Value.int .u8 (b.toNat : Int)) ∘ UInt8.ofNat) = fun c : Nat => Value.int .u8 ((UInt8.ofNat c).toNat : Int) := rfl
    rw [this]
    have h2 : ((s.take q).map fun c : Nat => Value.int .u8 ((UInt8.ofNat c).toNat : Int)) = (s.take q).map fun c : Nat => Value.int .u8 (Int.ofNat c) := List.map_congr_left fun c hc => by
      rw [UInt8.toNat_ofNat', Nat.mod_eq_of_lt (hs c (List.mem_of_mem_take hc))]; rfl
    rw [h2]
    exact VRs.bytes _ _
  · cases e
theorem kY (hr : HR φ H n h0 h) {t : TypeId} {d x : AV} {dv xv : Value} (hd : VR φ d dv) (hx : VR φ x xv) (e : vk P t d x H n = some (r, H', n')) (hk : m5 φ h0 r H' n' K) : kH P t dv xv h K := by
  unfold vk at e
  split at e
  · rename_i el m dn hu hm hdn
    split at e
    · rename_i k hs
      split at e
      · rename_i cells hcells
        obtain ⟨vs, g1, g2⟩ := vr hr hx hcells
        have hlx := xQ hx hm
        split at e
        · have : dn = 0 := by injection hdn with hdn; exact hdn.symm
          subst this
          rw [hd.cg]
          injection e with e; injection e with e1 e2; injection e2 with e2 e3
          subst e1 e2 e3
          (try simp only [kH, hu, hlx, hs, g1])
          exact hk _ _ _ (PLe.refl _) hr (.int _ _)
        · rename_i b
          have : dn = 0 := by injection hdn with hdn; exact hdn.symm
          subst this
          obtain ⟨p, y, C, hp, rfl, hy1, hy2⟩ := hd.ic
          split at e
          · rename_i l z hb
            obtain ⟨ob, hB, hf, cc, ty, fz, rfl, h1, h2, h3, h4, h5⟩ := hr.of hb hp
            rw [g2.aW] at g1
            injection e with e; injection e with e1 e2; injection e2 with e2 e3
            subst e1 e2 e3
            (try simp only [kH, hu, hlx, hs, g1, hf])
            refine ⟨rfl, by simp only [List.length_nil]; omega, h3.sub (by simp only [List.length_nil]; omega), ?_⟩
            exact hk _ _ _ (PLe.refl _) (hr.put hb hp (show OR φ p (.cells l z) (.cells cc ty fz) from ⟨cc, ty, fz, rfl, h1, h2, h3, h4, h5⟩) aa) (.int _ _)
          · cases e
        · rename_i b o dm c k'
          have : dn = dm := by injection hdn with hdn; exact hdn.symm
          subst this
          obtain ⟨p, C, hp, rfl, _, _⟩ := hd.dI
          split at e
          · rename_i l z hb
            obtain ⟨ob, hB, hf, cc, ty, fz, rfl, h1, h2, h3, h4, h5⟩ := hr.of hb hp
            split at e
            · rename_i l' hset hall
              obtain ⟨q1, q2, q3⟩ := eX _ _ _ _ hset
              have hgl := g2.length
              injection e with e; injection e with e1 e2; injection e2 with e2 e3
              subst e1 e2 e3
              (try simp only [kH, hu, hlx, hs, g1, hf])
              refine ⟨jv g2 hall, by omega, h3.sub (by omega), ?_⟩
              refine hk _ _ _ (PLe.refl _) (hr.put hb hp ?_ aa) (.int _ _)
              exact ⟨_, ty, fz, rfl, by omega, by rw [dk]; omega, h3, h4, h5.set hset g2 (by omega)⟩
            · cases e
          · cases e
        · cases e
      · cases e
    · cases e
  · cases e
theorem xR {k v : AV} {kv vv : Value} (hk' : VR φ k kv) (hv : VR φ v vv) : ∀ (es : List (AV × AV)) (ms : List MapEntry) (q : Option (Nat × AV)) (q' : Option (Nat × Value)) (cl : Nat), MR φ es ms → p7 ms cl → (match q, q' with
      | none, none => True
      | some (j, _), some (j', _) => j = j'
      | _, _ => False) → ∃ ms' cl', B4 kv vv ms cl q' = .map ms' cl' ∧ MR φ (vl k v es q) ms'.toList ∧ p7 ms'.toList cl' := by
  have app : ∀ (es : List (AV × AV)) (ms : List MapEntry) (m : MapEntry), MR φ es ms → VR φ k m.key → VR φ v m.val → MR φ (es ++ [(k, v)]) (ms ++ [m]) := by
    intro es
    induction es with
    | nil => intro ms m hm h1 h2; rw [show ms = [] from hm]; exact ⟨m, [], rfl, h1, h2, rfl⟩
    | cons x es ih =>
      intro ms m ⟨m', us, h1, h2, h3, h4⟩ h5 h6
      subst h1
      exact ⟨m', us ++ [m], rfl, h2, h3, ih us m h4 h5 h6⟩
  have chg_ : ∀ (es : List (AV × AV)) (ms : List MapEntry) (i : Nat) (u : AV), MR φ es ms → MR φ (vl k v es (some (i, u))) (chg kv vv ms i) := by
    intro es
    induction es with
    | nil => intro ms i u hm; rw [show ms = [] from hm]; cases i <;> rfl
    | cons x es ih =>
      intro ms i u ⟨m', us, h1, h2, h3, h4⟩
      subst h1
      cases i with
      | zero => exact ⟨_, us, rfl, hk', hv, h4⟩
      | succ i => exact ⟨m', _, rfl, h2, h3, ih us i u h4⟩
  have stm : ∀ (ms : List MapEntry) (i : Nat) (cl : Nat), p7 ms cl → p7 (chg kv vv ms i) cl := by
    intro ms i cl h
    rw [← xA]
    refine ⟨by rw [List.length_modify]; exact h.1, fun j e hj => ?_⟩
    rw [List.getElem?_modify] at hj
    cases hm : ms[j]? with
    | none => rw [hm] at hj; simp at hj
    | some m =>
      have hb := h.2 j m hm
      rw [hm] at hj
      by_cases q : i = j
      · simp [q] at hj; subst hj; exact hb
      · simp [q] at hj; subst hj; exact hb
  intro es ms q q' cl hm hst hq
  cases q with
  | none =>
    cases q' with
    | some x => exact hq.elim
    | none =>
      refine ⟨_, _, rfl, ?_, hst.push rfl⟩
      have : vl k v es none = es ++ [(k, v)] := by cases es <;> rfl
      rw [this]
      exact app es ms _ hm hk' hv
  | some y =>
    cases q' with
    | none => exact hq.elim
    | some x =>
      obtain ⟨j, a⟩ := y
      obtain ⟨j', a'⟩ := x
      have : j = j' := hq
      subst this
      exact ⟨_, _, rfl, chg_ es ms j a hm, stm ms j cl hst⟩
theorem lW (hr : HR φ H n h0 h) {t : TypeId} {m k v : AV} {mv kv vv : Value} (hm : VR φ m mv) (hk' : VR φ k kv) (hv : VR φ v vv) (e : o9 P t m k v H n = some (r, H', n')) (hk : m5 φ h0 r H' n' K) : iR P t mv kv vv h K := by
  unfold o9 at e
  split at e
  · rename_i b kt kd et hmk
    obtain ⟨p, hp, rfl⟩ := hm.lC
    split at e
    · rename_i es hb
      obtain ⟨ob, hB, hf, ms, cl, rfl, h1, hst⟩ := hr.of hb hp
      split at e
      · rename_i q hq
        obtain ⟨q', g1, g2⟩ := ml hk' es ms.toList 0 q h1 hq
        obtain ⟨ms', cl', g3, g4, g5⟩ := xR hk' hv es ms.toList q q' cl h1 hst (by
          cases q <;> cases q' <;> first | trivial | exact g2.elim | exact g2.1)
        injection e with e; injection e with e1 e2; injection e2 with e2 e3
        subst e1 e2 e3
        simp only [iR, s7, hf, hmk, Option.bind_some, g1, Option.map_some, g3]
        exact hk _ _ _ (PLe.refl _) (hr.put hb hp (show OR φ p (.map _) (.map ms' cl') from ⟨ms', cl', rfl, g4, g5⟩) aa) .undef
      · cases e
    · cases e
  · cases e
theorem tw (hr : HR φ H n h0 h) {t : TypeId} {x : AV} {v : Value} (hx : VR φ x v) (e : xO P t x H n = some (r, H', n')) (hk : m5 φ h0 r H' n' K) : tc P t v h K := by
  unfold xO at e
  split at e
  · rename_i b
    obtain ⟨p, hp, rfl⟩ := hx.lC
    split at e
    · rename_i es hb ht
      obtain ⟨ob, hB, hf, ms, cl, rfl, h1, h2, _⟩ := hr.of hb hp
      injection e with e; injection e with e1 e2; injection e2 with e2 e3
      subst e1 e2 e3
      refine ⟨ht, ?_⟩
      (try simp only [hf])
      have hl : cl = es.length := h2.trans h1.length.symm
      subst hl
      have ho : OR (du φ n ⟨h.n, 0, 0⟩) ⟨h.n, 0, 0⟩ (.iter b es.length []) (.mapIter (some p.B) es.length #[] es.length) := ⟨rfl, p, hr.ple _ _ _ hp, rfl⟩
      exact hk _ (.pointer (some ⟨h.n, 0 + 0, none⟩)) _ (hr.ple _) (hr.new ho aa) (.ptr (bl _ _ _))
    · cases e
  · cases e
end
end Go.Proofs.Ythjggjhebbdkdaa
namespace Go.Proofs.Ythjggjhebbdkdaa
open Go Go.RowKit
def COk (P : Program) (f : FuncId) (g : List AV → AH → Nat → AR) : Prop := ∀ (args : List AV) (H : AH) (n : Nat) (v : AV) (H' : AH) (n' : Nat), g args H n = some (v, H', n') →
  ∀ (φ : Ph) (h0 h : Hp) (vs : Array Value) (K : KH), HR φ H n h0 h → VRs φ args vs.toList → m5 φ h0 v H' n' K → cL P f vs h K
section
variable {P : Program} {call : AC} {φ : Ph} {H H' : AH} {n n' : Nat} {h0 h : Hp} {K : KH} {σ : AE} {ρ : Env} {r : AV}
theorem vt (hcall : ∀ f, COk P f (call f)) (hr : HR φ H n h0 h) (hf : FR φ σ ρ) {o : Op} (e : yQ P call o σ H n = some (r, H', n')) (hk : m5 φ h0 r H' n' K) : br P o ρ h K := by
  have quiet : ∀ {o : Op}, bE o = false → (match mZ P o σ H with
      | some v => some (v, H, n)
      | none => none) = some (r, H', n') → br P o ρ h K := fun {o} hl e => by
    unfold br
    rw [hl]
    simp only [Bool.false_eq_true, if_false]
    split at e
    · rename_i v hv
      injection e with e; injection e with e1 e2; injection e2 with e2 e3
      subst e1 e2 e3
      exact oC hr hf hv fun u hu => hk φ u h (PLe.refl _) hr hu
    · cases e
  unfold yQ at e
  split at e
  · rename_i el
    split at e
    · rename_i z hz
      show nJ P el h K
      unfold nJ
      (try simp only [hz])
      exact qc hr (ju φ z) e hk
    · cases e
  · rename_i el x
    split at e
    · rename_i hc
      show B1 el (ρ.ev x).cells h K
      exact qc hr ((hf.ev x).cells hc) e hk
    · cases e
  · rename_i t len parts
    split at e
    · rename_i l hl
      obtain ⟨el, r', h1, h2⟩ := tv hf hl
      injection e with e; injection e with e1 e2; injection e2 with e2 e3
      subst e1 e2 e3
      show (match cS P t len (parts.toList.map fun x => (x.1, ρ.ev x.2)) with
        | some (e, r) => K (.slice (some ⟨h.n, 0, none⟩) len len) ((h.put h.n (.cells r e (0, 0))).to (h.n + 1))
        | none => False)
      rw [h1]
      have hll : l.length = r'.size := by simpa using h2.length
      have ho : OR (du φ n ⟨h.n, 0, r'.size⟩) ⟨h.n, 0, r'.size⟩ (.cells l true) (.cells r' el (0, 0)) :=
        ⟨r', el, (0, 0), rfl, by simp only; omega, by simp only; omega, fP _ _, fun _ => rfl, CR.mono (hr.ple _) (CR.of' h2)⟩
      exact hk _ (.slice (some ⟨h.n, 0 + 0, none⟩) len len) _ (hr.ple _) (hr.new ho aa) (.sl (bl _ _ _) (fun _ => rfl) (fun q => (q rfl).elim))
    · cases e
  · exact m6 hr (hf.ev _) (hf.ev _) e hk
  · exact kW hr (hf.ev _) e hk
  · exact kX hr (hf.ev _) (hf.ev _) e hk
  · rename_i t
    injection e with e; injection e with e1 e2; injection e2 with e2 e3
    subst e1 e2 e3
    show K (.map (some h.n)) ((h.put h.n (.map #[] 0)).to (h.n + 1))
    have ho : OR (du φ n ⟨h.n, 0, 0⟩) ⟨h.n, 0, 0⟩ (.map []) (.map #[] 0) := ⟨#[], 0, rfl, rfl, .nil⟩
    exact hk _ _ _ (hr.ple _) (hr.new ho aa) (.map (bl _ _ _))
  · exact lW hr (hf.ev _) (hf.ev _) (hf.ev _) e hk
  · exact lW hr (hf.ev _) (hf.ev _) (hf.ev _) e hk
  · exact tw hr (hf.ev _) e hk
  · rename_i c
    have hm := VRs.map hf.ev c.args.toList
    obtain ⟨callee, args, ats⟩ := c
    dsimp only at e hm
    split at e
    · rename_i f
      have hfv := hf.ev f
      split at e
      · rename_i g a cs q
        rw [q] at hfv
        obtain ⟨a', c', hv, h1, h2⟩ := hfv.mi
        show rP P (ρ.ev f) (args.map ρ.ev) h K
        rw [hv]
        show cL P g (a' ++ args.map ρ.ev ++ c') h K
        refine hcall g _ _ _ _ _ _ e φ h0 h _ K hr ?_ hk
        rw [Array.toList_append, Array.toList_append, Array.toList_map]
        exact (h1.append hm).append h2
      · cases e
    · show iD P .append ats.toList (args.toList.map ρ.ev) h K
      split at e
      · rename_i t u s x e1 e2
        rw [e2] at hm
        obtain ⟨v1, us, h1, h2, h3⟩ := hm.cons_inv
        obtain ⟨v2, ws, h4, h5, h6⟩ := h3.cons_inv
        rw [h4, h6.aW] at h1
        rw [e1, h1]
        exact ji hr h2 h5 e hk
      · cases e
    · show iD P .copy ats.toList (args.toList.map ρ.ev) h K
      split at e
      · rename_i t u s x e1 e2
        rw [e2] at hm
        obtain ⟨v1, us, h1, h2, h3⟩ := hm.cons_inv
        obtain ⟨v2, ws, h4, h5, h6⟩ := h3.cons_inv
        rw [h4, h6.aW] at h1
        rw [e1, h1]
        exact kY hr h2 h5 e hk
      · cases e
    · rename_i q1 q2 q3
      refine quiet ?_ e
      cases callee with
      | value f => exact (q1 f rfl).elim
      | invoke _ _ => rfl
      | builtin b => cases b <;> first | rfl | exact (q2 rfl).elim | exact (q3 rfl).elim
  · rename_i q1 q2 q3 q4 q5 q6 q7 q8 q9 q11 q10
    cases o
    case alloc => exact (q1 _ rfl).elim
    case box => exact (q2 _ _ rfl).elim
    case buildSlice => exact (q3 _ _ _ rfl).elim
    case store => exact (q4 _ _ _ rfl).elim
    case convert => exact (q5 _ _ _ rfl).elim
    case makeSlice => exact (q6 _ _ _ rfl).elim
    case mapUpdate => exact (q8 _ _ _ _ rfl).elim
    case insert => exact (q9 _ _ _ _ rfl).elim
    case range => exact (q11 _ _ rfl).elim
    case next => simp only [mZ] at e; cases e
    case call => exact (q10 _ rfl).elim
    case makeMap t x =>
      cases x with
      | none => exact (q7 _ rfl).elim
      | some y => simp only [mZ] at e; cases e
    all_goals exact quiet rfl e
end
end Go.Proofs.Ythjggjhebbdkdaa
namespace Go.Proofs.Ythjggjhebbdkdaa
open Go Go.RowKit
section
variable {P : Program} {call : AC} {φ : Ph} {H H' : AH} {n n' : Nat} {h0 h : Hp} {σ : AE} {ρ : Env}
def gZ (ops : Array Oper) (j : Nat) : Option Nat := (ops[j]?).bind (·.dst)
noncomputable def gY (ops : Array Oper) (val : Nat → AV) (σ : AE) (L : Nat → Bool) : Nat → Nat → Option AV
  | 0, t => σ.get t
  | k + 1, t => if L k = true ∧ gZ ops k = some t then some (val k) else gY ops val σ L k t
theorem fX {ops : Array Oper} {val : Nat → AV} {L L' : Nat → Bool} {t : Nat} : ∀ k, (∀ j, j < k → gZ ops j = some t → L j = L' j) → gY ops val σ L k t = gY ops val σ L' k t
  | 0, _ => rfl
  | k + 1, h => by
    (try simp only [gY])
    rw [fX k fun j hj => h j (by omega)]
    by_cases hd : gZ ops k = some t
    · rw [h k (by omega) hd]
    · rw [if_neg (fun q => hd q.2), if_neg (fun q => hd q.2)]
theorem qd {ops : Array Oper} {val : Nat → AV} {i t : Nat} : ∀ k, i ≤ k → gY ops val σ (fun j => decide (j < i)) k t = gY ops val σ (fun _ => true) i t
  | 0, h => by
    have : i = 0 := by omega
    subst this; rfl
  | k + 1, h => by
    by_cases hk : i = k + 1
    · subst hk
      exact fX (k + 1) fun j hj _ => by simp [hj]
    · (try simp only [gY])
      rw [if_neg (by simp; omega)]
      exact qd k (by omega)
theorem vu {ops : Array Oper} {val : Nat → AV} {L L' : Nat → Bool} {i t : Nat} (hne : ∀ j, j ≠ i → L' j = L j) (hi : L' i = true) : ∀ k, i < k → (∀ j, i < j → j < k → gZ ops i = some t → gZ ops j = some t → L j = false) →
    gY ops val σ L' k t = if gZ ops i = some t then some (val i) else gY ops val σ L k t
  | 0, h, _ => by omega
  | k + 1, h, hc => by
    (try simp only [gY])
    by_cases hk : k = i
    · subst hk
      by_cases hd : gZ ops k = some t
      · rw [if_pos ⟨hi, hd⟩, if_pos hd]
      · rw [if_neg (fun q => hd q.2), if_neg hd, if_neg (fun q => hd q.2)]
        exact fX k fun j hj _ => hne j (by omega)
    · have ih : gY ops val σ L' k t = if gZ ops i = some t then some (val i) else gY ops val σ L k t := vu hne hi k (by omega) fun j h1 h2 => hc j h1 (by omega)
      rw [hne k hk, ih]
      by_cases hd : gZ ops i = some t
      · by_cases hd2 : gZ ops k = some t
        · have := hc k (by omega) (by omega) hd hd2
          rw [this]; simp
        · rw [if_neg (fun q => hd2 q.2), if_pos hd]; simp [hd]
      · rw [if_neg hd, if_neg hd]
end
end Go.Proofs.Ythjggjhebbdkdaa
namespace Go.Proofs.Ythjggjhebbdkdaa
open Go Go.RowKit
section
variable {P : Program} {call : AC} {φ : Ph} {H H' : AH} {n n' : Nat} {h0 h : Hp} {K : KH} {σ : AE} {ρ : Env} {r : AV}
theorem least {p : Nat → Prop} : ∀ n, p n → ∃ m, p m ∧ ∀ k, p k → m ≤ k := by
  intro n
  induction n using Nat.strongRecOn with
  | _ n ih =>
    intro hn
    by_cases h : ∃ k, k < n ∧ p k
    · obtain ⟨k, hk, hp⟩ := h
      exact ih k hk hp
    · exact ⟨n, hn, fun k hk => Nat.le_of_not_lt fun hlt => h ⟨k, hlt, hk⟩⟩
theorem qe : ∀ (l : List AV) (k : Nat) (σ : AE) (t : Nat) (a : AV), (p5 l k σ).get t = some a → (k ≤ t ∧ l[t - k]? = some a) ∨ σ.get t = some a
  | [], k, σ, t, a, e => .inr e
  | v :: l, k, σ, t, a, e => by
    rcases qe l (k + 1) _ t a e with ⟨h1, h2⟩ | h
    · refine .inl ⟨by omega, ?_⟩
      obtain ⟨d, rfl⟩ : ∃ d, t = k + 1 + d := ⟨t - (k + 1), by omega⟩
      rw [show k + 1 + d - (k + 1) = d from by omega] at h2
      rw [show k + 1 + d - k = d + 1 from by omega]
      simpa using h2
    · rcases PM.ak db σ k t a h with ⟨rfl, h2⟩ | ⟨_, h2⟩
      · exact .inl ⟨Nat.le_refl _, by simpa using h2⟩
      · exact .inr h2
theorem vw {args : List AV} {vs : Array Value} (h : VRs φ args vs.toList) : FR φ (p5 args 0 .nil) (fu vs.toList 0) := fun t a e => by
  rcases qe args 0 .nil t a e with ⟨_, h2⟩ | h2
  · obtain ⟨v, h3, h4⟩ := h.at h2
    rw [kQ, if_pos (Nat.zero_le _)]
    rw [Nat.sub_zero] at h3 ⊢
    rw [h3]
    exact h4
  · cases h2
theorem vx {vs : List AV} {us : List Value} (h : VRs φ vs us) : VR φ (rX vs) (vh us) := by
  match vs, us, h with
  | [], us, h => rw [h.aW]; exact .tup (cs := #[]) .nil
  | [a], us, h =>
    obtain ⟨v, ws, rfl, h1, h2⟩ := h.cons_inv
    rw [h2.aW]; exact h1
  | a :: b :: l, us, h =>
    obtain ⟨v, ws, h0, h1, h2⟩ := h.cons_inv
    obtain ⟨v2, ws2, h3, h4, h5⟩ := h2.cons_inv
    subst h0 h3
    exact .tup (cs := (v :: v2 :: ws2).toArray) (by simpa using h)
def Cx (P : Program) (f : FuncId) : Bool := aj P f && (match P.funcs[f]? with
  | some fn => (match fn.body with
    | some c => (aI c).all fun t => decide (t < fn.ntmps)
    | none => false)
  | none => false)
end
end Go.Proofs.Ythjggjhebbdkdaa
namespace Go.Proofs.Ythjggjhebbdkdaa
open Go Go.RowKit
def eK (w : World) : Hp := ⟨fun b => w.heap[b]?, w.heap.size⟩
theorem xS (w : World) : Is w (eK w) := ⟨rfl, fun _ _ h => h⟩
open Go.ChangeShapes Go.WideShapes Go.ChangeAt
section
variable {H : Type} {enc : TypeId × Value → H} {P : Program} {W W' : World}
theorem sc (hl : laidOutB P = true) (hb : Below W.heap.size W W') : ∀ (ts : List TypeId) (vs : List Value) (ds : List (DataW H)) (ps : List MemPlace), (ts.all fun t => P.readableRec t && decide (t < P.types.size)) = true →
    DataW.TrodAll enc P W 0 (fun _ => true) true ts vs ds ps → (∀ x ∈ ps, x.block < W.heap.size) → DataW.TrodAll enc P W' 0 (fun b => decide (b < W.heap.size)) true ts vs ds ps
  | [], vs, ds, ps, _, h, _ => by
    obtain ⟨rfl, rfl, rfl⟩ := trodAll_nil h
    exact h
  | t :: ts, vs, ds, ps, hr, h, hlt => by
    obtain ⟨v, vs', d, ds', p, q, rfl, rfl, rfl, h1, h2⟩ := trodAll_cons h
    simp only [List.all_cons, Bool.and_eq_true, decide_eq_true_eq] at hr
    exact trodAll_cons_mk (Below.trod hl hr.1.1 hr.1.2 h1 hb fun x hx => hlt x (List.mem_append_left _ hx)) (sc hl hb ts vs' ds' q hr.2 h2 fun x hx => hlt x (List.mem_append_right _ hx))
theorem Cy {f : Func} {s : ChangeSpec} {apart fresh handsOn : Bool} {args : Array Value} {ds gs : List (DataW H)} {before : List MemPlace} {tb : TypeId} (hl : laidOutB P = true)
    (hr : (f.params.toList.all fun t => P.readableRec t && decide (t < P.types.size)) = true) (hres : f.resultTypes = #[tb]) (hub : P.underlying tb = some .bool) (hv : s.vars = [])
    (hfn : s.fn H (ds ++ gs) = { results := [.lit (.bool true)], args := ds }) (hW : DataW.Whole enc P f.params.toList s.vars apart W args.toList ds gs before) (hb : Below W.heap.size W W') :
    s.post enc P f apart fresh handsOn false W args (.bool true) W' := by
  have hlt := hW.lt
  have hW2 := hW
  obtain ⟨p, q, h1, h2, rfl, _, _⟩ := hW2
  refine ⟨ds, gs, p ++ q, [], p, [], hW, ?_, ?_, ?_, hb.frame _, fun k => by cases k⟩
  · rw [hfn, hres]
    exact trodAll_mk1 (shut_bool hub true)
  · rw [hfn]
    exact sc hl hb _ _ _ _ hr h1 fun x hx => hlt x (List.mem_append_left _ hx)
  · rw [hfn, hv]
    rfl
end
end Go.Proofs.Ythjggjhebbdkdaa
namespace Go.Proofs.Ythjggjhebbdkdaa
open Go Go.RowKit
noncomputable def Cz (k j : IntKind) : Bool := IntKind.rec (IntKind.rec true false false false false false false false j) (IntKind.rec false true false false false false false false j) (IntKind.rec false false true false false false false false j) (IntKind.rec false false false true false false false false j)
  (IntKind.rec false false false false true false false false j) (IntKind.rec false false false false false true false false j) (IntKind.rec false false false false false false true false j) (IntKind.rec false false false false false false false true j) k
noncomputable def ltq (a b : Int) : Bool := Int.rec (fun m => Int.rec (fun n => Nat.blt m n) (fun _ => false) b) (fun m => Int.rec (fun _ => true) (fun n => Nat.blt n m) b) a
noncomputable def eqq (a b : Int) : Bool := Int.rec (fun m => Int.rec (fun n => Nat.beq m n) (fun _ => false) b) (fun m => Int.rec (fun _ => false) (fun n => Nat.beq m n) b) a
noncomputable def CA : AC := fun _ _ _ _ => none
noncomputable def G3 (f : FuncId) : Bool := aj Try.prog f && (match Try.prog.funcs[f]? with
  | some fn => (match fn.body with
    | some c => (aI c).all fun t => decide (t < fn.ntmps)
    | none => false)
  | none => false)
end Go.Proofs.Ythjggjhebbdkdaa
namespace Go.Proofs.Ythjggjhebbdkdaa
open Go Go.RowKit
section
variable {r : AV × AH × Nat} {σ : AE} {H : AH} {n : Nat}
theorem CB (k j : IntKind) : Cz k j = decide (k = j) := by cases k <;> cases j <;> rfl
theorem CC (a b : Int) : ltq a b = decide (a < b) := by
  cases a with
  | ofNat m =>
    cases b with
    | ofNat n =>
      show Nat.blt m n = _
      rw [Bool.eq_iff_iff, Nat.blt_eq, decide_eq_true_eq]
      simp only [Int.ofNat_eq_natCast]; omega
    | negSucc n =>
      show false = _
      symm; rw [decide_eq_false_iff_not]
      simp only [Int.ofNat_eq_natCast, Int.negSucc_eq]; omega
  | negSucc m =>
    cases b with
    | ofNat n =>
      show true = _
      symm; rw [decide_eq_true_eq]
      simp only [Int.ofNat_eq_natCast, Int.negSucc_eq]; omega
    | negSucc n =>
      show Nat.blt n m = _
      rw [Bool.eq_iff_iff, Nat.blt_eq, decide_eq_true_eq]
      simp only [Int.negSucc_eq]; omega
theorem CD (a b : Int) : eqq a b = decide (a = b) := by
  cases a with
  | ofNat m =>
    cases b with
    | ofNat n =>
      show Nat.beq m n = _
      rw [Bool.eq_iff_iff, Nat.beq_eq, decide_eq_true_eq]
      simp only [Int.ofNat_eq_natCast]; omega
    | negSucc n =>
      show false = _
      symm; rw [decide_eq_false_iff_not]
      simp only [Int.ofNat_eq_natCast, Int.negSucc_eq]; omega
  | negSucc m =>
    cases b with
    | ofNat n =>
      show false = _
      symm; rw [decide_eq_false_iff_not]
      simp only [Int.ofNat_eq_natCast, Int.negSucc_eq]; omega
    | negSucc n =>
      show Nat.beq m n = _
      rw [Bool.eq_iff_iff, Nat.beq_eq, decide_eq_true_eq]
      simp only [Int.negSucc_eq]; omega
end
end Go.Proofs.Ythjggjhebbdkdaa
namespace Go.Proofs.Ythjggjhebbdkdaa
open Go Go.RowKit
theorem HR.grow {φ : Ph} {H : AH} {n : Nat} {h0 h g : Hp} (hr : HR φ H n h0 h) (hs : ∀ b o, h.f b = some o → g.f b = some o) (hn : h.n ≤ g.n) : HR φ H n h0 g :=
  ⟨fun b p e => ⟨(hr.dom b p e).1, Nat.lt_of_lt_of_le (hr.dom b p e).2 hn⟩, fun b o e =>
    (hr.live b o e).imp id fun ⟨p, ob, h1, h2, h3, h4⟩ => ⟨p, ob, h1, h2, hs _ _ h3, h4⟩, hr.inj, fun b o e => ⟨Nat.lt_of_lt_of_le (hr.base b o e).1 hn, hs _ _ (hr.base b o e).2⟩, Nat.le_trans hr.size hn, fun q hq => ⟨⟨(hr.frz q hq).1.1.grow hn (by obtain ⟨_, c, t, fz, h1, _⟩ := (hr.frz q hq).1.1; rw [h1, hs _ _ h1]), (hr.frz q hq).1.2⟩, (hr.frz q hq).2⟩, hr.lR hn (fun _ _ h => ⟨h, rfl⟩) (fun _ h => h) (fun _ h => .inl h) (fun x Q B hx hB => by obtain ⟨o, ho⟩ := Q.ex _ _ _ B (hr.sep x Q hx).1 hB; rw [ho, hs _ _ ho]) fun b' o' p' e1 e2 e3 => .inl ⟨b', o', p', e1, e2, e3, rfl⟩⟩
theorem ga {h : Hp} (hw : Wf h) : HR Ph.no .nil 0 h h :=
  ⟨fun _ _ k => (by cases k), fun _ _ k => (by cases k), fun _ _ _ _ _ _ k => (by cases k), fun b o k => ⟨hw b o k, k⟩, Nat.le_refl _, fun _ k => k.elim, fun _ _ k => by cases k⟩
end Go.Proofs.Ythjggjhebbdkdaa
namespace Go.Proofs.Ythjggjhebbdkdaa
open Go Go.RowKit
section
variable {P : Program} {ops : Array Oper}
theorem CE {m i : Nat} {o : Oper} (h : (ops.extract 0 m)[i]? = some o) : i < m ∧ ops[i]? = some o := by
  rw [Array.getElem?_extract] at h
  split at h
  · rename_i q
    exact ⟨by omega, by simpa using h⟩
  · cases h
theorem HO {m i : Nat} {o : Oper} (hi : i < m) (h : ops[i]? = some o) : (ops.extract 0 m)[i]? = some o := by
  have := (Array.getElem?_eq_some_iff.1 h).1
  rw [Array.getElem?_extract, if_pos (by omega)]
  simpa using h
theorem AK {m : Nat} {o : Oper} {ρ : Env} {h : Hp} {K : Env → Hp → Prop} (k : aX P (ops.extract 0 m) o ρ h K) : aX P ops o ρ h K := by
  unfold aX at k ⊢
  split
  · rename_i e; rw [e] at k; exact k
  · rename_i j want e
    rw [e] at k
    dsimp only at k ⊢
    cases hg : fK (ops.extract 0 m) j with
    | none => rw [hg] at k; exact k.elim
    | some t =>
      have : fK ops j = some t := by
        unfold fK at hg ⊢
        cases ho : (ops.extract 0 m)[j]? with
        | none => rw [ho] at hg; cases hg
        | some o' => rw [ho] at hg; rw [(CE ho).2]; exact hg
      rw [hg] at k
      rw [this]
      exact k
theorem vy {l : Array Bool} {i j : Nat} (hi : i < l.size) : (l.setIfInBounds i true).getD j false = if j = i then true else l.getD j false := by
  rw [Array.getD_eq_getD_getElem?, Array.getD_eq_getD_getElem?, Array.getElem?_setIfInBounds]
  by_cases e : j = i
  · subst e; simp [hi]
  · rw [if_neg e, if_neg (Ne.symm e)]
theorem CF {m : Nat} (hm : m ≤ ops.size) {ρ : Env} {h : Hp} {N N' : Env → Hp → Prop} (hed : jV ops = true)
    (ht : ∀ i, m ≤ i → i < ops.size → ∀ listed : Array Bool, Down ops listed → (∀ o, ops[i]? = some o → ∀ e ∈ o.after, Region.binds .any e = true → listed.getD e.on false = true) → ∀ j, j < i → listed.getD j false = true)
    (hp : xI P (ops.extract 0 m) ρ h N') (hN : ∀ ρ h, N' ρ h → iE P ops (ops.toList.drop m) ρ h N) : xI P ops ρ h N := by
  obtain ⟨_, I, h0, hs, hf⟩ := hp
  have hsz' : (ops.extract 0 m).size = m := by rw [Array.size_extract]; omega
  rw [hsz'] at h0 hs hf
  have tail : ∀ (k : Nat) (listed : Array Bool) (i : Nat) (o : Oper) (ρ : Env) (h : Hp), m ≤ k → ops[i]? = some o → listed.size = ops.size → (∀ j, j < ops.size → (listed.getD j false = true ↔ j < k)) → listed.getD i false = false → Down ops listed →
      (∀ e ∈ o.after, Region.binds .any e = true → listed.getD e.on false = true) → iE P ops (ops.toList.drop k) ρ h N →
      i = k ∧ aX P ops o ρ h fun ρ' h' => iE P ops (ops.toList.drop (k + 1)) ρ' h' N := fun k listed i o ρ h hk ho hsz hl hun hdn hedge ha => by
    have hi : i < ops.size := (Array.getElem?_eq_some_iff.1 ho).1
    have hik : k ≤ i := by
      refine Nat.le_of_not_lt fun q => ?_
      rw [(hl i hi).2 q] at hun; cases hun
    have hall := ht i (by omega) hi listed hdn (fun o' ho' e he hb => by rw [ho] at ho'; injection ho' with ho'; subst ho'; exact hedge e he hb)
    have hki : i = k := by
      refine Nat.le_antisymm (Nat.le_of_not_lt fun q => ?_) hik
      have := (hl k (by omega)).1 (hall k q)
      omega
    subst hki
    refine ⟨rfl, ?_⟩
    have e : ops.toList.drop i = o :: ops.toList.drop (i + 1) := by
      have h2 : ops.toList[i]? = some o := by simpa using ho
      obtain ⟨h3, h4⟩ := List.getElem?_eq_some_iff.1 h2
      rw [List.drop_eq_getElem_cons h3, h4]
    rw [e] at ha
    exact jU ha
  refine ⟨hed, fun listed ρ h => (∃ L' : Array Bool, L'.size = m ∧ (∀ j, j < m → L'.getD j false = listed.getD j false) ∧ (∀ j, m ≤ j → listed.getD j false = false) ∧ I L' ρ h) ∨
    ∃ k, m ≤ k ∧ k ≤ ops.size ∧ (∀ j, j < ops.size → (listed.getD j false = true ↔ j < k)) ∧ iE P ops (ops.toList.drop k) ρ h N, ?_, ?_, ?_⟩
  · refine .inl ⟨Array.replicate m false, by simp, fun j _ => ?_, fun j _ => ?_, h0⟩
    · simp [Array.getD]
    · simp [Array.getD]
  · intro listed i o ρ h hsz hdn ho hun hedge hJ hw
    have hi : i < ops.size := (Array.getElem?_eq_some_iff.1 ho).1
    have set1 : ∀ j, (listed.setIfInBounds i true).getD j false = if j = i then true else listed.getD j false := fun j => vy (by omega)
    rcases hJ with ⟨L', hL, hl, hno, hI⟩ | ⟨k, hk, hks, hl, ha⟩
    · by_cases him : i < m
      · have hds : Down (ops.extract 0 m) L' := fun j o' ho' hj e he hb => by
          obtain ⟨hjm, ho2⟩ := CE ho'
          rw [hl j hjm] at hj
          have h1 := hdn j o' ho2 hj e he hb
          have hem : e.on < m := by
            refine Nat.lt_of_not_le fun q => ?_
            rw [hno e.on q] at h1; cases h1
          rw [hl e.on hem]; exact h1
        have hg := hs L' i o ρ h hL hds (HO him ho) (by rw [hl i him]; exact hun) (fun e he hb => by
          have h1 := hedge e he hb
          have hem : e.on < m := by
            refine Nat.lt_of_not_le fun q => ?_
            rw [hno e.on q] at h1; cases h1
          rw [hl e.on hem]; exact h1) hI hw
        refine dq (fun v h' hk => .inl ⟨L'.setIfInBounds i true, by simpa using hL, fun j hj => ?_, fun j hj => ?_, hk⟩) (AK hg)
        · rw [set1, vy (by omega), hl j hj]
        · rw [set1, if_neg (by omega)]; exact hno j hj
      · have hall := ht i (by omega) hi listed hdn (fun o' ho' e he hb => by rw [ho] at ho'; injection ho' with ho'; subst ho'; exact hedge e he hb)
        have hend : iE P ops (ops.toList.drop m) ρ h N := hN ρ h (hf L' ρ h hL (fun j hj => by rw [hl j hj]; exact hall j (by omega)) hI)
        obtain ⟨e, hg⟩ := tail m listed i o ρ h (Nat.le_refl _) ho hsz (fun j hj => ⟨fun q => Nat.lt_of_not_le fun q2 => (by rw [hno j q2] at q; cases q), fun q => hall j (by omega)⟩) hun hdn hedge hend
        refine dq (fun v h' hk => .inr ⟨m + 1, by omega, by omega, fun j hj => ?_, hk⟩) hg
        rw [set1]
        by_cases e2 : j = i
        · rw [if_pos e2]; simp; omega
        · rw [if_neg e2]
          refine ⟨fun q => ?_, fun q => hall j (by omega)⟩
          refine Nat.lt_of_not_le fun q2 => ?_
          rw [hno j (by omega)] at q; cases q
    · obtain ⟨e, hg⟩ := tail k listed i o ρ h hk ho hsz hl hun hdn hedge ha
      refine dq (fun v h' hk' => .inr ⟨k + 1, by omega, by omega, fun j hj => ?_, hk'⟩) hg
      rw [set1]
      by_cases e2 : j = i
      · rw [if_pos e2]; simp; omega
      · rw [if_neg e2, hl j hj]; omega
  · intro listed ρ h hsz hall hJ
    rcases hJ with ⟨L', hL, hl, hno, hI⟩ | ⟨k, hk, hks, hl, ha⟩
    · have hms : m = ops.size := by
        refine Nat.le_antisymm hm (Nat.le_of_not_lt fun q => ?_)
        have := hno m (Nat.le_refl _)
        rw [hall m q] at this; cases this
      have := hN ρ h (hf L' ρ h hL (fun j hj => by rw [hl j hj]; exact hall j (by omega)) hI)
      rw [List.drop_eq_nil_of_le (by simp; omega)] at this
      exact this
    · have hks2 : k = ops.size := by
        refine Nat.le_antisymm hks (Nat.le_of_not_lt fun q => ?_)
        have := (hl k q).1 (hall k q)
        omega
      rw [List.drop_eq_nil_of_le (by simp; omega)] at ha
      exact ha
def AL (ops : Array Oper) (m : Nat) : Array Oper := ⟨ops.toList.take m⟩
theorem Fe (ops : Array Oper) (m : Nat) : AL ops m = ops.extract 0 m := by
  apply Array.ext'
  simp [AL]
end
end Go.Proofs.Ythjggjhebbdkdaa
namespace Go.Proofs.Ythjggjhebbdkdaa
open Go Go.RowKit
abbrev PK := AV → AH → Nat → Prop
abbrev CP := FuncId → List AV → AH → Nat → PK → Prop
abbrev KP := AE → AH → Nat → Prop
def bU {α : Type} (o : Option α) (k : α → Prop) : Prop := match o with
  | some a => k a
  | none => False
def dA (b : Bool) (t e : Prop) : Prop := match b with
  | true => t
  | false => e
def bV (φ : Ph) (h0 : Hp) (κ : PK) (K : KH) : Prop := ∀ (ψ : Ph) (v : AV) (H : AH) (n : Nat) (u : Value) (g : Hp), PLe φ ψ → HR ψ H n h0 g → VR ψ v u → κ v H n → K u g
def Ff (y : Nat) (run : List AV → AH → Nat → PK → Prop) : Prop := ∀ (args : List AV) (H : AH) (n : Nat) (κ : PK), run args H n κ → ∀ (φ : Ph) (h0 h : Hp) (vs : Array Value) (K : KH), HR φ H n h0 h → VRs φ args vs.toList → bV φ h0 κ K → nM Try.prog y vs h K
inductive Yld (y : Nat) (args : List AV) (H : AH) (n : Nat) (κ : PK) : Prop where
  | mk (run : List AV → AH → Nat → PK → Prop) (ok : Ff y run) (h : run args H n κ)
def CG (v : AV) : Option Nat := match v with
  | .any (.func (.yield y) ⟨[]⟩ ⟨[]⟩) => some y
  | _ => none
def yOr (o : Option (Nat × List AV)) (A : Nat → List AV → Prop) (B : Prop) : Prop := match o with
  | some (y, xs) => A y xs
  | none => B
structure ag (b : Bool) (A B : Prop) : Prop where
  t : b = true → A
  f : b = false → B
theorem ag.dec {p : Prop} [Decidable p] {A B : Prop} (t : p → A) (f : ¬ p → B) : ag (decide p) A B := ⟨fun h => t (of_decide_eq_true h), fun h => f (of_decide_eq_false h)⟩
theorem ag.dB {p : Prop} [Decidable p] {A B : Prop} (t : ¬ p → A) (f : p → B) : ag (!decide p) A B := ⟨fun h => t (by simpa using h), fun h => f (by simpa using h)⟩
inductive Ask {α : Type} (o : Option α) (κ : α → Prop) : Prop where
  | mk (a : α) (h : o = some a) (k : κ a)
inductive Idx (i : Int) (len : Nat) (κ : Nat → Prop) : Prop where
  | mk (j : Nat) (h : i = (j : Int)) (lt : j < len) (k : κ j)
def hd : AV → AV
  | .si k n => .int k n
  | .sb b => .bool b
  | .ss s => .str s
  | .sy b o n c k => .sl b o n c k
  | v => v
def mk : AV → AV
  | .int k n => .si k n
  | .bool b => .sb b
  | .str s => .ss s
  | .sl b o n c k => .sy b o n c k
  | v => v
def isS : AV → Bool
  | .si _ _ => true
  | .sb _ => true
  | .ss _ => true
  | .sy _ _ _ _ _ => true
  | _ => false
theorem ag.sb {A B : Prop} {b : Bool} (t : b = true → A) (f : b = false → B) : ag b A B := ⟨t, f⟩
theorem ag.nsb {A B : Prop} {b : Bool} (t : b = false → A) (f : b = true → B) : ag (!b) A B := ⟨fun h => t (by simpa using h), fun h => f (by simpa using h)⟩
def AM (op : BinOp) (k j : IntKind) (a b : Int) (c : Bool) (κ : AV → Prop) : Prop := match op with
  | .shl => (match c with
    | true => dA (ltq b 0) False (κ (.si k (k.wrap (a * 2 ^ min b.toNat k.bits))))
    | false => 0 ≤ b ∧ κ (.si k (k.wrap (a * 2 ^ min b.toNat k.bits))))
  | .shr => (match c with
    | true => dA (ltq b 0) False (κ (.si k (a.fdiv (2 ^ min b.toNat k.bits))))
    | false => 0 ≤ b ∧ κ (.si k (a.fdiv (2 ^ min b.toNat k.bits))))
  | op => dA (Cz k j) (match op with
    | .add => κ (.si k (k.wrap (a + b)))
    | .sub => κ (.si k (k.wrap (a - b)))
    | .mul => κ (.si k (k.wrap (a * b)))
    | .quo => (match c with
      | true => dA (eqq b 0) False (κ (.si k (k.wrap (a.tdiv b))))
      | false => b ≠ 0 ∧ κ (.si k (k.wrap (a.tdiv b))))
    | .rem => (match c with
      | true => dA (eqq b 0) False (κ (.si k (a.tmod b)))
      | false => b ≠ 0 ∧ κ (.si k (a.tmod b)))
    | .and => κ (.si k (bI .and k a b))
    | .or => κ (.si k (bI .or k a b))
    | .xor => κ (.si k (bI .xor k a b))
    | .andNot => κ (.si k (bI .andNot k a b))
    | .eql => κ (.sb (decide (a = b)))
    | .neq => κ (.sb (!decide (a = b)))
    | .lss => κ (.sb (decide (a < b)))
    | .leq => κ (.sb (decide (a ≤ b)))
    | .gtr => κ (.sb (decide (b < a)))
    | .geq => κ (.sb (decide (b ≤ a)))
    | _ => False) False
def AN (op : BinOp) (a b : List Nat) (κ : AV → Prop) : Prop := match op with
  | .add => a.length + b.length ≤ 9223372036854775807 ∧ κ (.ss (a ++ b))
  | .eql => κ (.sb (kR a b))
  | .neq => κ (.sb (!kR a b))
  | .lss => κ (.sb (ltL a b))
  | .leq => κ (.sb (ltL a b || kR a b))
  | .gtr => κ (.sb (!(ltL a b || kR a b)))
  | .geq => κ (.sb (!ltL a b))
  | _ => False
noncomputable def CH (op : BinOp) (t : TypeId) (a b : Bool) (κ : AV → Prop) : Prop := dA (o8 Try.prog t) (match op with
  | .eql => κ (.sb (a == b))
  | .neq => κ (.sb (!(a == b)))
  | _ => False) False
noncomputable def vz (op : BinOp) (t : TypeId) (x y : AV) (H : AH) (κ : AV → Prop) : Prop := match x, y with
  | .int k a, .int j b => bU (Fa op k j a b) κ
  | .int k a, .si j b => AM op k j a b false κ
  | .si k a, .int j b => AM op k j a b true κ
  | .si k a, .si j b => AM op k j a b false κ
  | .ss a, .ss b => AN op a b κ
  | .ss a, .str b => AN op a b κ
  | .str a, .ss b => AN op a b κ
  | .sb a, .sb b => CH op t a b κ
  | .sb a, .bool b => CH op t a b κ
  | .bool a, .sb b => CH op t a b κ
  | .agg xs, .agg ys => dA (xs.any isS || ys.any isS) (bU (oT Try.prog op t (.agg (xs.map hd)) (.agg (ys.map hd)) H) fun v => κ (mk v)) (bU (oT Try.prog op t (.agg xs) (.agg ys) H) κ)
  | x, y => bU (oT Try.prog op t x y H) κ
noncomputable def unP (op : UnOp) (x : AV) (κ : AV → Prop) : Prop := match op, x with
  | .not, .sb b => κ (.sb (!b))
  | .neg, .si k n => κ (.si k (k.wrap (0 - n)))
  | .xor, .si k n => κ (.si k (bI .xor k (if k.signed then -1 else k.max) n))
  | op, x => bU (eun op x) κ
def vA (c : AV) (A B : Prop) : Prop := match c with
  | .bool true => A
  | .bool false => B
  | .sb q => ag q A B
  | _ => False
def lF (P : Program) (t : TypeId) : Option IntKind := match P.underlying t with
  | some (.int k) => some k
  | _ => none
noncomputable def un3 (κ : PK) (r : AV × AH × Nat) : Prop := Prod.rec (fun v q => Prod.rec (fun H n => κ v H n) q) r
noncomputable def vB (o : Op) (σ : AE) (H : AH) (n : Nat) (κ : PK) : Prop := bU (yQ Try.prog CA o σ H n) (un3 κ)
noncomputable def mmP (mx : Bool) (x y : AV) (κ : AV → Prop) : Prop := match x, y with
  | .si k a, .si _ b => κ (.si k (if mx then max a b else min a b))
  | .si k a, .int _ b => κ (.si k (if mx then max a b else min a b))
  | .int k a, .si _ b => κ (.si k (if mx then max a b else min a b))
  | x, y => bU (emm mx x y) κ
noncomputable def AP (t : TypeId) (x : AV) (H : AH) (κ : AV → Prop) : Prop := match x with
  | .ss _ => bU (AD Try.prog t (hd x) H) fun v => κ (mk v)
  | .sy _ _ _ _ _ => bU (AD Try.prog t (hd x) H) fun v => κ (mk v)
  | .rw _ _ n _ _ => dA (pX Try.prog t) (κ (.si .i64 n)) False
  | .fr n _ _ => dA (pX Try.prog t) (κ (.si .i64 n)) False
  | _ => bU (AD Try.prog t x H) κ
noncomputable def ixP (ix : AV) (len : Nat) (s : Bool) (κ : Nat → Prop) : Prop := match ix, s with
  | .si _ i, _ => Idx i len κ
  | .int _ i, true => Idx i len κ
  | _, _ => bU (eix ix len) κ
noncomputable def gi (t : TypeId) (x ix : AV) (κ : AV → Prop) : Prop := match Try.prog.underlying t, x with
  | some (.slice e), .sl b o n _ _ => bU (ah Try.prog e) fun k => ixP ix n false fun i => κ (.ptr b (o + i * k))
  | some (.slice e), .sy b o n _ _ => bU (ah Try.prog e) fun k => ixP ix n true fun i => κ (.ptr b (o + i * k))
  | some (.slice e), .rw b o n _ _ => bU (ah Try.prog e) fun k => ixP ix n true fun i => κ (.ptr b (o + i * k))
  | some (.slice e), .fr n k' l => bU (ah Try.prog e) fun k => dA (Nat.beq k k') (ixP ix n true fun i => κ (.fa l (i * k))) False
  | some (.array len e), .ptr b o => bU (ah Try.prog e) fun k => ixP ix len false fun i => κ (.ptr b (o + i * k))
  | _, _ => False
noncomputable def nW (t : TypeId) (x ix : AV) (κ : AV → Prop) : Prop := match Try.prog.underlying t, x with
  | some (.array len e), .agg l => bU (ah Try.prog e) fun k => ixP ix len false fun i => bU (rU Try.prog e l (i * k)) κ
  | some .string, .str s => ixP ix s.length false fun i => bU (nth s i) fun c => (match ix with
    | .int _ _ => κ (.int .u8 (Int.ofNat c))
    | _ => κ (.si .u8 (Int.ofNat c)))
  | some .string, .ss s => ixP ix s.length true fun i => Ask (nth s i) fun c => κ (.si .u8 (Int.ofNat c))
  | _, _ => False
noncomputable def qf (l : List AV) (t : TypeId) (o : Nat) (κ : AV → Prop) : Prop := match aJ Try.prog t with
  | some false => bU (nth l o) κ
  | some true => bU (ah Try.prog t) fun m => bU (bu l o m) fun r => κ (.agg r)
  | none => False
noncomputable def oD (t : TypeId) (a : AV) (H : AH) (κ : AV → Prop) : Prop := match a with
  | .ptr b o => (match H.get b with
    | some (.cells l _) => qf l t o κ
    | some (.ro l) => qf l t o κ
    | _ => False)
  | .fa l o => qf l t o κ
  | _ => False
noncomputable def j9 (t : TypeId) (a v : AV) (H : AH) (n : Nat) (κ : PK) : Prop := match a with
  | .ptr b o => (match H.get b with
    | some (.cells l z) => bU (ah Try.prog t) fun s => dA (Nat.beq v.cells.length s && (okC v && v.cells.all mf)) (bU (ez l o v.cells) fun l' => κ cJ (H.set (some (.cells l' z)) aa b) n) False
    | _ => False)
  | _ => False
noncomputable def mk3 (κ : PK) (r : AV × AH × Nat) : Prop := un3 (fun v H n => κ (mk v) H n) r
def isR : AV → Bool
  | .rw _ _ _ _ _ => true
  | .fr _ _ _ => true
  | _ => false
inductive RSl (lo hi mx : Option AV) (n : Nat) (κ : Nat → Nat → Prop) : Prop where
  | mk (l h : Nat) (hl : jX (lo.map hd) 0 = some l) (hh : jX (hi.map hd) n = some h) (hm : mx = none ∨ (hi.isSome = true ∧ jX (mx.map hd) 0 = some h)) (h1 : l ≤ h) (h2 : h ≤ n) (k : κ l h)
def rwO (o k l : Nat) : Option AV → Nat
  | none => o
  | some _ => o + l * k
def rwN (n l h : Nat) : Option AV → Option AV → Nat
  | none, none => n
  | some _, none => n - l
  | none, some _ => h
  | some _, some _ => h - l
def rwX (x : Nat) : Option AV → Option AV → Nat
  | none, _ => x
  | some _, none => (match x with
    | 0 => 0
    | 1 => 0
    | x + 2 => x + 2)
  | some _, some _ => (match x with
    | 4 => 4
    | _ => 1)
def yS (b o n k x : Nat) (lo hi mx : Option AV) (l h : Nat) : AV := .rw b (rwO o k l lo) (rwN n l h lo hi) k (rwX x hi mx)
noncomputable def CI (t : TypeId) (b o n k x : Nat) (lo hi mx : Option AV) (κ : AV → Prop) : Prop := match Try.prog.underlying t with
  | some (.slice e) => bU (ah Try.prog e) fun es => dA (Nat.beq es k) (RSl lo hi mx n fun l h => κ (yS b o n k x lo hi mx l h)) False
  | _ => False
def frL (k : Nat) (L : List AV) (l h : Nat) : Option AV → Option AV → List AV
  | none, none => L
  | some _, none => L.drop (l * k)
  | none, some _ => L.take (h * k)
  | some _, some _ => (L.drop (l * k)).take ((h - l) * k)
noncomputable def CJ (t : TypeId) (n k : Nat) (L : List AV) (lo hi : Option AV) (κ : AV → Prop) : Prop := match Try.prog.underlying t with
  | some (.slice e) => bU (ah Try.prog e) fun es => dA (Nat.beq es k) (RSl lo hi none n fun l h => κ (.fr (rwN n l h lo hi) k (frL k L l h lo hi))) False
  | _ => False
inductive Nxt (H : AH) (a : AV) (s : Bool) (κ : AV → AH → Prop) : Prop where
  | mk (it b m : Nat) (seen : List Nat) (es : List (AV × AV)) (hs : s = false) (ha : a = .ptr it 0) (hi : H.get it = some (.iter b m seen)) (hb : H.get b = some (.map es)) (hm : es.length = m)
    (over : (∀ i, i < m → i ∈ seen) → κ (.tup [.bool false]) H)
    (step : ∀ i e, es[i]? = some e → i ∉ seen → κ (.tup [.bool true, Go.Proofs.Ythjggjhebbdkdaa.mk e.1, e.2]) (H.set (some (.iter b m (seen ++ [i]))) aa it))
inductive Ent (H : AH) (a : AV) (κ : AV → Prop) : Prop where
  | mk (it b m i : Nat) (seen : List Nat) (es : List (AV × AV)) (e : AV × AV) (ha : a = .ptr it 0) (hi : H.get it = some (.iter b m (seen ++ [i]))) (hb : H.get b = some (.map es)) (hm : es.length = m) (he : es[i]? = some e)
    (k : κ (.tup [Go.Proofs.Ythjggjhebbdkdaa.mk e.1, e.2]))
inductive tz (H : AH) (k : Nat) : AV → Nat → List AV → Prop where
  | rw {b o n k' x : Nat} {l new : List AV} (hb : H.get b = some (.ro l) ∨ ∃ z, H.get b = some (.cells l z)) (hs : bu l o (n * k) = some new) : tz H k (.rw b o n k' x) n new
  | old {x : AV} {m : Nat} {new : List AV} (e : Fc H k (hd x) = some (m, new)) : tz H k x m new
  | fr {n : Nat} {l : List AV} : tz H k (.fr n k l) n l
inductive Fg (H : AH) (k : Nat) : AV → Nat → List AV → AH → Bool → Prop where
  | nsl : Fg H k .nsl 0 [] H true
  | rw {b o n : Nat} {l old : List AV} {z : Bool} (hb : H.get b = some (.cells l z)) (hs : bu l o (n * k) = some old) : Fg H k (.rw b o n k 0) n old (H.set none aa b) z
  | sl {b o n c : Nat} {l old : List AV} {z : Bool} (hb : H.get b = some (.cells l z)) (hs : bu l o (n * k) = some old) (hn : n ≤ c) (hc : o + c * k ≤ l.length) : Fg H k (.sl b o n c 0) n old (H.set none aa b) z
structure RTy (t u : TypeId) (k by' : Nat) : Prop where
  h : ∃ e ud z, Try.prog.underlying t = some (.slice e) ∧ Try.prog.underlying u = some ud ∧ (∀ q, ud ≠ .int q) ∧ ah Try.prog e = some k ∧ an Try.prog e = some by' ∧ au Try.prog e = some z ∧ z.cells.size = k ∧ 0 < by' ∧ 0 < k
inductive fk (t u : TypeId) (s x : AV) (H : AH) (n : Nat) (κ : PK) : Prop where
  | grow (k by' m sn : Nat) (new old : List AV) (G : AH) (z : Bool) (ty : RTy t u k by') (src : tz H k x m new) (hnew : new.length = m * k) (hone : new.all mf = true) (row : Fg H k s sn old G z) (big : (sn + m) * by' ≤ 140737488355328)
    (k' : κ (.rw n 0 (sn + m) k 0) (G.set (some (.cells (old ++ new) z)) aa n) (n + 1))
  | exact (k by' m b o sn : Nat) (new old : List AV) (hs : s = .rw b o sn k 1) (ty : RTy t u k by') (src : tz H k x m new) (hnew : new.length = m * k) (hone : new.all mf = true) (hm : m ≠ 0) (row : tz H k s sn old) (big : (sn + m) * by' ≤ 140737488355328)
    (k' : κ (.rw n 0 (sn + m) k 0) (H.set (some (.cells (old ++ new) true)) aa n) (n + 1))
  | lR (k by' b o sn q : Nat) (l : List AV) (z : Bool) (hs : s = .rw b o sn k q) (hq : q ≠ 4) (ty : RTy t u k by') (src : tz H k x 0 []) (hb : H.get b = some (.cells l z)) (k' : κ (.rw b o sn k q) H n)
noncomputable def yT (t u : TypeId) (s x : AV) (H : AH) (n : Nat) (κ : PK) : Prop := dA (isR s || isR x) (fk t u s x H n κ) (dA (isS s || isS x) (Ask (m0 Try.prog t u (hd s) (hd x) H n) (mk3 κ)) (bU (m0 Try.prog t u s x H n) (un3 κ)))
inductive yU (t : TypeId) (s x : AV) (H : AH) (n : Nat) (κ : PK) : Prop where
  | mk (k m dn b o c kk bx ox kx qx : Nat) (l lx new l' : List AV) (z : Bool) (hs : hd s = .sl b o dn c kk) (hx : x = .rw bx ox m kx qx) (hq : qx ≠ 4) (ty : ∃ e, Try.prog.underlying t = some (.slice e) ∧ ah Try.prog e = some k)
    (hbx : H.get bx = some (.ro lx) ∨ ∃ z, H.get bx = some (.cells lx z)) (hsx : bu lx ox (m * k) = some new) (hb : H.get b = some (.cells l z)) (hone : (new.take (min m dn * k)).all mf = true) (hset : ez l o (new.take (min m dn * k)) = some l')
    (k' : κ (.si .i64 ((min m dn : Nat) : Int)) (H.set (some (.cells l' z)) aa b) n)
noncomputable def G4 (t : TypeId) (s x : AV) (H : AH) (n : Nat) (κ : PK) : Prop := dA (isR x) (yU t s x H n κ) (dA (isS s || isS x) (Ask (vk Try.prog t (hd s) (hd x) H n) (mk3 κ)) (bU (vk Try.prog t s x H n) (un3 κ)))
noncomputable def JA (t : TypeId) (l c : AV) (H : AH) (n : Nat) (κ : PK) : Prop := dA (isS l || isS c) (Ask (pZ Try.prog t (hd l) (hd c) H n) (mk3 κ)) (bU (pZ Try.prog t l c H n) (un3 κ))
noncomputable def eO (t : TypeId) (x : AV) (lo hi mx : Option AV) (κ : AV → Prop) : Prop := match x with
  | .rw b o n k q => CI t b o n k q lo hi mx κ
  | .fr n k q => (match mx with
    | none => CJ t n k q lo hi κ
    | some _ => False)
  | x => dA (isS x || (nP lo || (nP hi || nP mx))) (Ask (fV Try.prog t (hd x) (lo.map hd) (hi.map hd) (mx.map hd)) fun v => κ (mk v)) (bU (fV Try.prog t x lo hi mx) κ)
where nP : Option AV → Bool
  | some v => isS v
  | none => false
noncomputable def oE (c : Call) (call : CP) (σ : AE) (H : AH) (n : Nat) (κ : PK) : Prop := match c.callee with
  | .value f => (match eev σ f with
    | .fn g a cs => call g (a ++ c.args.toList.map (eev σ) ++ cs) H n κ
    | _ => False)
  | .builtin .len => (match c.argTypes.toList, c.args.toList.map (eev σ) with
    | [t], [x] => AP t x H fun v => κ v H n
    | _, _ => False)
  | .builtin .min => (match c.args.toList.map (eev σ) with
    | [x, y] => mmP false x y fun v => κ v H n
    | [x, y, z] => mmP false x y fun u => mmP false u z fun v => κ v H n
    | _ => False)
  | .builtin .max => (match c.args.toList.map (eev σ) with
    | [x, y] => mmP true x y fun v => κ v H n
    | [x, y, z] => mmP true x y fun u => mmP true u z fun v => κ v H n
    | _ => False)
  | .builtin .append => (match c.argTypes.toList, c.args.toList.map (eev σ) with
    | [t, u], [s, x] => yT t u s x H n κ
    | _, _ => False)
  | .builtin .copy => (match c.argTypes.toList, c.args.toList.map (eev σ) with
    | [t, _], [s, x] => G4 t s x H n κ
    | _, _ => False)
  | _ => False
inductive JB (src dst : TypeId) (x : AV) (H : AH) (κ : AV → Prop) : Prop where
  | mk (b o n k q : Nat) (l new : List AV) (s : List Nat) (hx : x = .rw b o n k q) (hq : q ≠ 4) (ty : ∃ e, Try.prog.underlying src = some (.slice e) ∧ Try.prog.underlying e = some (.int .u8) ∧ Try.prog.underlying dst = some .string) (hb : H.get b = some (.ro l) ∨ ∃ z, H.get b = some (.cells l z)) (hl : bu l o n = some new) (hs : iF new = some s) (k' : κ (.ss s))
noncomputable def G5 (src dst : TypeId) (x : AV) (H : AH) (n : Nat) (κ : PK) : Prop := match x with
  | .si _ a => (match lF Try.prog src, lF Try.prog dst with
    | some _, some k => κ (.si k (k.wrap a)) H n
    | _, _ => False)
  | .rw _ _ _ _ _ => JB src dst x H fun v => κ v H n
  | _ => dA (isS x) (Ask (vj Try.prog src dst (hd x) H n) (mk3 κ)) (bU (vj Try.prog src dst x H n) (un3 κ))
noncomputable def qg (o : Op) (call : CP) (σ : AE) (H : AH) (n : Nat) (κ : PK) : Prop := match o with
  | .move x => κ (eev σ x) H n
  | .assign x => κ (eev σ x) H n
  | .pick c a b => vA (eev σ c) (κ (eev σ a) H n) (κ (eev σ b) H n)
  | .load t a => oD t (eev σ a) H fun v => κ v H n
  | .store t a x => j9 t (eev σ a) (eev σ x) H n κ
  | .binOp op t x y _ => vz op t (eev σ x) (eev σ y) H fun v => κ v H n
  | .unOp op _ x => unP op (eev σ x) fun v => κ v H n
  | .indexAddr t x ix => gi t (eev σ x) (eev σ ix) fun v => κ v H n
  | .index t x ix => nW t (eev σ x) (eev σ ix) fun v => κ v H n
  | .slice t x lo hi mx => eO t (eev σ x) (lo.map (eev σ)) (hi.map (eev σ)) (mx.map (eev σ)) fun v => κ v H n
  | .makeSlice t l c => JA t (eev σ l) (eev σ c) H n κ
  | .convert s d x => G5 s d (eev σ x) H n κ
  | .call c => oE c call σ H n κ
  | .lookup t m k ok => dA (isS (eev σ k)) (Ask (jY Try.prog t (eev σ m) (hd (eev σ k)) ok H) fun v => κ v H n) (bU (jY Try.prog t (eev σ m) (eev σ k) ok H) fun v => κ v H n)
  | .next it s => Nxt H (eev σ it) s fun v H => κ v H n
  | .entry it => Ent H (eev σ it) fun v => κ v H n
  | o => vB o σ H n κ
noncomputable def opP (ops : Array Oper) (o : Oper) (call : CP) (σ : AE) (H : AH) (n : Nat) (k : KP) : Prop := match o.guard with
  | none => qg o.op call σ H n fun v H n => k (b8 σ o.dst v) H n
  | some (j, want) => (match fK ops j with
    | none => False
    | some t => (match ay (pa t) σ with
      | .bool q => (match q == want with
        | true => qg o.op call σ H n fun v H n => k (b8 σ o.dst v) H n
        | false => k (b8 σ o.dst cJ) H n)
      | .sb q => (match want with
        | true => ag q (qg o.op call (b8 σ (some t) (.bool true)) H n fun v H n => k (b8 (b8 σ (some t) (.bool true)) o.dst v) H n) (k (b8 (b8 σ (some t) (.bool false)) o.dst cJ) H n)
        | false => ag q (k (b8 (b8 σ (some t) (.bool true)) o.dst cJ) H n) (qg o.op call (b8 σ (some t) (.bool false)) H n fun v H n => k (b8 (b8 σ (some t) (.bool false)) o.dst v) H n))
      | .tup _ => k (b8 σ o.dst cJ) H n
      | _ => False))
noncomputable def oU (ops : Array Oper) (l : List Oper) : CP → AE → AH → Nat → KP → Prop :=
  List.rec (fun _ σ H n k => k σ H n) (fun o _ ih call σ H n k => opP ops o call σ H n fun σ H n => ih call σ H n k) l
noncomputable def Fh (o : Oper) (σ : AE) : Option (Nat × List AV) := match valOf o with
  | some (f, xs) => (match CG (eev σ f) with
    | some y => some (y, xs.toList.map (eev σ))
    | none => none)
  | none => none
noncomputable def AQ (ops : Array Oper) (l : List Oper) : CP → AE → AH → Nat → KP → Prop :=
  List.rec (fun _ σ H n k => k σ H n) (fun o _ ih call σ H n k => yOr (Fh o σ) (fun y xs => Yld y xs H n fun v H n => ih call (b8 σ o.dst v) H n k) (opP ops o call σ H n fun σ H n => ih call σ H n k)) l
abbrev XP := CP → AE → AH → Nat → KP → (Nat → KP) → KP → Prop
noncomputable def HQ (c : Operand) (q : Bool) (σ : AE) : AE := match c with
  | .tmp t => b8 σ (some t) (.bool q)
  | _ => σ
noncomputable def CK (c : Operand) (σ : AE) (A B : AE → Prop) : Prop := match eev σ c with
  | .bool true => A σ
  | .bool false => B σ
  | .sb q => ag q (A (HQ c true σ)) (B (HQ c false σ))
  | _ => False
def Cov (p : Nat) (σ : AE) (H : AH) (n : Nat) (s : AE × AH × Nat) : Prop := ∀ (φ : Ph) (h0 h : Hp) (ρ : Env), HR φ H n h0 h → FR φ σ ρ → ∃ ψ : Ph, ((∀ b q, b < p → φ b = some q → ψ b = some q) ∧ (∀ q, φ.z q → ψ.z q) ∧ ∀ q, ψ.y q → φ.y q) ∧ HR ψ s.2.1 s.2.2 h0 h ∧ FR ψ s.1 ρ
noncomputable def G6 (k : Nat) (body : AE → AH → Nat → KP → Prop) : KP := Nat.rec (fun _ _ _ => False) (fun _ ih σ H n => body σ H n ih) k
inductive bg (p : Nat) (body : AE → AH → Nat → KP → Prop) (σ : AE) (H : AH) (n : Nat) : Prop where
  | mk (α : Type) (m : Nat) (st : α → AE × AH) (μ : α → Nat) (a0 : α) (h0 : Cov p σ H n ((st a0).1, (st a0).2, m)) (h : ∀ a, body (st a).1 (st a).2 m fun σ' H' n' => ∃ a', μ a' < μ a ∧ Cov p σ' H' n' ((st a').1, (st a').2, m))
  | roll (k : Nat) (h : G6 k body σ H n)
inductive yV (p : Nat) (A : KP → Prop) (B : KP) : Prop where
  | go (h : A B)
  | mk (α : Type) (m : Nat) (st : α → AE × AH) (hA : A fun σ H n => ∃ a, Cov p σ H n ((st a).1, (st a).2, m)) (hB : ∀ a, B (st a).1 (st a).2 m)
abbrev DB := Option Nat × List Nat
abbrev DT := List (Nat × List DB)
noncomputable def findD (D : DT) (id : Nat) : Option (List DB) := List.rec none (fun x _ ih => Bool.rec ih (some x.2) (Nat.beq x.1 id)) D
noncomputable def hZ (σ : AE) (ts : List Nat) : AE := List.rec .nil (fun t _ ih => nO (ay (pa t) σ) (pa t) ih) ts
noncomputable def qP (o : Op) (σ : AE) (H : AH) (κ : AV → Prop) : Prop := match o with
  | .move x => κ (eev σ x)
  | .assign x => κ (eev σ x)
  | .pick c a b => vA (eev σ c) (κ (eev σ a)) (κ (eev σ b))
  | .load t a => oD t (eev σ a) H κ
  | .binOp op t x y _ => vz op t (eev σ x) (eev σ y) H κ
  | .unOp op _ x => unP op (eev σ x) κ
  | .indexAddr t x ix => gi t (eev σ x) (eev σ ix) κ
  | .index t x ix => nW t (eev σ x) (eev σ ix) κ
  | .slice t x lo hi mx => eO t (eev σ x) (lo.map (eev σ)) (hi.map (eev σ)) (mx.map (eev σ)) κ
  | .lookup t m k ok => dA (isS (eev σ k)) (Ask (jY Try.prog t (eev σ m) (hd (eev σ k)) ok H) κ) (bU (jY Try.prog t (eev σ m) (eev σ k) ok H) κ)
  | .call ⟨.builtin .len, xs, ts⟩ => (match ts.toList, xs.toList.map (eev σ) with
    | [t], [x] => AP t x H κ
    | _, _ => False)
  | .call ⟨.builtin .min, xs, _⟩ => (match xs.toList.map (eev σ) with
    | [x, y] => mmP false x y κ
    | _ => False)
  | .call ⟨.builtin .max, xs, _⟩ => (match xs.toList.map (eev σ) with
    | [x, y] => mmP true x y κ
    | _ => False)
  | o => bU (mZ Try.prog o σ H) κ
noncomputable def vC (ops : Array Oper) (o : Oper) (b : DB) (cd : CP) (hist : List (AH × Nat)) (σ : AE) (H : AH) (n : Nat) (k : KP) : Prop :=
  let go : AE → Prop := fun σ => (match b.1 with
    | none => (match o.op with
      | .call c => oE c cd (hZ σ b.2) H n fun v H n => k (b8 σ o.dst v) H n
      | .store t a x => j9 t (eev (hZ σ b.2) a) (eev (hZ σ b.2) x) H n fun v H n => k (b8 σ o.dst v) H n
      | .buildSlice t len parts => dA (Nat.blt n 1000000) (match H.get n with
        | none => vB (.buildSlice t len parts) (hZ σ b.2) H n fun v H n => k (b8 σ o.dst v) H n
        | some _ => False) False
      | _ => False)
    | some j => bU (nth ((H, n) :: hist) j) fun r => qP o.op (hZ σ b.2) r.1 fun v => k (b8 σ o.dst v) H n)
  match o.guard with
  | none => go σ
  | some (j, want) => (match fK ops j with
    | none => False
    | some t => (match ay (pa t) σ with
      | .bool q => (match q == want with
        | true => go σ
        | false => k (b8 σ o.dst cJ) H n)
      | .sb q => (match want with
        | true => ag q (go (b8 σ (some t) (.bool true))) (k (b8 (b8 σ (some t) (.bool false)) o.dst cJ) H n)
        | false => ag q (k (b8 (b8 σ (some t) (.bool true)) o.dst cJ) H n) (go (b8 σ (some t) (.bool false))))
      | .tup _ => k (b8 σ o.dst cJ) H n
      | _ => False))
noncomputable def CL (ops : Array Oper) (l : List Oper) : List DB → CP → List (AH × Nat) → AE → AH → Nat → KP → Prop :=
  List.rec (fun _ _ _ σ H n k => k σ H n) (fun o _ ih bs cd hist σ H n k => List.rec False (fun b bs' _ => vC ops o b cd hist σ H n fun σ' H' n' => ih bs' cd ((H, n) :: hist) σ' H' n' k) bs) l
def CM (A : List Nat) (i : Nat) (o : Oper) : Nat := o.after.toList.foldl (fun m e => if Region.binds .any e && decide (e.on < i) then m ||| (2 ^ e.on ||| A.getD e.on 0) else m) 0
def nX : List Oper → Nat → List Nat → List Nat
  | [], _, A => A
  | o :: l, i, A => nX l (i + 1) (A ++ [CM A i o])
def CN (A : List Nat) (ops : Array Oper) : Bool := (List.range ops.size).all fun i => match ops[i]? with
  | some o => A.getD i 0 == CM A i o
  | none => true
def nY (A : List Nat) (j i : Nat) : Bool := (A.getD i 0).testBit j
def pc : Op → Bool
  | .call ⟨.value _, _, _⟩ => true
  | .buildSlice _ _ _ => true
  | _ => false
def jj : Op → Bool
  | .store _ _ _ => true
  | _ => false
def tA (ops : Array Oper) (j : Nat) : Bool := match ops[j]? with
  | some o => bE o.op
  | none => false
def pe (ops : Array Oper) (o : Oper) (ts : List Nat) : Bool := match o.guard with
  | none => true
  | some (j, _) => (match fK ops j with
    | some t => ts.contains t
    | none => true)
def HS (A : List Nat) (ops : Array Oper) (bs : List DB) (i : Nat) : Bool := match ops[i]?, bs[i]? with
  | some o, some b => b.2.all (fun t => (looks ops o).contains t) && pe ops o b.2 && (match b.1 with
      | none => pc o.op || (jj o.op && (List.range ops.size).all fun j => Nat.beq j i || nY A j i)
      | some k => !bE o.op && (decide (k ≤ i) && (List.range (i - k)).all fun j => !tA ops j || nY A j i)) &&
    (List.range i).all fun j => (match ops[j]? with
      | some a => a.apart ops o && (!bE a.op || !bE o.op)
      | none => true) || nY A j i
  | _, _ => false
def qh (ops : Array Oper) (bs : List DB) : Bool := jV ops && (CN (nX ops.toList 0 []) ops && (List.range ops.size).all (HS (nX ops.toList 0 []) ops bs))
def iU : List Nat → List (Nat × Nat)
  | a :: b :: l => (a, b) :: iU l
  | _ => []
def gj : List Nat → Nat → Nat → Bool
  | [], _, _ => false
  | x :: π, a, b => Nat.beq x a || (!Nat.beq x b && gj π a b)
def CO : Nat → List (List Bool)
  | 0 => [[]]
  | m + 1 => (CO m).flatMap fun l => [true :: l, false :: l]
def okL (P : Program) (ops : Array Oper) (R : List (Nat × Nat)) : List Nat → List Nat → Bool
  | _, [] => true
  | acc, i :: l => acc.all (fun j => kq P ops j i || (kC ops 5 j i || (R.contains (j, i) || R.contains (i, j)))) && okL P ops R (i :: acc) l
def yW (P : Program) (ops : Array Oper) (R : List (Nat × Nat)) (i : Nat) : Bool := match ops[i]? with
  | some o => (!bE o.op || (nL P o.op || Az o.op)) || R.all fun p => Nat.beq p.1 i || (Nat.beq p.2 i || (kC ops 5 p.1 i || kC ops 5 p.2 i))
  | none => true
def leB (ops : Array Oper) (j i : Nat) : Bool := Nat.beq j i || kC ops 5 j i
def Fi (p : Nat × Nat) (b : Bool) : Nat × Nat := match b with
  | true => p
  | false => (p.2, p.1)
def CQ (ops : Array Oper) (R : List (Nat × Nat)) (os : List Bool) : Bool := ((R.zip os).map fun x => Fi x.1 x.2).all fun x => ((R.zip os).map fun x => Fi x.1 x.2).all fun y => !(leB ops x.2 y.1 && leB ops y.2 x.1)
def CS (P : Program) (ops : Array Oper) (bs : List DB) : Bool := jV ops && (match bs with
  | [] => false
  | h :: πs => (List.range ops.size).all (yW P ops (iU h.2)) && ((iU h.2).all (fun p => !Nat.beq p.1 p.2) && (((CO (iU h.2).length).all fun os => !CQ ops (iU h.2) os || πs.any fun π => (iU h.2).map (fun p => gj π.2 p.1 p.2) == os) &&
    πs.all fun π => decide (π.2.Nodup) && (π.2.length == ops.size && (π.2.all (fun i => decide (i < ops.size)) && okL P ops (iU h.2) [] π.2)))))
def CT (bs : List DB) : Bool := match bs with
  | (some k, _) :: _ => Nat.beq k 1000000
  | _ => false
noncomputable def sd (l : List Oper) (π : List Nat) : List Oper := List.rec [] (fun i _ ih => match nth l i with
  | some o => o :: ih
  | none => ih) π
noncomputable def HT (ops : Array Oper) (πs : List DB) (call : CP) (σ : AE) (H : AH) (n : Nat) (k : KP) : Prop := List.rec True (fun π _ ih => oU ops (sd ops.toList π.2) call σ H n k ∧ ih) πs
def xT (ops : Array Oper) (m : Nat) : Bool := jV ops && (CN (nX ops.toList 0 []) ops && (List.range ops.size).all fun i => Nat.blt i m || (List.range i).all fun j => nY (nX ops.toList 0 []) j i)
noncomputable def Fj (ops : Array Oper) (bs : List DB) (call cd : CP) (σ : AE) (H : AH) (n : Nat) (k : KP) : Prop := match CT bs with
  | true => HT ops bs.tail call σ H n k
  | false => (match Nat.blt bs.length ops.size with
    | true => CL (AL ops bs.length) (AL ops bs.length).toList bs cd [] σ H n fun σ H n => oU ops (ops.toList.drop bs.length) call σ H n k
    | false => CL ops ops.toList bs cd [] σ H n k)
def yX (P : Program) (ops : Array Oper) (bs : List DB) : Bool := match CT bs with
  | true => CS P ops bs
  | false => (match Nat.blt bs.length ops.size with
    | true => qh (AL ops bs.length) bs && xT ops bs.length
    | false => qh ops bs)
noncomputable def jk (D : DT) (c : Code) : Bool := Code.rec (motive := fun _ => Bool)
  true
  (fun id ops draw => Bool.rec true (Option.rec (ve Try.prog ops) (fun bs => yX Try.prog ops bs) (findD D id)) draw)
  (fun _ _ a b => Bool.rec false b a)
  (fun _ _ _ a b => Bool.rec false b a)
  (fun _ _ b => b)
  (fun _ b => b)
  (fun _ _ _ _ _ _ => true)
  (fun _ => true)
  (fun _ b => b)
  (fun _ => true)
  (fun _ => true)
  true
  (fun _ => true) c
noncomputable def HU (c : Code) : Option Nat := Code.rec (motive := fun _ => Option Nat) none (fun id _ _ => some id) (fun _ _ a _ => a) (fun _ _ _ _ _ => none) (fun _ _ b => b) (fun _ b => b) (fun _ _ _ _ _ _ => none) (fun _ => none) (fun _ b => b) (fun _ => none) (fun _ => none) none (fun _ => none) c
noncomputable def xU (D : DT) (c : Code) : Bool := List.rec false (fun x l _ => Option.rec false (fun id => Option.rec false (fun _ => true) (findD (x :: l) (id + 1000000))) (HU c)) D
noncomputable def gK (p : Nat) (cd : CP) (D : DT) (c : Code) : XP := Code.rec (motive := fun _ => XP)
  (fun _ σ H n kn _ _ => kn σ H n)
  (fun id ops draw => Bool.rec (fun call σ H n kn _ _ => AQ ops ops.toList call σ H n kn) (Option.rec (fun call σ H n kn _ _ => oU ops ops.toList call σ H n kn) (fun bs call σ H n kn _ _ => Fj ops bs call cd σ H n kn) (findD D id)) draw)
  (fun _ bc a b call σ H n kn kx kr => Bool.rec (a call σ H n (fun σ H n => b call σ H n kn kx kr) kx kr) (yV p (fun k => a call σ H n k kx kr) (fun σ H n => b call σ H n kn kx kr)) (xU D bc))
  (fun c _ _ a b call σ H n kn kx kr => CK c σ (fun σ => a call σ H n kn kx kr) (fun σ => b call σ H n kn kx kr))
  (fun id _ b call σ H n kn kx kr => b call σ H n kn (fun i σ H n => dA (Nat.beq i id) (kn σ H n) (kx i σ H n)) kr)
  (fun _ b call σ H n _ kx kr => bg p (fun σ H n k => b call σ H n k kx kr) σ H n)
  (fun _ _ _ _ _ _ _ _ _ _ _ _ _ => False)
  (fun i _ σ H n _ kx _ => kx i σ H n)
  (fun _ b call σ H n kn kx kr => b call σ H n kn kx kr)
  (fun _ _ σ H n kn _ _ => kn σ H n)
  (fun _ _ _ _ _ _ _ _ => False)
  (fun _ σ H n _ _ kr => kr σ H n)
  (fun _ _ _ _ _ _ _ _ => False) c
noncomputable def vD (rs : List ResultVar) (σ : AE) (H : AH) (k : List AV → Prop) : Prop :=
  List.rec (fun k => k []) (fun r _ ih k => ResultVar.rec (fun t => ih fun vs => k (ay (pa t) σ :: vs)) (fun a t => oD t (ay (pa a) σ) H fun v => ih fun vs => k (v :: vs)) r) rs k
noncomputable def HV (call cd : CP) (D : DT) (c : Code) (rs : List ResultVar) (m : Nat) (args : List AV) (H : AH) (n : Nat) (κ : PK) : Prop :=
  dA (Nat.ble args.length m) (gK n cd D c call (p5 args 0 .nil) H n (fun σ H n => vD rs σ H fun vs => κ (rX vs) H n) (fun _ _ _ _ => False) (fun σ H n => vD rs σ H fun vs => κ (rX vs) H n)) False
inductive EP where
  | no
  | run (D : DT) (c : Code) (rs : List ResultVar) (m : Nat)
  | nat (g : List AV → AH → Nat → PK → Prop)
  | det (g : List AV → AH → Nat → PK → Prop)
noncomputable def qi (F : FuncId → EP) : CP := fun f args H n κ => EP.rec (fun _ _ _ _ => False) (fun _ _ _ _ _ _ _ _ => False) (fun _ _ _ _ _ => False) (fun g => g) (F f) args H n κ
noncomputable def az (F : FuncId → EP) (d : Nat) : CP := Nat.rec (fun _ _ _ _ _ => False) (fun _ ih f args H n κ => EP.rec (fun _ _ _ _ => False) (fun D c rs m => HV ih (qi F) D c rs m) (fun g => g) (fun g => g) (F f) args H n κ) d
noncomputable def yY (D : DT) (f : FuncId) : EP := match Try.prog.funcs[f]? with
  | some fn => (match fn.body with
    | some c => .run D c fn.results.toList fn.ntmps
    | none => .no)
  | none => .no
noncomputable def vE (D : DT) (f : FuncId) : Bool := match Try.prog.funcs[f]? with
  | some fn => (match fn.body with
    | some c => jk D c
    | none => false)
  | none => false
noncomputable def evP (f : FuncId) : EP := Bool.rec .no (Bool.rec .no (yY [] f) (vE [] f)) (G3 f)
end Go.Proofs.Ythjggjhebbdkdaa
