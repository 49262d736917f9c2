/- The tables of types of this seat, as closed equations (written by a program of ours). -/
import Derived.Test.YtaejmcgcfopmkaaEngEnt
namespace Go.Proofs.Ytaejmcgcfopmkaa
open Go
@[go_sem] theorem tab.sz2 : tySize Try.prog 2 = some 1 := by kernel_rfl
@[go_sem] theorem tab.by2 : tyBytes Try.prog 2 = some 8 := by kernel_rfl
@[go_sem] theorem tab.ze2 : tyZero Try.prog 2 = some (Go.Value.int Go.IntKind.i64 0) := by kernel_rfl
@[go_sem] theorem tab.un2 : Program.underlying Try.prog 2 = some (Go.TypeDesc.int Go.IntKind.i64) := by kernel_rfl
@[go_sem] theorem tab.ag2 : tyAgg Try.prog 2 = some false := by kernel_rfl
@[go_sem] theorem tab.sz3 : tySize Try.prog 3 = some 1 := by kernel_rfl
@[go_sem] theorem tab.by3 : tyBytes Try.prog 3 = some 8 := by kernel_rfl
@[go_sem] theorem tab.ze3 : tyZero Try.prog 3 = some (Go.Value.int Go.IntKind.i64 0) := by kernel_rfl
@[go_sem] theorem tab.un3 : Program.underlying Try.prog 3 = some (Go.TypeDesc.int Go.IntKind.i64) := by kernel_rfl
@[go_sem] theorem tab.ag3 : tyAgg Try.prog 3 = some false := by kernel_rfl
@[go_sem] theorem tab.sz4 : tySize Try.prog 4 = some 1 := by kernel_rfl
@[go_sem] theorem tab.by4 : tyBytes Try.prog 4 = some 1 := by kernel_rfl
@[go_sem] theorem tab.ze4 : tyZero Try.prog 4 = some (Go.Value.bool false) := by kernel_rfl
@[go_sem] theorem tab.un4 : Program.underlying Try.prog 4 = some Go.TypeDesc.bool := by kernel_rfl
@[go_sem] theorem tab.ag4 : tyAgg Try.prog 4 = some false := by kernel_rfl
@[go_sem] theorem tab.sz5 : tySize Try.prog 5 = some 1 := by kernel_rfl
@[go_sem] theorem tab.by5 : tyBytes Try.prog 5 = some 1 := by kernel_rfl
@[go_sem] theorem tab.ze5 : tyZero Try.prog 5 = some (Go.Value.int Go.IntKind.u8 0) := by kernel_rfl
@[go_sem] theorem tab.un5 : Program.underlying Try.prog 5 = some (Go.TypeDesc.int Go.IntKind.u8) := by kernel_rfl
@[go_sem] theorem tab.ag5 : tyAgg Try.prog 5 = some false := by kernel_rfl
@[go_sem] theorem tab.sz6 : tySize Try.prog 6 = some 1 := by kernel_rfl
@[go_sem] theorem tab.by6 : tyBytes Try.prog 6 = some 1 := by kernel_rfl
@[go_sem] theorem tab.ze6 : tyZero Try.prog 6 = some (Go.Value.int Go.IntKind.u8 0) := by kernel_rfl
@[go_sem] theorem tab.un6 : Program.underlying Try.prog 6 = some (Go.TypeDesc.int Go.IntKind.u8) := by kernel_rfl
@[go_sem] theorem tab.ag6 : tyAgg Try.prog 6 = some false := by kernel_rfl
@[go_sem] theorem tab.sz7 : tySize Try.prog 7 = some 4 := by kernel_rfl
@[go_sem] theorem tab.by7 : tyBytes Try.prog 7 = some 24 := by kernel_rfl
@[go_sem] theorem tab.ze7 : tyZero Try.prog 7 = some (Go.Value.agg #[(Go.Value.int Go.IntKind.i64 0), (Go.Value.int Go.IntKind.i64 0), (Go.Value.bool false), (Go.Value.int Go.IntKind.u8 0)]) := by kernel_rfl
@[go_sem] theorem tab.un7 : Program.underlying Try.prog 7 = some (Go.TypeDesc.struct #[{ name := "x", type := 2, offset := 0, embedded := false, tag := "", pkgPath := "runtime", byteOffset := 0 }, { name := "y", type := 3, offset := 1, embedded := false, tag := "", pkgPath := "runtime", byteOffset := 8 }, { name := "signed", type := 4, offset := 2, embedded := false, tag := "", pkgPath := "runtime", byteOffset := 16 }, { name := "code", type := 6, offset := 3, embedded := false, tag := "", pkgPath := "runtime", byteOffset := 17 }]) := by kernel_rfl
@[go_sem] theorem tab.ag7 : tyAgg Try.prog 7 = some true := by kernel_rfl
@[go_sem] theorem tab.eq7 : eqPlan Try.prog 7 = some [(0, 0), (0, 1), (2, 2), (0, 3)] := by kernel_rfl
@[go_sem] theorem tab.fi7_0 : tyField Try.prog 7 0 = some (2, 0) := by kernel_rfl
@[go_sem] theorem tab.fi7_1 : tyField Try.prog 7 1 = some (3, 1) := by kernel_rfl
@[go_sem] theorem tab.fi7_2 : tyField Try.prog 7 2 = some (4, 2) := by kernel_rfl
@[go_sem] theorem tab.fi7_3 : tyField Try.prog 7 3 = some (6, 3) := by kernel_rfl
@[go_sem] theorem tab.sz8 : tySize Try.prog 8 = some 4 := by kernel_rfl
@[go_sem] theorem tab.by8 : tyBytes Try.prog 8 = some 24 := by kernel_rfl
@[go_sem] theorem tab.ze8 : tyZero Try.prog 8 = some (Go.Value.agg #[(Go.Value.int Go.IntKind.i64 0), (Go.Value.int Go.IntKind.i64 0), (Go.Value.bool false), (Go.Value.int Go.IntKind.u8 0)]) := by kernel_rfl
@[go_sem] theorem tab.un8 : Program.underlying Try.prog 8 = some (Go.TypeDesc.struct #[{ name := "x", type := 2, offset := 0, embedded := false, tag := "", pkgPath := "runtime", byteOffset := 0 }, { name := "y", type := 3, offset := 1, embedded := false, tag := "", pkgPath := "runtime", byteOffset := 8 }, { name := "signed", type := 4, offset := 2, embedded := false, tag := "", pkgPath := "runtime", byteOffset := 16 }, { name := "code", type := 6, offset := 3, embedded := false, tag := "", pkgPath := "runtime", byteOffset := 17 }]) := by kernel_rfl
@[go_sem] theorem tab.ag8 : tyAgg Try.prog 8 = some true := by kernel_rfl
@[go_sem] theorem tab.eq8 : eqPlan Try.prog 8 = some [(0, 0), (0, 1), (2, 2), (0, 3)] := by kernel_rfl
@[go_sem] theorem tab.fi8_0 : tyField Try.prog 8 0 = some (2, 0) := by kernel_rfl
@[go_sem] theorem tab.fi8_1 : tyField Try.prog 8 1 = some (3, 1) := by kernel_rfl
@[go_sem] theorem tab.fi8_2 : tyField Try.prog 8 2 = some (4, 2) := by kernel_rfl
@[go_sem] theorem tab.fi8_3 : tyField Try.prog 8 3 = some (6, 3) := by kernel_rfl
@[go_sem] theorem tab.sz9 : tySize Try.prog 9 = some 1 := by kernel_rfl
@[go_sem] theorem tab.by9 : tyBytes Try.prog 9 = some 16 := by kernel_rfl
@[go_sem] theorem tab.ze9 : tyZero Try.prog 9 = some (Go.Value.string { data := #[] }) := by kernel_rfl
@[go_sem] theorem tab.un9 : Program.underlying Try.prog 9 = some Go.TypeDesc.string := by kernel_rfl
@[go_sem] theorem tab.ag9 : tyAgg Try.prog 9 = some false := by kernel_rfl
@[go_sem] theorem tab.sz10 : tySize Try.prog 10 = some 1 := by kernel_rfl
@[go_sem] theorem tab.by10 : tyBytes Try.prog 10 = some 16 := by kernel_rfl
@[go_sem] theorem tab.ze10 : tyZero Try.prog 10 = some (Go.Value.string { data := #[] }) := by kernel_rfl
@[go_sem] theorem tab.un10 : Program.underlying Try.prog 10 = some Go.TypeDesc.string := by kernel_rfl
@[go_sem] theorem tab.ag10 : tyAgg Try.prog 10 = some false := by kernel_rfl
@[go_sem] theorem tab.sz11 : tySize Try.prog 11 = some 1 := by kernel_rfl
@[go_sem] theorem tab.by11 : tyBytes Try.prog 11 = some 16 := by kernel_rfl
@[go_sem] theorem tab.ze11 : tyZero Try.prog 11 = some (Go.Value.string { data := #[] }) := by kernel_rfl
@[go_sem] theorem tab.un11 : Program.underlying Try.prog 11 = some Go.TypeDesc.string := by kernel_rfl
@[go_sem] theorem tab.ag11 : tyAgg Try.prog 11 = some false := by kernel_rfl
@[go_sem] theorem tab.sz12 : tySize Try.prog 12 = some 1 := by kernel_rfl
@[go_sem] theorem tab.by12 : tyBytes Try.prog 12 = some 8 := by kernel_rfl
@[go_sem] theorem tab.ze12 : tyZero Try.prog 12 = some (Go.Value.int Go.IntKind.u64 0) := by kernel_rfl
@[go_sem] theorem tab.un12 : Program.underlying Try.prog 12 = some (Go.TypeDesc.int Go.IntKind.u64) := by kernel_rfl
@[go_sem] theorem tab.ag12 : tyAgg Try.prog 12 = some false := by kernel_rfl
@[go_sem] theorem tab.sz13 : tySize Try.prog 13 = some 2 := by kernel_rfl
@[go_sem] theorem tab.by13 : tyBytes Try.prog 13 = some 24 := by kernel_rfl
@[go_sem] theorem tab.ze13 : tyZero Try.prog 13 = some (Go.Value.agg #[(Go.Value.string { data := #[] }), (Go.Value.int Go.IntKind.u64 0)]) := by kernel_rfl
@[go_sem] theorem tab.un13 : Program.underlying Try.prog 13 = some (Go.TypeDesc.struct #[{ name := "msg", type := 9, offset := 0, embedded := false, tag := "", pkgPath := "runtime", byteOffset := 0 }, { name := "addr", type := 12, offset := 1, embedded := false, tag := "", pkgPath := "runtime", byteOffset := 16 }]) := by kernel_rfl
@[go_sem] theorem tab.ag13 : tyAgg Try.prog 13 = some true := by kernel_rfl
@[go_sem] theorem tab.fi13_0 : tyField Try.prog 13 0 = some (9, 0) := by kernel_rfl
@[go_sem] theorem tab.fi13_1 : tyField Try.prog 13 1 = some (12, 1) := by kernel_rfl
@[go_sem] theorem tab.sz14 : tySize Try.prog 14 = some 2 := by kernel_rfl
@[go_sem] theorem tab.by14 : tyBytes Try.prog 14 = some 24 := by kernel_rfl
@[go_sem] theorem tab.ze14 : tyZero Try.prog 14 = some (Go.Value.agg #[(Go.Value.string { data := #[] }), (Go.Value.int Go.IntKind.u64 0)]) := by kernel_rfl
@[go_sem] theorem tab.un14 : Program.underlying Try.prog 14 = some (Go.TypeDesc.struct #[{ name := "msg", type := 9, offset := 0, embedded := false, tag := "", pkgPath := "runtime", byteOffset := 0 }, { name := "addr", type := 12, offset := 1, embedded := false, tag := "", pkgPath := "runtime", byteOffset := 16 }]) := by kernel_rfl
@[go_sem] theorem tab.ag14 : tyAgg Try.prog 14 = some true := by kernel_rfl
@[go_sem] theorem tab.fi14_0 : tyField Try.prog 14 0 = some (9, 0) := by kernel_rfl
@[go_sem] theorem tab.fi14_1 : tyField Try.prog 14 1 = some (12, 1) := by kernel_rfl
@[go_sem] theorem tab.sz15 : tySize Try.prog 15 = some 1 := by kernel_rfl
@[go_sem] theorem tab.by15 : tyBytes Try.prog 15 = some 8 := by kernel_rfl
@[go_sem] theorem tab.ze15 : tyZero Try.prog 15 = some (Go.Value.pointer none) := by kernel_rfl
@[go_sem] theorem tab.un15 : Program.underlying Try.prog 15 = some (Go.TypeDesc.pointer 68) := by kernel_rfl
@[go_sem] theorem tab.ag15 : tyAgg Try.prog 15 = some false := by kernel_rfl
@[go_sem] theorem tab.sz16 : tySize Try.prog 16 = some 1 := by kernel_rfl
@[go_sem] theorem tab.by16 : tyBytes Try.prog 16 = some 8 := by kernel_rfl
@[go_sem] theorem tab.ze16 : tyZero Try.prog 16 = some (Go.Value.pointer none) := by kernel_rfl
@[go_sem] theorem tab.un16 : Program.underlying Try.prog 16 = some (Go.TypeDesc.pointer 71) := by kernel_rfl
@[go_sem] theorem tab.ag16 : tyAgg Try.prog 16 = some false := by kernel_rfl
@[go_sem] theorem tab.sz17 : tySize Try.prog 17 = some 1 := by kernel_rfl
@[go_sem] theorem tab.by17 : tyBytes Try.prog 17 = some 8 := by kernel_rfl
@[go_sem] theorem tab.ze17 : tyZero Try.prog 17 = some (Go.Value.pointer none) := by kernel_rfl
@[go_sem] theorem tab.un17 : Program.underlying Try.prog 17 = some (Go.TypeDesc.pointer 80) := by kernel_rfl
@[go_sem] theorem tab.ag17 : tyAgg Try.prog 17 = some false := by kernel_rfl
@[go_sem] theorem tab.sz18 : tySize Try.prog 18 = some 1 := by kernel_rfl
@[go_sem] theorem tab.by18 : tyBytes Try.prog 18 = some 8 := by kernel_rfl
@[go_sem] theorem tab.ze18 : tyZero Try.prog 18 = some (Go.Value.agg #[(Go.Value.pointer none)]) := by kernel_rfl
@[go_sem] theorem tab.un18 : Program.underlying Try.prog 18 = some (Go.TypeDesc.struct #[{ name := "typ", type := 17, offset := 0, embedded := false, tag := "", pkgPath := "internal/runtime/maps", byteOffset := 0 }]) := by kernel_rfl
@[go_sem] theorem tab.ag18 : tyAgg Try.prog 18 = some true := by kernel_rfl
@[go_sem] theorem tab.fi18_0 : tyField Try.prog 18 0 = some (17, 0) := by kernel_rfl
@[go_sem] theorem tab.sz19 : tySize Try.prog 19 = some 1 := by kernel_rfl
@[go_sem] theorem tab.by19 : tyBytes Try.prog 19 = some 8 := by kernel_rfl
@[go_sem] theorem tab.ze19 : tyZero Try.prog 19 = some (Go.Value.agg #[(Go.Value.pointer none)]) := by kernel_rfl
@[go_sem] theorem tab.un19 : Program.underlying Try.prog 19 = some (Go.TypeDesc.struct #[{ name := "typ", type := 17, offset := 0, embedded := false, tag := "", pkgPath := "internal/runtime/maps", byteOffset := 0 }]) := by kernel_rfl
@[go_sem] theorem tab.ag19 : tyAgg Try.prog 19 = some true := by kernel_rfl
@[go_sem] theorem tab.fi19_0 : tyField Try.prog 19 0 = some (17, 0) := by kernel_rfl
@[go_sem] theorem tab.sz20 : tySize Try.prog 20 = some 1 := by kernel_rfl
@[go_sem] theorem tab.by20 : tyBytes Try.prog 20 = some 16 := by kernel_rfl
@[go_sem] theorem tab.ze20 : tyZero Try.prog 20 = some Go.Value.nilIface := by kernel_rfl
@[go_sem] theorem tab.ag20 : tyAgg Try.prog 20 = some false := by kernel_rfl
@[go_sem] theorem tab.sz21 : tySize Try.prog 21 = some 1 := by kernel_rfl
@[go_sem] theorem tab.by21 : tyBytes Try.prog 21 = some 4 := by kernel_rfl
@[go_sem] theorem tab.ze21 : tyZero Try.prog 21 = some (Go.Value.int Go.IntKind.i32 0) := by kernel_rfl
@[go_sem] theorem tab.un21 : Program.underlying Try.prog 21 = some (Go.TypeDesc.int Go.IntKind.i32) := by kernel_rfl
@[go_sem] theorem tab.ag21 : tyAgg Try.prog 21 = some false := by kernel_rfl
@[go_sem] theorem tab.sz22 : tySize Try.prog 22 = some 3 := by kernel_rfl
@[go_sem] theorem tab.by22 : tyBytes Try.prog 22 = some 24 := by kernel_rfl
@[go_sem] theorem tab.ze22 : tyZero Try.prog 22 = some (Go.Value.agg #[(Go.Value.int Go.IntKind.i64 0), (Go.Value.int Go.IntKind.i64 0), (Go.Value.int Go.IntKind.i64 0)]) := by kernel_rfl
@[go_sem] theorem tab.un22 : Program.underlying Try.prog 22 = some (Go.TypeDesc.array 3 3) := by kernel_rfl
@[go_sem] theorem tab.ag22 : tyAgg Try.prog 22 = some true := by kernel_rfl
@[go_sem] theorem tab.sz24 : tySize Try.prog 24 = some 1 := by kernel_rfl
@[go_sem] theorem tab.by24 : tyBytes Try.prog 24 = some 8 := by kernel_rfl
@[go_sem] theorem tab.ze24 : tyZero Try.prog 24 = some (Go.Value.int Go.IntKind.i64 0) := by kernel_rfl
@[go_sem] theorem tab.un24 : Program.underlying Try.prog 24 = some (Go.TypeDesc.int Go.IntKind.i64) := by kernel_rfl
@[go_sem] theorem tab.ag24 : tyAgg Try.prog 24 = some false := by kernel_rfl
@[go_sem] theorem tab.sz31 : tySize Try.prog 31 = some 1 := by kernel_rfl
@[go_sem] theorem tab.by31 : tyBytes Try.prog 31 = some 24 := by kernel_rfl
@[go_sem] theorem tab.ze31 : tyZero Try.prog 31 = some (Go.Value.slice none 0 0) := by kernel_rfl
@[go_sem] theorem tab.un31 : Program.underlying Try.prog 31 = some (Go.TypeDesc.slice 39) := by kernel_rfl
@[go_sem] theorem tab.ag31 : tyAgg Try.prog 31 = some false := by kernel_rfl
@[go_sem] theorem tab.sz32 : tySize Try.prog 32 = some 1 := by kernel_rfl
@[go_sem] theorem tab.by32 : tyBytes Try.prog 32 = some 8 := by kernel_rfl
@[go_sem] theorem tab.ze32 : tyZero Try.prog 32 = some (Go.Value.pointer none) := by kernel_rfl
@[go_sem] theorem tab.un32 : Program.underlying Try.prog 32 = some (Go.TypeDesc.pointer 54) := by kernel_rfl
@[go_sem] theorem tab.ag32 : tyAgg Try.prog 32 = some false := by kernel_rfl
@[go_sem] theorem tab.sz38 : tySize Try.prog 38 = some 2 := by kernel_rfl
@[go_sem] theorem tab.by38 : tyBytes Try.prog 38 = some 16 := by kernel_rfl
@[go_sem] theorem tab.ze38 : tyZero Try.prog 38 = some (Go.Value.agg #[(Go.Value.int Go.IntKind.i64 0), (Go.Value.int Go.IntKind.i64 0)]) := by kernel_rfl
@[go_sem] theorem tab.un38 : Program.underlying Try.prog 38 = some (Go.TypeDesc.struct #[{ name := "T", type := 3, offset := 0, embedded := false, tag := "", pkgPath := "", byteOffset := 0 }, { name := "V", type := 3, offset := 1, embedded := false, tag := "", pkgPath := "", byteOffset := 8 }]) := by kernel_rfl
@[go_sem] theorem tab.ag38 : tyAgg Try.prog 38 = some true := by kernel_rfl
@[go_sem] theorem tab.eq38 : eqPlan Try.prog 38 = some [(0, 0), (0, 1)] := by kernel_rfl
@[go_sem] theorem tab.fi38_0 : tyField Try.prog 38 0 = some (3, 0) := by kernel_rfl
@[go_sem] theorem tab.fi38_1 : tyField Try.prog 38 1 = some (3, 1) := by kernel_rfl
@[go_sem] theorem tab.sz39 : tySize Try.prog 39 = some 2 := by kernel_rfl
@[go_sem] theorem tab.by39 : tyBytes Try.prog 39 = some 16 := by kernel_rfl
@[go_sem] theorem tab.ze39 : tyZero Try.prog 39 = some (Go.Value.agg #[(Go.Value.int Go.IntKind.i64 0), (Go.Value.int Go.IntKind.i64 0)]) := by kernel_rfl
@[go_sem] theorem tab.un39 : Program.underlying Try.prog 39 = some (Go.TypeDesc.struct #[{ name := "T", type := 3, offset := 0, embedded := false, tag := "", pkgPath := "", byteOffset := 0 }, { name := "V", type := 3, offset := 1, embedded := false, tag := "", pkgPath := "", byteOffset := 8 }]) := by kernel_rfl
@[go_sem] theorem tab.ag39 : tyAgg Try.prog 39 = some true := by kernel_rfl
@[go_sem] theorem tab.eq39 : eqPlan Try.prog 39 = some [(0, 0), (0, 1)] := by kernel_rfl
@[go_sem] theorem tab.fi39_0 : tyField Try.prog 39 0 = some (3, 0) := by kernel_rfl
@[go_sem] theorem tab.fi39_1 : tyField Try.prog 39 1 = some (3, 1) := by kernel_rfl
@[go_sem] theorem tab.sz43 : tySize Try.prog 43 = some 2 := by kernel_rfl
@[go_sem] theorem tab.by43 : tyBytes Try.prog 43 = some 16 := by kernel_rfl
@[go_sem] theorem tab.ze43 : tyZero Try.prog 43 = some (Go.Value.agg #[(Go.Value.int Go.IntKind.i64 0), (Go.Value.int Go.IntKind.i64 0)]) := by kernel_rfl
@[go_sem] theorem tab.un43 : Program.underlying Try.prog 43 = some (Go.TypeDesc.array 2 3) := by kernel_rfl
@[go_sem] theorem tab.ag43 : tyAgg Try.prog 43 = some true := by kernel_rfl
@[go_sem] theorem tab.sz48 : tySize Try.prog 48 = some 2 := by kernel_rfl
@[go_sem] theorem tab.by48 : tyBytes Try.prog 48 = some 2 := by kernel_rfl
@[go_sem] theorem tab.ze48 : tyZero Try.prog 48 = some (Go.Value.agg #[(Go.Value.int Go.IntKind.u8 0), (Go.Value.int Go.IntKind.u8 0)]) := by kernel_rfl
@[go_sem] theorem tab.un48 : Program.underlying Try.prog 48 = some (Go.TypeDesc.array 2 5) := by kernel_rfl
@[go_sem] theorem tab.ag48 : tyAgg Try.prog 48 = some true := by kernel_rfl
@[go_sem] theorem tab.sz53 : tySize Try.prog 53 = some 8 := by kernel_rfl
@[go_sem] theorem tab.by53 : tyBytes Try.prog 53 = some 64 := by kernel_rfl
@[go_sem] theorem tab.ze53 : tyZero Try.prog 53 = some (Go.Value.agg #[(Go.Value.int Go.IntKind.i64 0), (Go.Value.int Go.IntKind.i64 0), (Go.Value.int Go.IntKind.i64 0), (Go.Value.int Go.IntKind.i64 0), (Go.Value.int Go.IntKind.i64 0), (Go.Value.int Go.IntKind.i64 0), (Go.Value.int Go.IntKind.i64 0), (Go.Value.int Go.IntKind.i64 0)]) := by kernel_rfl
@[go_sem] theorem tab.un53 : Program.underlying Try.prog 53 = some (Go.TypeDesc.struct #[{ name := "kind", type := 3, offset := 0, embedded := false, tag := "", pkgPath := "tachograph/agg", byteOffset := 0 }, { name := "n", type := 3, offset := 1, embedded := false, tag := "", pkgPath := "tachograph/agg", byteOffset := 8 }, { name := "sum", type := 3, offset := 2, embedded := false, tag := "", pkgPath := "tachograph/agg", byteOffset := 16 }, { name := "least", type := 3, offset := 3, embedded := false, tag := "", pkgPath := "tachograph/agg", byteOffset := 24 }, { name := "great", type := 3, offset := 4, embedded := false, tag := "", pkgPath := "tachograph/agg", byteOffset := 32 }, { name := "first", type := 3, offset := 5, embedded := false, tag := "", pkgPath := "tachograph/agg", byteOffset := 40 }, { name := "last", type := 3, offset := 6, embedded := false, tag := "", pkgPath := "tachograph/agg", byteOffset := 48 }, { name := "spare", type := 3, offset := 7, embedded := false, tag := "", pkgPath := "tachograph/agg", byteOffset := 56 }]) := by kernel_rfl
@[go_sem] theorem tab.ag53 : tyAgg Try.prog 53 = some true := by kernel_rfl
@[go_sem] theorem tab.eq53 : eqPlan Try.prog 53 = some [(0, 0), (0, 1), (0, 2), (0, 3), (0, 4), (0, 5), (0, 6), (0, 7)] := by kernel_rfl
@[go_sem] theorem tab.fi53_0 : tyField Try.prog 53 0 = some (3, 0) := by kernel_rfl
@[go_sem] theorem tab.fi53_1 : tyField Try.prog 53 1 = some (3, 1) := by kernel_rfl
@[go_sem] theorem tab.fi53_2 : tyField Try.prog 53 2 = some (3, 2) := by kernel_rfl
@[go_sem] theorem tab.fi53_3 : tyField Try.prog 53 3 = some (3, 3) := by kernel_rfl
@[go_sem] theorem tab.fi53_4 : tyField Try.prog 53 4 = some (3, 4) := by kernel_rfl
@[go_sem] theorem tab.fi53_5 : tyField Try.prog 53 5 = some (3, 5) := by kernel_rfl
@[go_sem] theorem tab.fi53_6 : tyField Try.prog 53 6 = some (3, 6) := by kernel_rfl
@[go_sem] theorem tab.fi53_7 : tyField Try.prog 53 7 = some (3, 7) := by kernel_rfl
@[go_sem] theorem tab.sz54 : tySize Try.prog 54 = some 8 := by kernel_rfl
@[go_sem] theorem tab.by54 : tyBytes Try.prog 54 = some 64 := by kernel_rfl
@[go_sem] theorem tab.ze54 : tyZero Try.prog 54 = some (Go.Value.agg #[(Go.Value.int Go.IntKind.i64 0), (Go.Value.int Go.IntKind.i64 0), (Go.Value.int Go.IntKind.i64 0), (Go.Value.int Go.IntKind.i64 0), (Go.Value.int Go.IntKind.i64 0), (Go.Value.int Go.IntKind.i64 0), (Go.Value.int Go.IntKind.i64 0), (Go.Value.int Go.IntKind.i64 0)]) := by kernel_rfl
@[go_sem] theorem tab.un54 : Program.underlying Try.prog 54 = some (Go.TypeDesc.struct #[{ name := "kind", type := 3, offset := 0, embedded := false, tag := "", pkgPath := "tachograph/agg", byteOffset := 0 }, { name := "n", type := 3, offset := 1, embedded := false, tag := "", pkgPath := "tachograph/agg", byteOffset := 8 }, { name := "sum", type := 3, offset := 2, embedded := false, tag := "", pkgPath := "tachograph/agg", byteOffset := 16 }, { name := "least", type := 3, offset := 3, embedded := false, tag := "", pkgPath := "tachograph/agg", byteOffset := 24 }, { name := "great", type := 3, offset := 4, embedded := false, tag := "", pkgPath := "tachograph/agg", byteOffset := 32 }, { name := "first", type := 3, offset := 5, embedded := false, tag := "", pkgPath := "tachograph/agg", byteOffset := 40 }, { name := "last", type := 3, offset := 6, embedded := false, tag := "", pkgPath := "tachograph/agg", byteOffset := 48 }, { name := "spare", type := 3, offset := 7, embedded := false, tag := "", pkgPath := "tachograph/agg", byteOffset := 56 }]) := by kernel_rfl
@[go_sem] theorem tab.ag54 : tyAgg Try.prog 54 = some true := by kernel_rfl
@[go_sem] theorem tab.eq54 : eqPlan Try.prog 54 = some [(0, 0), (0, 1), (0, 2), (0, 3), (0, 4), (0, 5), (0, 6), (0, 7)] := by kernel_rfl
@[go_sem] theorem tab.fi54_0 : tyField Try.prog 54 0 = some (3, 0) := by kernel_rfl
@[go_sem] theorem tab.fi54_1 : tyField Try.prog 54 1 = some (3, 1) := by kernel_rfl
@[go_sem] theorem tab.fi54_2 : tyField Try.prog 54 2 = some (3, 2) := by kernel_rfl
@[go_sem] theorem tab.fi54_3 : tyField Try.prog 54 3 = some (3, 3) := by kernel_rfl
@[go_sem] theorem tab.fi54_4 : tyField Try.prog 54 4 = some (3, 4) := by kernel_rfl
@[go_sem] theorem tab.fi54_5 : tyField Try.prog 54 5 = some (3, 5) := by kernel_rfl
@[go_sem] theorem tab.fi54_6 : tyField Try.prog 54 6 = some (3, 6) := by kernel_rfl
@[go_sem] theorem tab.fi54_7 : tyField Try.prog 54 7 = some (3, 7) := by kernel_rfl
@[go_sem] theorem tab.sz55 : tySize Try.prog 55 = some 8 := by kernel_rfl
@[go_sem] theorem tab.by55 : tyBytes Try.prog 55 = some 128 := by kernel_rfl
@[go_sem] theorem tab.ze55 : tyZero Try.prog 55 = some (Go.Value.agg #[(Go.Value.string { data := #[] }), (Go.Value.string { data := #[] }), (Go.Value.string { data := #[] }), (Go.Value.string { data := #[] }), (Go.Value.string { data := #[] }), (Go.Value.string { data := #[] }), (Go.Value.string { data := #[] }), (Go.Value.string { data := #[] })]) := by kernel_rfl
@[go_sem] theorem tab.un55 : Program.underlying Try.prog 55 = some (Go.TypeDesc.array 8 9) := by kernel_rfl
@[go_sem] theorem tab.ag55 : tyAgg Try.prog 55 = some true := by kernel_rfl
@[go_sem] theorem tab.sz58 : tySize Try.prog 58 = some 1 := by kernel_rfl
@[go_sem] theorem tab.by58 : tyBytes Try.prog 58 = some 24 := by kernel_rfl
@[go_sem] theorem tab.ze58 : tyZero Try.prog 58 = some (Go.Value.slice none 0 0) := by kernel_rfl
@[go_sem] theorem tab.un58 : Program.underlying Try.prog 58 = some (Go.TypeDesc.slice 9) := by kernel_rfl
@[go_sem] theorem tab.ag58 : tyAgg Try.prog 58 = some false := by kernel_rfl
@[go_sem] theorem tab.sz60 : tySize Try.prog 60 = some 1 := by kernel_rfl
@[go_sem] theorem tab.by60 : tyBytes Try.prog 60 = some 24 := by kernel_rfl
@[go_sem] theorem tab.ze60 : tyZero Try.prog 60 = some (Go.Value.slice none 0 0) := by kernel_rfl
@[go_sem] theorem tab.un60 : Program.underlying Try.prog 60 = some (Go.TypeDesc.slice 3) := by kernel_rfl
@[go_sem] theorem tab.ag60 : tyAgg Try.prog 60 = some false := by kernel_rfl
@[go_sem] theorem tab.sz63 : tySize Try.prog 63 = some 1 := by kernel_rfl
@[go_sem] theorem tab.by63 : tyBytes Try.prog 63 = some 8 := by kernel_rfl
@[go_sem] theorem tab.ze63 : tyZero Try.prog 63 = some (Go.Value.map none) := by kernel_rfl
@[go_sem] theorem tab.mk63 : mapKind Try.prog 63 = some (3, (Go.TypeDesc.int Go.IntKind.i64), 41) := by kernel_rfl
@[go_sem] theorem tab.un63 : Program.underlying Try.prog 63 = some (Go.TypeDesc.map 3 41) := by kernel_rfl
@[go_sem] theorem tab.ag63 : tyAgg Try.prog 63 = some false := by kernel_rfl
@[go_sem] theorem tab.sz64 : tySize Try.prog 64 = some 1 := by kernel_rfl
@[go_sem] theorem tab.by64 : tyBytes Try.prog 64 = some 24 := by kernel_rfl
@[go_sem] theorem tab.ze64 : tyZero Try.prog 64 = some (Go.Value.slice none 0 0) := by kernel_rfl
@[go_sem] theorem tab.un64 : Program.underlying Try.prog 64 = some (Go.TypeDesc.slice 5) := by kernel_rfl
@[go_sem] theorem tab.ag64 : tyAgg Try.prog 64 = some false := by kernel_rfl
@[go_sem] theorem tab.sz67 : tySize Try.prog 67 = some 4 := by kernel_rfl
@[go_sem] theorem tab.by67 : tyBytes Try.prog 67 = some 40 := by kernel_rfl
@[go_sem] theorem tab.ze67 : tyZero Try.prog 67 = some (Go.Value.agg #[(Go.Value.pointer none), (Go.Value.pointer none), (Go.Value.pointer none), (Go.Value.string { data := #[] })]) := by kernel_rfl
@[go_sem] theorem tab.un67 : Program.underlying Try.prog 67 = some (Go.TypeDesc.struct #[{ name := "_interface", type := 17, offset := 0, embedded := false, tag := "", pkgPath := "runtime", byteOffset := 0 }, { name := "concrete", type := 17, offset := 1, embedded := false, tag := "", pkgPath := "runtime", byteOffset := 8 }, { name := "asserted", type := 17, offset := 2, embedded := false, tag := "", pkgPath := "runtime", byteOffset := 16 }, { name := "missingMethod", type := 9, offset := 3, embedded := false, tag := "", pkgPath := "runtime", byteOffset := 24 }]) := by kernel_rfl
@[go_sem] theorem tab.ag67 : tyAgg Try.prog 67 = some true := by kernel_rfl
@[go_sem] theorem tab.fi67_0 : tyField Try.prog 67 0 = some (17, 0) := by kernel_rfl
@[go_sem] theorem tab.fi67_1 : tyField Try.prog 67 1 = some (17, 1) := by kernel_rfl
@[go_sem] theorem tab.fi67_2 : tyField Try.prog 67 2 = some (17, 2) := by kernel_rfl
@[go_sem] theorem tab.fi67_3 : tyField Try.prog 67 3 = some (9, 3) := by kernel_rfl
@[go_sem] theorem tab.sz68 : tySize Try.prog 68 = some 4 := by kernel_rfl
@[go_sem] theorem tab.by68 : tyBytes Try.prog 68 = some 40 := by kernel_rfl
@[go_sem] theorem tab.ze68 : tyZero Try.prog 68 = some (Go.Value.agg #[(Go.Value.pointer none), (Go.Value.pointer none), (Go.Value.pointer none), (Go.Value.string { data := #[] })]) := by kernel_rfl
@[go_sem] theorem tab.un68 : Program.underlying Try.prog 68 = some (Go.TypeDesc.struct #[{ name := "_interface", type := 17, offset := 0, embedded := false, tag := "", pkgPath := "runtime", byteOffset := 0 }, { name := "concrete", type := 17, offset := 1, embedded := false, tag := "", pkgPath := "runtime", byteOffset := 8 }, { name := "asserted", type := 17, offset := 2, embedded := false, tag := "", pkgPath := "runtime", byteOffset := 16 }, { name := "missingMethod", type := 9, offset := 3, embedded := false, tag := "", pkgPath := "runtime", byteOffset := 24 }]) := by kernel_rfl
@[go_sem] theorem tab.ag68 : tyAgg Try.prog 68 = some true := by kernel_rfl
@[go_sem] theorem tab.fi68_0 : tyField Try.prog 68 0 = some (17, 0) := by kernel_rfl
@[go_sem] theorem tab.fi68_1 : tyField Try.prog 68 1 = some (17, 1) := by kernel_rfl
@[go_sem] theorem tab.fi68_2 : tyField Try.prog 68 2 = some (17, 2) := by kernel_rfl
@[go_sem] theorem tab.fi68_3 : tyField Try.prog 68 3 = some (9, 3) := by kernel_rfl
@[go_sem] theorem tab.sz69 : tySize Try.prog 69 = some 0 := by kernel_rfl
@[go_sem] theorem tab.by69 : tyBytes Try.prog 69 = some 0 := by kernel_rfl
@[go_sem] theorem tab.ze69 : tyZero Try.prog 69 = some (Go.Value.agg #[]) := by kernel_rfl
@[go_sem] theorem tab.un69 : Program.underlying Try.prog 69 = some (Go.TypeDesc.array 0 16) := by kernel_rfl
@[go_sem] theorem tab.ag69 : tyAgg Try.prog 69 = some true := by kernel_rfl
@[go_sem] theorem tab.sz70 : tySize Try.prog 70 = some 0 := by kernel_rfl
@[go_sem] theorem tab.by70 : tyBytes Try.prog 70 = some 0 := by kernel_rfl
@[go_sem] theorem tab.ze70 : tyZero Try.prog 70 = some (Go.Value.agg #[]) := by kernel_rfl
@[go_sem] theorem tab.un70 : Program.underlying Try.prog 70 = some (Go.TypeDesc.struct #[{ name := "_", type := 69, offset := 0, embedded := false, tag := "", pkgPath := "runtime", byteOffset := 0 }]) := by kernel_rfl
@[go_sem] theorem tab.ag70 : tyAgg Try.prog 70 = some true := by kernel_rfl
@[go_sem] theorem tab.sz71 : tySize Try.prog 71 = some 0 := by kernel_rfl
@[go_sem] theorem tab.by71 : tyBytes Try.prog 71 = some 0 := by kernel_rfl
@[go_sem] theorem tab.ze71 : tyZero Try.prog 71 = some (Go.Value.agg #[]) := by kernel_rfl
@[go_sem] theorem tab.un71 : Program.underlying Try.prog 71 = some (Go.TypeDesc.struct #[{ name := "_", type := 69, offset := 0, embedded := false, tag := "", pkgPath := "runtime", byteOffset := 0 }]) := by kernel_rfl
@[go_sem] theorem tab.ag71 : tyAgg Try.prog 71 = some true := by kernel_rfl
@[go_sem] theorem tab.sz72 : tySize Try.prog 72 = some 1 := by kernel_rfl
@[go_sem] theorem tab.by72 : tyBytes Try.prog 72 = some 4 := by kernel_rfl
@[go_sem] theorem tab.ze72 : tyZero Try.prog 72 = some (Go.Value.int Go.IntKind.u32 0) := by kernel_rfl
@[go_sem] theorem tab.un72 : Program.underlying Try.prog 72 = some (Go.TypeDesc.int Go.IntKind.u32) := by kernel_rfl
@[go_sem] theorem tab.ag72 : tyAgg Try.prog 72 = some false := by kernel_rfl
@[go_sem] theorem tab.sz73 : tySize Try.prog 73 = some 1 := by kernel_rfl
@[go_sem] theorem tab.by73 : tyBytes Try.prog 73 = some 1 := by kernel_rfl
@[go_sem] theorem tab.ze73 : tyZero Try.prog 73 = some (Go.Value.int Go.IntKind.u8 0) := by kernel_rfl
@[go_sem] theorem tab.un73 : Program.underlying Try.prog 73 = some (Go.TypeDesc.int Go.IntKind.u8) := by kernel_rfl
@[go_sem] theorem tab.ag73 : tyAgg Try.prog 73 = some false := by kernel_rfl
@[go_sem] theorem tab.sz74 : tySize Try.prog 74 = some 1 := by kernel_rfl
@[go_sem] theorem tab.by74 : tyBytes Try.prog 74 = some 1 := by kernel_rfl
@[go_sem] theorem tab.ze74 : tyZero Try.prog 74 = some (Go.Value.int Go.IntKind.u8 0) := by kernel_rfl
@[go_sem] theorem tab.un74 : Program.underlying Try.prog 74 = some (Go.TypeDesc.int Go.IntKind.u8) := by kernel_rfl
@[go_sem] theorem tab.ag74 : tyAgg Try.prog 74 = some false := by kernel_rfl
@[go_sem] theorem tab.sz76 : tySize Try.prog 76 = some 1 := by kernel_rfl
@[go_sem] theorem tab.by76 : tyBytes Try.prog 76 = some 8 := by kernel_rfl
@[go_sem] theorem tab.ze76 : tyZero Try.prog 76 = some (Go.Value.pointer none) := by kernel_rfl
@[go_sem] theorem tab.un76 : Program.underlying Try.prog 76 = some (Go.TypeDesc.pointer 5) := by kernel_rfl
@[go_sem] theorem tab.ag76 : tyAgg Try.prog 76 = some false := by kernel_rfl
@[go_sem] theorem tab.sz77 : tySize Try.prog 77 = some 1 := by kernel_rfl
@[go_sem] theorem tab.by77 : tyBytes Try.prog 77 = some 4 := by kernel_rfl
@[go_sem] theorem tab.ze77 : tyZero Try.prog 77 = some (Go.Value.int Go.IntKind.i32 0) := by kernel_rfl
@[go_sem] theorem tab.un77 : Program.underlying Try.prog 77 = some (Go.TypeDesc.int Go.IntKind.i32) := by kernel_rfl
@[go_sem] theorem tab.ag77 : tyAgg Try.prog 77 = some false := by kernel_rfl
@[go_sem] theorem tab.sz78 : tySize Try.prog 78 = some 1 := by kernel_rfl
@[go_sem] theorem tab.by78 : tyBytes Try.prog 78 = some 4 := by kernel_rfl
@[go_sem] theorem tab.ze78 : tyZero Try.prog 78 = some (Go.Value.int Go.IntKind.i32 0) := by kernel_rfl
@[go_sem] theorem tab.un78 : Program.underlying Try.prog 78 = some (Go.TypeDesc.int Go.IntKind.i32) := by kernel_rfl
@[go_sem] theorem tab.ag78 : tyAgg Try.prog 78 = some false := by kernel_rfl
@[go_sem] theorem tab.sz79 : tySize Try.prog 79 = some 11 := by kernel_rfl
@[go_sem] theorem tab.by79 : tyBytes Try.prog 79 = some 48 := by kernel_rfl
@[go_sem] theorem tab.ze79 : tyZero Try.prog 79 = some (Go.Value.agg #[(Go.Value.int Go.IntKind.u64 0), (Go.Value.int Go.IntKind.u64 0), (Go.Value.int Go.IntKind.u32 0), (Go.Value.int Go.IntKind.u8 0), (Go.Value.int Go.IntKind.u8 0), (Go.Value.int Go.IntKind.u8 0), (Go.Value.int Go.IntKind.u8 0), Go.Value.nilFunc, (Go.Value.pointer none), (Go.Value.int Go.IntKind.i32 0), (Go.Value.int Go.IntKind.i32 0)]) := by kernel_rfl
@[go_sem] theorem tab.un79 : Program.underlying Try.prog 79 = some (Go.TypeDesc.struct #[{ name := "Size_", type := 12, offset := 0, embedded := false, tag := "", pkgPath := "", byteOffset := 0 }, { name := "PtrBytes", type := 12, offset := 1, embedded := false, tag := "", pkgPath := "", byteOffset := 8 }, { name := "Hash", type := 72, offset := 2, embedded := false, tag := "", pkgPath := "", byteOffset := 16 }, { name := "TFlag", type := 73, offset := 3, embedded := false, tag := "", pkgPath := "", byteOffset := 20 }, { name := "Align_", type := 5, offset := 4, embedded := false, tag := "", pkgPath := "", byteOffset := 21 }, { name := "FieldAlign_", type := 5, offset := 5, embedded := false, tag := "", pkgPath := "", byteOffset := 22 }, { name := "Kind_", type := 74, offset := 6, embedded := false, tag := "", pkgPath := "", byteOffset := 23 }, { name := "Equal", type := 75, offset := 7, embedded := false, tag := "", pkgPath := "", byteOffset := 24 }, { name := "GCData", type := 76, offset := 8, embedded := false, tag := "", pkgPath := "", byteOffset := 32 }, { name := "Str", type := 77, offset := 9, embedded := false, tag := "", pkgPath := "", byteOffset := 40 }, { name := "PtrToThis", type := 78, offset := 10, embedded := false, tag := "", pkgPath := "", byteOffset := 44 }]) := by kernel_rfl
@[go_sem] theorem tab.ag79 : tyAgg Try.prog 79 = some true := by kernel_rfl
@[go_sem] theorem tab.fi79_0 : tyField Try.prog 79 0 = some (12, 0) := by kernel_rfl
@[go_sem] theorem tab.fi79_1 : tyField Try.prog 79 1 = some (12, 1) := by kernel_rfl
@[go_sem] theorem tab.fi79_2 : tyField Try.prog 79 2 = some (72, 2) := by kernel_rfl
@[go_sem] theorem tab.fi79_3 : tyField Try.prog 79 3 = some (73, 3) := by kernel_rfl
@[go_sem] theorem tab.fi79_4 : tyField Try.prog 79 4 = some (5, 4) := by kernel_rfl
@[go_sem] theorem tab.fi79_5 : tyField Try.prog 79 5 = some (5, 5) := by kernel_rfl
@[go_sem] theorem tab.fi79_6 : tyField Try.prog 79 6 = some (74, 6) := by kernel_rfl
@[go_sem] theorem tab.fi79_7 : tyField Try.prog 79 7 = some (75, 7) := by kernel_rfl
@[go_sem] theorem tab.fi79_8 : tyField Try.prog 79 8 = some (76, 8) := by kernel_rfl
@[go_sem] theorem tab.fi79_9 : tyField Try.prog 79 9 = some (77, 9) := by kernel_rfl
@[go_sem] theorem tab.fi79_10 : tyField Try.prog 79 10 = some (78, 10) := by kernel_rfl
@[go_sem] theorem tab.sz80 : tySize Try.prog 80 = some 11 := by kernel_rfl
@[go_sem] theorem tab.by80 : tyBytes Try.prog 80 = some 48 := by kernel_rfl
@[go_sem] theorem tab.ze80 : tyZero Try.prog 80 = some (Go.Value.agg #[(Go.Value.int Go.IntKind.u64 0), (Go.Value.int Go.IntKind.u64 0), (Go.Value.int Go.IntKind.u32 0), (Go.Value.int Go.IntKind.u8 0), (Go.Value.int Go.IntKind.u8 0), (Go.Value.int Go.IntKind.u8 0), (Go.Value.int Go.IntKind.u8 0), Go.Value.nilFunc, (Go.Value.pointer none), (Go.Value.int Go.IntKind.i32 0), (Go.Value.int Go.IntKind.i32 0)]) := by kernel_rfl
@[go_sem] theorem tab.un80 : Program.underlying Try.prog 80 = some (Go.TypeDesc.struct #[{ name := "Size_", type := 12, offset := 0, embedded := false, tag := "", pkgPath := "", byteOffset := 0 }, { name := "PtrBytes", type := 12, offset := 1, embedded := false, tag := "", pkgPath := "", byteOffset := 8 }, { name := "Hash", type := 72, offset := 2, embedded := false, tag := "", pkgPath := "", byteOffset := 16 }, { name := "TFlag", type := 73, offset := 3, embedded := false, tag := "", pkgPath := "", byteOffset := 20 }, { name := "Align_", type := 5, offset := 4, embedded := false, tag := "", pkgPath := "", byteOffset := 21 }, { name := "FieldAlign_", type := 5, offset := 5, embedded := false, tag := "", pkgPath := "", byteOffset := 22 }, { name := "Kind_", type := 74, offset := 6, embedded := false, tag := "", pkgPath := "", byteOffset := 23 }, { name := "Equal", type := 75, offset := 7, embedded := false, tag := "", pkgPath := "", byteOffset := 24 }, { name := "GCData", type := 76, offset := 8, embedded := false, tag := "", pkgPath := "", byteOffset := 32 }, { name := "Str", type := 77, offset := 9, embedded := false, tag := "", pkgPath := "", byteOffset := 40 }, { name := "PtrToThis", type := 78, offset := 10, embedded := false, tag := "", pkgPath := "", byteOffset := 44 }]) := by kernel_rfl
@[go_sem] theorem tab.ag80 : tyAgg Try.prog 80 = some true := by kernel_rfl
@[go_sem] theorem tab.fi80_0 : tyField Try.prog 80 0 = some (12, 0) := by kernel_rfl
@[go_sem] theorem tab.fi80_1 : tyField Try.prog 80 1 = some (12, 1) := by kernel_rfl
@[go_sem] theorem tab.fi80_2 : tyField Try.prog 80 2 = some (72, 2) := by kernel_rfl
@[go_sem] theorem tab.fi80_3 : tyField Try.prog 80 3 = some (73, 3) := by kernel_rfl
@[go_sem] theorem tab.fi80_4 : tyField Try.prog 80 4 = some (5, 4) := by kernel_rfl
@[go_sem] theorem tab.fi80_5 : tyField Try.prog 80 5 = some (5, 5) := by kernel_rfl
@[go_sem] theorem tab.fi80_6 : tyField Try.prog 80 6 = some (74, 6) := by kernel_rfl
@[go_sem] theorem tab.fi80_7 : tyField Try.prog 80 7 = some (75, 7) := by kernel_rfl
@[go_sem] theorem tab.fi80_8 : tyField Try.prog 80 8 = some (76, 8) := by kernel_rfl
@[go_sem] theorem tab.fi80_9 : tyField Try.prog 80 9 = some (77, 9) := by kernel_rfl
@[go_sem] theorem tab.fi80_10 : tyField Try.prog 80 10 = some (78, 10) := by kernel_rfl
@[go_sem] theorem tab.sz81 : tySize Try.prog 81 = some 1 := by kernel_rfl
@[go_sem] theorem tab.by81 : tyBytes Try.prog 81 = some 8 := by kernel_rfl
@[go_sem] theorem tab.ze81 : tyZero Try.prog 81 = some (Go.Value.pointer none) := by kernel_rfl
@[go_sem] theorem tab.ag81 : tyAgg Try.prog 81 = some false := by kernel_rfl
@[go_sem] theorem tab.ca3 : isCall Try.prog 3 = true := by kernel_rfl
@[go_sem] theorem tab.ca4 : isCall Try.prog 4 = true := by kernel_rfl
@[go_sem] theorem tab.ca5 : isCall Try.prog 5 = true := by kernel_rfl
@[go_sem] theorem tab.ca6 : isCall Try.prog 6 = true := by kernel_rfl
@[go_sem] theorem tab.ca7 : isCall Try.prog 7 = true := by kernel_rfl
@[go_sem] theorem tab.ca8 : isCall Try.prog 8 = true := by kernel_rfl
@[go_sem] theorem tab.ca9 : isCall Try.prog 9 = true := by kernel_rfl
@[go_sem] theorem tab.ca10 : isCall Try.prog 10 = true := by kernel_rfl
@[go_sem] theorem tab.ca11 : isCall Try.prog 11 = true := by kernel_rfl
@[go_sem] theorem tab.ca12 : isCall Try.prog 12 = true := by kernel_rfl
@[go_sem] theorem tab.ca13 : isCall Try.prog 13 = true := by kernel_rfl
@[go_sem] theorem tab.ca14 : isCall Try.prog 14 = true := by kernel_rfl
@[go_sem] theorem tab.ca15 : isCall Try.prog 15 = true := by kernel_rfl
@[go_sem] theorem tab.ca16 : isCall Try.prog 16 = true := by kernel_rfl
@[go_sem] theorem tab.ca17 : isCall Try.prog 17 = true := by kernel_rfl
@[go_sem] theorem tab.ca18 : isCall Try.prog 18 = true := by kernel_rfl
@[go_sem] theorem tab.ca19 : isCall Try.prog 19 = true := by kernel_rfl
@[go_sem] theorem tab.ca20 : isCall Try.prog 20 = true := by kernel_rfl
@[go_sem] theorem tab.ca21 : isCall Try.prog 21 = true := by kernel_rfl
@[go_sem] theorem tab.ca22 : isCall Try.prog 22 = true := by kernel_rfl
@[go_sem] theorem tab.ca23 : isCall Try.prog 23 = true := by kernel_rfl
@[go_sem] theorem tab.ca24 : isCall Try.prog 24 = true := by kernel_rfl
@[go_sem] theorem tab.ca25 : isCall Try.prog 25 = true := by kernel_rfl
@[go_sem] theorem tab.ca26 : isCall Try.prog 26 = true := by kernel_rfl
@[go_sem] theorem tab.ca27 : isCall Try.prog 27 = true := by kernel_rfl
@[go_sem] theorem tab.ca28 : isCall Try.prog 28 = true := by kernel_rfl
@[go_sem] theorem tab.ca29 : isCall Try.prog 29 = true := by kernel_rfl
@[go_sem] theorem tab.ca30 : isCall Try.prog 30 = true := by kernel_rfl
@[go_sem] theorem tab.ca31 : isCall Try.prog 31 = true := by kernel_rfl
@[go_sem] theorem tab.ca32 : isCall Try.prog 32 = true := by kernel_rfl
@[go_sem] theorem tab.ca33 : isCall Try.prog 33 = true := by kernel_rfl
@[go_sem] theorem tab.ca34 : isCall Try.prog 34 = true := by kernel_rfl
@[go_sem] theorem tab.ca35 : isCall Try.prog 35 = true := by kernel_rfl
@[go_sem] theorem tab.ca36 : isCall Try.prog 36 = true := by kernel_rfl
@[go_sem] theorem tab.ca37 : isCall Try.prog 37 = true := by kernel_rfl
@[go_sem] theorem tab.ca38 : isCall Try.prog 38 = true := by kernel_rfl
@[go_sem] theorem tab.ca39 : isCall Try.prog 39 = true := by kernel_rfl
@[go_sem] theorem tab.ca40 : isCall Try.prog 40 = true := by kernel_rfl
@[go_sem] theorem tab.ca41 : isCall Try.prog 41 = true := by kernel_rfl
@[go_sem] theorem tab.ca42 : isCall Try.prog 42 = true := by kernel_rfl
@[go_sem] theorem tab.ca43 : isCall Try.prog 43 = true := by kernel_rfl
@[go_sem] theorem tab.ca44 : isCall Try.prog 44 = true := by kernel_rfl
@[go_sem] theorem tab.ca45 : isCall Try.prog 45 = true := by kernel_rfl
@[go_sem] theorem tab.ca46 : isCall Try.prog 46 = true := by kernel_rfl
@[go_sem] theorem tab.ca47 : isCall Try.prog 47 = true := by kernel_rfl
@[go_sem] theorem tab.ca48 : isCall Try.prog 48 = true := by kernel_rfl
@[go_sem] theorem tab.ca49 : isCall Try.prog 49 = true := by kernel_rfl
theorem tab.mixed : Try.prog.follows .mixedOrders = true := by kernel_rfl
end Go.Proofs.Ytaejmcgcfopmkaa
