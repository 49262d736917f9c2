/- Texts of our own, joined: the engine, the machine that runs code, and what is known of the functions. -/
import Derived.Test.YtpfflibkkjjlaaaJb
import Derived.Laws.Strings
set_option linter.unusedSimpArgs false
set_option linter.unusedVariables false
namespace Go.Proofs.Ytpfflibkkjjlaaa
open Go
@[go_sem] theorem tab.sz2 : tySize Try.prog 2 = some 1 := by kernel_rfl
@[go_sem] theorem tab.by2 : tyBytes Try.prog 2 = some 8 := by kernel_rfl
@[go_sem] theorem tab.ze2 : tyZero Try.prog 2 = some (Go.Value.int Go.IntKind.i64 0) := by kernel_rfl
@[go_sem] theorem tab.un2 : Program.underlying Try.prog 2 = some (Go.TypeDesc.int Go.IntKind.i64) := by kernel_rfl
@[go_sem] theorem tab.ag2 : tyAgg Try.prog 2 = some false := by kernel_rfl
@[go_sem] theorem tab.sz3 : tySize Try.prog 3 = some 1 := by kernel_rfl
@[go_sem] theorem tab.by3 : tyBytes Try.prog 3 = some 8 := by kernel_rfl
@[go_sem] theorem tab.ze3 : tyZero Try.prog 3 = some (Go.Value.int Go.IntKind.i64 0) := by kernel_rfl
@[go_sem] theorem tab.un3 : Program.underlying Try.prog 3 = some (Go.TypeDesc.int Go.IntKind.i64) := by kernel_rfl
@[go_sem] theorem tab.ag3 : tyAgg Try.prog 3 = some false := by kernel_rfl
@[go_sem] theorem tab.sz4 : tySize Try.prog 4 = some 1 := by kernel_rfl
@[go_sem] theorem tab.by4 : tyBytes Try.prog 4 = some 1 := by kernel_rfl
@[go_sem] theorem tab.ze4 : tyZero Try.prog 4 = some (Go.Value.bool false) := by kernel_rfl
@[go_sem] theorem tab.un4 : Program.underlying Try.prog 4 = some Go.TypeDesc.bool := by kernel_rfl
@[go_sem] theorem tab.ag4 : tyAgg Try.prog 4 = some false := by kernel_rfl
@[go_sem] theorem tab.sz5 : tySize Try.prog 5 = some 1 := by kernel_rfl
@[go_sem] theorem tab.by5 : tyBytes Try.prog 5 = some 1 := by kernel_rfl
@[go_sem] theorem tab.ze5 : tyZero Try.prog 5 = some (Go.Value.int Go.IntKind.u8 0) := by kernel_rfl
@[go_sem] theorem tab.un5 : Program.underlying Try.prog 5 = some (Go.TypeDesc.int Go.IntKind.u8) := by kernel_rfl
@[go_sem] theorem tab.ag5 : tyAgg Try.prog 5 = some false := by kernel_rfl
@[go_sem] theorem tab.sz6 : tySize Try.prog 6 = some 1 := by kernel_rfl
@[go_sem] theorem tab.by6 : tyBytes Try.prog 6 = some 1 := by kernel_rfl
@[go_sem] theorem tab.ze6 : tyZero Try.prog 6 = some (Go.Value.int Go.IntKind.u8 0) := by kernel_rfl
@[go_sem] theorem tab.un6 : Program.underlying Try.prog 6 = some (Go.TypeDesc.int Go.IntKind.u8) := by kernel_rfl
@[go_sem] theorem tab.ag6 : tyAgg Try.prog 6 = some false := by kernel_rfl
@[go_sem] theorem tab.sz7 : tySize Try.prog 7 = some 4 := by kernel_rfl
@[go_sem] theorem tab.by7 : tyBytes Try.prog 7 = some 24 := by kernel_rfl
@[go_sem] theorem tab.ze7 : tyZero Try.prog 7 = some (Go.Value.agg #[(Go.Value.int Go.IntKind.i64 0), (Go.Value.int Go.IntKind.i64 0), (Go.Value.bool false), (Go.Value.int Go.IntKind.u8 0)]) := by kernel_rfl
@[go_sem] theorem tab.un7 : Program.underlying Try.prog 7 = some (Go.TypeDesc.struct #[{ name := "x", type := 2, offset := 0, embedded := false, tag := "", pkgPath := "runtime", byteOffset := 0 }, { name := "y", type := 3, offset := 1, embedded := false, tag := "", pkgPath := "runtime", byteOffset := 8 }, { name := "signed", type := 4, offset := 2, embedded := false, tag := "", pkgPath := "runtime", byteOffset := 16 }, { name := "code", type := 6, offset := 3, embedded := false, tag := "", pkgPath := "runtime", byteOffset := 17 }]) := by kernel_rfl
@[go_sem] theorem tab.ag7 : tyAgg Try.prog 7 = some true := by kernel_rfl
@[go_sem] theorem tab.eq7 : eqPlan Try.prog 7 = some [(0, 0), (0, 1), (2, 2), (0, 3)] := by kernel_rfl
@[go_sem] theorem tab.fi7_0 : tyField Try.prog 7 0 = some (2, 0) := by kernel_rfl
@[go_sem] theorem tab.fi7_1 : tyField Try.prog 7 1 = some (3, 1) := by kernel_rfl
@[go_sem] theorem tab.fi7_2 : tyField Try.prog 7 2 = some (4, 2) := by kernel_rfl
@[go_sem] theorem tab.fi7_3 : tyField Try.prog 7 3 = some (6, 3) := by kernel_rfl
@[go_sem] theorem tab.sz8 : tySize Try.prog 8 = some 4 := by kernel_rfl
@[go_sem] theorem tab.by8 : tyBytes Try.prog 8 = some 24 := by kernel_rfl
@[go_sem] theorem tab.ze8 : tyZero Try.prog 8 = some (Go.Value.agg #[(Go.Value.int Go.IntKind.i64 0), (Go.Value.int Go.IntKind.i64 0), (Go.Value.bool false), (Go.Value.int Go.IntKind.u8 0)]) := by kernel_rfl
@[go_sem] theorem tab.un8 : Program.underlying Try.prog 8 = some (Go.TypeDesc.struct #[{ name := "x", type := 2, offset := 0, embedded := false, tag := "", pkgPath := "runtime", byteOffset := 0 }, { name := "y", type := 3, offset := 1, embedded := false, tag := "", pkgPath := "runtime", byteOffset := 8 }, { name := "signed", type := 4, offset := 2, embedded := false, tag := "", pkgPath := "runtime", byteOffset := 16 }, { name := "code", type := 6, offset := 3, embedded := false, tag := "", pkgPath := "runtime", byteOffset := 17 }]) := by kernel_rfl
@[go_sem] theorem tab.ag8 : tyAgg Try.prog 8 = some true := by kernel_rfl
@[go_sem] theorem tab.eq8 : eqPlan Try.prog 8 = some [(0, 0), (0, 1), (2, 2), (0, 3)] := by kernel_rfl
@[go_sem] theorem tab.fi8_0 : tyField Try.prog 8 0 = some (2, 0) := by kernel_rfl
@[go_sem] theorem tab.fi8_1 : tyField Try.prog 8 1 = some (3, 1) := by kernel_rfl
@[go_sem] theorem tab.fi8_2 : tyField Try.prog 8 2 = some (4, 2) := by kernel_rfl
@[go_sem] theorem tab.fi8_3 : tyField Try.prog 8 3 = some (6, 3) := by kernel_rfl
@[go_sem] theorem tab.sz9 : tySize Try.prog 9 = some 1 := by kernel_rfl
@[go_sem] theorem tab.by9 : tyBytes Try.prog 9 = some 16 := by kernel_rfl
@[go_sem] theorem tab.ze9 : tyZero Try.prog 9 = some (Go.Value.string { data := #[] }) := by kernel_rfl
@[go_sem] theorem tab.un9 : Program.underlying Try.prog 9 = some Go.TypeDesc.string := by kernel_rfl
@[go_sem] theorem tab.ag9 : tyAgg Try.prog 9 = some false := by kernel_rfl
@[go_sem] theorem tab.sz10 : tySize Try.prog 10 = some 1 := by kernel_rfl
@[go_sem] theorem tab.by10 : tyBytes Try.prog 10 = some 16 := by kernel_rfl
@[go_sem] theorem tab.ze10 : tyZero Try.prog 10 = some (Go.Value.string { data := #[] }) := by kernel_rfl
@[go_sem] theorem tab.un10 : Program.underlying Try.prog 10 = some Go.TypeDesc.string := by kernel_rfl
@[go_sem] theorem tab.ag10 : tyAgg Try.prog 10 = some false := by kernel_rfl
@[go_sem] theorem tab.sz11 : tySize Try.prog 11 = some 1 := by kernel_rfl
@[go_sem] theorem tab.by11 : tyBytes Try.prog 11 = some 16 := by kernel_rfl
@[go_sem] theorem tab.ze11 : tyZero Try.prog 11 = some (Go.Value.string { data := #[] }) := by kernel_rfl
@[go_sem] theorem tab.un11 : Program.underlying Try.prog 11 = some Go.TypeDesc.string := by kernel_rfl
@[go_sem] theorem tab.ag11 : tyAgg Try.prog 11 = some false := by kernel_rfl
@[go_sem] theorem tab.sz12 : tySize Try.prog 12 = some 1 := by kernel_rfl
@[go_sem] theorem tab.by12 : tyBytes Try.prog 12 = some 8 := by kernel_rfl
@[go_sem] theorem tab.ze12 : tyZero Try.prog 12 = some (Go.Value.int Go.IntKind.u64 0) := by kernel_rfl
@[go_sem] theorem tab.un12 : Program.underlying Try.prog 12 = some (Go.TypeDesc.int Go.IntKind.u64) := by kernel_rfl
@[go_sem] theorem tab.ag12 : tyAgg Try.prog 12 = some false := by kernel_rfl
@[go_sem] theorem tab.sz13 : tySize Try.prog 13 = some 2 := by kernel_rfl
@[go_sem] theorem tab.by13 : tyBytes Try.prog 13 = some 24 := by kernel_rfl
@[go_sem] theorem tab.ze13 : tyZero Try.prog 13 = some (Go.Value.agg #[(Go.Value.string { data := #[] }), (Go.Value.int Go.IntKind.u64 0)]) := by kernel_rfl
@[go_sem] theorem tab.un13 : Program.underlying Try.prog 13 = some (Go.TypeDesc.struct #[{ name := "msg", type := 9, offset := 0, embedded := false, tag := "", pkgPath := "runtime", byteOffset := 0 }, { name := "addr", type := 12, offset := 1, embedded := false, tag := "", pkgPath := "runtime", byteOffset := 16 }]) := by kernel_rfl
@[go_sem] theorem tab.ag13 : tyAgg Try.prog 13 = some true := by kernel_rfl
@[go_sem] theorem tab.fi13_0 : tyField Try.prog 13 0 = some (9, 0) := by kernel_rfl
@[go_sem] theorem tab.fi13_1 : tyField Try.prog 13 1 = some (12, 1) := by kernel_rfl
@[go_sem] theorem tab.sz14 : tySize Try.prog 14 = some 2 := by kernel_rfl
@[go_sem] theorem tab.by14 : tyBytes Try.prog 14 = some 24 := by kernel_rfl
@[go_sem] theorem tab.ze14 : tyZero Try.prog 14 = some (Go.Value.agg #[(Go.Value.string { data := #[] }), (Go.Value.int Go.IntKind.u64 0)]) := by kernel_rfl
@[go_sem] theorem tab.un14 : Program.underlying Try.prog 14 = some (Go.TypeDesc.struct #[{ name := "msg", type := 9, offset := 0, embedded := false, tag := "", pkgPath := "runtime", byteOffset := 0 }, { name := "addr", type := 12, offset := 1, embedded := false, tag := "", pkgPath := "runtime", byteOffset := 16 }]) := by kernel_rfl
@[go_sem] theorem tab.ag14 : tyAgg Try.prog 14 = some true := by kernel_rfl
@[go_sem] theorem tab.fi14_0 : tyField Try.prog 14 0 = some (9, 0) := by kernel_rfl
@[go_sem] theorem tab.fi14_1 : tyField Try.prog 14 1 = some (12, 1) := by kernel_rfl
@[go_sem] theorem tab.sz15 : tySize Try.prog 15 = some 1 := by kernel_rfl
@[go_sem] theorem tab.by15 : tyBytes Try.prog 15 = some 8 := by kernel_rfl
@[go_sem] theorem tab.ze15 : tyZero Try.prog 15 = some (Go.Value.pointer none) := by kernel_rfl
@[go_sem] theorem tab.un15 : Program.underlying Try.prog 15 = some (Go.TypeDesc.pointer 113) := by kernel_rfl
@[go_sem] theorem tab.ag15 : tyAgg Try.prog 15 = some false := by kernel_rfl
@[go_sem] theorem tab.sz16 : tySize Try.prog 16 = some 1 := by kernel_rfl
@[go_sem] theorem tab.by16 : tyBytes Try.prog 16 = some 8 := by kernel_rfl
@[go_sem] theorem tab.ze16 : tyZero Try.prog 16 = some (Go.Value.pointer none) := by kernel_rfl
@[go_sem] theorem tab.un16 : Program.underlying Try.prog 16 = some (Go.TypeDesc.pointer 116) := by kernel_rfl
@[go_sem] theorem tab.ag16 : tyAgg Try.prog 16 = some false := by kernel_rfl
@[go_sem] theorem tab.sz17 : tySize Try.prog 17 = some 1 := by kernel_rfl
@[go_sem] theorem tab.by17 : tyBytes Try.prog 17 = some 8 := by kernel_rfl
@[go_sem] theorem tab.ze17 : tyZero Try.prog 17 = some (Go.Value.pointer none) := by kernel_rfl
@[go_sem] theorem tab.un17 : Program.underlying Try.prog 17 = some (Go.TypeDesc.pointer 125) := by kernel_rfl
@[go_sem] theorem tab.ag17 : tyAgg Try.prog 17 = some false := by kernel_rfl
@[go_sem] theorem tab.sz18 : tySize Try.prog 18 = some 1 := by kernel_rfl
@[go_sem] theorem tab.by18 : tyBytes Try.prog 18 = some 8 := by kernel_rfl
@[go_sem] theorem tab.ze18 : tyZero Try.prog 18 = some (Go.Value.agg #[(Go.Value.pointer none)]) := by kernel_rfl
@[go_sem] theorem tab.un18 : Program.underlying Try.prog 18 = some (Go.TypeDesc.struct #[{ name := "typ", type := 17, offset := 0, embedded := false, tag := "", pkgPath := "internal/runtime/maps", byteOffset := 0 }]) := by kernel_rfl
@[go_sem] theorem tab.ag18 : tyAgg Try.prog 18 = some true := by kernel_rfl
@[go_sem] theorem tab.fi18_0 : tyField Try.prog 18 0 = some (17, 0) := by kernel_rfl
@[go_sem] theorem tab.sz19 : tySize Try.prog 19 = some 1 := by kernel_rfl
@[go_sem] theorem tab.by19 : tyBytes Try.prog 19 = some 8 := by kernel_rfl
@[go_sem] theorem tab.ze19 : tyZero Try.prog 19 = some (Go.Value.agg #[(Go.Value.pointer none)]) := by kernel_rfl
@[go_sem] theorem tab.un19 : Program.underlying Try.prog 19 = some (Go.TypeDesc.struct #[{ name := "typ", type := 17, offset := 0, embedded := false, tag := "", pkgPath := "internal/runtime/maps", byteOffset := 0 }]) := by kernel_rfl
@[go_sem] theorem tab.ag19 : tyAgg Try.prog 19 = some true := by kernel_rfl
@[go_sem] theorem tab.fi19_0 : tyField Try.prog 19 0 = some (17, 0) := by kernel_rfl
@[go_sem] theorem tab.sz20 : tySize Try.prog 20 = some 1 := by kernel_rfl
@[go_sem] theorem tab.by20 : tyBytes Try.prog 20 = some 16 := by kernel_rfl
@[go_sem] theorem tab.ze20 : tyZero Try.prog 20 = some Go.Value.nilIface := by kernel_rfl
@[go_sem] theorem tab.ag20 : tyAgg Try.prog 20 = some false := by kernel_rfl
@[go_sem] theorem tab.sz21 : tySize Try.prog 21 = some 1 := by kernel_rfl
@[go_sem] theorem tab.by21 : tyBytes Try.prog 21 = some 4 := by kernel_rfl
@[go_sem] theorem tab.ze21 : tyZero Try.prog 21 = some (Go.Value.int Go.IntKind.i32 0) := by kernel_rfl
@[go_sem] theorem tab.un21 : Program.underlying Try.prog 21 = some (Go.TypeDesc.int Go.IntKind.i32) := by kernel_rfl
@[go_sem] theorem tab.ag21 : tyAgg Try.prog 21 = some false := by kernel_rfl
@[go_sem] theorem tab.sz22 : tySize Try.prog 22 = some 1 := by kernel_rfl
@[go_sem] theorem tab.by22 : tyBytes Try.prog 22 = some 24 := by kernel_rfl
@[go_sem] theorem tab.ze22 : tyZero Try.prog 22 = some (Go.Value.slice none 0 0) := by kernel_rfl
@[go_sem] theorem tab.un22 : Program.underlying Try.prog 22 = some (Go.TypeDesc.slice 30) := by kernel_rfl
@[go_sem] theorem tab.ag22 : tyAgg Try.prog 22 = some false := by kernel_rfl
@[go_sem] theorem tab.sz23 : tySize Try.prog 23 = some 1 := by kernel_rfl
@[go_sem] theorem tab.by23 : tyBytes Try.prog 23 = some 8 := by kernel_rfl
@[go_sem] theorem tab.ze23 : tyZero Try.prog 23 = some (Go.Value.pointer none) := by kernel_rfl
@[go_sem] theorem tab.un23 : Program.underlying Try.prog 23 = some (Go.TypeDesc.pointer 56) := by kernel_rfl
@[go_sem] theorem tab.ag23 : tyAgg Try.prog 23 = some false := by kernel_rfl
@[go_sem] theorem tab.sz24 : tySize Try.prog 24 = some 1 := by kernel_rfl
@[go_sem] theorem tab.by24 : tyBytes Try.prog 24 = some 8 := by kernel_rfl
@[go_sem] theorem tab.ze24 : tyZero Try.prog 24 = some (Go.Value.int Go.IntKind.i64 0) := by kernel_rfl
@[go_sem] theorem tab.un24 : Program.underlying Try.prog 24 = some (Go.TypeDesc.int Go.IntKind.i64) := by kernel_rfl
@[go_sem] theorem tab.ag24 : tyAgg Try.prog 24 = some false := by kernel_rfl
@[go_sem] theorem tab.sz27 : tySize Try.prog 27 = some 2 := by kernel_rfl
@[go_sem] theorem tab.by27 : tyBytes Try.prog 27 = some 16 := by kernel_rfl
@[go_sem] theorem tab.ze27 : tyZero Try.prog 27 = some (Go.Value.agg #[(Go.Value.int Go.IntKind.i64 0), (Go.Value.int Go.IntKind.i64 0)]) := by kernel_rfl
@[go_sem] theorem tab.un27 : Program.underlying Try.prog 27 = some (Go.TypeDesc.struct #[{ name := "T", type := 3, offset := 0, embedded := false, tag := "", pkgPath := "", byteOffset := 0 }, { name := "V", type := 3, offset := 1, embedded := false, tag := "", pkgPath := "", byteOffset := 8 }]) := by kernel_rfl
@[go_sem] theorem tab.ag27 : tyAgg Try.prog 27 = some true := by kernel_rfl
@[go_sem] theorem tab.eq27 : eqPlan Try.prog 27 = some [(0, 0), (0, 1)] := by kernel_rfl
@[go_sem] theorem tab.fi27_0 : tyField Try.prog 27 0 = some (3, 0) := by kernel_rfl
@[go_sem] theorem tab.fi27_1 : tyField Try.prog 27 1 = some (3, 1) := by kernel_rfl
@[go_sem] theorem tab.sz28 : tySize Try.prog 28 = some 2 := by kernel_rfl
@[go_sem] theorem tab.by28 : tyBytes Try.prog 28 = some 16 := by kernel_rfl
@[go_sem] theorem tab.ze28 : tyZero Try.prog 28 = some (Go.Value.agg #[(Go.Value.int Go.IntKind.i64 0), (Go.Value.int Go.IntKind.i64 0)]) := by kernel_rfl
@[go_sem] theorem tab.un28 : Program.underlying Try.prog 28 = some (Go.TypeDesc.struct #[{ name := "T", type := 3, offset := 0, embedded := false, tag := "", pkgPath := "", byteOffset := 0 }, { name := "V", type := 3, offset := 1, embedded := false, tag := "", pkgPath := "", byteOffset := 8 }]) := by kernel_rfl
@[go_sem] theorem tab.ag28 : tyAgg Try.prog 28 = some true := by kernel_rfl
@[go_sem] theorem tab.eq28 : eqPlan Try.prog 28 = some [(0, 0), (0, 1)] := by kernel_rfl
@[go_sem] theorem tab.fi28_0 : tyField Try.prog 28 0 = some (3, 0) := by kernel_rfl
@[go_sem] theorem tab.fi28_1 : tyField Try.prog 28 1 = some (3, 1) := by kernel_rfl
@[go_sem] theorem tab.sz29 : tySize Try.prog 29 = some 4 := by kernel_rfl
@[go_sem] theorem tab.by29 : tyBytes Try.prog 29 = some 32 := by kernel_rfl
@[go_sem] theorem tab.ze29 : tyZero Try.prog 29 = some (Go.Value.agg #[(Go.Value.int Go.IntKind.i64 0), (Go.Value.int Go.IntKind.i64 0), (Go.Value.int Go.IntKind.i64 0), (Go.Value.int Go.IntKind.i64 0)]) := by kernel_rfl
@[go_sem] theorem tab.un29 : Program.underlying Try.prog 29 = some (Go.TypeDesc.struct #[{ name := "Kind", type := 3, offset := 0, embedded := false, tag := "", pkgPath := "", byteOffset := 0 }, { name := "S", type := 28, offset := 1, embedded := false, tag := "", pkgPath := "", byteOffset := 8 }, { name := "P", type := 3, offset := 3, embedded := false, tag := "", pkgPath := "", byteOffset := 24 }]) := by kernel_rfl
@[go_sem] theorem tab.ag29 : tyAgg Try.prog 29 = some true := by kernel_rfl
@[go_sem] theorem tab.fi29_0 : tyField Try.prog 29 0 = some (3, 0) := by kernel_rfl
@[go_sem] theorem tab.fi29_1 : tyField Try.prog 29 1 = some (28, 1) := by kernel_rfl
@[go_sem] theorem tab.fi29_2 : tyField Try.prog 29 2 = some (3, 3) := by kernel_rfl
@[go_sem] theorem tab.sz30 : tySize Try.prog 30 = some 4 := by kernel_rfl
@[go_sem] theorem tab.by30 : tyBytes Try.prog 30 = some 32 := by kernel_rfl
@[go_sem] theorem tab.ze30 : tyZero Try.prog 30 = some (Go.Value.agg #[(Go.Value.int Go.IntKind.i64 0), (Go.Value.int Go.IntKind.i64 0), (Go.Value.int Go.IntKind.i64 0), (Go.Value.int Go.IntKind.i64 0)]) := by kernel_rfl
@[go_sem] theorem tab.un30 : Program.underlying Try.prog 30 = some (Go.TypeDesc.struct #[{ name := "Kind", type := 3, offset := 0, embedded := false, tag := "", pkgPath := "", byteOffset := 0 }, { name := "S", type := 28, offset := 1, embedded := false, tag := "", pkgPath := "", byteOffset := 8 }, { name := "P", type := 3, offset := 3, embedded := false, tag := "", pkgPath := "", byteOffset := 24 }]) := by kernel_rfl
@[go_sem] theorem tab.ag30 : tyAgg Try.prog 30 = some true := by kernel_rfl
@[go_sem] theorem tab.fi30_0 : tyField Try.prog 30 0 = some (3, 0) := by kernel_rfl
@[go_sem] theorem tab.fi30_1 : tyField Try.prog 30 1 = some (28, 1) := by kernel_rfl
@[go_sem] theorem tab.fi30_2 : tyField Try.prog 30 2 = some (3, 3) := by kernel_rfl
@[go_sem] theorem tab.sz33 : tySize Try.prog 33 = some 1 := by kernel_rfl
@[go_sem] theorem tab.by33 : tyBytes Try.prog 33 = some 24 := by kernel_rfl
@[go_sem] theorem tab.ze33 : tyZero Try.prog 33 = some (Go.Value.slice none 0 0) := by kernel_rfl
@[go_sem] theorem tab.un33 : Program.underlying Try.prog 33 = some (Go.TypeDesc.slice 28) := by kernel_rfl
@[go_sem] theorem tab.ag33 : tyAgg Try.prog 33 = some false := by kernel_rfl
@[go_sem] theorem tab.sz39 : tySize Try.prog 39 = some 1 := by kernel_rfl
@[go_sem] theorem tab.by39 : tyBytes Try.prog 39 = some 2 := by kernel_rfl
@[go_sem] theorem tab.ze39 : tyZero Try.prog 39 = some (Go.Value.int Go.IntKind.u16 0) := by kernel_rfl
@[go_sem] theorem tab.un39 : Program.underlying Try.prog 39 = some (Go.TypeDesc.int Go.IntKind.u16) := by kernel_rfl
@[go_sem] theorem tab.ag39 : tyAgg Try.prog 39 = some false := by kernel_rfl
@[go_sem] theorem tab.sz46 : tySize Try.prog 46 = some 1 := by kernel_rfl
@[go_sem] theorem tab.by46 : tyBytes Try.prog 46 = some 8 := by kernel_rfl
@[go_sem] theorem tab.ze46 : tyZero Try.prog 46 = some (Go.Value.pointer none) := by kernel_rfl
@[go_sem] theorem tab.un46 : Program.underlying Try.prog 46 = some (Go.TypeDesc.pointer 68) := by kernel_rfl
@[go_sem] theorem tab.ag46 : tyAgg Try.prog 46 = some false := by kernel_rfl
@[go_sem] theorem tab.sz55 : tySize Try.prog 55 = some 4 := by kernel_rfl
@[go_sem] theorem tab.by55 : tyBytes Try.prog 55 = some 40 := by kernel_rfl
@[go_sem] theorem tab.ze55 : tyZero Try.prog 55 = some (Go.Value.agg #[(Go.Value.int Go.IntKind.i64 0), (Go.Value.string { data := #[] }), (Go.Value.int Go.IntKind.i64 0), (Go.Value.int Go.IntKind.i64 0)]) := by kernel_rfl
@[go_sem] theorem tab.un55 : Program.underlying Try.prog 55 = some (Go.TypeDesc.struct #[{ name := "size", type := 3, offset := 0, embedded := false, tag := "", pkgPath := "tachograph/chunk", byteOffset := 0 }, { name := "s", type := 9, offset := 1, embedded := false, tag := "", pkgPath := "tachograph/chunk", byteOffset := 8 }, { name := "bits", type := 3, offset := 2, embedded := false, tag := "", pkgPath := "tachograph/chunk", byteOffset := 24 }, { name := "n", type := 3, offset := 3, embedded := false, tag := "", pkgPath := "tachograph/chunk", byteOffset := 32 }]) := by kernel_rfl
@[go_sem] theorem tab.ag55 : tyAgg Try.prog 55 = some true := by kernel_rfl
@[go_sem] theorem tab.eq55 : eqPlan Try.prog 55 = some [(0, 0), (1, 1), (0, 2), (0, 3)] := by kernel_rfl
@[go_sem] theorem tab.fi55_0 : tyField Try.prog 55 0 = some (3, 0) := by kernel_rfl
@[go_sem] theorem tab.fi55_1 : tyField Try.prog 55 1 = some (9, 1) := by kernel_rfl
@[go_sem] theorem tab.fi55_2 : tyField Try.prog 55 2 = some (3, 2) := by kernel_rfl
@[go_sem] theorem tab.fi55_3 : tyField Try.prog 55 3 = some (3, 3) := by kernel_rfl
@[go_sem] theorem tab.sz56 : tySize Try.prog 56 = some 4 := by kernel_rfl
@[go_sem] theorem tab.by56 : tyBytes Try.prog 56 = some 40 := by kernel_rfl
@[go_sem] theorem tab.ze56 : tyZero Try.prog 56 = some (Go.Value.agg #[(Go.Value.int Go.IntKind.i64 0), (Go.Value.string { data := #[] }), (Go.Value.int Go.IntKind.i64 0), (Go.Value.int Go.IntKind.i64 0)]) := by kernel_rfl
@[go_sem] theorem tab.un56 : Program.underlying Try.prog 56 = some (Go.TypeDesc.struct #[{ name := "size", type := 3, offset := 0, embedded := false, tag := "", pkgPath := "tachograph/chunk", byteOffset := 0 }, { name := "s", type := 9, offset := 1, embedded := false, tag := "", pkgPath := "tachograph/chunk", byteOffset := 8 }, { name := "bits", type := 3, offset := 2, embedded := false, tag := "", pkgPath := "tachograph/chunk", byteOffset := 24 }, { name := "n", type := 3, offset := 3, embedded := false, tag := "", pkgPath := "tachograph/chunk", byteOffset := 32 }]) := by kernel_rfl
@[go_sem] theorem tab.ag56 : tyAgg Try.prog 56 = some true := by kernel_rfl
@[go_sem] theorem tab.eq56 : eqPlan Try.prog 56 = some [(0, 0), (1, 1), (0, 2), (0, 3)] := by kernel_rfl
@[go_sem] theorem tab.fi56_0 : tyField Try.prog 56 0 = some (3, 0) := by kernel_rfl
@[go_sem] theorem tab.fi56_1 : tyField Try.prog 56 1 = some (9, 1) := by kernel_rfl
@[go_sem] theorem tab.fi56_2 : tyField Try.prog 56 2 = some (3, 2) := by kernel_rfl
@[go_sem] theorem tab.fi56_3 : tyField Try.prog 56 3 = some (3, 3) := by kernel_rfl
@[go_sem] theorem tab.sz67 : tySize Try.prog 67 = some 2 := by kernel_rfl
@[go_sem] theorem tab.by67 : tyBytes Try.prog 67 = some 32 := by kernel_rfl
@[go_sem] theorem tab.ze67 : tyZero Try.prog 67 = some (Go.Value.agg #[(Go.Value.int Go.IntKind.i64 0), (Go.Value.slice none 0 0)]) := by kernel_rfl
@[go_sem] theorem tab.un67 : Program.underlying Try.prog 67 = some (Go.TypeDesc.struct #[{ name := "Size", type := 3, offset := 0, embedded := false, tag := "", pkgPath := "", byteOffset := 0 }, { name := "L", type := 33, offset := 1, embedded := false, tag := "", pkgPath := "", byteOffset := 8 }]) := by kernel_rfl
@[go_sem] theorem tab.ag67 : tyAgg Try.prog 67 = some true := by kernel_rfl
@[go_sem] theorem tab.fi67_0 : tyField Try.prog 67 0 = some (3, 0) := by kernel_rfl
@[go_sem] theorem tab.fi67_1 : tyField Try.prog 67 1 = some (33, 1) := by kernel_rfl
@[go_sem] theorem tab.sz68 : tySize Try.prog 68 = some 2 := by kernel_rfl
@[go_sem] theorem tab.by68 : tyBytes Try.prog 68 = some 32 := by kernel_rfl
@[go_sem] theorem tab.ze68 : tyZero Try.prog 68 = some (Go.Value.agg #[(Go.Value.int Go.IntKind.i64 0), (Go.Value.slice none 0 0)]) := by kernel_rfl
@[go_sem] theorem tab.un68 : Program.underlying Try.prog 68 = some (Go.TypeDesc.struct #[{ name := "Size", type := 3, offset := 0, embedded := false, tag := "", pkgPath := "", byteOffset := 0 }, { name := "L", type := 33, offset := 1, embedded := false, tag := "", pkgPath := "", byteOffset := 8 }]) := by kernel_rfl
@[go_sem] theorem tab.ag68 : tyAgg Try.prog 68 = some true := by kernel_rfl
@[go_sem] theorem tab.fi68_0 : tyField Try.prog 68 0 = some (3, 0) := by kernel_rfl
@[go_sem] theorem tab.fi68_1 : tyField Try.prog 68 1 = some (33, 1) := by kernel_rfl
@[go_sem] theorem tab.sz74 : tySize Try.prog 74 = some 1 := by kernel_rfl
@[go_sem] theorem tab.by74 : tyBytes Try.prog 74 = some 8 := by kernel_rfl
@[go_sem] theorem tab.ze74 : tyZero Try.prog 74 = some (Go.Value.pointer none) := by kernel_rfl
@[go_sem] theorem tab.un74 : Program.underlying Try.prog 74 = some (Go.TypeDesc.pointer 95) := by kernel_rfl
@[go_sem] theorem tab.ag74 : tyAgg Try.prog 74 = some false := by kernel_rfl
@[go_sem] theorem tab.sz77 : tySize Try.prog 77 = some 1 := by kernel_rfl
@[go_sem] theorem tab.by77 : tyBytes Try.prog 77 = some 8 := by kernel_rfl
@[go_sem] theorem tab.ze77 : tyZero Try.prog 77 = some (Go.Value.pointer none) := by kernel_rfl
@[go_sem] theorem tab.un77 : Program.underlying Try.prog 77 = some (Go.TypeDesc.pointer 79) := by kernel_rfl
@[go_sem] theorem tab.ag77 : tyAgg Try.prog 77 = some false := by kernel_rfl
@[go_sem] theorem tab.sz78 : tySize Try.prog 78 = some 5 := by kernel_rfl
@[go_sem] theorem tab.by78 : tyBytes Try.prog 78 = some 40 := by kernel_rfl
@[go_sem] theorem tab.ze78 : tyZero Try.prog 78 = some (Go.Value.agg #[(Go.Value.pointer none), (Go.Value.int Go.IntKind.i64 0), (Go.Value.int Go.IntKind.i64 0), (Go.Value.int Go.IntKind.i64 0), (Go.Value.int Go.IntKind.i64 0)]) := by kernel_rfl
@[go_sem] theorem tab.un78 : Program.underlying Try.prog 78 = some (Go.TypeDesc.struct #[{ name := "r", type := 74, offset := 0, embedded := false, tag := "", pkgPath := "tachograph/delta", byteOffset := 0 }, { name := "last", type := 28, offset := 1, embedded := false, tag := "", pkgPath := "tachograph/delta", byteOffset := 8 }, { name := "step", type := 3, offset := 3, embedded := false, tag := "", pkgPath := "tachograph/delta", byteOffset := 24 }, { name := "e", type := 24, offset := 4, embedded := false, tag := "", pkgPath := "tachograph/delta", byteOffset := 32 }]) := by kernel_rfl
@[go_sem] theorem tab.ag78 : tyAgg Try.prog 78 = some true := by kernel_rfl
@[go_sem] theorem tab.fi78_0 : tyField Try.prog 78 0 = some (74, 0) := by kernel_rfl
@[go_sem] theorem tab.fi78_1 : tyField Try.prog 78 1 = some (28, 1) := by kernel_rfl
@[go_sem] theorem tab.fi78_2 : tyField Try.prog 78 2 = some (3, 3) := by kernel_rfl
@[go_sem] theorem tab.fi78_3 : tyField Try.prog 78 3 = some (24, 4) := by kernel_rfl
@[go_sem] theorem tab.sz79 : tySize Try.prog 79 = some 5 := by kernel_rfl
@[go_sem] theorem tab.by79 : tyBytes Try.prog 79 = some 40 := by kernel_rfl
@[go_sem] theorem tab.ze79 : tyZero Try.prog 79 = some (Go.Value.agg #[(Go.Value.pointer none), (Go.Value.int Go.IntKind.i64 0), (Go.Value.int Go.IntKind.i64 0), (Go.Value.int Go.IntKind.i64 0), (Go.Value.int Go.IntKind.i64 0)]) := by kernel_rfl
@[go_sem] theorem tab.un79 : Program.underlying Try.prog 79 = some (Go.TypeDesc.struct #[{ name := "r", type := 74, offset := 0, embedded := false, tag := "", pkgPath := "tachograph/delta", byteOffset := 0 }, { name := "last", type := 28, offset := 1, embedded := false, tag := "", pkgPath := "tachograph/delta", byteOffset := 8 }, { name := "step", type := 3, offset := 3, embedded := false, tag := "", pkgPath := "tachograph/delta", byteOffset := 24 }, { name := "e", type := 24, offset := 4, embedded := false, tag := "", pkgPath := "tachograph/delta", byteOffset := 32 }]) := by kernel_rfl
@[go_sem] theorem tab.ag79 : tyAgg Try.prog 79 = some true := by kernel_rfl
@[go_sem] theorem tab.fi79_0 : tyField Try.prog 79 0 = some (74, 0) := by kernel_rfl
@[go_sem] theorem tab.fi79_1 : tyField Try.prog 79 1 = some (28, 1) := by kernel_rfl
@[go_sem] theorem tab.fi79_2 : tyField Try.prog 79 2 = some (3, 3) := by kernel_rfl
@[go_sem] theorem tab.fi79_3 : tyField Try.prog 79 3 = some (24, 4) := by kernel_rfl
@[go_sem] theorem tab.sz81 : tySize Try.prog 81 = some 1 := by kernel_rfl
@[go_sem] theorem tab.by81 : tyBytes Try.prog 81 = some 24 := by kernel_rfl
@[go_sem] theorem tab.ze81 : tyZero Try.prog 81 = some (Go.Value.slice none 0 0) := by kernel_rfl
@[go_sem] theorem tab.un81 : Program.underlying Try.prog 81 = some (Go.TypeDesc.slice 4) := by kernel_rfl
@[go_sem] theorem tab.ag81 : tyAgg Try.prog 81 = some false := by kernel_rfl
@[go_sem] theorem tab.sz85 : tySize Try.prog 85 = some 1 := by kernel_rfl
@[go_sem] theorem tab.by85 : tyBytes Try.prog 85 = some 8 := by kernel_rfl
@[go_sem] theorem tab.ze85 : tyZero Try.prog 85 = some (Go.Value.pointer none) := by kernel_rfl
@[go_sem] theorem tab.un85 : Program.underlying Try.prog 85 = some (Go.TypeDesc.pointer 88) := by kernel_rfl
@[go_sem] theorem tab.ag85 : tyAgg Try.prog 85 = some false := by kernel_rfl
@[go_sem] theorem tab.sz86 : tySize Try.prog 86 = some 1 := by kernel_rfl
@[go_sem] theorem tab.by86 : tyBytes Try.prog 86 = some 24 := by kernel_rfl
@[go_sem] theorem tab.ze86 : tyZero Try.prog 86 = some (Go.Value.slice none 0 0) := by kernel_rfl
@[go_sem] theorem tab.un86 : Program.underlying Try.prog 86 = some (Go.TypeDesc.slice 5) := by kernel_rfl
@[go_sem] theorem tab.ag86 : tyAgg Try.prog 86 = some false := by kernel_rfl
@[go_sem] theorem tab.sz87 : tySize Try.prog 87 = some 2 := by kernel_rfl
@[go_sem] theorem tab.by87 : tyBytes Try.prog 87 = some 32 := by kernel_rfl
@[go_sem] theorem tab.ze87 : tyZero Try.prog 87 = some (Go.Value.agg #[(Go.Value.slice none 0 0), (Go.Value.int Go.IntKind.i64 0)]) := by kernel_rfl
@[go_sem] theorem tab.un87 : Program.underlying Try.prog 87 = some (Go.TypeDesc.struct #[{ name := "b", type := 86, offset := 0, embedded := false, tag := "", pkgPath := "tachograph/bits", byteOffset := 0 }, { name := "n", type := 3, offset := 1, embedded := false, tag := "", pkgPath := "tachograph/bits", byteOffset := 24 }]) := by kernel_rfl
@[go_sem] theorem tab.ag87 : tyAgg Try.prog 87 = some true := by kernel_rfl
@[go_sem] theorem tab.fi87_0 : tyField Try.prog 87 0 = some (86, 0) := by kernel_rfl
@[go_sem] theorem tab.fi87_1 : tyField Try.prog 87 1 = some (3, 1) := by kernel_rfl
@[go_sem] theorem tab.sz88 : tySize Try.prog 88 = some 2 := by kernel_rfl
@[go_sem] theorem tab.by88 : tyBytes Try.prog 88 = some 32 := by kernel_rfl
@[go_sem] theorem tab.ze88 : tyZero Try.prog 88 = some (Go.Value.agg #[(Go.Value.slice none 0 0), (Go.Value.int Go.IntKind.i64 0)]) := by kernel_rfl
@[go_sem] theorem tab.un88 : Program.underlying Try.prog 88 = some (Go.TypeDesc.struct #[{ name := "b", type := 86, offset := 0, embedded := false, tag := "", pkgPath := "tachograph/bits", byteOffset := 0 }, { name := "n", type := 3, offset := 1, embedded := false, tag := "", pkgPath := "tachograph/bits", byteOffset := 24 }]) := by kernel_rfl
@[go_sem] theorem tab.ag88 : tyAgg Try.prog 88 = some true := by kernel_rfl
@[go_sem] theorem tab.fi88_0 : tyField Try.prog 88 0 = some (86, 0) := by kernel_rfl
@[go_sem] theorem tab.fi88_1 : tyField Try.prog 88 1 = some (3, 1) := by kernel_rfl
@[go_sem] theorem tab.sz90 : tySize Try.prog 90 = some 1 := by kernel_rfl
@[go_sem] theorem tab.by90 : tyBytes Try.prog 90 = some 8 := by kernel_rfl
@[go_sem] theorem tab.ze90 : tyZero Try.prog 90 = some (Go.Value.int Go.IntKind.u64 0) := by kernel_rfl
@[go_sem] theorem tab.un90 : Program.underlying Try.prog 90 = some (Go.TypeDesc.int Go.IntKind.u64) := by kernel_rfl
@[go_sem] theorem tab.ag90 : tyAgg Try.prog 90 = some false := by kernel_rfl
@[go_sem] theorem tab.sz94 : tySize Try.prog 94 = some 4 := by kernel_rfl
@[go_sem] theorem tab.by94 : tyBytes Try.prog 94 = some 40 := by kernel_rfl
@[go_sem] theorem tab.ze94 : tyZero Try.prog 94 = some (Go.Value.agg #[(Go.Value.string { data := #[] }), (Go.Value.int Go.IntKind.i64 0), (Go.Value.int Go.IntKind.i64 0), (Go.Value.bool false)]) := by kernel_rfl
@[go_sem] theorem tab.un94 : Program.underlying Try.prog 94 = some (Go.TypeDesc.struct #[{ name := "s", type := 9, offset := 0, embedded := false, tag := "", pkgPath := "tachograph/bits", byteOffset := 0 }, { name := "n", type := 3, offset := 1, embedded := false, tag := "", pkgPath := "tachograph/bits", byteOffset := 16 }, { name := "at", type := 3, offset := 2, embedded := false, tag := "", pkgPath := "tachograph/bits", byteOffset := 24 }, { name := "made", type := 4, offset := 3, embedded := false, tag := "", pkgPath := "tachograph/bits", byteOffset := 32 }]) := by kernel_rfl
@[go_sem] theorem tab.ag94 : tyAgg Try.prog 94 = some true := by kernel_rfl
@[go_sem] theorem tab.eq94 : eqPlan Try.prog 94 = some [(1, 0), (0, 1), (0, 2), (2, 3)] := by kernel_rfl
@[go_sem] theorem tab.fi94_0 : tyField Try.prog 94 0 = some (9, 0) := by kernel_rfl
@[go_sem] theorem tab.fi94_1 : tyField Try.prog 94 1 = some (3, 1) := by kernel_rfl
@[go_sem] theorem tab.fi94_2 : tyField Try.prog 94 2 = some (3, 2) := by kernel_rfl
@[go_sem] theorem tab.fi94_3 : tyField Try.prog 94 3 = some (4, 3) := by kernel_rfl
@[go_sem] theorem tab.sz95 : tySize Try.prog 95 = some 4 := by kernel_rfl
@[go_sem] theorem tab.by95 : tyBytes Try.prog 95 = some 40 := by kernel_rfl
@[go_sem] theorem tab.ze95 : tyZero Try.prog 95 = some (Go.Value.agg #[(Go.Value.string { data := #[] }), (Go.Value.int Go.IntKind.i64 0), (Go.Value.int Go.IntKind.i64 0), (Go.Value.bool false)]) := by kernel_rfl
@[go_sem] theorem tab.un95 : Program.underlying Try.prog 95 = some (Go.TypeDesc.struct #[{ name := "s", type := 9, offset := 0, embedded := false, tag := "", pkgPath := "tachograph/bits", byteOffset := 0 }, { name := "n", type := 3, offset := 1, embedded := false, tag := "", pkgPath := "tachograph/bits", byteOffset := 16 }, { name := "at", type := 3, offset := 2, embedded := false, tag := "", pkgPath := "tachograph/bits", byteOffset := 24 }, { name := "made", type := 4, offset := 3, embedded := false, tag := "", pkgPath := "tachograph/bits", byteOffset := 32 }]) := by kernel_rfl
@[go_sem] theorem tab.ag95 : tyAgg Try.prog 95 = some true := by kernel_rfl
@[go_sem] theorem tab.eq95 : eqPlan Try.prog 95 = some [(1, 0), (0, 1), (0, 2), (2, 3)] := by kernel_rfl
@[go_sem] theorem tab.fi95_0 : tyField Try.prog 95 0 = some (9, 0) := by kernel_rfl
@[go_sem] theorem tab.fi95_1 : tyField Try.prog 95 1 = some (3, 1) := by kernel_rfl
@[go_sem] theorem tab.fi95_2 : tyField Try.prog 95 2 = some (3, 2) := by kernel_rfl
@[go_sem] theorem tab.fi95_3 : tyField Try.prog 95 3 = some (4, 3) := by kernel_rfl
@[go_sem] theorem tab.sz102 : tySize Try.prog 102 = some 5 := by kernel_rfl
@[go_sem] theorem tab.by102 : tyBytes Try.prog 102 = some 40 := by kernel_rfl
@[go_sem] theorem tab.ze102 : tyZero Try.prog 102 = some (Go.Value.agg #[(Go.Value.int Go.IntKind.i64 0), (Go.Value.int Go.IntKind.i64 0), (Go.Value.int Go.IntKind.i64 0), (Go.Value.int Go.IntKind.i64 0), (Go.Value.int Go.IntKind.i64 0)]) := by kernel_rfl
@[go_sem] theorem tab.un102 : Program.underlying Try.prog 102 = some (Go.TypeDesc.array 5 3) := by kernel_rfl
@[go_sem] theorem tab.ag102 : tyAgg Try.prog 102 = some true := by kernel_rfl
@[go_sem] theorem tab.sz104 : tySize Try.prog 104 = some 1 := by kernel_rfl
@[go_sem] theorem tab.by104 : tyBytes Try.prog 104 = some 8 := by kernel_rfl
@[go_sem] theorem tab.ze104 : tyZero Try.prog 104 = some (Go.Value.int Go.IntKind.u64 0) := by kernel_rfl
@[go_sem] theorem tab.un104 : Program.underlying Try.prog 104 = some (Go.TypeDesc.int Go.IntKind.u64) := by kernel_rfl
@[go_sem] theorem tab.ag104 : tyAgg Try.prog 104 = some false := by kernel_rfl
@[go_sem] theorem tab.sz112 : tySize Try.prog 112 = some 4 := by kernel_rfl
@[go_sem] theorem tab.by112 : tyBytes Try.prog 112 = some 40 := by kernel_rfl
@[go_sem] theorem tab.ze112 : tyZero Try.prog 112 = some (Go.Value.agg #[(Go.Value.pointer none), (Go.Value.pointer none), (Go.Value.pointer none), (Go.Value.string { data := #[] })]) := by kernel_rfl
@[go_sem] theorem tab.un112 : Program.underlying Try.prog 112 = some (Go.TypeDesc.struct #[{ name := "_interface", type := 17, offset := 0, embedded := false, tag := "", pkgPath := "runtime", byteOffset := 0 }, { name := "concrete", type := 17, offset := 1, embedded := false, tag := "", pkgPath := "runtime", byteOffset := 8 }, { name := "asserted", type := 17, offset := 2, embedded := false, tag := "", pkgPath := "runtime", byteOffset := 16 }, { name := "missingMethod", type := 9, offset := 3, embedded := false, tag := "", pkgPath := "runtime", byteOffset := 24 }]) := by kernel_rfl
@[go_sem] theorem tab.ag112 : tyAgg Try.prog 112 = some true := by kernel_rfl
@[go_sem] theorem tab.fi112_0 : tyField Try.prog 112 0 = some (17, 0) := by kernel_rfl
@[go_sem] theorem tab.fi112_1 : tyField Try.prog 112 1 = some (17, 1) := by kernel_rfl
@[go_sem] theorem tab.fi112_2 : tyField Try.prog 112 2 = some (17, 2) := by kernel_rfl
@[go_sem] theorem tab.fi112_3 : tyField Try.prog 112 3 = some (9, 3) := by kernel_rfl
@[go_sem] theorem tab.sz113 : tySize Try.prog 113 = some 4 := by kernel_rfl
@[go_sem] theorem tab.by113 : tyBytes Try.prog 113 = some 40 := by kernel_rfl
@[go_sem] theorem tab.ze113 : tyZero Try.prog 113 = some (Go.Value.agg #[(Go.Value.pointer none), (Go.Value.pointer none), (Go.Value.pointer none), (Go.Value.string { data := #[] })]) := by kernel_rfl
@[go_sem] theorem tab.un113 : Program.underlying Try.prog 113 = some (Go.TypeDesc.struct #[{ name := "_interface", type := 17, offset := 0, embedded := false, tag := "", pkgPath := "runtime", byteOffset := 0 }, { name := "concrete", type := 17, offset := 1, embedded := false, tag := "", pkgPath := "runtime", byteOffset := 8 }, { name := "asserted", type := 17, offset := 2, embedded := false, tag := "", pkgPath := "runtime", byteOffset := 16 }, { name := "missingMethod", type := 9, offset := 3, embedded := false, tag := "", pkgPath := "runtime", byteOffset := 24 }]) := by kernel_rfl
@[go_sem] theorem tab.ag113 : tyAgg Try.prog 113 = some true := by kernel_rfl
@[go_sem] theorem tab.fi113_0 : tyField Try.prog 113 0 = some (17, 0) := by kernel_rfl
@[go_sem] theorem tab.fi113_1 : tyField Try.prog 113 1 = some (17, 1) := by kernel_rfl
@[go_sem] theorem tab.fi113_2 : tyField Try.prog 113 2 = some (17, 2) := by kernel_rfl
@[go_sem] theorem tab.fi113_3 : tyField Try.prog 113 3 = some (9, 3) := by kernel_rfl
@[go_sem] theorem tab.sz114 : tySize Try.prog 114 = some 0 := by kernel_rfl
@[go_sem] theorem tab.by114 : tyBytes Try.prog 114 = some 0 := by kernel_rfl
@[go_sem] theorem tab.ze114 : tyZero Try.prog 114 = some (Go.Value.agg #[]) := by kernel_rfl
@[go_sem] theorem tab.un114 : Program.underlying Try.prog 114 = some (Go.TypeDesc.array 0 16) := by kernel_rfl
@[go_sem] theorem tab.ag114 : tyAgg Try.prog 114 = some true := by kernel_rfl
@[go_sem] theorem tab.sz115 : tySize Try.prog 115 = some 0 := by kernel_rfl
@[go_sem] theorem tab.by115 : tyBytes Try.prog 115 = some 0 := by kernel_rfl
@[go_sem] theorem tab.ze115 : tyZero Try.prog 115 = some (Go.Value.agg #[]) := by kernel_rfl
@[go_sem] theorem tab.un115 : Program.underlying Try.prog 115 = some (Go.TypeDesc.struct #[{ name := "_", type := 114, offset := 0, embedded := false, tag := "", pkgPath := "runtime", byteOffset := 0 }]) := by kernel_rfl
@[go_sem] theorem tab.ag115 : tyAgg Try.prog 115 = some true := by kernel_rfl
@[go_sem] theorem tab.sz116 : tySize Try.prog 116 = some 0 := by kernel_rfl
@[go_sem] theorem tab.by116 : tyBytes Try.prog 116 = some 0 := by kernel_rfl
@[go_sem] theorem tab.ze116 : tyZero Try.prog 116 = some (Go.Value.agg #[]) := by kernel_rfl
@[go_sem] theorem tab.un116 : Program.underlying Try.prog 116 = some (Go.TypeDesc.struct #[{ name := "_", type := 114, offset := 0, embedded := false, tag := "", pkgPath := "runtime", byteOffset := 0 }]) := by kernel_rfl
@[go_sem] theorem tab.ag116 : tyAgg Try.prog 116 = some true := by kernel_rfl
@[go_sem] theorem tab.sz117 : tySize Try.prog 117 = some 1 := by kernel_rfl
@[go_sem] theorem tab.by117 : tyBytes Try.prog 117 = some 4 := by kernel_rfl
@[go_sem] theorem tab.ze117 : tyZero Try.prog 117 = some (Go.Value.int Go.IntKind.u32 0) := by kernel_rfl
@[go_sem] theorem tab.un117 : Program.underlying Try.prog 117 = some (Go.TypeDesc.int Go.IntKind.u32) := by kernel_rfl
@[go_sem] theorem tab.ag117 : tyAgg Try.prog 117 = some false := by kernel_rfl
@[go_sem] theorem tab.sz118 : tySize Try.prog 118 = some 1 := by kernel_rfl
@[go_sem] theorem tab.by118 : tyBytes Try.prog 118 = some 1 := by kernel_rfl
@[go_sem] theorem tab.ze118 : tyZero Try.prog 118 = some (Go.Value.int Go.IntKind.u8 0) := by kernel_rfl
@[go_sem] theorem tab.un118 : Program.underlying Try.prog 118 = some (Go.TypeDesc.int Go.IntKind.u8) := by kernel_rfl
@[go_sem] theorem tab.ag118 : tyAgg Try.prog 118 = some false := by kernel_rfl
@[go_sem] theorem tab.sz119 : tySize Try.prog 119 = some 1 := by kernel_rfl
@[go_sem] theorem tab.by119 : tyBytes Try.prog 119 = some 1 := by kernel_rfl
@[go_sem] theorem tab.ze119 : tyZero Try.prog 119 = some (Go.Value.int Go.IntKind.u8 0) := by kernel_rfl
@[go_sem] theorem tab.un119 : Program.underlying Try.prog 119 = some (Go.TypeDesc.int Go.IntKind.u8) := by kernel_rfl
@[go_sem] theorem tab.ag119 : tyAgg Try.prog 119 = some false := by kernel_rfl
@[go_sem] theorem tab.sz121 : tySize Try.prog 121 = some 1 := by kernel_rfl
@[go_sem] theorem tab.by121 : tyBytes Try.prog 121 = some 8 := by kernel_rfl
@[go_sem] theorem tab.ze121 : tyZero Try.prog 121 = some (Go.Value.pointer none) := by kernel_rfl
@[go_sem] theorem tab.un121 : Program.underlying Try.prog 121 = some (Go.TypeDesc.pointer 5) := by kernel_rfl
@[go_sem] theorem tab.ag121 : tyAgg Try.prog 121 = some false := by kernel_rfl
@[go_sem] theorem tab.sz122 : tySize Try.prog 122 = some 1 := by kernel_rfl
@[go_sem] theorem tab.by122 : tyBytes Try.prog 122 = some 4 := by kernel_rfl
@[go_sem] theorem tab.ze122 : tyZero Try.prog 122 = some (Go.Value.int Go.IntKind.i32 0) := by kernel_rfl
@[go_sem] theorem tab.un122 : Program.underlying Try.prog 122 = some (Go.TypeDesc.int Go.IntKind.i32) := by kernel_rfl
@[go_sem] theorem tab.ag122 : tyAgg Try.prog 122 = some false := by kernel_rfl
@[go_sem] theorem tab.sz123 : tySize Try.prog 123 = some 1 := by kernel_rfl
@[go_sem] theorem tab.by123 : tyBytes Try.prog 123 = some 4 := by kernel_rfl
@[go_sem] theorem tab.ze123 : tyZero Try.prog 123 = some (Go.Value.int Go.IntKind.i32 0) := by kernel_rfl
@[go_sem] theorem tab.un123 : Program.underlying Try.prog 123 = some (Go.TypeDesc.int Go.IntKind.i32) := by kernel_rfl
@[go_sem] theorem tab.ag123 : tyAgg Try.prog 123 = some false := by kernel_rfl
@[go_sem] theorem tab.sz124 : tySize Try.prog 124 = some 11 := by kernel_rfl
@[go_sem] theorem tab.by124 : tyBytes Try.prog 124 = some 48 := by kernel_rfl
@[go_sem] theorem tab.ze124 : tyZero Try.prog 124 = some (Go.Value.agg #[(Go.Value.int Go.IntKind.u64 0), (Go.Value.int Go.IntKind.u64 0), (Go.Value.int Go.IntKind.u32 0), (Go.Value.int Go.IntKind.u8 0), (Go.Value.int Go.IntKind.u8 0), (Go.Value.int Go.IntKind.u8 0), (Go.Value.int Go.IntKind.u8 0), Go.Value.nilFunc, (Go.Value.pointer none), (Go.Value.int Go.IntKind.i32 0), (Go.Value.int Go.IntKind.i32 0)]) := by kernel_rfl
@[go_sem] theorem tab.un124 : Program.underlying Try.prog 124 = some (Go.TypeDesc.struct #[{ name := "Size_", type := 12, offset := 0, embedded := false, tag := "", pkgPath := "", byteOffset := 0 }, { name := "PtrBytes", type := 12, offset := 1, embedded := false, tag := "", pkgPath := "", byteOffset := 8 }, { name := "Hash", type := 117, offset := 2, embedded := false, tag := "", pkgPath := "", byteOffset := 16 }, { name := "TFlag", type := 118, offset := 3, embedded := false, tag := "", pkgPath := "", byteOffset := 20 }, { name := "Align_", type := 5, offset := 4, embedded := false, tag := "", pkgPath := "", byteOffset := 21 }, { name := "FieldAlign_", type := 5, offset := 5, embedded := false, tag := "", pkgPath := "", byteOffset := 22 }, { name := "Kind_", type := 119, offset := 6, embedded := false, tag := "", pkgPath := "", byteOffset := 23 }, { name := "Equal", type := 120, offset := 7, embedded := false, tag := "", pkgPath := "", byteOffset := 24 }, { name := "GCData", type := 121, offset := 8, embedded := false, tag := "", pkgPath := "", byteOffset := 32 }, { name := "Str", type := 122, offset := 9, embedded := false, tag := "", pkgPath := "", byteOffset := 40 }, { name := "PtrToThis", type := 123, offset := 10, embedded := false, tag := "", pkgPath := "", byteOffset := 44 }]) := by kernel_rfl
@[go_sem] theorem tab.ag124 : tyAgg Try.prog 124 = some true := by kernel_rfl
@[go_sem] theorem tab.fi124_0 : tyField Try.prog 124 0 = some (12, 0) := by kernel_rfl
@[go_sem] theorem tab.fi124_1 : tyField Try.prog 124 1 = some (12, 1) := by kernel_rfl
@[go_sem] theorem tab.fi124_2 : tyField Try.prog 124 2 = some (117, 2) := by kernel_rfl
@[go_sem] theorem tab.fi124_3 : tyField Try.prog 124 3 = some (118, 3) := by kernel_rfl
@[go_sem] theorem tab.fi124_4 : tyField Try.prog 124 4 = some (5, 4) := by kernel_rfl
@[go_sem] theorem tab.fi124_5 : tyField Try.prog 124 5 = some (5, 5) := by kernel_rfl
@[go_sem] theorem tab.fi124_6 : tyField Try.prog 124 6 = some (119, 6) := by kernel_rfl
@[go_sem] theorem tab.fi124_7 : tyField Try.prog 124 7 = some (120, 7) := by kernel_rfl
@[go_sem] theorem tab.fi124_8 : tyField Try.prog 124 8 = some (121, 8) := by kernel_rfl
@[go_sem] theorem tab.fi124_9 : tyField Try.prog 124 9 = some (122, 9) := by kernel_rfl
@[go_sem] theorem tab.fi124_10 : tyField Try.prog 124 10 = some (123, 10) := by kernel_rfl
@[go_sem] theorem tab.sz125 : tySize Try.prog 125 = some 11 := by kernel_rfl
@[go_sem] theorem tab.by125 : tyBytes Try.prog 125 = some 48 := by kernel_rfl
@[go_sem] theorem tab.ze125 : tyZero Try.prog 125 = some (Go.Value.agg #[(Go.Value.int Go.IntKind.u64 0), (Go.Value.int Go.IntKind.u64 0), (Go.Value.int Go.IntKind.u32 0), (Go.Value.int Go.IntKind.u8 0), (Go.Value.int Go.IntKind.u8 0), (Go.Value.int Go.IntKind.u8 0), (Go.Value.int Go.IntKind.u8 0), Go.Value.nilFunc, (Go.Value.pointer none), (Go.Value.int Go.IntKind.i32 0), (Go.Value.int Go.IntKind.i32 0)]) := by kernel_rfl
@[go_sem] theorem tab.un125 : Program.underlying Try.prog 125 = some (Go.TypeDesc.struct #[{ name := "Size_", type := 12, offset := 0, embedded := false, tag := "", pkgPath := "", byteOffset := 0 }, { name := "PtrBytes", type := 12, offset := 1, embedded := false, tag := "", pkgPath := "", byteOffset := 8 }, { name := "Hash", type := 117, offset := 2, embedded := false, tag := "", pkgPath := "", byteOffset := 16 }, { name := "TFlag", type := 118, offset := 3, embedded := false, tag := "", pkgPath := "", byteOffset := 20 }, { name := "Align_", type := 5, offset := 4, embedded := false, tag := "", pkgPath := "", byteOffset := 21 }, { name := "FieldAlign_", type := 5, offset := 5, embedded := false, tag := "", pkgPath := "", byteOffset := 22 }, { name := "Kind_", type := 119, offset := 6, embedded := false, tag := "", pkgPath := "", byteOffset := 23 }, { name := "Equal", type := 120, offset := 7, embedded := false, tag := "", pkgPath := "", byteOffset := 24 }, { name := "GCData", type := 121, offset := 8, embedded := false, tag := "", pkgPath := "", byteOffset := 32 }, { name := "Str", type := 122, offset := 9, embedded := false, tag := "", pkgPath := "", byteOffset := 40 }, { name := "PtrToThis", type := 123, offset := 10, embedded := false, tag := "", pkgPath := "", byteOffset := 44 }]) := by kernel_rfl
@[go_sem] theorem tab.ag125 : tyAgg Try.prog 125 = some true := by kernel_rfl
@[go_sem] theorem tab.fi125_0 : tyField Try.prog 125 0 = some (12, 0) := by kernel_rfl
@[go_sem] theorem tab.fi125_1 : tyField Try.prog 125 1 = some (12, 1) := by kernel_rfl
@[go_sem] theorem tab.fi125_2 : tyField Try.prog 125 2 = some (117, 2) := by kernel_rfl
@[go_sem] theorem tab.fi125_3 : tyField Try.prog 125 3 = some (118, 3) := by kernel_rfl
@[go_sem] theorem tab.fi125_4 : tyField Try.prog 125 4 = some (5, 4) := by kernel_rfl
@[go_sem] theorem tab.fi125_5 : tyField Try.prog 125 5 = some (5, 5) := by kernel_rfl
@[go_sem] theorem tab.fi125_6 : tyField Try.prog 125 6 = some (119, 6) := by kernel_rfl
@[go_sem] theorem tab.fi125_7 : tyField Try.prog 125 7 = some (120, 7) := by kernel_rfl
@[go_sem] theorem tab.fi125_8 : tyField Try.prog 125 8 = some (121, 8) := by kernel_rfl
@[go_sem] theorem tab.fi125_9 : tyField Try.prog 125 9 = some (122, 9) := by kernel_rfl
@[go_sem] theorem tab.fi125_10 : tyField Try.prog 125 10 = some (123, 10) := by kernel_rfl
@[go_sem] theorem tab.sz126 : tySize Try.prog 126 = some 1 := by kernel_rfl
@[go_sem] theorem tab.by126 : tyBytes Try.prog 126 = some 8 := by kernel_rfl
@[go_sem] theorem tab.ze126 : tyZero Try.prog 126 = some (Go.Value.pointer none) := by kernel_rfl
@[go_sem] theorem tab.ag126 : tyAgg Try.prog 126 = some false := by kernel_rfl
@[go_sem] theorem tab.ca3 : isCall Try.prog 3 = true := by kernel_rfl
@[go_sem] theorem tab.ca4 : isCall Try.prog 4 = true := by kernel_rfl
@[go_sem] theorem tab.ca5 : isCall Try.prog 5 = true := by kernel_rfl
@[go_sem] theorem tab.ca6 : isCall Try.prog 6 = true := by kernel_rfl
@[go_sem] theorem tab.ca7 : isCall Try.prog 7 = true := by kernel_rfl
@[go_sem] theorem tab.ca8 : isCall Try.prog 8 = true := by kernel_rfl
@[go_sem] theorem tab.ca9 : isCall Try.prog 9 = true := by kernel_rfl
@[go_sem] theorem tab.ca10 : isCall Try.prog 10 = true := by kernel_rfl
@[go_sem] theorem tab.ca11 : isCall Try.prog 11 = true := by kernel_rfl
@[go_sem] theorem tab.ca12 : isCall Try.prog 12 = true := by kernel_rfl
@[go_sem] theorem tab.ca13 : isCall Try.prog 13 = true := by kernel_rfl
@[go_sem] theorem tab.ca14 : isCall Try.prog 14 = true := by kernel_rfl
@[go_sem] theorem tab.ca15 : isCall Try.prog 15 = true := by kernel_rfl
@[go_sem] theorem tab.ca16 : isCall Try.prog 16 = true := by kernel_rfl
@[go_sem] theorem tab.ca17 : isCall Try.prog 17 = true := by kernel_rfl
@[go_sem] theorem tab.ca18 : isCall Try.prog 18 = true := by kernel_rfl
@[go_sem] theorem tab.ca19 : isCall Try.prog 19 = true := by kernel_rfl
@[go_sem] theorem tab.ca20 : isCall Try.prog 20 = true := by kernel_rfl
@[go_sem] theorem tab.ca21 : isCall Try.prog 21 = true := by kernel_rfl
@[go_sem] theorem tab.ca22 : isCall Try.prog 22 = true := by kernel_rfl
@[go_sem] theorem tab.ca23 : isCall Try.prog 23 = true := by kernel_rfl
@[go_sem] theorem tab.ca24 : isCall Try.prog 24 = true := by kernel_rfl
@[go_sem] theorem tab.ca25 : isCall Try.prog 25 = true := by kernel_rfl
@[go_sem] theorem tab.ca26 : isCall Try.prog 26 = true := by kernel_rfl
@[go_sem] theorem tab.ca27 : isCall Try.prog 27 = true := by kernel_rfl
@[go_sem] theorem tab.ca28 : isCall Try.prog 28 = true := by kernel_rfl
@[go_sem] theorem tab.ca29 : isCall Try.prog 29 = true := by kernel_rfl
@[go_sem] theorem tab.ca30 : isCall Try.prog 30 = true := by kernel_rfl
@[go_sem] theorem tab.ca31 : isCall Try.prog 31 = true := by kernel_rfl
@[go_sem] theorem tab.ca32 : isCall Try.prog 32 = true := by kernel_rfl
@[go_sem] theorem tab.ca33 : isCall Try.prog 33 = true := by kernel_rfl
@[go_sem] theorem tab.ca34 : isCall Try.prog 34 = true := by kernel_rfl
@[go_sem] theorem tab.ca35 : isCall Try.prog 35 = true := by kernel_rfl
@[go_sem] theorem tab.ca36 : isCall Try.prog 36 = true := by kernel_rfl
@[go_sem] theorem tab.ca37 : isCall Try.prog 37 = true := by kernel_rfl
@[go_sem] theorem tab.ca38 : isCall Try.prog 38 = true := by kernel_rfl
@[go_sem] theorem tab.ca39 : isCall Try.prog 39 = true := by kernel_rfl
@[go_sem] theorem tab.ca40 : isCall Try.prog 40 = true := by kernel_rfl
@[go_sem] theorem tab.ca41 : isCall Try.prog 41 = true := by kernel_rfl
@[go_sem] theorem tab.ca42 : isCall Try.prog 42 = true := by kernel_rfl
@[go_sem] theorem tab.ca43 : isCall Try.prog 43 = true := by kernel_rfl
@[go_sem] theorem tab.ca44 : isCall Try.prog 44 = true := by kernel_rfl
@[go_sem] theorem tab.ca45 : isCall Try.prog 45 = true := by kernel_rfl
@[go_sem] theorem tab.ca46 : isCall Try.prog 46 = true := by kernel_rfl
@[go_sem] theorem tab.ca47 : isCall Try.prog 47 = true := by kernel_rfl
@[go_sem] theorem tab.ca48 : isCall Try.prog 48 = true := by kernel_rfl
@[go_sem] theorem tab.ca49 : isCall Try.prog 49 = true := by kernel_rfl
@[go_sem] theorem tab.ca50 : isCall Try.prog 50 = true := by kernel_rfl
@[go_sem] theorem tab.ca51 : isCall Try.prog 51 = true := by kernel_rfl
@[go_sem] theorem tab.ca52 : isCall Try.prog 52 = true := by kernel_rfl
@[go_sem] theorem tab.ca53 : isCall Try.prog 53 = true := by kernel_rfl
@[go_sem] theorem tab.ca54 : isCall Try.prog 54 = true := by kernel_rfl
@[go_sem] theorem tab.ca55 : isCall Try.prog 55 = true := by kernel_rfl
@[go_sem] theorem tab.ca56 : isCall Try.prog 56 = true := by kernel_rfl
@[go_sem] theorem tab.ca57 : isCall Try.prog 57 = true := by kernel_rfl
@[go_sem] theorem tab.ca58 : isCall Try.prog 58 = true := by kernel_rfl
@[go_sem] theorem tab.ca59 : isCall Try.prog 59 = true := by kernel_rfl
@[go_sem] theorem tab.ca60 : isCall Try.prog 60 = true := by kernel_rfl
@[go_sem] theorem tab.ca61 : isCall Try.prog 61 = true := by kernel_rfl
@[go_sem] theorem tab.ca62 : isCall Try.prog 62 = true := by kernel_rfl
@[go_sem] theorem tab.ca63 : isCall Try.prog 63 = true := by kernel_rfl
@[go_sem] theorem tab.ca64 : isCall Try.prog 64 = true := by kernel_rfl
@[go_sem] theorem tab.ca65 : isCall Try.prog 65 = true := by kernel_rfl
@[go_sem] theorem tab.ca66 : isCall Try.prog 66 = true := by kernel_rfl
@[go_sem] theorem tab.ca67 : isCall Try.prog 67 = true := by kernel_rfl
@[go_sem] theorem tab.ca68 : isCall Try.prog 68 = true := by kernel_rfl
@[go_sem] theorem tab.ca69 : isCall Try.prog 69 = true := by kernel_rfl
@[go_sem] theorem tab.ca70 : isCall Try.prog 70 = true := by kernel_rfl
@[go_sem] theorem tab.ca71 : isCall Try.prog 71 = true := by kernel_rfl
@[go_sem] theorem tab.ca72 : isCall Try.prog 72 = true := by kernel_rfl
@[go_sem] theorem tab.ca73 : isCall Try.prog 73 = true := by kernel_rfl
@[go_sem] theorem tab.ca74 : isCall Try.prog 74 = true := by kernel_rfl
@[go_sem] theorem tab.ca75 : isCall Try.prog 75 = true := by kernel_rfl
theorem tab.mixed : Try.prog.follows .mixedOrders = true := by kernel_rfl
end Go.Proofs.Ytpfflibkkjjlaaa
namespace Go.Proofs.Ytpfflibkkjjlaaa
open Go Go.RowKit

/-! ### small ways on; what follows is not looked into before the value is known -/
def optK (r : Option Value) (C : Value → Prop) : Prop := match r with
  | some v => C v
  | none => False
def optL (r : Option (List Value)) (C : Value → Prop) : Prop := match r with
  | some l => C (.agg l.toArray)
  | none => False
def optS (r : Option (List UInt8)) (C : Value → Prop) : Prop := match r with
  | some l => C (.string ⟨l.toArray⟩)
  | none => False
def optB (r : Option UInt8) (C : Value → Prop) : Prop := match r with
  | some l => C (.int .u8 l.toNat)
  | none => False
def optN (r : Option Nat) (C : Nat → Prop) : Prop := match r with
  | some n => C n
  | none => False
def cellK (r : Option Obj) (o : Nat) (C : Value → Prop) : Prop := match r with
  | some (.cells c _ _) => optK c[o]? C
  | _ => False
def aggK (r : Option Obj) (o n : Nat) (C : Value → Prop) : Prop := match r with
  | some (.cells c _ _) => optL (cellsL c o n) C
  | _ => False
def strK (r : Option Obj) (o n : Nat) (C : Value → Prop) : Prop := match r with
  | some (.cells c _ _) => optS ((cellsL c o n).bind bytesOf) C
  | _ => False
def stK (r : Option Obj) (b o n : Nat) (l : List Value) (h : Hp) (K : KH) : Prop := match r with
  | some (.cells c e fz) => l.all Value.oneCell' = true ∧ o + n ≤ c.size ∧ (fz.2 ≤ fz.1 ∨ o + n ≤ fz.1) ∧ K undef (h.put b (.cells (writeL c o l) e fz))
  | _ => False
section
variable (P : Program) (C : Value → Prop) (t : TypeId) (h : Hp) (K : KH) (b o n i : Nat) (x y v : Value)
theorem optK_some : optK (some v) C = C v := id rfl
theorem optL_some (l : List Value) : optL (some l) C = C (.agg l.toArray) := id rfl
theorem optS_some (l : List UInt8) : optS (some l) C = C (.string ⟨l.toArray⟩) := id rfl
theorem optB_some (c : UInt8) : optB (some c) C = C (.int .u8 c.toNat) := id rfl
theorem optN_some (G : Nat → Prop) : optN (some n) G = G n := id rfl
theorem cellK_cells (c : Array Value) (e : TypeId) (fz : Nat × Nat) : cellK (some (.cells c e fz)) o C = optK c[o]? C := id rfl
theorem aggK_cells (c : Array Value) (e : TypeId) (fz : Nat × Nat) : aggK (some (.cells c e fz)) o n C = optL (cellsL c o n) C := id rfl
theorem strK_cells (c : Array Value) (e : TypeId) (fz : Nat × Nat) : strK (some (.cells c e fz)) o n C = optS ((cellsL c o n).bind bytesOf) C := id rfl
theorem stK_cells (c : Array Value) (e : TypeId) (lo hi : Nat) (l : List Value) : stK (some (.cells c e (lo, hi))) b o n l h K = (l.all Value.oneCell' = true ∧ o + n ≤ c.size ∧ (hi ≤ lo ∨ o + n ≤ lo) ∧ K undef (h.put b (.cells (writeL c o l) e (lo, hi)))) := id rfl

/-! ### types -/
def isSl : Option TypeDesc → Bool
  | some (.slice _) => true
  | _ => false
def isArr : Option TypeDesc → Bool
  | some (.array _ _) => true
  | _ => false
def isPtr : Option TypeDesc → Bool
  | some (.pointer _) => true
  | _ => false
def elT : Option TypeDesc → TypeId
  | some (.slice e) => e
  | some (.array _ e) => e
  | _ => 0
def arrN : Option TypeDesc → Nat
  | some (.array n _) => n
  | _ => 0
def isInt : Option TypeDesc → Bool
  | some (.int _) => true
  | _ => false
def intK : Option TypeDesc → IntKind
  | some (.int k) => k
  | _ => .i64
theorem isSl_spec {d : Option TypeDesc} (h : isSl d = true) : ∃ e, d = some (.slice e) := by
  unfold isSl at h; split at h
  · exact ⟨_, rfl⟩
  · cases h
theorem isArr_spec {d : Option TypeDesc} (h : isArr d = true) : ∃ n e, d = some (.array n e) := by
  unfold isArr at h; split at h
  · exact ⟨_, _, rfl⟩
  · cases h
theorem isInt_spec {d : Option TypeDesc} (h : isInt d = true) : ∃ k, d = some (.int k) := by
  unfold isInt at h; split at h
  · exact ⟨_, rfl⟩
  · cases h
theorem isPtr_spec {d : Option TypeDesc} (h : isPtr d = true) : ∃ e, d = some (.pointer e) := by
  unfold isPtr at h; split at h
  · exact ⟨_, rfl⟩
  · cases h

/-! ### operations -/
def QC (P : Program) (f : FuncId) (args : Array Value) (h : Hp) (C : Value → Prop) : Prop := ∃ v, QCall P f args h v ∧ C v
theorem acall_func (g : FuncId) (a c d : Array Value) : acall P (.func (.func g) a d) c h K = CallF P g (a ++ c ++ d) h K := id rfl
theorem qcall_func (g : FuncId) (a c d : Array Value) : qcall P (.func (.func g) a d) c h C = QC P g (a ++ c ++ d) h C := id rfl
theorem ab_add (k : IntKind) (p q : Int) : abin P .add t (.int k p) (.int k q) C = C (.int k (k.wrap (p + q))) := by simp [abin]
theorem ab_sub (k : IntKind) (p q : Int) : abin P .sub t (.int k p) (.int k q) C = C (.int k (k.wrap (p - q))) := by simp [abin]
theorem ab_mul (k : IntKind) (p q : Int) : abin P .mul t (.int k p) (.int k q) C = C (.int k (k.wrap (p * q))) := by simp [abin]
theorem ab_quo (k : IntKind) (p q : Int) : abin P .quo t (.int k p) (.int k q) C = (q ≠ 0 ∧ C (.int k (k.wrap (p.tdiv q)))) := by simp [abin]
theorem ab_rem (k : IntKind) (p q : Int) : abin P .rem t (.int k p) (.int k q) C = (q ≠ 0 ∧ C (.int k (p.tmod q))) := by simp [abin]
theorem ab_and (k : IntKind) (p q : Int) : abin P .and t (.int k p) (.int k q) C = C (.int k (bitsV .and k p q)) := by simp [abin]
theorem ab_or (k : IntKind) (p q : Int) : abin P .or t (.int k p) (.int k q) C = C (.int k (bitsV .or k p q)) := by simp [abin]
theorem ab_xor (k : IntKind) (p q : Int) : abin P .xor t (.int k p) (.int k q) C = C (.int k (bitsV .xor k p q)) := by simp [abin]
theorem ab_andNot (k : IntKind) (p q : Int) : abin P .andNot t (.int k p) (.int k q) C = C (.int k (bitsV .andNot k p q)) := by simp [abin]
theorem ab_shl (k k' : IntKind) (p q : Int) : abin P .shl t (.int k p) (.int k' q) C = (0 ≤ q ∧ C (.int k (k.wrap (p * 2 ^ min q.toNat k.bits)))) := by simp [abin]
theorem ab_shr (k k' : IntKind) (p q : Int) : abin P .shr t (.int k p) (.int k' q) C = (0 ≤ q ∧ C (.int k (p.fdiv (2 ^ min q.toNat k.bits)))) := by simp [abin]
theorem ab_eql (k : IntKind) (p q : Int) : abin P .eql t (.int k p) (.int k q) C = C (.bool (decide (p = q))) := by simp [abin]
theorem ab_neq (k : IntKind) (p q : Int) : abin P .neq t (.int k p) (.int k q) C = C (.bool (!decide (p = q))) := by simp [abin]
theorem ab_lss (k : IntKind) (p q : Int) : abin P .lss t (.int k p) (.int k q) C = C (.bool (decide (p < q))) := by simp [abin]
theorem ab_leq (k : IntKind) (p q : Int) : abin P .leq t (.int k p) (.int k q) C = C (.bool (decide (p ≤ q))) := by simp [abin]
theorem ab_gtr (k : IntKind) (p q : Int) : abin P .gtr t (.int k p) (.int k q) C = C (.bool (decide (q < p))) := by simp [abin]
theorem ab_geq (k : IntKind) (p q : Int) : abin P .geq t (.int k p) (.int k q) C = C (.bool (decide (q ≤ p))) := by simp [abin]
theorem ab_sadd (s r : ByteArray) : abin P .add t (.string s) (.string r) C = (s.size + r.size ≤ 9223372036854775807 ∧ C (.string (s ++ r))) := id rfl
theorem ab_seql (s r : ByteArray) : abin P .eql t (.string s) (.string r) C = C (.bool (s.toList == r.toList)) := id rfl
theorem ab_sneq (s r : ByteArray) : abin P .neq t (.string s) (.string r) C = C (.bool (!(s.toList == r.toList))) := id rfl
theorem ab_slss (s r : ByteArray) : abin P .lss t (.string s) (.string r) C = C (.bool (Op.bytesLess s.toList r.toList)) := id rfl
theorem ab_sleq (s r : ByteArray) : abin P .leq t (.string s) (.string r) C = C (.bool (Op.bytesLess s.toList r.toList || s.toList == r.toList)) := id rfl
theorem ab_sgtr (s r : ByteArray) : abin P .gtr t (.string s) (.string r) C = C (.bool (!(Op.bytesLess s.toList r.toList || s.toList == r.toList))) := id rfl
theorem ab_sgeq (s r : ByteArray) : abin P .geq t (.string s) (.string r) C = C (.bool (!(Op.bytesLess s.toList r.toList))) := id rfl
theorem ab_beql (p q : Bool) (hu : P.underlying t = some .bool) : abin P .eql t (.bool p) (.bool q) C = C (.bool (p == q)) := by simp [abin, hu]
theorem ab_bneq (p q : Bool) (hu : P.underlying t = some .bool) : abin P .neq t (.bool p) (.bool q) C = C (.bool (!(p == q))) := by simp [abin, hu]
theorem ab_peql (p : Option Addr) (hu : isPtr (P.underlying t) = true) : abin P .eql t (.pointer p) (.pointer none) C = C (.bool p.isNone) := by
  obtain ⟨e, he⟩ := isPtr_spec hu; simp only [abin, he]
theorem ab_pneq (p : Option Addr) (hu : isPtr (P.underlying t) = true) : abin P .neq t (.pointer p) (.pointer none) C = C (.bool (!p.isNone)) := by
  obtain ⟨e, he⟩ := isPtr_spec hu; simp only [abin, he]
theorem ab_sleql (p : Option Addr) (m c m' c' : Nat) (hu : isSl (P.underlying t) = true) : abin P .eql t (.slice p m c) (.slice none m' c') C = C (.bool p.isNone) := by
  obtain ⟨e, he⟩ := isSl_spec hu; simp only [abin, he]
theorem ab_slneq (p : Option Addr) (m c m' c' : Nat) (hu : isSl (P.underlying t) = true) : abin P .neq t (.slice p m c) (.slice none m' c') C = C (.bool (!p.isNone)) := by
  obtain ⟨e, he⟩ := isSl_spec hu; simp only [abin, he]
theorem au_not (q : Bool) : aun .not (.bool q) C = C (.bool (!q)) := id rfl
theorem au_neg (k : IntKind) (p : Int) : aun .neg (.int k p) C = C (.int k (k.wrap (0 - p))) := id rfl
theorem au_xor (k : IntKind) (p : Int) : aun .xor (.int k p) C = C (.int k (bitsV .xor k (if k.signed then -1 else k.max) p)) := id rfl
theorem ld_cell (ha : tyAgg P t = some false) : aload P t (.pointer (some ⟨b, o, none⟩)) h C = cellK (h.f b) o C := by
  simp only [aload, cellK, ha]
  generalize h.f b = r
  cases r with
  | none => rfl
  | some ob =>
    cases ob <;> try rfl
theorem ld_agg (ha : tyAgg P t = some true) : aload P t (.pointer (some ⟨b, o, none⟩)) h C = optN (tySize P t) (fun n => aggK (h.f b) o n C) := by
  simp only [aload, aggK, ha, optN]
  generalize h.f b = r
  cases tySize P t with
  | none =>
    cases r with
    | none => rfl
    | some ob => cases ob <;> rfl
  | some n =>
    cases r with
    | none => rfl
    | some ob =>
      cases ob <;> try rfl
theorem sto (hn : tySize P t = some v.cells.size) : astore P t (.pointer (some ⟨b, o, none⟩)) v h K = stK (h.f b) b o v.cells.size v.cells.toList h K := by
  simp only [astore, stK, hn, Free, true_and]
  generalize h.f b = r
  cases r with
  | none => rfl
  | some ob => cases ob <;> rfl
theorem fa_ptr : afieldAddr P t (.pointer (some ⟨b, o, none⟩)) i C = optN ((tyField P t i).map (·.2)) (fun off => C (.pointer (some ⟨b, o + off, none⟩))) := by
  simp only [afieldAddr, optN]
  cases tyField P t i <;> rfl
theorem f_agg (cs : Array Value) : afield P t (.agg cs) i C = optN ((tyField P t i).map (·.2)) (fun off => optN ((tyField P t i).map (·.1)) fun t' => apart_ P t' cs off C) := by
  simp only [afield, optN]
  cases tyField P t i <;> rfl
theorem part_f (cs : Array Value) (off : Nat) (ha : tyAgg P t = some false) : apart_ P t cs off C = optK cs[off]? C := by
  simp only [apart_, ha, optK]
  cases cs[off]? <;> rfl
theorem part_t (cs : Array Value) (off : Nat) (ha : tyAgg P t = some true) : apart_ P t cs off C = optN (tySize P t) (fun n => C (.agg (cs.extract off (off + n)))) := by
  simp only [apart_, ha, optN]
  cases tySize P t <;> rfl
theorem ia_sl (k : IntKind) (p : Int) (len cap : Nat) (hu : isSl (P.underlying t) = true) : aindexAddr P t (.slice (some ⟨b, o, none⟩) len cap) (.int k p) C =
    (0 ≤ p ∧ p < (len : Int) ∧ optN (tySize P (elT (P.underlying t))) fun n => C (.pointer (some ⟨b, o + p.toNat * n, none⟩))) := by
  obtain ⟨e, he⟩ := isSl_spec hu
  simp only [aindexAddr, he, elT, optN]
  cases tySize P e <;> rfl
theorem ia_arr (k : IntKind) (p : Int) (hu : isArr (P.underlying t) = true) : aindexAddr P t (.pointer (some ⟨b, o, none⟩)) (.int k p) C =
    (0 ≤ p ∧ p < (arrN (P.underlying t) : Int) ∧ optN (tySize P (elT (P.underlying t))) fun n => C (.pointer (some ⟨b, o + p.toNat * n, none⟩))) := by
  obtain ⟨m, e, he⟩ := isArr_spec hu
  simp only [aindexAddr, he, elT, arrN, optN]
  cases tySize P e <;> rfl
theorem ix_arr (k : IntKind) (p : Int) (cs : Array Value) (hu : isArr (P.underlying t) = true) : aindex P t (.agg cs) (.int k p) C =
    (0 ≤ p ∧ p < (arrN (P.underlying t) : Int) ∧ optN (tySize P (elT (P.underlying t))) fun n => apart_ P (elT (P.underlying t)) cs (p.toNat * n) C) := by
  obtain ⟨m, e, he⟩ := isArr_spec hu
  simp only [aindex, he, elT, arrN, optN]
  cases tySize P e <;> rfl
theorem ix_str (k : IntKind) (p : Int) (s : ByteArray) (hu : P.underlying t = some .string) : aindex P t (.string s) (.int k p) C = (0 ≤ p ∧ optB s.toList[p.toNat]? C) := by
  simp only [aindex, hu, optB]
  cases s.toList[p.toNat]? <;> rfl
theorem ex_tuple (vs : Array Value) : aextract (.tuple vs) i C = optK vs[i]? C := by
  simp only [aextract, optK]
  cases vs[i]? <;> rfl
theorem le_str (s : ByteArray) (hu : P.underlying t = some .string) : alen P t (.string s) h C = C (.int .i64 s.size) := by simp only [alen, hu]
theorem le_sl (p : Option Addr) (m c : Nat) (hu : isSl (P.underlying t) = true) : alen P t (.slice p m c) h C = C (.int .i64 m) := by
  obtain ⟨e, he⟩ := isSl_spec hu; simp only [alen, he]
theorem le_arr (hu : isArr (P.underlying t) = true) : alen P t x h C = C (.int .i64 (arrN (P.underlying t))) := by
  obtain ⟨m, e, he⟩ := isArr_spec hu; simp only [alen, he, arrN]
theorem mm_min (k k' : IntKind) (p q : Int) : aminmax false (.int k p) (.int k' q) C = C (.int k (min p q)) := id rfl
theorem mm_max (k k' : IntKind) (p q : Int) : aminmax true (.int k p) (.int k' q) C = C (.int k (max p q)) := id rfl
def sliceK (x : Value) (lo hi mx : Option Int) (hx : Bool) (k : Option Nat) (C : Value → Prop) : Prop := match x with
  | .string s => (match hi, lo with
    | some p, some q => 0 ≤ q ∧ q ≤ p ∧ p ≤ s.size ∧ C (.string (s.extract q.toNat p.toNat))
    | _, _ => False)
  | .slice a _ cap => (match mx, hi, lo, k with
    | some m, some p, some q, some n => 0 ≤ q ∧ q ≤ p ∧ (hx = true → p ≤ m) ∧ m ≤ (cap : Int) ∧ C (sliceOf a q.toNat p.toNat m.toNat n)
    | _, _, _, _ => False)
  | _ => False
theorem sliceK_str (s : ByteArray) (p q : Int) : sliceK (.string s) (some q) (some p) none false none C = (0 ≤ q ∧ q ≤ p ∧ p ≤ s.size ∧ C (.string (s.extract q.toNat p.toNat))) := id rfl
theorem sliceK_sl (a : Option Addr) (len cap : Nat) (m p q : Int) (hx : Bool) : sliceK (.slice a len cap) (some q) (some p) (some m) hx (some n) C = (0 ≤ q ∧ q ≤ p ∧ (hx = true → p ≤ m) ∧ m ≤ (cap : Int) ∧ C (sliceOf a q.toNat p.toNat m.toNat n)) := id rfl
theorem sl_str (s : ByteArray) (lo hi : Option Value) (hu : P.underlying t = some .string) : aslice P t (.string s) lo hi none C = sliceK (.string s) (bnd lo 0) (bnd hi s.size) none false none C := by
  simp only [aslice, sliceK, hu, true_and, Option.isSome_none]
  cases bnd hi s.size <;> cases bnd lo 0 <;> rfl
theorem upTo_eq (v : Option Value) (p m : Int) : upTo v p m = (v.isSome = true → p ≤ m) := by cases v <;> simp [upTo]
theorem sl_sl (a : Option Addr) (len cap : Nat) (lo hi : Option Value) (hu : isSl (P.underlying t) = true) : aslice P t (.slice a len cap) lo hi none C = sliceK (.slice a len cap) (bnd lo 0) (bnd hi len) (some cap) hi.isSome (tySize P (elT (P.underlying t))) C := by
  obtain ⟨e, he⟩ := isSl_spec hu
  simp only [aslice, he, elT, sliceK, upTo_eq, Option.isSome_none, show bnd none (cap : Int) = some (cap : Int) from rfl]
  generalize bnd lo 0 = x
  generalize bnd hi len = y
  cases tySize P e <;> cases x <;> cases y <;> simp
theorem sl_sl3 (a : Option Addr) (len cap : Nat) (lo : Option Value) (hi mx : Value) (hu : isSl (P.underlying t) = true) : aslice P t (.slice a len cap) lo (some hi) (some mx) C = sliceK (.slice a len cap) (bnd lo 0) (bnd (some hi) len) (bnd (some mx) cap) true (tySize P (elT (P.underlying t))) C := by
  obtain ⟨e, he⟩ := isSl_spec hu
  simp only [aslice, he, elT, sliceK, upTo_eq, Option.isSome_some]
  cases tySize P e <;> cases bnd (some mx) cap <;> cases bnd (some hi) len <;> cases bnd lo 0 <;> simp
theorem mk_slice (k k' : IntKind) (p q : Int) (hu : isSl (P.underlying t) = true) : amake P t (.int k p) (.int k' q) h K = optN (tySize P (elT (P.underlying t))) fun n => optN (tyBytes P (elT (P.underlying t))) fun m => optK (tyZero P (elT (P.underlying t))) fun z =>
    0 ≤ p ∧ p ≤ q ∧ (m : Int) * q ≤ 281474976710656 ∧ q ≤ 9223372036854775807 ∧ K (.slice (some ⟨h.n, 0, none⟩) p.toNat q.toNat) ((h.put h.n (.cells (madeCells z.cells (q.toNat * n)) (elT (P.underlying t)) (0, 0))).to (h.n + 1)) := by
  obtain ⟨e, he⟩ := isSl_spec hu
  simp only [amake, he, elT, optN, optK]
  cases tySize P e <;> cases tyBytes P e <;> cases tyZero P e <;> rfl
theorem cv_int (s' : TypeId) (k : IntKind) (p : Int) (hs : isInt (P.underlying s') = true) (hd : isInt (P.underlying t) = true) : aconv P s' t (.int k p) h K = K (.int (intK (P.underlying t)) ((intK (P.underlying t)).wrap p)) h := by
  obtain ⟨k1, h1⟩ := isInt_spec hs
  obtain ⟨k2, h2⟩ := isInt_spec hd
  simp only [aconv, h1, h2, intK]
theorem cvq_int (s' : TypeId) (k : IntKind) (p : Int) (hs : isInt (P.underlying s') = true) (hd : isInt (P.underlying t) = true) : qconv P s' t (.int k p) h C = C (.int (intK (P.underlying t)) ((intK (P.underlying t)).wrap p)) := by
  obtain ⟨k1, h1⟩ := isInt_spec hs
  obtain ⟨k2, h2⟩ := isInt_spec hd
  simp only [qconv, h1, h2, intK]
theorem cv_bytes (s' : TypeId) (s : ByteArray) (hs : P.underlying s' = some .string) (hd : isSl (P.underlying t) = true) (he : P.underlying (elT (P.underlying t)) = some (.int .u8)) : aconv P s' t (.string s) h K = ∀ cap, s.size ≤ cap →
    K (.slice (some ⟨h.n, 0, none⟩) s.size cap) ((h.put h.n (.cells (byteVals s ++ Array.replicate (cap - s.size) (.int .u8 0)) (elT (P.underlying t)) (cap, cap + 1))).to (h.n + 1)) := by
  obtain ⟨e, h1⟩ := isSl_spec hd
  rw [h1] at he
  simp only [elT] at he
  simp only [aconv, hs, h1, elT, he, true_and]
theorem cv_str (s' : TypeId) (m c : Nat) (hs : isSl (P.underlying s') = true) (he : P.underlying (elT (P.underlying s')) = some (.int .u8)) (hd : P.underlying t = some .string) :
    aconv P s' t (.slice (some ⟨b, o, none⟩) m c) h K = strK (h.f b) o m (fun v => K v h) := by
  obtain ⟨e, h1⟩ := isSl_spec hs
  rw [h1] at he
  simp only [elT] at he
  simp only [aconv, hd, h1, he, true_and, strK, optS]
  generalize h.f b = r
  cases r with
  | none => rfl
  | some ob => cases ob <;> rfl
theorem cv_nil (s' : TypeId) (m c : Nat) (hs : isSl (P.underlying s') = true) (he : P.underlying (elT (P.underlying s')) = some (.int .u8)) (hd : P.underlying t = some .string) :
    aconv P s' t (.slice none m c) h K = K (.string ByteArray.empty) h := by
  obtain ⟨e, h1⟩ := isSl_spec hs
  rw [h1] at he
  simp only [elT] at he
  simp only [aconv, hd, h1, he, true_and]
theorem bnd_none (d : Int) : bnd none d = some d := id rfl
theorem bnd_int (d : Int) (k : IntKind) (p : Int) : bnd (some (.int k p)) d = some p := id rfl
end

/-! ### the same, what follows out of the rules' sight -/
class Cn (α : Type) where
  go : α
abbrev CV := Cn (Value → Prop)
abbrev CH := Cn (Value → Hp → Prop)
def Go1 {α : Type} (F : α → Prop) [C : Cn α] : Prop := F C.go
section
variable (P : Program) [C : CV] (t : TypeId) (h : Hp) (b o n i : Nat) (x y v : Value)
theorem i_ab_add (k : IntKind) (p q : Int) : Go1 (abin P .add t (.int k p) (.int k q)) = C.go (.int k (k.wrap (p + q))) := by
  delta Go1; apply ab_add
theorem i_ab_sub (k : IntKind) (p q : Int) : Go1 (abin P .sub t (.int k p) (.int k q)) = C.go (.int k (k.wrap (p - q))) := by
  delta Go1; apply ab_sub
theorem i_ab_mul (k : IntKind) (p q : Int) : Go1 (abin P .mul t (.int k p) (.int k q)) = C.go (.int k (k.wrap (p * q))) := by
  delta Go1; apply ab_mul
theorem i_ab_quo (k : IntKind) (p q : Int) : Go1 (abin P .quo t (.int k p) (.int k q)) = (q ≠ 0 ∧ C.go (.int k (k.wrap (p.tdiv q)))) := by
  delta Go1; apply ab_quo
theorem i_ab_rem (k : IntKind) (p q : Int) : Go1 (abin P .rem t (.int k p) (.int k q)) = (q ≠ 0 ∧ C.go (.int k (p.tmod q))) := by
  delta Go1; apply ab_rem
theorem i_ab_and (k : IntKind) (p q : Int) : Go1 (abin P .and t (.int k p) (.int k q)) = C.go (.int k (bitsV .and k p q)) := by
  delta Go1; apply ab_and
theorem i_ab_or (k : IntKind) (p q : Int) : Go1 (abin P .or t (.int k p) (.int k q)) = C.go (.int k (bitsV .or k p q)) := by
  delta Go1; apply ab_or
theorem i_ab_xor (k : IntKind) (p q : Int) : Go1 (abin P .xor t (.int k p) (.int k q)) = C.go (.int k (bitsV .xor k p q)) := by
  delta Go1; apply ab_xor
theorem i_ab_andNot (k : IntKind) (p q : Int) : Go1 (abin P .andNot t (.int k p) (.int k q)) = C.go (.int k (bitsV .andNot k p q)) := by
  delta Go1; apply ab_andNot
theorem i_ab_shl (k k' : IntKind) (p q : Int) : Go1 (abin P .shl t (.int k p) (.int k' q)) = (0 ≤ q ∧ C.go (.int k (k.wrap (p * 2 ^ min q.toNat k.bits)))) := by
  delta Go1; apply ab_shl
theorem i_ab_shr (k k' : IntKind) (p q : Int) : Go1 (abin P .shr t (.int k p) (.int k' q)) = (0 ≤ q ∧ C.go (.int k (p.fdiv (2 ^ min q.toNat k.bits)))) := by
  delta Go1; apply ab_shr
theorem i_ab_eql (k : IntKind) (p q : Int) : Go1 (abin P .eql t (.int k p) (.int k q)) = C.go (.bool (decide (p = q))) := by
  delta Go1; apply ab_eql
theorem i_ab_neq (k : IntKind) (p q : Int) : Go1 (abin P .neq t (.int k p) (.int k q)) = C.go (.bool (!decide (p = q))) := by
  delta Go1; apply ab_neq
theorem i_ab_lss (k : IntKind) (p q : Int) : Go1 (abin P .lss t (.int k p) (.int k q)) = C.go (.bool (decide (p < q))) := by
  delta Go1; apply ab_lss
theorem i_ab_leq (k : IntKind) (p q : Int) : Go1 (abin P .leq t (.int k p) (.int k q)) = C.go (.bool (decide (p ≤ q))) := by
  delta Go1; apply ab_leq
theorem i_ab_gtr (k : IntKind) (p q : Int) : Go1 (abin P .gtr t (.int k p) (.int k q)) = C.go (.bool (decide (q < p))) := by
  delta Go1; apply ab_gtr
theorem i_ab_geq (k : IntKind) (p q : Int) : Go1 (abin P .geq t (.int k p) (.int k q)) = C.go (.bool (decide (q ≤ p))) := by
  delta Go1; apply ab_geq
theorem i_ab_sadd (s r : ByteArray) : Go1 (abin P .add t (.string s) (.string r)) = (s.size + r.size ≤ 9223372036854775807 ∧ C.go (.string (s ++ r))) := by
  delta Go1; apply ab_sadd
theorem i_ab_seql (s r : ByteArray) : Go1 (abin P .eql t (.string s) (.string r)) = C.go (.bool (s.toList == r.toList)) := by
  delta Go1; apply ab_seql
theorem i_ab_sneq (s r : ByteArray) : Go1 (abin P .neq t (.string s) (.string r)) = C.go (.bool (!(s.toList == r.toList))) := by
  delta Go1; apply ab_sneq
theorem i_ab_slss (s r : ByteArray) : Go1 (abin P .lss t (.string s) (.string r)) = C.go (.bool (Op.bytesLess s.toList r.toList)) := by
  delta Go1; apply ab_slss
theorem i_ab_sleq (s r : ByteArray) : Go1 (abin P .leq t (.string s) (.string r)) = C.go (.bool (Op.bytesLess s.toList r.toList || s.toList == r.toList)) := by
  delta Go1; apply ab_sleq
theorem i_ab_sgtr (s r : ByteArray) : Go1 (abin P .gtr t (.string s) (.string r)) = C.go (.bool (!(Op.bytesLess s.toList r.toList || s.toList == r.toList))) := by
  delta Go1; apply ab_sgtr
theorem i_ab_sgeq (s r : ByteArray) : Go1 (abin P .geq t (.string s) (.string r)) = C.go (.bool (!(Op.bytesLess s.toList r.toList))) := by
  delta Go1; apply ab_sgeq
theorem i_ab_beql (p q : Bool) (hu : P.underlying t = some .bool) : Go1 (abin P .eql t (.bool p) (.bool q)) = C.go (.bool (p == q)) := by
  delta Go1; apply ab_beql <;> assumption
theorem i_ab_bneq (p q : Bool) (hu : P.underlying t = some .bool) : Go1 (abin P .neq t (.bool p) (.bool q)) = C.go (.bool (!(p == q))) := by
  delta Go1; apply ab_bneq <;> assumption
theorem i_ab_peql (p : Option Addr) (hu : isPtr (P.underlying t) = true) : Go1 (abin P .eql t (.pointer p) (.pointer none)) = C.go (.bool p.isNone) := by
  delta Go1; apply ab_peql <;> assumption
theorem i_ab_pneq (p : Option Addr) (hu : isPtr (P.underlying t) = true) : Go1 (abin P .neq t (.pointer p) (.pointer none)) = C.go (.bool (!p.isNone)) := by
  delta Go1; apply ab_pneq <;> assumption
theorem i_ab_sleql (p : Option Addr) (m c m' c' : Nat) (hu : isSl (P.underlying t) = true) : Go1 (abin P .eql t (.slice p m c) (.slice none m' c')) = C.go (.bool p.isNone) := by
  delta Go1; apply ab_sleql <;> assumption
theorem i_ab_slneq (p : Option Addr) (m c m' c' : Nat) (hu : isSl (P.underlying t) = true) : Go1 (abin P .neq t (.slice p m c) (.slice none m' c')) = C.go (.bool (!p.isNone)) := by
  delta Go1; apply ab_slneq <;> assumption
theorem i_au_not (q : Bool) : Go1 (aun .not (.bool q)) = C.go (.bool (!q)) := by
  delta Go1; apply au_not
theorem i_au_neg (k : IntKind) (p : Int) : Go1 (aun .neg (.int k p)) = C.go (.int k (k.wrap (0 - p))) := by
  delta Go1; apply au_neg
theorem i_au_xor (k : IntKind) (p : Int) : Go1 (aun .xor (.int k p)) = C.go (.int k (bitsV .xor k (if k.signed then -1 else k.max) p)) := by
  delta Go1; apply au_xor
theorem i_le_str (s : ByteArray) (hu : P.underlying t = some .string) : Go1 (alen P t (.string s) h) = C.go (.int .i64 s.size) := by
  delta Go1; apply le_str <;> assumption
theorem i_le_sl (p : Option Addr) (m c : Nat) (hu : isSl (P.underlying t) = true) : Go1 (alen P t (.slice p m c) h) = C.go (.int .i64 m) := by
  delta Go1; apply le_sl <;> assumption
theorem i_le_arr (hu : isArr (P.underlying t) = true) : Go1 (alen P t x h) = C.go (.int .i64 (arrN (P.underlying t))) := by
  delta Go1; apply le_arr <;> assumption
theorem i_mm_min (k k' : IntKind) (p q : Int) : Go1 (aminmax false (.int k p) (.int k' q)) = C.go (.int k (min p q)) := by
  delta Go1; apply mm_min
theorem i_mm_max (k k' : IntKind) (p q : Int) : Go1 (aminmax true (.int k p) (.int k' q)) = C.go (.int k (max p q)) := by
  delta Go1; apply mm_max
theorem i_cvq_int (s' : TypeId) (k : IntKind) (p : Int) (hs : isInt (P.underlying s') = true) (hd : isInt (P.underlying t) = true) : Go1 (qconv P s' t (.int k p) h) = C.go (.int (intK (P.underlying t)) ((intK (P.underlying t)).wrap p)) := by
  delta Go1; apply cvq_int <;> assumption
theorem i_optK (v : Value) : Go1 (optK (some v)) = C.go v := id rfl
theorem i_optL (l : List Value) : Go1 (optL (some l)) = C.go (.agg l.toArray) := id rfl
theorem i_optS (l : List UInt8) : Go1 (optS (some l)) = C.go (.string ⟨l.toArray⟩) := id rfl
theorem i_optB (c : UInt8) : Go1 (optB (some c)) = C.go (.int .u8 c.toNat) := id rfl
theorem i_cellK (c : Array Value) (e : TypeId) (fz : Nat × Nat) : Go1 (cellK (some (.cells c e fz)) o) = Go1 (optK c[o]?) := id rfl
theorem i_aggK (c : Array Value) (e : TypeId) (fz : Nat × Nat) : Go1 (aggK (some (.cells c e fz)) o n) = Go1 (optL (cellsL c o n)) := id rfl
theorem i_strK (c : Array Value) (e : TypeId) (fz : Nat × Nat) : Go1 (strK (some (.cells c e fz)) o n) = Go1 (optS ((cellsL c o n).bind bytesOf)) := id rfl
theorem i_qcall (g : FuncId) (a c d : Array Value) : Go1 (qcall P (.func (.func g) a d) c h) = Go1 (QC P g (a ++ c ++ d) h) := id rfl
theorem i_ld_cell (ha : tyAgg P t = some false) : Go1 (aload P t (.pointer (some ⟨b, o, none⟩)) h) = Go1 (cellK (h.f b) o) := ld_cell P C.go t h b o ha
theorem i_ld_agg (ha : tyAgg P t = some true) : Go1 (aload P t (.pointer (some ⟨b, o, none⟩)) h) = @Go1 _ (optN (tySize P t)) ⟨fun n => Go1 (aggK (h.f b) o n)⟩ := ld_agg P C.go t h b o ha
theorem i_fa_ptr : Go1 (afieldAddr P t (.pointer (some ⟨b, o, none⟩)) i) = @Go1 _ (optN ((tyField P t i).map (·.2))) ⟨fun off => C.go (.pointer (some ⟨b, o + off, none⟩))⟩ := fa_ptr P C.go t b o i
theorem i_f_agg (cs : Array Value) : Go1 (afield P t (.agg cs) i) = @Go1 _ (optN ((tyField P t i).map (·.2))) ⟨fun off => @Go1 _ (optN ((tyField P t i).map (·.1))) ⟨fun t' => Go1 (apart_ P t' cs off)⟩⟩ := f_agg P C.go t i cs
theorem i_part_f (cs : Array Value) (off : Nat) (ha : tyAgg P t = some false) : Go1 (apart_ P t cs off) = Go1 (optK cs[off]?) := part_f P C.go t cs off ha
theorem i_part_t (cs : Array Value) (off : Nat) (ha : tyAgg P t = some true) : Go1 (apart_ P t cs off) = @Go1 _ (optN (tySize P t)) ⟨fun n => C.go (.agg (cs.extract off (off + n)))⟩ := part_t P C.go t cs off ha
theorem i_ia_sl (k : IntKind) (p : Int) (len cap : Nat) (hu : isSl (P.underlying t) = true) : Go1 (aindexAddr P t (.slice (some ⟨b, o, none⟩) len cap) (.int k p)) =
    (0 ≤ p ∧ p < (len : Int) ∧ @Go1 _ (optN (tySize P (elT (P.underlying t)))) ⟨fun n => C.go (.pointer (some ⟨b, o + p.toNat * n, none⟩))⟩) := ia_sl P C.go t b o k p len cap hu
theorem i_ia_arr (k : IntKind) (p : Int) (hu : isArr (P.underlying t) = true) : Go1 (aindexAddr P t (.pointer (some ⟨b, o, none⟩)) (.int k p)) =
    (0 ≤ p ∧ p < (arrN (P.underlying t) : Int) ∧ @Go1 _ (optN (tySize P (elT (P.underlying t)))) ⟨fun n => C.go (.pointer (some ⟨b, o + p.toNat * n, none⟩))⟩) := ia_arr P C.go t b o k p hu
theorem i_ix_arr (k : IntKind) (p : Int) (cs : Array Value) (hu : isArr (P.underlying t) = true) : Go1 (aindex P t (.agg cs) (.int k p)) =
    (0 ≤ p ∧ p < (arrN (P.underlying t) : Int) ∧ @Go1 _ (optN (tySize P (elT (P.underlying t)))) ⟨fun n => Go1 (apart_ P (elT (P.underlying t)) cs (p.toNat * n))⟩) := ix_arr P C.go t k p cs hu
theorem i_ix_str (k : IntKind) (p : Int) (s : ByteArray) (hu : P.underlying t = some .string) : Go1 (aindex P t (.string s) (.int k p)) = (0 ≤ p ∧ Go1 (optB s.toList[p.toNat]?)) := ix_str P C.go t k p s hu
theorem i_ex_tuple (vs : Array Value) : Go1 (aextract (.tuple vs) i) = Go1 (optK vs[i]?) := ex_tuple C.go i vs
theorem i_sliceK_str (s : ByteArray) (p q : Int) : Go1 (sliceK (.string s) (some q) (some p) none false none) = (0 ≤ q ∧ q ≤ p ∧ p ≤ s.size ∧ C.go (.string (s.extract q.toNat p.toNat))) := id rfl
theorem i_sliceK_sl (a : Option Addr) (len cap : Nat) (m p q : Int) (hx : Bool) : Go1 (sliceK (.slice a len cap) (some q) (some p) (some m) hx (some n)) = (0 ≤ q ∧ q ≤ p ∧ (hx = true → p ≤ m) ∧ m ≤ (cap : Int) ∧ C.go (sliceOf a q.toNat p.toNat m.toNat n)) := id rfl
theorem i_sl_str (s : ByteArray) (lo hi : Option Value) (hu : P.underlying t = some .string) : Go1 (aslice P t (.string s) lo hi none) = Go1 (sliceK (.string s) (bnd lo 0) (bnd hi s.size) none false none) := sl_str P C.go t s lo hi hu
theorem i_sl_sl (a : Option Addr) (len cap : Nat) (lo hi : Option Value) (hu : isSl (P.underlying t) = true) : Go1 (aslice P t (.slice a len cap) lo hi none) = Go1 (sliceK (.slice a len cap) (bnd lo 0) (bnd hi len) (some cap) hi.isSome (tySize P (elT (P.underlying t)))) := sl_sl P C.go t a len cap lo hi hu
theorem i_sl_sl3 (a : Option Addr) (len cap : Nat) (lo : Option Value) (hi mx : Value) (hu : isSl (P.underlying t) = true) : Go1 (aslice P t (.slice a len cap) lo (some hi) (some mx)) = Go1 (sliceK (.slice a len cap) (bnd lo 0) (bnd (some hi) len) (bnd (some mx) cap) true (tySize P (elT (P.underlying t)))) := sl_sl3 P C.go t a len cap lo hi mx hu
end
section
variable (P : Program) [K : CH] (t : TypeId) (h : Hp) (b o n i : Nat) (x y v : Value)
theorem i_cv_int (s' : TypeId) (k : IntKind) (p : Int) (hs : isInt (P.underlying s') = true) (hd : isInt (P.underlying t) = true) : Go1 (aconv P s' t (.int k p) h) = K.go (.int (intK (P.underlying t)) ((intK (P.underlying t)).wrap p)) h := by
  delta Go1; apply cv_int <;> assumption
theorem i_cv_bytes (s' : TypeId) (s : ByteArray) (hs : P.underlying s' = some .string) (hd : isSl (P.underlying t) = true) (he : P.underlying (elT (P.underlying t)) = some (.int .u8)) : Go1 (aconv P s' t (.string s) h) = ∀ cap, s.size ≤ cap → K.go (.slice (some ⟨h.n, 0, none⟩) s.size cap) ((h.put h.n (.cells (byteVals s ++ Array.replicate (cap - s.size) (.int .u8 0)) (elT (P.underlying t)) (cap, cap + 1))).to (h.n + 1)) := by
  delta Go1; apply cv_bytes <;> assumption
theorem i_stK (c : Array Value) (e : TypeId) (lo hi : Nat) (l : List Value) : Go1 (stK (some (.cells c e (lo, hi))) b o n l h) = (l.all Value.oneCell' = true ∧ o + n ≤ c.size ∧ (hi ≤ lo ∨ o + n ≤ lo) ∧ K.go undef (h.put b (.cells (writeL c o l) e (lo, hi)))) := id rfl
theorem i_acall (g : FuncId) (a c d : Array Value) : Go1 (acall P (.func (.func g) a d) c h) = Go1 (CallF P g (a ++ c ++ d) h) := id rfl
theorem i_sto (hn : tySize P t = some v.cells.size) : Go1 (astore P t (.pointer (some ⟨b, o, none⟩)) v h) = Go1 (stK (h.f b) b o v.cells.size v.cells.toList h) := sto P t h K.go b o v hn
theorem i_mk_slice (k k' : IntKind) (p q : Int) (hu : isSl (P.underlying t) = true) : Go1 (amake P t (.int k p) (.int k' q) h) = @Go1 _ (optN (tySize P (elT (P.underlying t)))) ⟨fun n => @Go1 _ (optN (tyBytes P (elT (P.underlying t)))) ⟨fun m => @Go1 _ (optK (tyZero P (elT (P.underlying t)))) ⟨fun z =>
    0 ≤ p ∧ p ≤ q ∧ (m : Int) * q ≤ 281474976710656 ∧ q ≤ 9223372036854775807 ∧ K.go (.slice (some ⟨h.n, 0, none⟩) p.toNat q.toNat) ((h.put h.n (.cells (madeCells z.cells (q.toNat * n)) (elT (P.underlying t)) (0, 0))).to (h.n + 1))⟩⟩⟩ := mk_slice P t h K.go k k' p q hu
theorem i_cv_str (s' : TypeId) (m c : Nat) (hs : isSl (P.underlying s') = true) (he : P.underlying (elT (P.underlying s')) = some (.int .u8)) (hd : P.underlying t = some .string) :
    Go1 (aconv P s' t (.slice (some ⟨b, o, none⟩) m c) h) = @Go1 _ (strK (h.f b) o m) ⟨fun v => K.go v h⟩ := cv_str P t h K.go b o s' m c hs he hd
end
theorem i_optN {n : Nat} [G : Cn (Nat → Prop)] : Go1 (optN (some n)) = G.go n := id rfl
end Go.Proofs.Ytpfflibkkjjlaaa
namespace Go.Proofs.Ytpfflibkkjjlaaa
open Go Go.RowKit
section
variable (P : Program) (ops : Array Oper) (l : List Oper) (ρ : Env) (h : Hp) (N R : EH) (X : Nat → EH) (K : KH) (C : Value → Prop) (d : Option Nat) (op : Op) (ty : TypeId) (pos : String) (af : Array Edge)
/-- A branch, both ways out of the rules' sight till it is known. -/
def brK (q : Bool) (D : Prop × Prop) : Prop := Br q D.1 D.2
def Two (p : Prop) (A B : Prop) : Prop := (p → A) ∧ (¬ p → B)
theorem brK_true [D : Cn (Prop × Prop)] : Go1 (brK true) = D.go.1 := by simp [Go1, brK, Br]
theorem brK_false [D : Cn (Prop × Prop)] : Go1 (brK false) = D.go.2 := by simp [Go1, brK, Br]
theorem brK_not (q : Bool) [D : Cn (Prop × Prop)] : Go1 (brK (!q)) = @Go1 _ (brK q) ⟨(D.go.2, D.go.1)⟩ := by cases q <;> simp [Go1, brK, Br]
theorem brK_sym (q : Bool) [D : Cn (Prop × Prop)] : Go1 (brK q) = Two (q = true) D.go.1 D.go.2 := by cases q <;> simp [Go1, brK, Br, Two]
theorem Two.mk {p A B : Prop} (h : p → A) (k : ¬ p → B) : Two p A B := ⟨h, k⟩
theorem brK_dec (p : Prop) [Decidable p] [D : Cn (Prop × Prop)] : Go1 (brK (decide p)) = Two p D.go.1 D.go.2 := by simp [Go1, brK, Br, Two]
def gs : List Oper → Nat → Option Nat
  | [], _ => none
  | o :: _, 0 => o.dst
  | _ :: l, n + 1 => gs l n
theorem gslot_list : ∀ (l : List Oper) (j : Nat), gslot l.toArray j = gs l j
  | [], j => by simp [gslot, gs]
  | o :: l, 0 => by simp [gslot, gs]
  | o :: l, j + 1 => by rw [gs, ← gslot_list l j]; simp [gslot]
theorem gs_zero (o : Oper) : gs (o :: l) 0 = o.dst := id rfl
theorem gs_succ (o : Oper) (n : Nat) : gs (o :: l) (n + 1) = gs l n := id rfl
/-- Operations under a guard: first the guard's slot, then what it holds, then the operation. -/
abbrev GD := Env × (Env → Prop) × (Env → Prop)
def guardV (t : Nat) (v : Value) (want : Bool) (D : GD) : Prop := match v with
  | .bool q => Br (q == want) (D.2.1 (D.1.upd t (.bool want))) (D.2.2 (D.1.upd t (.bool (!want))))
  | .tuple _ => D.2.2 D.1
  | _ => False
def guardO (t : Option Nat) (want : Bool) (D : GD) : Prop := match t with
  | none => False
  | some t => guardV t (D.1 t) want D
theorem guardO_some (t : Nat) (want : Bool) [D : Cn GD] : Go1 (guardO (some t) want) = Go1 (guardV t (D.go.1 t) want) := id rfl
theorem guardV_bool (t : Nat) (q want : Bool) [D : Cn GD] : Go1 (guardV t (.bool q) want) = @Go1 _ (brK (q == want)) ⟨(D.go.2.1 (D.go.1.upd t (.bool want)), D.go.2.2 (D.go.1.upd t (.bool (!want))))⟩ := id rfl
theorem guardV_undef (t : Nat) (want : Bool) [D : Cn GD] : Go1 (guardV t undef want) = D.go.2.2 D.go.1 := id rfl
theorem guardV_tuple (t : Nat) (vs : Array Value) (want : Bool) [D : Cn GD] : Go1 (guardV t (.tuple vs) want) = D.go.2.2 D.go.1 := id rfl
theorem aops_nil : aops P ops [] ρ h N = N ρ h := id rfl
theorem aops_plain : aops P ops (⟨d, op, ty, pos, af, none⟩ :: l) ρ h N = astep P op ρ h fun v h' => aops P ops l (ρ.put d v) h' N := id rfl
theorem aops_guard (j : Nat) (want : Bool) : aops P ops (⟨d, op, ty, pos, af, some (j, want)⟩ :: l) ρ h N =
    @Go1 _ (guardO (gslot ops j) want) ⟨(ρ, (fun ρ => astep P op ρ h fun v h' => aops P ops l (ρ.put d v) h' N), (fun ρ => aops P ops l (ρ.put d undef) h N))⟩ := by
  unfold Go1 guardO guardV
  rw [aops]
  dsimp only
  cases gslot ops j with
  | none => rfl
  | some t => cases ht : ρ t <;> simp only [ht]
theorem aopsQ_nil (C : Env → Prop) : aopsQ P ops h [] ρ C = C ρ := id rfl
theorem aopsQ_plain (C : Env → Prop) : aopsQ P ops h (⟨d, op, ty, pos, af, none⟩ :: l) ρ C = aqstep P op ρ h fun v => aopsQ P ops h l (ρ.put d v) C := id rfl
theorem aopsQ_guard (C : Env → Prop) (j : Nat) (want : Bool) : aopsQ P ops h (⟨d, op, ty, pos, af, some (j, want)⟩ :: l) ρ C =
    @Go1 _ (guardO (gslot ops j) want) ⟨(ρ, (fun ρ => aqstep P op ρ h fun v => aopsQ P ops h l (ρ.put d v) C), (fun ρ => aopsQ P ops h l (ρ.put d undef) C))⟩ := by
  unfold Go1 guardO guardV
  rw [aopsQ]
  dsimp only
  cases gslot ops j with
  | none => rfl
  | some t => cases ht : ρ t <;> simp only [ht]
theorem avc_skip : avc P .skip N R X ρ h = N ρ h := id rfl
theorem avc_region (id' : Nat) : avc P (.region id' l.toArray false) N R X ρ h = aops P l.toArray l ρ h N := id rfl
/-- A region that draws: its order does not matter. -/
def Draw (P : Program) (D : List Oper × Prop × Prop × Prop) : Prop := (Region.lexB .any D.1.toArray = true ∧ D.2.1) ∨ (swapB P D.1.toArray = true ∧ D.2.2.1) ∨ D.2.2.2
theorem avc_draw (id' : Nat) : avc P (.region id' l.toArray true) N R X ρ h = @Go1 _ (Draw P) ⟨(l, aopsQ P l.toArray h l ρ fun ρ' => ∀ n, h.n ≤ n → N ρ' (h.to n), aops P l.toArray l ρ h N, AnyI P l.toArray ρ h N)⟩ := id rfl
theorem Draw.quiet {P : Program} {D : Cn (List Oper × Prop × Prop × Prop)} (h : Region.lexB .any D.go.1.toArray = true) (k : D.go.2.1) : @Go1 _ (Draw P) D := .inl ⟨h, k⟩
theorem Draw.swap {P : Program} {D : Cn (List Oper × Prop × Prop × Prop)} (h : swapB P D.go.1.toArray = true) (k : D.go.2.2.1) : @Go1 _ (Draw P) D := .inr (.inl ⟨h, k⟩)
theorem Draw.any {P : Program} {D : Cn (List Oper × Prop × Prop × Prop)} (k : D.go.2.2.2) : @Go1 _ (Draw P) D := .inr (.inr k)
theorem avc_seq (a b : Code) : avc P (.seq a b) N R X ρ h = avc P a (fun ρ' h' => avc P b N R X ρ' h') R X ρ h := id rfl
def condK (v : Value) (D : Prop × Prop) : Prop := match v with
  | .bool q => Br q D.1 D.2
  | _ => False
theorem condK_bool (q : Bool) [D : Cn (Prop × Prop)] : Go1 (condK (.bool q)) = Go1 (brK q) := id rfl
theorem avc_cond (c : Operand) (a b : Code) : avc P (.cond c a b) N R X ρ h = @Go1 _ (condK (ρ.ev c)) ⟨(avc P a N R X ρ h, avc P b N R X ρ h)⟩ := id rfl
theorem avc_block (id' : Nat) (c : Code) : avc P (.block id' c) N R X ρ h = avc P c N R (fun i ρ' h' => if i = id' then N ρ' h' else X i ρ' h') ρ h := id rfl
/-- A loop: its body, its slots and the frame are out of the rules' sight. -/
abbrev LD := (EH → EH) × List Nat × Env
def LoopI (h : Hp) (D : LD) : Prop := LoopG D.1 D.2.1 D.2.2 h
theorem avc_loop (c : Code) : avc P (.loop c) N R X ρ h = @Go1 _ (LoopI h) ⟨((fun N' ρ' h' => avc P c N' R X ρ' h'), codeDsts c, ρ)⟩ := id rfl
theorem avc_exit (i : Nat) : avc P (.exit i) N R X ρ h = X i ρ h := id rfl
theorem avc_ret : avc P .ret N R X ρ h = R ρ h := id rfl
theorem beq_t (q : Bool) : (q == true) = q := by cases q <;> rfl
theorem beq_f (q : Bool) : (q == false) = !q := by cases q <;> rfl
theorem st_move (x : Operand) : astep P (.move x) ρ h K = K (ρ.ev x) h := id rfl
theorem st_assign (x : Operand) : astep P (.assign x) ρ h K = K (ρ.ev x) h := id rfl
def pickK (v a b : Value) (C : Value → Prop) : Prop := match v with
  | .bool q => C (if q = true then a else b)
  | _ => False
theorem pickK_true (a b : Value) [C : CV] : Go1 (pickK (.bool true) a b) = C.go a := id rfl
theorem pickK_false (a b : Value) [C : CV] : Go1 (pickK (.bool false) a b) = C.go b := id rfl
theorem pickK_and (q : Bool) (x : Bool) [C : CV] : Go1 (pickK (.bool q) (.bool x) (.bool false)) = C.go (.bool (q && x)) := by cases q <;> rfl
theorem st_pick (c a b : Operand) : astep P (.pick c a b) ρ h K = @Go1 _ (pickK (ρ.ev c) (ρ.ev a) (ρ.ev b)) ⟨fun v => K v h⟩ := id rfl
def buildK (r : Option (Array Value)) (C : Value → Prop) : Prop := match r with
  | some r => C (.agg r)
  | none => False
theorem buildK_some (r : Array Value) [C : CV] : Go1 (buildK (some r)) = C.go (.agg r) := id rfl
theorem st_build (t : TypeId) (ps : Array (Nat × Operand)) : astep P (.build t ps) ρ h K = @Go1 _ (buildK (tyBuild P t (ps.toList.map fun x => (x.1, ρ.ev x.2)))) ⟨fun v => K v h⟩ := id rfl
theorem st_load (t : TypeId) (a : Operand) : astep P (.load t a) ρ h K = @Go1 _ (aload P t (ρ.ev a) h) ⟨fun v => K v h⟩ := id rfl
def nilK (v : Value) (C : Value → Prop) : Prop := match v with
  | .pointer (some a) => C (.pointer (some a))
  | .func (.func f) a b => C (.func (.func f) a b)
  | _ => False
theorem nilK_ptr (a : Addr) [C : CV] : Go1 (nilK (.pointer (some a))) = C.go (.pointer (some a)) := id rfl
theorem nilK_fun (f : FuncId) (a b : Array Value) [C : CV] : Go1 (nilK (.func (.func f) a b)) = C.go (.func (.func f) a b) := id rfl
theorem st_nil (x : Operand) : astep P (.nilCheck x) ρ h K = @Go1 _ (nilK (ρ.ev x)) ⟨fun v => K v h⟩ := id rfl
theorem bH_int (o : BinOp) (t : TypeId) (k k' : IntKind) (a b : Int) : abinH P o t (.int k a) (.int k' b) h = abin P o t (.int k a) (.int k' b) := id rfl
theorem bH_str (o : BinOp) (t : TypeId) (a b : ByteArray) : abinH P o t (.string a) (.string b) h = abin P o t (.string a) (.string b) := id rfl
theorem bH_bool (o : BinOp) (t : TypeId) (a b : Bool) : abinH P o t (.bool a) (.bool b) h = abin P o t (.bool a) (.bool b) := id rfl
theorem bH_nil (o : BinOp) (t : TypeId) (a : Option Addr) : abinH P o t (.pointer a) (.pointer none) h = abin P o t (.pointer a) (.pointer none) := by cases a <;> rfl
theorem bH_sl (o : BinOp) (t : TypeId) (a b : Option Addr) (n c m d : Nat) : abinH P o t (.slice a n c) (.slice b m d) h = abin P o t (.slice a n c) (.slice b m d) := id rfl
theorem bH_agg (o : BinOp) (t : TypeId) (a b : Array Value) : abinH P o t (.agg a) (.agg b) h = abin P o t (.agg a) (.agg b) := id rfl
attribute [go_sem] bH_int bH_str bH_bool bH_nil bH_sl bH_agg
theorem st_bin (o : BinOp) (t t' : TypeId) (x y : Operand) : astep P (.binOp o t x y t') ρ h K = @Go1 _ (abinH P o t (ρ.ev x) (ρ.ev y) h) ⟨fun v => K v h⟩ := id rfl
theorem st_un (o : UnOp) (t : TypeId) (x : Operand) : astep P (.unOp o t x) ρ h K = @Go1 _ (aun o (ρ.ev x)) ⟨fun v => K v h⟩ := id rfl
theorem st_makeFunc (fn : Fn) (a b : Array Operand) : astep P (.makeFunc fn a b) ρ h K = K (.func fn (a.map ρ.ev) (b.map ρ.ev)) h := id rfl
theorem st_slice (t : TypeId) (x : Operand) (lo hi mx : Option Operand) : astep P (.slice t x lo hi mx) ρ h K = @Go1 _ (aslice P t (ρ.ev x) (lo.map ρ.ev) (hi.map ρ.ev) (mx.map ρ.ev)) ⟨fun v => K v h⟩ := id rfl
theorem st_fieldAddr (s : TypeId) (x : Operand) (i : Nat) : astep P (.fieldAddr s x i) ρ h K = @Go1 _ (afieldAddr P s (ρ.ev x) i) ⟨fun v => K v h⟩ := id rfl
theorem st_field (s : TypeId) (x : Operand) (i : Nat) : astep P (.field s x i) ρ h K = @Go1 _ (afield P s (ρ.ev x) i) ⟨fun v => K v h⟩ := id rfl
theorem st_indexAddr (t : TypeId) (x i : Operand) : astep P (.indexAddr t x i) ρ h K = @Go1 _ (aindexAddr P t (ρ.ev x) (ρ.ev i)) ⟨fun v => K v h⟩ := id rfl
theorem st_index (t : TypeId) (x i : Operand) : astep P (.index t x i) ρ h K = @Go1 _ (aindex P t (ρ.ev x) (ρ.ev i)) ⟨fun v => K v h⟩ := id rfl
theorem st_extract (x : Operand) (i : Nat) : astep P (.extract x i) ρ h K = @Go1 _ (aextract (ρ.ev x) i) ⟨fun v => K v h⟩ := id rfl
theorem st_lookup (t : TypeId) (m k : Operand) (ok : Bool) : astep P (.lookup t m k ok) ρ h K = @Go1 _ (optK (lookupR P t (ρ.ev m) (ρ.ev k) ok h)) ⟨fun v => K v h⟩ := id rfl
theorem qs_lookup (t : TypeId) (m k : Operand) (ok : Bool) : aqstep P (.lookup t m k ok) ρ h C = @Go1 _ (optK (lookupR P t (ρ.ev m) (ρ.ev k) ok h)) ⟨C⟩ := id rfl
def optH (r : Option Hp) (K : KH) : Prop := match r with
  | some h => K undef h
  | none => False
theorem optH_some (g : Hp) [K : CH] : Go1 (optH (some g)) = K.go undef g := id rfl
theorem st_makeMap (t : TypeId) : astep P (.makeMap t none) ρ h K = K (.map (some h.n)) ((h.put h.n (.map #[] 0)).to (h.n + 1)) := id rfl
theorem st_mapUpd (t : TypeId) (m k x : Operand) : astep P (.mapUpdate t m k x) ρ h K = @Go1 _ (optH (mapUpdR P t (ρ.ev m) (ρ.ev k) (ρ.ev x) h)) ⟨K⟩ := id rfl
theorem st_insert (t : TypeId) (m k x : Operand) : astep P (.insert t m k x) ρ h K = @Go1 _ (optH (mapUpdR P t (ρ.ev m) (ρ.ev k) (ρ.ev x) h)) ⟨K⟩ := id rfl
def mapO (o : Option Obj) : Option (List MapEntry × Nat) := match o with
  | some (.map es cl) => some (es.toList, cl)
  | _ => none
theorem mapO_map (es : Array MapEntry) (cl : Nat) : mapO (some (.map es cl)) = some (es.toList, cl) := rfl
theorem mapRow_eq (r : Nat) : mapRow h (.map (some r)) = (mapO (h.f r)).map (·.1) := by
  simp only [mapRow, mapO]
  generalize h.f r = o
  cases o with
  | none => rfl
  | some o => cases o <;> rfl
theorem mapUpdR_eq (t : TypeId) (r : Nat) (k v : Value) : mapUpdR P t (.map (some r)) k v h = (mapO (h.f r)).bind fun q => (mapKind P t).bind fun x => (mfind x.2.1 k q.1 0).map fun z => h.put r (putEs k v q.1 q.2 z) := by
  simp only [mapUpdR, mapO]
  generalize h.f r = o
  cases o with
  | none => rfl
  | some o => cases o <;> rfl
theorem mfind_nil (kd : TypeDesc) (k : Value) (i : Nat) : mfind kd k [] i = some none := rfl
def pickF (q : Option Bool) (a b : Option (Option (Nat × Value))) : Option (Option (Nat × Value)) := match q with
  | some true => a
  | some false => b
  | none => none
theorem pickF_t (a b : Option (Option (Nat × Value))) : pickF (some true) a b = a := rfl
theorem pickF_f (a b : Option (Option (Nat × Value))) : pickF (some false) a b = b := rfl
theorem mfind_cons (kd : TypeDesc) (k : Value) (i : Nat) (e : MapEntry) (es : List MapEntry) : mfind kd k (e :: es) i = pickF (Instr.sameNow kd k e.key) (some (some (i, e.val))) (mfind kd k es (i + 1)) := by
  simp only [mfind, pickF]
  cases Instr.sameNow kd k e.key with
  | none => rfl
  | some q => cases q <;> rfl
theorem same_int (k : IntKind) (a b : Int) (kk : IntKind) : Instr.sameNow (.int kk) (.int k a) (.int k b) = some (decide (a = b)) := by
  simp [Instr.sameNow]
  by_cases h : a = b <;> simp [h]
theorem same_str (a b : ByteArray) : Instr.sameNow .string (.string a) (.string b) = some (a == b) := rfl
theorem st_len (t : TypeId) (x : Operand) : astep P (.call ⟨.builtin .len, #[x], #[t]⟩) ρ h K = @Go1 _ (alen P t (ρ.ev x) h) ⟨fun v => K v h⟩ := id rfl
theorem st_min (ts : Array TypeId) (x y : Operand) : astep P (.call ⟨.builtin .min, #[x, y], ts⟩) ρ h K = @Go1 _ (aminmax false (ρ.ev x) (ρ.ev y)) ⟨fun v => K v h⟩ := id rfl
theorem st_max (ts : Array TypeId) (x y : Operand) : astep P (.call ⟨.builtin .max, #[x, y], ts⟩) ρ h K = @Go1 _ (aminmax true (ρ.ev x) (ρ.ev y)) ⟨fun v => K v h⟩ := id rfl
theorem st_alloc (e : TypeId) : astep P (.alloc e) ρ h K = @Go1 _ (optK (tyZero P e)) ⟨fun z => K (.pointer (some ⟨h.n, 0, none⟩)) ((h.put h.n (.cells z.cells e (0, 0))).to (h.n + 1))⟩ := by
  show aalloc P e h K = _
  simp only [aalloc, Go1, optK]
  cases tyZero P e <;> rfl
theorem st_box (e : TypeId) (x : Operand) : astep P (.box e x) ρ h K = K (.pointer (some ⟨h.n, 0, none⟩)) ((h.put h.n (.cells (ρ.ev x).cells e (0, 0))).to (h.n + 1)) := id rfl
def buildSK (r : Option (TypeId × Array Value)) (len : Nat) (h : Hp) (K : KH) : Prop := match r with
  | some (e, r) => K (.slice (some ⟨h.n, 0, none⟩) len len) ((h.put h.n (.cells r e (0, 0))).to (h.n + 1))
  | none => False
theorem buildSK_some (e : TypeId) (r : Array Value) (n : Nat) [K : CH] : Go1 (buildSK (some (e, r)) n h) = K.go (.slice (some ⟨h.n, 0, none⟩) n n) ((h.put h.n (.cells r e (0, 0))).to (h.n + 1)) := id rfl
theorem st_buildSlice (t : TypeId) (n : Nat) (ps : Array (Nat × Operand)) : astep P (.buildSlice t n ps) ρ h K = @Go1 _ (buildSK (tyBuildSlice P t n (ps.toList.map fun x => (x.1, ρ.ev x.2))) n h) ⟨K⟩ := by
  show (match tyBuildSlice P t n (ps.toList.map fun x => (x.1, ρ.ev x.2)) with
    | some (e, r) => K (.slice (some ⟨h.n, 0, none⟩) n n) ((h.put h.n (.cells r e (0, 0))).to (h.n + 1))
    | none => False) = _
  unfold Go1 buildSK
  generalize tyBuildSlice P t n (ps.toList.map fun x => (x.1, ρ.ev x.2)) = r
  cases r <;> rfl
theorem st_store (t : TypeId) (a x : Operand) : astep P (.store t a x) ρ h K = @Go1 _ (astore P t (ρ.ev a) (ρ.ev x) h) ⟨K⟩ := id rfl
theorem st_convert (s t : TypeId) (x : Operand) : astep P (.convert s t x) ρ h K = @Go1 _ (aconv P s t (ρ.ev x) h) ⟨K⟩ := id rfl
theorem st_make (t : TypeId) (x y : Operand) : astep P (.makeSlice t x y) ρ h K = @Go1 _ (amake P t (ρ.ev x) (ρ.ev y) h) ⟨K⟩ := id rfl
def appW (P : Program) (t u : TypeId) (s x : Value) (h : Hp) (K : KH) : Prop := aappend P t u s x h (Weak K)
theorem st_append (t u : TypeId) (s x : Operand) : astep P (.call ⟨.builtin .append, #[s, x], #[t, u]⟩) ρ h K = @Go1 _ (appW P t u (ρ.ev s) (ρ.ev x) h) ⟨K⟩ := id rfl
theorem st_copy (t u : TypeId) (s x : Operand) : astep P (.call ⟨.builtin .copy, #[s, x], #[t, u]⟩) ρ h K = @Go1 _ (acopy P t (ρ.ev s) (ρ.ev x) h) ⟨K⟩ := id rfl
theorem st_call (f : Operand) (args : Array Operand) (ts : Array TypeId) : astep P (.call ⟨.value f, args, ts⟩) ρ h K = @Go1 _ (acall P (ρ.ev f) (args.map ρ.ev) h) ⟨K⟩ := id rfl
theorem qs_call (f : Operand) (args : Array Operand) (ts : Array TypeId) : aqstep P (.call ⟨.value f, args, ts⟩) ρ h C = @Go1 _ (qcall P (ρ.ev f) (args.map ρ.ev) h) ⟨C⟩ := id rfl
theorem qs_move (x : Operand) : aqstep P (.move x) ρ h C = C (ρ.ev x) := id rfl
theorem qs_assign (x : Operand) : aqstep P (.assign x) ρ h C = C (ρ.ev x) := id rfl
theorem qs_pick (c a b : Operand) : aqstep P (.pick c a b) ρ h C = @Go1 _ (pickK (ρ.ev c) (ρ.ev a) (ρ.ev b)) ⟨C⟩ := id rfl
theorem qs_build (t : TypeId) (ps : Array (Nat × Operand)) : aqstep P (.build t ps) ρ h C = @Go1 _ (buildK (tyBuild P t (ps.toList.map fun x => (x.1, ρ.ev x.2)))) ⟨C⟩ := id rfl
theorem qs_load (t : TypeId) (a : Operand) : aqstep P (.load t a) ρ h C = @Go1 _ (aload P t (ρ.ev a) h) ⟨C⟩ := id rfl
theorem qs_nil (x : Operand) : aqstep P (.nilCheck x) ρ h C = @Go1 _ (nilK (ρ.ev x)) ⟨C⟩ := id rfl
theorem qs_bin (o : BinOp) (t t' : TypeId) (x y : Operand) : aqstep P (.binOp o t x y t') ρ h C = @Go1 _ (abinH P o t (ρ.ev x) (ρ.ev y) h) ⟨C⟩ := id rfl
theorem qs_un (o : UnOp) (t : TypeId) (x : Operand) : aqstep P (.unOp o t x) ρ h C = @Go1 _ (aun o (ρ.ev x)) ⟨C⟩ := id rfl
theorem qs_makeFunc (fn : Fn) (a b : Array Operand) : aqstep P (.makeFunc fn a b) ρ h C = C (.func fn (a.map ρ.ev) (b.map ρ.ev)) := id rfl
theorem qs_slice (t : TypeId) (x : Operand) (lo hi mx : Option Operand) : aqstep P (.slice t x lo hi mx) ρ h C = @Go1 _ (aslice P t (ρ.ev x) (lo.map ρ.ev) (hi.map ρ.ev) (mx.map ρ.ev)) ⟨C⟩ := id rfl
theorem qs_fieldAddr (s : TypeId) (x : Operand) (i : Nat) : aqstep P (.fieldAddr s x i) ρ h C = @Go1 _ (afieldAddr P s (ρ.ev x) i) ⟨C⟩ := id rfl
theorem qs_field (s : TypeId) (x : Operand) (i : Nat) : aqstep P (.field s x i) ρ h C = @Go1 _ (afield P s (ρ.ev x) i) ⟨C⟩ := id rfl
theorem qs_indexAddr (t : TypeId) (x i : Operand) : aqstep P (.indexAddr t x i) ρ h C = @Go1 _ (aindexAddr P t (ρ.ev x) (ρ.ev i)) ⟨C⟩ := id rfl
theorem qs_index (t : TypeId) (x i : Operand) : aqstep P (.index t x i) ρ h C = @Go1 _ (aindex P t (ρ.ev x) (ρ.ev i)) ⟨C⟩ := id rfl
theorem qs_extract (x : Operand) (i : Nat) : aqstep P (.extract x i) ρ h C = @Go1 _ (aextract (ρ.ev x) i) ⟨C⟩ := id rfl
theorem qs_len (t : TypeId) (x : Operand) : aqstep P (.call ⟨.builtin .len, #[x], #[t]⟩) ρ h C = @Go1 _ (alen P t (ρ.ev x) h) ⟨C⟩ := id rfl
theorem qs_min (ts : Array TypeId) (x y : Operand) : aqstep P (.call ⟨.builtin .min, #[x, y], ts⟩) ρ h C = @Go1 _ (aminmax false (ρ.ev x) (ρ.ev y)) ⟨C⟩ := id rfl
theorem qs_max (ts : Array TypeId) (x y : Operand) : aqstep P (.call ⟨.builtin .max, #[x, y], ts⟩) ρ h C = @Go1 _ (aminmax true (ρ.ev x) (ρ.ev y)) ⟨C⟩ := id rfl
theorem qs_convert (s t : TypeId) (x : Operand) : aqstep P (.convert s t x) ρ h C = @Go1 _ (qconv P s t (ρ.ev x) h) ⟨C⟩ := id rfl
theorem re_0 : resK P [] [] ρ h K = Fin K (.tuple #[]) h := id rfl
theorem re_1 (t : Nat) : resK P [.tmp t] [] ρ h K = Fin K (ρ t) h := id rfl
theorem re_2 (t u : Nat) : resK P [.tmp t, .tmp u] [] ρ h K = Fin K (.tuple #[ρ t, ρ u]) h := id rfl
theorem re_3 (t u v : Nat) : resK P [.tmp t, .tmp u, .tmp v] [] ρ h K = Fin K (.tuple #[ρ t, ρ u, ρ v]) h := id rfl
theorem en_nil (k : Nat) : entryEnv [] k = fun _ => undef := id rfl
theorem en_cons (v : Value) (vs : List Value) (k : Nat) : entryEnv (v :: vs) k = (entryEnv vs (k + 1)).upd k v := id rfl
theorem upd_lit (v : Value) (d t : Nat) (h : (t == d) = false) : ρ.upd d v t = ρ t := upd_ne ρ d v t (by simpa using h)
end
attribute [go_sem ↓] upd_same upd_lit put_some put_none ev_tmp ev_const ev_func ev_global
attribute [go_sem ↓] aops_nil aops_plain aops_guard aopsQ_nil aopsQ_plain aopsQ_guard guardV_undef avc_skip avc_region avc_draw avc_seq avc_cond avc_block avc_loop avc_exit avc_ret
attribute [go_sem ↓] st_move st_assign st_pick st_build st_load st_nil st_bin st_un st_makeFunc st_slice st_fieldAddr st_field st_indexAddr st_index st_extract st_len st_min st_max st_alloc st_box st_buildSlice st_store st_convert st_make st_append st_copy st_call qs_call
attribute [go_sem ↓] qs_move qs_assign qs_pick qs_build qs_load qs_nil qs_bin qs_un qs_makeFunc qs_slice qs_fieldAddr qs_field qs_indexAddr qs_index qs_extract qs_len qs_min qs_max qs_convert re_0 re_1 re_2 re_3 en_nil en_cons
attribute [go_sem] guardO_some guardV_bool guardV_undef guardV_tuple brK_true brK_false brK_not brK_dec condK_bool pickK_true pickK_false buildK_some nilK_ptr nilK_fun buildSK_some
attribute [go_sem] i_ab_add i_ab_sub i_ab_mul i_ab_quo i_ab_rem i_ab_and i_ab_or i_ab_xor i_ab_andNot i_ab_shl i_ab_shr i_ab_eql i_ab_neq i_ab_lss i_ab_leq i_ab_gtr i_ab_geq i_ab_sadd i_ab_seql i_ab_sneq i_ab_slss i_ab_sleq i_ab_sgtr i_ab_sgeq i_ab_beql i_ab_bneq i_ab_peql i_ab_pneq i_ab_sleql i_ab_slneq i_au_not i_au_neg i_au_xor i_le_str i_le_sl i_le_arr i_mm_min i_mm_max i_cv_int i_cvq_int i_cv_bytes i_optK i_optL i_optS i_optB i_optN i_cellK i_aggK i_strK i_stK i_acall i_qcall i_ld_cell i_ld_agg i_sto i_fa_ptr i_f_agg i_part_f i_part_t i_ia_sl i_ia_arr i_ix_arr i_ix_str i_ex_tuple i_sliceK_str i_sliceK_sl i_sl_str i_sl_sl i_sl_sl3 i_mk_slice i_cv_str
attribute [go_sem] bnd_none bnd_int gslot_list gs_zero gs_succ beq_t beq_f put_n to_n to_f to_put to_to put_f_same isSl isArr isPtr isInt elT arrN intK tyBuild tyBuildSlice fillP structPlaces writeL cellsL copies bytesOf
attribute [go_sem ↓] st_lookup qs_lookup st_makeMap st_mapUpd st_insert
attribute [go_sem] optH_some mapO_map mapRow_eq mapUpdR_eq mfind_nil pickF_t pickF_f mfind_cons same_int same_str lookupR found putEs chg
attribute [go_sem low] brK_sym
attribute [go_sem] Bool.not_not true_or or_true false_or or_false Nat.le_refl Nat.zero_le put_put List.set_cons_zero if_true if_false Int.le_refl
attribute [go_sem] Bool.not_true Bool.not_false List.map_cons List.map_nil List.map_toArray List.append_toArray List.nil_append List.cons_append List.append_nil Option.map_some Option.map_none Option.isSome_some Option.isSome_none Option.isNone_some Option.isNone_none
attribute [go_sem] List.getElem?_toArray List.getElem?_cons_zero List.getElem?_cons_succ Option.bind_some Value.cells List.size_toArray List.length_cons List.length_nil List.all_cons List.all_nil Value.oneCell' Bool.and_true Bool.true_and true_and and_true eq_self List.setIfInBounds_toArray List.set_cons_zero List.set_cons_succ
/-- A call of a Go function out of what its code is reckoned to. -/
theorem go_of {P : Program} (hm : P.follows .mixedOrders = true) {f : FuncId} {fn : Func} {c : Code} (hf : P.funcs[f]? = some fn) (hb : fn.body = some c) {n : Nat} (hn : fn.ntmps = n) {rs : Array ResultVar} (hr : fn.results = rs)
    (hc : isCall P f = true) (hok : ((codeDsts c).all fun t => decide (t < n)) = true) {args : Array Value} (hl : args.size ≤ n) {h : Hp} [K : CH]
    (hk : Wf h → avc P c (fun ρ g => resK P rs.toList [] ρ g K.go) (fun ρ g => resK P rs.toList [] ρ g K.go) (fun _ _ _ => False) (entryEnv args.toList 0) h) : Go1 (CallF P f args h) :=
  ⟨hc, callG_of hm hf hb hn hr hok hl hk⟩
/-- A contract whose value does not hang on how many blocks there are serves in a region that draws. -/
theorem QC.of {P : Program} {f : FuncId} {args : Array Value} {h : Hp} (v : Value) [C : CV] (hc : ∀ (n : Nat), h.n ≤ n → ∀ [K : CH], (∀ k, n ≤ k → K.go v (h.to k)) → Go1 (CallF P f args (h.to n))) (hv : C.go v) : Go1 (QC P f args h) :=
  ⟨v, ⟨(hc h.n (Nat.le_refl _) (K := ⟨fun _ _ => True⟩) (fun _ _ => trivial)).1, fun n hn => (hc n hn (K := ⟨fun u g => u = v ∧ ∃ k, n ≤ k ∧ g = h.to k⟩) fun k hk => ⟨rfl, k, hk, rfl⟩).2⟩, hv⟩
/-- A loop: what holds at the head of each round, and what each round lowers. -/
theorem LoopI.rule {h : Hp} {D : Cn LD} (ds : List Nat) (hds : (D.go.2.1.all fun t => ds.contains t) = true) (I : EH) (μ : Env → Hp → Nat) (h0 : I D.go.2.2 h)
    (hstep : ∀ ρ' h', I ρ' h' → Wf h' → (∀ t, ds.contains t = false → ρ' t = D.go.2.2 t) → D.go.1 (fun ρ2 h2 => ∃ g, Sub g h2 ∧ I ρ2 g ∧ μ ρ2 g < μ ρ' h') ρ' h') : @Go1 _ (LoopI h) D :=
  ⟨I, μ, h0, fun ρ' h' hI hw hk => hstep ρ' h' hI hw fun t ht => hk t (by
    cases e : D.go.2.1.contains t with
    | false => rfl
    | true =>
      have := List.all_eq_true.1 hds t (by simpa using e)
      rw [this] at ht; cases ht)⟩
def eqK (op : BinOp) (r : Option Bool) (C : Value → Prop) : Prop := match op, r with
  | .eql, some q => C (.bool q)
  | .neq, some q => C (.bool (!q))
  | _, _ => False
theorem i_ab_agg (P : Program) (op : BinOp) (t : TypeId) (xs ys : Array Value) [C : CV] : Go1 (abin P op t (.agg xs) (.agg ys)) = Go1 (eqK op (aggEq P t xs ys)) := id rfl
theorem eqK_eql (q : Bool) [C : CV] : Go1 (eqK .eql (some q)) = C.go (.bool q) := id rfl
theorem eqK_neq (q : Bool) [C : CV] : Go1 (eqK .neq (some q)) = C.go (.bool (!q)) := id rfl
attribute [go_sem] i_ab_agg eqK_eql eqK_neq aggEq planEq
theorem wrap_i64_of {x : Int} (h1 : -9223372036854775808 ≤ x) (h2 : x ≤ 9223372036854775807) : IntKind.i64.wrap x = x := by
  rw [IntKind.wrap_i64]; omega
end Go.Proofs.Ytpfflibkkjjlaaa
namespace Go.Proofs.Ytpfflibkkjjlaaa
open Go Go.RowKit
theorem Fin.sub {K : KH} {v : Value} {g h : Hp} (hs : Sub g h) (k : K v g) : Fin K v h := ⟨g, hs, k⟩
theorem Wf.none {h : Hp} (hw : Wf h) {b : Nat} (hb : h.n ≤ b) : h.f b = none := by
  cases e : h.f b with
  | none => rfl
  | some o => exact absurd (hw b o e) (by omega)
theorem Sub.put_new {g h : Hp} (hs : Sub g h) {b : Nat} (hb : g.f b = none) (o : Obj) : Sub g (h.put b o) := ⟨hs.1, fun x y e => by
  rw [put_f_ne _ _ _ _ (fun q => by rw [q, hb] at e; cases e)]
  exact hs.2 x y e⟩
theorem Sub.put_both {g h : Hp} (hs : Sub g h) (b : Nat) (o : Obj) : Sub (g.put b o) (h.put b o) := ⟨hs.1, fun x y e => by
  by_cases q : x = b
  · subst q; rwa [put_f_same] at e ⊢
  · rw [put_f_ne _ _ _ _ q] at e ⊢; exact hs.2 x y e⟩
theorem put_f_old {g : Hp} {b n : Nat} {o : Obj} (hb : b < n) : (g.put n o).f b = g.f b := put_f_ne _ _ _ _ (by omega)
theorem put_f_old' {g : Hp} {b n k : Nat} {o : Obj} (hb : b < n) : (g.put (n + k) o).f b = g.f b := put_f_ne _ _ _ _ (by omega)
theorem put_f_new {g : Hp} {b n : Nat} {o : Obj} (hb : b < n) : (g.put b o).f n = g.f n := put_f_ne _ _ _ _ (by omega)
theorem put_f_new' {g : Hp} {b n k : Nat} {o : Obj} (hb : b < n) : (g.put b o).f (n + k) = g.f (n + k) := put_f_ne _ _ _ _ (by omega)
theorem put_f_up (g : Hp) (n k : Nat) (o : Obj) : (g.put n o).f (n + (k + 1)) = g.f (n + (k + 1)) := put_f_ne _ _ _ _ (by omega)
theorem put_f_dn (g : Hp) (n k : Nat) (o : Obj) : (g.put (n + (k + 1)) o).f n = g.f n := put_f_ne _ _ _ _ (by omega)
theorem put_f_add (g : Hp) (n j k : Nat) (o : Obj) (hjk : (j == k) = false) : (g.put (n + j) o).f (n + k) = g.f (n + k) := put_f_ne _ _ _ _ (by simp at hjk; omega)
theorem put_f_add0 (g : Hp) (n j : Nat) (o : Obj) (hj : (j == 0) = false) : (g.put (n + j) o).f n = g.f n := put_f_ne _ _ _ _ (by simp at hj; omega)
theorem put_f_0add (g : Hp) (n j : Nat) (o : Obj) (hj : (j == 0) = false) : (g.put n o).f (n + j) = g.f (n + j) := put_f_ne _ _ _ _ (by simp at hj; omega)
theorem str_eq (a b : ByteArray) : ((a.toList == b.toList) = true) = (a = b) := by
  rw [beq_iff_eq, ByteArray.toList_eq, ByteArray.toList_eq]
  refine propext ⟨fun h => ?_, fun h => by rw [h]⟩
  obtain ⟨⟨a⟩⟩ := a
  obtain ⟨⟨b⟩⟩ := b
  exact congrArg (fun l => ByteArray.mk ⟨l⟩) h
attribute [go_sem] str_eq
/-! ### long lists of operations, laid in parts -/
section
variable (P : Program) (ops : Array Oper) (o : Oper) (l r s : List Oper) (ρ : Env) (h : Hp)
theorem aops_app (N : EH) : aops P ops (List.append (o :: l) r) ρ h N = aops P ops (o :: List.append l r) ρ h N := id rfl
theorem aops_app0 (N : EH) : aops P ops (List.append [] r) ρ h N = aops P ops r ρ h N := id rfl
theorem aops_app2 (N : EH) : aops P ops (List.append (List.append l r) s) ρ h N = aops P ops (List.append l (List.append r s)) ρ h N := by simp
theorem aopsQ_app (N : Env → Prop) : aopsQ P ops h (List.append (o :: l) r) ρ N = aopsQ P ops h (o :: List.append l r) ρ N := id rfl
theorem aopsQ_app0 (N : Env → Prop) : aopsQ P ops h (List.append [] r) ρ N = aopsQ P ops h r ρ N := id rfl
theorem aopsQ_app2 (N : Env → Prop) : aopsQ P ops h (List.append (List.append l r) s) ρ N = aopsQ P ops h (List.append l (List.append r s)) ρ N := by simp
theorem gs_app0 : gs (List.append (o :: l) r) 0 = o.dst := id rfl
theorem gs_appS (n : Nat) : gs (List.append (o :: l) r) (n + 1) = gs (List.append l r) n := id rfl
theorem gs_appN (n : Nat) : gs (List.append [] r) n = gs r n := id rfl
theorem gs_app2 (n : Nat) : gs (List.append (List.append l r) s) n = gs (List.append l (List.append r s)) n := by simp
end
attribute [go_sem ↓] aops_app aops_app0 aops_app2 aopsQ_app aopsQ_app0 aopsQ_app2 gs_app0 gs_appS gs_appN gs_app2 gslot_list gs_zero gs_succ
/-! ### append -/
structure SlTy (P : Program) (t e : TypeId) (k by' : Nat) (z : Value) : Prop where
  un : P.underlying t = some (.slice e)
  sz : tySize P e = some k
  bs : tyBytes P e = some by'
  ze : tyZero P e = some z
  zc : z.cells.size = k
  k0 : 0 < k
  b0 : 0 < by'
theorem copies_length (z : List Value) : ∀ n, (copies z n).length = n * z.length
  | 0 => by simp [copies]
  | n + 1 => by simp [copies, copies_length z n, Nat.succ_mul, Nat.add_comm]
theorem writeL_append : ∀ (a new old rest : List Value), new.length = old.length → writeL (a ++ (old ++ rest)).toArray a.length new = (a ++ (new ++ rest)).toArray
  | a, [], [], rest, _ => rfl
  | a, x :: new, y :: old, rest, h => by
    have ih := writeL_append (a ++ [x]) new old rest (by simpa using h)
    simp only [writeL]
    have e1 : (a ++ (y :: old ++ rest)).toArray.setIfInBounds a.length x = (a ++ [x] ++ (old ++ rest)).toArray := by simp
    rw [e1]
    simpa using ih
theorem cellsL_all : ∀ (l r p : List Value), cellsL (p ++ (l ++ r)).toArray p.length l.length = some l
  | [], _, _ => rfl
  | x :: l, r, p => by
    have ih := cellsL_all l r (p ++ [x])
    simp only [List.length_cons, cellsL]
    have e1 : (p ++ (x :: l ++ r)).toArray[p.length]? = some x := by simp
    have e2 : (p ++ (x :: l ++ r)) = (p ++ [x] ++ (l ++ r)) := by simp
    rw [e1, e2]
    rw [show p.length + 1 = (p ++ [x]).length from by simp, ih]
section
variable {P : Program} {t u e : TypeId} {k by' : Nat} {z x : Value} {h : Hp}
/-- Appended to a slice that is none: a new block. -/
theorem append_nil {K : CH} (hT : SlTy P t e k by' z) (hU : ∃ e', P.underlying u = some (.slice e')) {m : Nat} {new : List Value} (hx : srcCells h k x = some (m, new)) (hm : 0 < m) (hb : m * by' ≤ 140737488355328)
    (hk : ∀ cap rest, m ≤ cap → rest.length = (cap - m) * k → K.go (.slice (some ⟨h.n, 0, none⟩) m cap) ((h.put h.n (.cells (new ++ rest).toArray e (0, 0))).to (h.n + 1))) : @Go1 _ (appW P t u (.slice none 0 0) x h) K := by
  obtain ⟨e', he'⟩ := hU
  refine ⟨e, _, k, by', z, m, new, hT.un, he', fun q => by simp, hT.sz, hT.bs, hT.ze, hT.zc, hT.b0, hx, fun q => by omega, fun q => ⟨by simpa using hb, [], rfl, fun cap hc => ⟨_, Sub.refl _, ?_⟩⟩⟩
  have := hk cap (copies z.cells.toList (cap - m)) (by omega) (by rw [copies_length]; simp [hT.zc])
  simpa using this
/-- Appended to a row of one's own: there, or in a new block; what was there is forgotten. -/
theorem append_own {K : CH} (hT : SlTy P t e k by' z) (hU : ∃ e', P.underlying u = some (.slice e')) {b n cap m : Nat} {base : Hp} {vs rest new : List Value} (hbl : h.f b = some (.cells (vs ++ rest).toArray e (0, 0))) (hvs : vs.length = n * k) (hc : n ≤ cap) (hr : rest.length = (cap - n) * k)
    (hsub : Sub base h) (hx : srcCells h k x = some (m, new)) (hnew : new.length = m * k) (hone : new.all Value.oneCell' = true) (hb : (n + m) * by' ≤ 140737488355328)
    (hk : ∀ b' n' cap rest, (b' = b ∧ n' = h.n ∨ b' = h.n ∧ n' = h.n + 1) → n + m ≤ cap → rest.length = (cap - (n + m)) * k → K.go (.slice (some ⟨b', 0, none⟩) (n + m) cap) ((base.put b' (.cells (vs ++ new ++ rest).toArray e (0, 0))).to n')) :
    @Go1 _ (appW P t u (.slice (some ⟨b, 0, none⟩) n cap) x h) K := by
  obtain ⟨e', he'⟩ := hU
  refine ⟨e, _, k, by', z, m, new, hT.un, he', fun q => by simp, hT.sz, hT.bs, hT.ze, hT.zc, hT.b0, hx, fun q => ?_, fun q => ⟨hb, vs, ?_, fun cap' hc' => ?_⟩⟩
  · simp only [stayK, hbl]
    have hle : m * k ≤ (cap - n) * k := Nat.mul_le_mul_right k (by omega)
    have hcap : n * k + (cap - n) * k = cap * k := by rw [← Nat.add_mul]; congr 1; omega
    refine ⟨hone, ?_, free_zero _ _, ?_⟩
    · simp only [List.size_toArray, List.length_append, hvs, hr, hnew]; omega
    · obtain ⟨old, rest', rfl, hold⟩ : ∃ old rest', rest = old ++ rest' ∧ old.length = new.length := ⟨rest.take new.length, rest.drop new.length, by simp, by simp; omega⟩
      refine ⟨_, ?_, hk b h.n cap rest' (.inl ⟨rfl, rfl⟩) q ?_⟩
      · rw [Nat.zero_add, ← hvs, writeL_append vs new old rest' hold.symm]
        have := hsub.put b (.cells (vs ++ (new ++ rest')).toArray e (0, 0))
        rw [List.append_assoc]
        exact ⟨rfl, this.2⟩
      · simp only [List.length_append, hold, hnew] at hr
        have : (cap - n) * k = m * k + (cap - (n + m)) * k := by rw [← Nat.add_mul]; congr 1; omega
        omega
  · simp only [srcCells, hbl]
    have := cellsL_all vs rest []
    simp only [List.nil_append, List.length_nil] at this
    rw [← hvs, this]; rfl
  · refine ⟨_, ?_, hk h.n (h.n + 1) cap' (copies z.cells.toList (cap' - (n + m))) (.inr ⟨rfl, rfl⟩) hc' (by rw [copies_length]; simp [hT.zc])⟩
    have := (hsub.put h.n (.cells (vs ++ new ++ copies z.cells.toList (cap' - (n + m))).toArray e (0, 0))).to (h.n + 1)
    simpa [List.append_assoc] using this
end
attribute [go_sem] put_f_old put_f_old' put_f_new put_f_new' put_f_add put_f_add0 put_f_0add Nat.add_assoc
/-! ### the slots forgotten, but those that are named -/
theorem aops_forget {P : Program} {ops : Array Oper} {l : List Oper} {ρ : Env} {h : Hp} {N : EH} (L : List Nat) (k : ∀ ρ' : Env, (∀ t, L.contains t = true → ρ' t = ρ t) → aops P ops l ρ' h N) : aops P ops l ρ h N := k ρ fun _ _ => rfl
theorem avc_forget {P : Program} {c : Code} {ρ : Env} {h : Hp} {N R : EH} {X : Nat → EH} (L : List Nat) (k : ∀ ρ' : Env, (∀ t, L.contains t = true → ρ' t = ρ t) → avc P c N R X ρ' h) : avc P c N R X ρ h := k ρ fun _ _ => rfl
end Go.Proofs.Ytpfflibkkjjlaaa
namespace Go.Proofs.Ytpfflibkkjjlaaa
open Go Go.RowKit

/-! ### tries -/
section
variable {α : Type} (v : Option α) (f n : Nat) (l r : PM α) (u : Option α)
theorem PM.get_nil : (PM.nil : PM α).get n = none := id rfl
theorem PM.get_zero : (PM.node l u r).get 0 = u := id rfl
theorem PM.get_succ : (PM.node l u r).get (n + 1) = if n % 2 = 0 then l.get (n / 2) else r.get (n / 2) := by
  show (Nat.rec (l.get (n / 2)) (fun _ _ => r.get (n / 2)) (n % 2) : Option α) = _
  rcases Nat.mod_two_eq_zero_or_one n with e | e <;> rw [e] <;> rfl
theorem PM.set_zero (t : PM α) : PM.set v 0 t n = .nil := id rfl
theorem PM.set_nil0 : PM.set v (f + 1) .nil 0 = .node .nil v .nil := id rfl
theorem PM.set_nilS : PM.set v (f + 1) .nil (n + 1) = if n % 2 = 0 then .node (PM.set v f .nil (n / 2)) none .nil else .node .nil none (PM.set v f .nil (n / 2)) := by
  show (Nat.rec (.node (PM.set v f .nil (n / 2)) none .nil) (fun _ _ => .node .nil none (PM.set v f .nil (n / 2))) (n % 2) : PM α) = _
  rcases Nat.mod_two_eq_zero_or_one n with e | e <;> rw [e] <;> rfl
theorem PM.set_node0 : PM.set v (f + 1) (.node l u r) 0 = .node l v r := id rfl
theorem PM.set_nodeS : PM.set v (f + 1) (.node l u r) (n + 1) = if n % 2 = 0 then .node (PM.set v f l (n / 2)) u r else .node l u (PM.set v f r (n / 2)) := by
  show (Nat.rec (.node (PM.set v f l (n / 2)) u r) (fun _ _ => .node l u (PM.set v f r (n / 2))) (n % 2) : PM α) = _
  rcases Nat.mod_two_eq_zero_or_one n with e | e <;> rw [e] <;> rfl
end
theorem PM.get_set {α : Type} {v : Option α} : ∀ (f : Nat) (t : PM α) (n m : Nat) (x : α), (PM.set v f t n).get m = some x → (m = n ∧ v = some x) ∨ (m ≠ n ∧ t.get m = some x)
  | 0, t, n, m, x, h => by rw [PM.set_zero, PM.get_nil] at h; cases h
  | f + 1, .nil, 0, m, x, h => by
    rw [PM.set_nil0] at h
    cases m with
    | zero => exact .inl ⟨rfl, h⟩
    | succ m => rw [PM.get_succ] at h; split at h <;> cases h
  | f + 1, .nil, n + 1, m, x, h => by
    rw [PM.set_nilS] at h
    cases m with
    | zero => split at h <;> cases h
    | succ m =>
      split at h
      · rw [PM.get_succ] at h
        split at h
        · rcases PM.get_set f .nil (n / 2) (m / 2) x h with ⟨h1, h2⟩ | ⟨_, h2⟩
          · exact .inl ⟨by omega, h2⟩
          · cases h2
        · cases h
      · rw [PM.get_succ] at h
        split at h
        · cases h
        · rcases PM.get_set f .nil (n / 2) (m / 2) x h with ⟨h1, h2⟩ | ⟨_, h2⟩
          · exact .inl ⟨by omega, h2⟩
          · cases h2
  | f + 1, .node l u r, 0, m, x, h => by
    rw [PM.set_node0] at h
    cases m with
    | zero => exact .inl ⟨rfl, h⟩
    | succ m => rw [PM.get_succ] at h; exact .inr ⟨by omega, by rw [PM.get_succ]; exact h⟩
  | f + 1, .node l u r, n + 1, m, x, h => by
    rw [PM.set_nodeS] at h
    cases m with
    | zero => split at h <;> exact .inr ⟨by omega, h⟩
    | succ m =>
      split at h
      · rename_i hn
        rw [PM.get_succ] at h
        split at h
        · rename_i hm
          rcases PM.get_set f l (n / 2) (m / 2) x h with ⟨h1, h2⟩ | ⟨h1, h2⟩
          · exact .inl ⟨by omega, h2⟩
          · exact .inr ⟨by omega, by rw [PM.get_succ, if_pos hm]; exact h2⟩
        · rename_i hm
          exact .inr ⟨by omega, by rw [PM.get_succ, if_neg hm]; exact h⟩
      · rename_i hn
        rw [PM.get_succ] at h
        split at h
        · rename_i hm
          exact .inr ⟨by omega, by rw [PM.get_succ, if_pos hm]; exact h⟩
        · rename_i hm
          rcases PM.get_set f r (n / 2) (m / 2) x h with ⟨h1, h2⟩ | ⟨h1, h2⟩
          · exact .inl ⟨by omega, h2⟩
          · exact .inr ⟨by omega, by rw [PM.get_succ, if_neg hm]; exact h2⟩

theorem getq_some : ∀ (f n : Nat) (t : AE) (a : AV), getq (pathOf f n) t = a → a = .bad ∨ t.get n = some a
  | 0, n, t, a, h => .inl h.symm
  | f + 1, 0, t, a, h => by
    cases t with
    | nil => exact .inl h.symm
    | node l u r =>
      cases u with
      | none => exact .inl h.symm
      | some v => exact .inr (congrArg some h)
  | f + 1, n + 1, t, a, h => by
    have hp : pathOf (f + 1) (n + 1) = (Nat.rec (.lo (pathOf f (n / 2))) (fun _ _ => .hi (pathOf f (n / 2))) (n % 2) : Pa) := rfl
    rw [hp] at h
    cases t with
    | nil =>
      left
      rcases Nat.mod_two_eq_zero_or_one n with e | e <;> (rw [e] at h; exact h.symm)
    | node l u r =>
      rw [PM.get_succ]
      rcases Nat.mod_two_eq_zero_or_one n with e | e
      · rw [e] at h
        rw [if_pos e]
        exact getq_some f (n / 2) l a h
      · rw [e] at h
        rw [if_neg (by omega)]
        exact getq_some f (n / 2) r a h
theorem setq_get {v : AV} : ∀ (f : Nat) (t : AE) (n m : Nat) (x : AV), (setq v (pathOf f n) t).get m = some x → (m = n ∧ v = x) ∨ (m ≠ n ∧ t.get m = some x)
  | 0, t, n, m, x, h => by cases h
  | f + 1, t, 0, m, x, h => by
    cases t with
    | nil =>
      cases m with
      | zero => exact .inl ⟨rfl, by injection h⟩
      | succ m =>
        have h : (PM.node PM.nil (some v) PM.nil).get (m + 1) = some x := h
        rw [PM.get_succ] at h; split at h <;> cases h
    | node l u r =>
      cases m with
      | zero => exact .inl ⟨rfl, by injection h⟩
      | succ m =>
        have h : (PM.node l (some v) r).get (m + 1) = some x := h
        rw [PM.get_succ] at h; exact .inr ⟨by omega, by rw [PM.get_succ]; exact h⟩
  | f + 1, t, n + 1, m, x, h => by
    have hp : pathOf (f + 1) (n + 1) = (Nat.rec (.lo (pathOf f (n / 2))) (fun _ _ => .hi (pathOf f (n / 2))) (n % 2) : Pa) := rfl
    rw [hp] at h
    have ih := setq_get (v := v) f
    rcases Nat.mod_two_eq_zero_or_one n with e | e <;> rw [e] at h
    · have h : (PM.rec (.node (setq v (pathOf f (n / 2)) .nil) none .nil) (fun l u r _ _ => .node (setq v (pathOf f (n / 2)) l) u r) t : AE).get m = some x := h
      cases t with
      | nil =>
        have h : (PM.node (setq v (pathOf f (n / 2)) .nil) none .nil).get m = some x := h
        cases m with
        | zero => cases h
        | succ m =>
          rw [PM.get_succ] at h
          split at h
          · rcases ih _ _ _ _ h with ⟨h1, h2⟩ | ⟨_, h2⟩
            · exact .inl ⟨by omega, h2⟩
            · cases h2
          · cases h
      | node l u r =>
        have h : (PM.node (setq v (pathOf f (n / 2)) l) u r).get m = some x := h
        cases m with
        | zero => exact .inr ⟨by omega, h⟩
        | succ m =>
          rw [PM.get_succ] at h
          split at h
          · rename_i hm
            rcases ih _ _ _ _ h with ⟨h1, h2⟩ | ⟨h1, h2⟩
            · exact .inl ⟨by omega, h2⟩
            · exact .inr ⟨by omega, by rw [PM.get_succ, if_pos hm]; exact h2⟩
          · rename_i hm
            exact .inr ⟨by omega, by rw [PM.get_succ, if_neg hm]; exact h⟩
    · have h : (PM.rec (.node .nil none (setq v (pathOf f (n / 2)) .nil)) (fun l u r _ _ => .node l u (setq v (pathOf f (n / 2)) r)) t : AE).get m = some x := h
      cases t with
      | nil =>
        have h : (PM.node .nil none (setq v (pathOf f (n / 2)) .nil)).get m = some x := h
        cases m with
        | zero => cases h
        | succ m =>
          rw [PM.get_succ] at h
          split at h
          · cases h
          · rcases ih _ _ _ _ h with ⟨h1, h2⟩ | ⟨_, h2⟩
            · exact .inl ⟨by omega, h2⟩
            · cases h2
      | node l u r =>
        have h : (PM.node l u (setq v (pathOf f (n / 2)) r)).get m = some x := h
        cases m with
        | zero => exact .inr ⟨by omega, h⟩
        | succ m =>
          rw [PM.get_succ] at h
          split at h
          · rename_i hm
            exact .inr ⟨by omega, by rw [PM.get_succ, if_pos hm]; exact h⟩
          · rename_i hm
            rcases ih _ _ _ _ h with ⟨h1, h2⟩ | ⟨h1, h2⟩
            · exact .inl ⟨by omega, h2⟩
            · exact .inr ⟨by omega, by rw [PM.get_succ, if_neg hm]; exact h2⟩

/-! ### values -/
/-- A row of cells that nobody writes any more. -/
structure Fz where
  B : Nat
  s : Nat
  L : List AV
structure Pl where
  B : Nat
  s : Nat
  T : Nat
/-- Where blocks lie, and what is frozen ('y': what was so at the beginning). -/
structure Ph where
  f : Nat → Option Pl
  z : Fz → Prop
  y : Fz → Prop
instance : CoeFun Ph (fun _ => Nat → Option Pl) := ⟨Ph.f⟩
abbrev Ph.no : Ph := ⟨fun _ => none, fun _ => False, fun _ => False⟩
structure PLe (φ ψ : Ph) : Prop where
  b : ∀ b p, φ b = some p → ψ b = some p
  z : ∀ q, φ.z q → ψ.z q
  y : ∀ q, ψ.y q → φ.y q
structure SLe (φ ψ : Ph) : Prop where
  b : ∀ b p, φ b = some p → ψ b = some p
  z : ∀ q, φ.z q → ψ.z q
instance {φ ψ : Ph} : CoeFun (SLe φ ψ) (fun _ => ∀ b p, φ b = some p → ψ b = some p) := ⟨SLe.b⟩
theorem PLe.s {φ ψ : Ph} (h : PLe φ ψ) : SLe φ ψ := ⟨h.b, h.z⟩
instance {φ ψ : Ph} : CoeFun (PLe φ ψ) (fun _ => ∀ b p, φ b = some p → ψ b = some p) := ⟨PLe.b⟩
theorem PLe.refl (φ : Ph) : PLe φ φ := ⟨fun _ _ h => h, fun _ h => h, fun _ h => h⟩
theorem PLe.trans {a b c : Ph} (h : PLe a b) (k : PLe b c) : PLe a c := ⟨fun x p e => k x p (h x p e), fun q e => k.z q (h.z q e), fun q e => h.y q (k.y q e)⟩
def vstr (s : List Nat) : ByteArray := ⟨(s.map UInt8.ofNat).toArray⟩
/-- A row without cells: none, or (4) one that stands anywhere. -/
def Emp (x : Nat) (v : Value) : Prop := v = .slice none 0 0 ∨ (x = 4 ∧ ∃ a, v = .slice (some a) 0 0)
mutual
def VR (φ : Ph) : AV → Value → Prop
  | .int k n, v => v = .int k n
  | .str s, v => v = .string (vstr s) ∧ ∀ x ∈ s, x < 256
  | .bool b, v => v = .bool b
  | .nil, v => v = .pointer none
  | .ptr b o, v => ∃ p, φ b = some p ∧ v = .pointer (some ⟨p.B, p.s + o, none⟩)
  | .nsl, v => v = .slice none 0 0
  | .sl b o n c k, v => ∃ p C, φ b = some p ∧ v = .slice (some ⟨p.B, p.s + o, none⟩) n C ∧ (k = 0 → C = c) ∧ (k ≠ 0 → c ≤ C ∧ o + C * k = p.T)
  | .esl b, v => ∃ p x C, φ b = some p ∧ v = .slice (some ⟨p.B, x, none⟩) 0 C ∧ p.s ≤ x ∧ x ≤ p.s + p.T
  | .agg l, v => ∃ cs, v = .agg cs ∧ VRs φ l cs.toList
  | .tup l, v => ∃ cs, v = .tuple cs ∧ VRs φ l cs.toList
  | .fn f a c, v => ∃ xs cs, v = .func (.func f) xs cs ∧ VRs φ a xs.toList ∧ VRs φ c cs.toList
  | .map b, v => ∃ p, φ b = some p ∧ v = .map (some p.B)
  | .any u, v => v = u
  | .bad, _ => True
  | .si k n, v => v = .int k n
  | .sb b, v => v = .bool b
  | .ss s, v => v = .string (vstr s) ∧ ∀ x ∈ s, x < 256
  | .sy b o n c k, v => ∃ p C, φ b = some p ∧ v = .slice (some ⟨p.B, p.s + o, none⟩) n C ∧ (k = 0 → C = c) ∧ (k ≠ 0 → c ≤ C ∧ o + C * k = p.T)
  | .rw b o n k x, v => (n = 0 ∧ Emp x v) ∨ ∃ p a C, φ b = some p ∧ v = .slice (some ⟨p.B, a, none⟩) n C ∧ (n ≠ 0 → a = p.s + o) ∧ p.s ≤ a ∧ n ≤ C ∧ a + n * k ≤ p.s + p.T ∧ (x < 2 → a + C * k ≤ p.s + p.T) ∧ (x = 1 → C = n)
  | .fr n k l, v => (n = 0 ∧ l = [] ∧ ∃ a C, v = .slice a 0 C ∧ (a = none → C = 0)) ∨ ∃ q o C, φ.z q ∧ v = .slice (some ⟨q.B, q.s + o, none⟩) n C ∧ n ≤ C ∧ subL q.L o (n * k) = some l
  | .fa l o, v => ∃ q x, φ.z q ∧ v = .pointer (some ⟨q.B, q.s + x + o, none⟩) ∧ subL q.L x l.length = some l
def VRs (φ : Ph) : List AV → List Value → Prop
  | [], vs => vs = []
  | a :: l, vs => ∃ v us, vs = v :: us ∧ VR φ a v ∧ VRs φ l us
end
mutual
theorem VR.smono {φ ψ : Ph} (he : SLe φ ψ) : ∀ (a : AV) (v : Value), VR φ a v → VR ψ a v
  | .int k n, v, h => by simp only [VR] at h ⊢; exact h
  | .str s, v, h => by simp only [VR] at h ⊢; exact h
  | .bool b, v, h => by simp only [VR] at h ⊢; exact h
  | .nil, v, h => by simp only [VR] at h ⊢; exact h
  | .ptr b o, v, h => by
    simp only [VR] at h ⊢
    obtain ⟨p, h1, h2⟩ := h
    exact ⟨p, he _ _ h1, h2⟩
  | .nsl, v, h => by simp only [VR] at h ⊢; exact h
  | .sl b o n c k, v, h => by
    simp only [VR] at h ⊢
    obtain ⟨p, C, h1, h2⟩ := h
    exact ⟨p, C, he _ _ h1, h2⟩
  | .esl b, v, h => by
    simp only [VR] at h ⊢
    obtain ⟨p, x, C, h1, h2⟩ := h
    exact ⟨p, x, C, he _ _ h1, h2⟩
  | .agg l, v, h => by
    simp only [VR] at h ⊢
    obtain ⟨cs, h1, h2⟩ := h
    exact ⟨cs, h1, VRs.smono he l _ h2⟩
  | .tup l, v, h => by
    simp only [VR] at h ⊢
    obtain ⟨cs, h1, h2⟩ := h
    exact ⟨cs, h1, VRs.smono he l _ h2⟩
  | .fn f a c, v, h => by
    simp only [VR] at h ⊢
    obtain ⟨xs, cs, h1, h2, h3⟩ := h
    exact ⟨xs, cs, h1, VRs.smono he a _ h2, VRs.smono he c _ h3⟩
  | .map b, v, h => by
    simp only [VR] at h ⊢
    obtain ⟨p, h1, h2⟩ := h
    exact ⟨p, he _ _ h1, h2⟩
  | .any u, v, h => by simp only [VR] at h ⊢; exact h
  | .bad, v, h => by simp only [VR]
  | .si k n, v, h => by simp only [VR] at h ⊢; exact h
  | .sb b, v, h => by simp only [VR] at h ⊢; exact h
  | .ss s, v, h => by simp only [VR] at h ⊢; exact h
  | .sy b o n c k, v, h => by
    simp only [VR] at h ⊢
    obtain ⟨p, C, h1, h2⟩ := h
    exact ⟨p, C, he _ _ h1, h2⟩
  | .rw b o n k x, v, h => by
    simp only [VR] at h ⊢
    rcases h with h | ⟨p, a, C, h1, h2⟩
    · exact .inl h
    · exact .inr ⟨p, a, C, he _ _ h1, h2⟩
  | .fr n k l, v, h => by
    simp only [VR] at h ⊢
    rcases h with h | ⟨q, o, C, h1, h2⟩
    · exact .inl h
    · exact .inr ⟨q, o, C, he.z _ h1, h2⟩
  | .fa l o, v, h => by
    simp only [VR] at h ⊢
    obtain ⟨q, x, h1, h2⟩ := h
    exact ⟨q, x, he.z _ h1, h2⟩
theorem VRs.smono {φ ψ : Ph} (he : SLe φ ψ) : ∀ (l : List AV) (vs : List Value), VRs φ l vs → VRs ψ l vs
  | [], vs, h => by simp only [VRs] at h ⊢; exact h
  | a :: l, vs, h => by
    simp only [VRs] at h ⊢
    obtain ⟨v, us, h1, h2, h3⟩ := h
    exact ⟨v, us, h1, VR.smono he a v h2, VRs.smono he l us h3⟩
end
theorem VR.mono {φ ψ : Ph} (he : PLe φ ψ) (a : AV) (v : Value) (h : VR φ a v) : VR ψ a v := VR.smono he.s a v h
theorem VRs.mono {φ ψ : Ph} (he : PLe φ ψ) (l : List AV) (vs : List Value) (h : VRs φ l vs) : VRs ψ l vs := VRs.smono he.s l vs h
section
variable {φ : Ph}
theorem VRs.nil : VRs φ [] [] := by simp only [VRs]
theorem VRs.cons {a : AV} {v : Value} {l : List AV} {vs : List Value} (h : VR φ a v) (k : VRs φ l vs) : VRs φ (a :: l) (v :: vs) := by
  simp only [VRs]; exact ⟨v, vs, rfl, h, k⟩
theorem VRs.nil_inv {vs : List Value} (h : VRs φ [] vs) : vs = [] := by simpa only [VRs] using h
theorem VRs.cons_inv {a : AV} {l : List AV} {vs : List Value} (h : VRs φ (a :: l) vs) : ∃ v us, vs = v :: us ∧ VR φ a v ∧ VRs φ l us := by simpa only [VRs] using h
theorem VRs.length : ∀ {l : List AV} {vs : List Value}, VRs φ l vs → l.length = vs.length
  | [], vs, h => by rw [h.nil_inv]; rfl
  | a :: l, vs, h => by
    obtain ⟨v, us, rfl, _, h2⟩ := h.cons_inv
    simp [h2.length]
theorem VRs.append : ∀ {l m : List AV} {vs us : List Value}, VRs φ l vs → VRs φ m us → VRs φ (l ++ m) (vs ++ us)
  | [], m, vs, us, h, k => by rw [h.nil_inv]; exact k
  | a :: l, m, vs, us, h, k => by
    obtain ⟨v, ws, rfl, h1, h2⟩ := h.cons_inv
    exact .cons h1 (h2.append k)
theorem VRs.at : ∀ {l : List AV} {vs : List Value}, VRs φ l vs → ∀ {i : Nat} {a : AV}, l[i]? = some a → ∃ v, vs[i]? = some v ∧ VR φ a v
  | [], vs, h, i, a, e => by simp at e
  | b :: l, vs, h, 0, a, e => by
    obtain ⟨v, us, rfl, h1, _⟩ := h.cons_inv
    simp only [List.getElem?_cons_zero, Option.some.injEq] at e
    subst e
    exact ⟨v, rfl, h1⟩
  | b :: l, vs, h, i + 1, a, e => by
    obtain ⟨v, us, rfl, _, h2⟩ := h.cons_inv
    simp only [List.getElem?_cons_succ] at e
    simpa using h2.at e
theorem VRs.take : ∀ {l : List AV} {vs : List Value}, VRs φ l vs → ∀ (n : Nat), VRs φ (l.take n) (vs.take n)
  | _, _, _, 0 => by simp [VRs]
  | [], vs, h, n + 1 => by rw [h.nil_inv]; simp [VRs]
  | a :: l, vs, h, n + 1 => by
    obtain ⟨v, us, rfl, h1, h2⟩ := h.cons_inv
    simpa using VRs.cons h1 (h2.take n)
theorem VRs.drop : ∀ {l : List AV} {vs : List Value}, VRs φ l vs → ∀ (n : Nat), VRs φ (l.drop n) (vs.drop n)
  | _, _, h, 0 => by simpa using h
  | [], vs, h, n + 1 => by rw [h.nil_inv]; simp [VRs]
  | a :: l, vs, h, n + 1 => by
    obtain ⟨v, us, rfl, h1, h2⟩ := h.cons_inv
    simpa using h2.drop n
theorem VRs.map {β : Type} {f : β → AV} {g : β → Value} (h : ∀ x, VR φ (f x) (g x)) : ∀ l : List β, VRs φ (l.map f) (l.map g)
  | [] => .nil
  | x :: l => .cons (h x) (VRs.map h l)
theorem VR.int_inv {k : IntKind} {n : Int} {v : Value} (h : VR φ (.int k n) v) : v = .int k n := by simpa only [VR] using h
theorem VR.bool_inv {b : Bool} {v : Value} (h : VR φ (.bool b) v) : v = .bool b := by simpa only [VR] using h
theorem VR.nil_inv {v : Value} (h : VR φ .nil v) : v = .pointer none := by simpa only [VR] using h
theorem VR.nsl_inv {v : Value} (h : VR φ .nsl v) : v = .slice none 0 0 := by simpa only [VR] using h
theorem VR.str_inv {s : List Nat} {v : Value} (h : VR φ (.str s) v) : v = .string (vstr s) ∧ ∀ x ∈ s, x < 256 := by simpa only [VR] using h
theorem VR.ptr_inv {b o : Nat} {v : Value} (h : VR φ (.ptr b o) v) : ∃ p, φ b = some p ∧ v = .pointer (some ⟨p.B, p.s + o, none⟩) := by simpa only [VR] using h
theorem VR.sl_inv {b o n c k : Nat} {v : Value} (h : VR φ (.sl b o n c k) v) : ∃ p C, φ b = some p ∧ v = .slice (some ⟨p.B, p.s + o, none⟩) n C ∧ (k = 0 → C = c) ∧ (k ≠ 0 → c ≤ C ∧ o + C * k = p.T) := by simpa only [VR] using h
theorem VR.esl_inv {b : Nat} {v : Value} (h : VR φ (.esl b) v) : ∃ p x C, φ b = some p ∧ v = .slice (some ⟨p.B, x, none⟩) 0 C ∧ p.s ≤ x ∧ x ≤ p.s + p.T := by simpa only [VR] using h
theorem VR.agg_inv {l : List AV} {v : Value} (h : VR φ (.agg l) v) : ∃ cs, v = .agg cs ∧ VRs φ l cs.toList := by simpa only [VR] using h
theorem VR.tup_inv {l : List AV} {v : Value} (h : VR φ (.tup l) v) : ∃ cs, v = .tuple cs ∧ VRs φ l cs.toList := by simpa only [VR] using h
theorem VR.fn_inv {f : Nat} {a c : List AV} {v : Value} (h : VR φ (.fn f a c) v) : ∃ xs cs, v = .func (.func f) xs cs ∧ VRs φ a xs.toList ∧ VRs φ c cs.toList := by simpa only [VR] using h
theorem VR.map_inv {b : Nat} {v : Value} (h : VR φ (.map b) v) : ∃ p, φ b = some p ∧ v = .map (some p.B) := by simpa only [VR] using h
theorem VR.any_inv {u v : Value} (h : VR φ (.any u) v) : v = u := by simpa only [VR] using h
theorem VR.si_inv {k : IntKind} {n : Int} {v : Value} (h : VR φ (.si k n) v) : v = .int k n := by simpa only [VR] using h
theorem VR.sb_inv {b : Bool} {v : Value} (h : VR φ (.sb b) v) : v = .bool b := by simpa only [VR] using h
theorem VR.ss_inv {s : List Nat} {v : Value} (h : VR φ (.ss s) v) : v = .string (vstr s) ∧ ∀ x ∈ s, x < 256 := by simpa only [VR] using h
theorem VR.sy_inv {b o n c k : Nat} {v : Value} (h : VR φ (.sy b o n c k) v) : ∃ p C, φ b = some p ∧ v = .slice (some ⟨p.B, p.s + o, none⟩) n C ∧ (k = 0 → C = c) ∧ (k ≠ 0 → c ≤ C ∧ o + C * k = p.T) := by simpa only [VR] using h
theorem VR.rw_inv {b o n k x : Nat} {v : Value} (h : VR φ (.rw b o n k x) v) : (n = 0 ∧ Emp x v) ∨ ∃ p a C, φ b = some p ∧ v = .slice (some ⟨p.B, a, none⟩) n C ∧ (n ≠ 0 → a = p.s + o) ∧ p.s ≤ a ∧ n ≤ C ∧ a + n * k ≤ p.s + p.T ∧ (x < 2 → a + C * k ≤ p.s + p.T) ∧ (x = 1 → C = n) := by simpa only [VR] using h
theorem VR.rwe {b o k x n : Nat} {v : Value} (hn : n = 0) (h : Emp x v) : VR φ (.rw b o n k x) v := by subst hn; simp only [VR]; exact .inl ⟨trivial, h⟩
theorem VR.rwn {b o k x : Nat} : VR φ (.rw b o 0 k x) (.slice none 0 0) := .rwe rfl (.inl rfl)
theorem VR.fr_inv {n k : Nat} {l : List AV} {v : Value} (h : VR φ (.fr n k l) v) : (n = 0 ∧ l = [] ∧ ∃ a C, v = .slice a 0 C ∧ (a = none → C = 0)) ∨ ∃ q o C, φ.z q ∧ v = .slice (some ⟨q.B, q.s + o, none⟩) n C ∧ n ≤ C ∧ subL q.L o (n * k) = some l := by simpa only [VR] using h
theorem VR.fa_inv {l : List AV} {o : Nat} {v : Value} (h : VR φ (.fa l o) v) : ∃ q x, φ.z q ∧ v = .pointer (some ⟨q.B, q.s + x + o, none⟩) ∧ subL q.L x l.length = some l := by simpa only [VR] using h
theorem VR.fre {k C : Nat} {a : Option Addr} (h : a = none → C = 0) : VR φ (.fr 0 k []) (.slice a 0 C) := by simp only [VR]; exact .inl ⟨trivial, trivial, a, C, rfl, h⟩
theorem VR.fr {n k o C : Nat} {l : List AV} {q : Fz} (hq : φ.z q) (hn : n ≤ C) (hl : subL q.L o (n * k) = some l) : VR φ (.fr n k l) (.slice (some ⟨q.B, q.s + o, none⟩) n C) := by simp only [VR]; exact .inr ⟨q, o, C, hq, rfl, hn, hl⟩
theorem VR.fa {x o : Nat} {l : List AV} {q : Fz} (hq : φ.z q) (hl : subL q.L x l.length = some l) : VR φ (.fa l o) (.pointer (some ⟨q.B, q.s + x + o, none⟩)) := by simp only [VR]; exact ⟨q, x, hq, rfl, hl⟩
theorem VR.fr_is {n k : Nat} {l : List AV} {v : Value} (h : VR φ (.fr n k l) v) : ∃ a C, v = .slice a n C := by
  rcases h.fr_inv with ⟨rfl, _, a, C, h, _⟩ | ⟨q, o, C, _, h, _⟩ <;> exact ⟨_, _, h⟩
/-- It stands for the same, whatever names blocks have. -/
def stab : AV → Bool
  | .int _ _ => true
  | .str _ => true
  | .bool _ => true
  | .si _ _ => true
  | .sb _ => true
  | .ss _ => true
  | .nil => true
  | .nsl => true
  | .any _ => true
  | .bad => true
  | .fr _ _ _ => true
  | .fa _ _ => true
  | _ => false
theorem stab_VR {ψ : Ph} (hz : ∀ q, φ.z q → ψ.z q) {a : AV} {v : Value} (h : stab a = true) (hv : VR φ a v) : VR ψ a v := by
  cases a <;> first | (cases h; done) | skip
  case fr =>
    simp only [VR] at hv ⊢
    rcases hv with h | ⟨q, o, C, h1, h2⟩
    · exact .inl h
    · exact .inr ⟨q, o, C, hz _ h1, h2⟩
  case fa =>
    simp only [VR] at hv ⊢
    obtain ⟨q, o, h1, h2⟩ := hv
    exact ⟨q, o, hz _ h1, h2⟩
  all_goals (simp only [VR] at hv ⊢; try exact hv)
theorem Emp.nil {x : Nat} {v : Value} (h : Emp x v) (hx : x ≠ 4) : v = .slice none 0 0 := h.elim id fun h => absurd h.1 hx
theorem Emp.is {x : Nat} {v : Value} (h : Emp x v) : ∃ a, v = .slice a 0 0 := h.elim (fun h => ⟨_, h⟩) fun ⟨_, a, h⟩ => ⟨_, h⟩
theorem VR.rwx {b o n k a C x : Nat} {p : Pl} (h : φ b = some p) (h1 : n ≠ 0 → a = p.s + o) (h2 : p.s ≤ a) (h3 : n ≤ C) (h4 : a + n * k ≤ p.s + p.T) (h5 : x < 2 → a + C * k ≤ p.s + p.T) (h6 : x = 1 → C = n) : VR φ (.rw b o n k x) (.slice (some ⟨p.B, a, none⟩) n C) := by simp only [VR]; exact .inr ⟨p, a, C, h, rfl, h1, h2, h3, h4, h5, h6⟩
theorem VR.rw {b o n k a C : Nat} {p : Pl} (h : φ b = some p) (h1 : n ≠ 0 → a = p.s + o) (h2 : p.s ≤ a) (h3 : n ≤ C) (h4 : a + C * k ≤ p.s + p.T) : VR φ (.rw b o n k 0) (.slice (some ⟨p.B, a, none⟩) n C) := .rwx h h1 h2 h3 (Nat.le_trans (Nat.add_le_add_left (Nat.mul_le_mul_right k h3) a) h4) (fun _ => h4) (fun q => by cases q)
theorem VR.si (k : IntKind) (n : Int) : VR φ (.si k n) (.int k n) := by simp only [VR]
theorem VR.sb (b : Bool) : VR φ (.sb b) (.bool b) := by simp only [VR]
theorem VR.ss {s : List Nat} (h : ∀ x ∈ s, x < 256) : VR φ (.ss s) (.string (vstr s)) := by simp only [VR]; exact ⟨trivial, h⟩
theorem VR.sy {b o n c k C : Nat} {p : Pl} (h : φ b = some p) (h0 : k = 0 → C = c) (h1 : k ≠ 0 → c ≤ C ∧ o + C * k = p.T) : VR φ (.sy b o n c k) (.slice (some ⟨p.B, p.s + o, none⟩) n C) := by simp only [VR]; exact ⟨p, C, h, rfl, h0, h1⟩
theorem VR.int (k : IntKind) (n : Int) : VR φ (.int k n) (.int k n) := by simp only [VR]
theorem VR.bool (b : Bool) : VR φ (.bool b) (.bool b) := by simp only [VR]
theorem VR.nil : VR φ .nil (.pointer none) := by simp only [VR]
theorem VR.nsl : VR φ .nsl (.slice none 0 0) := by simp only [VR]
theorem VR.str {s : List Nat} (h : ∀ x ∈ s, x < 256) : VR φ (.str s) (.string (vstr s)) := by simp only [VR]; exact ⟨trivial, h⟩
theorem VR.ptr {b o : Nat} {p : Pl} (h : φ b = some p) : VR φ (.ptr b o) (.pointer (some ⟨p.B, p.s + o, none⟩)) := by simp only [VR]; exact ⟨p, h, rfl⟩
theorem VR.sl {b o n c k C : Nat} {p : Pl} (h : φ b = some p) (h0 : k = 0 → C = c) (h1 : k ≠ 0 → c ≤ C ∧ o + C * k = p.T) : VR φ (.sl b o n c k) (.slice (some ⟨p.B, p.s + o, none⟩) n C) := by simp only [VR]; exact ⟨p, C, h, rfl, h0, h1⟩
theorem VR.esl {b x C : Nat} {p : Pl} (h : φ b = some p) (h1 : p.s ≤ x) (h2 : x ≤ p.s + p.T) : VR φ (.esl b) (.slice (some ⟨p.B, x, none⟩) 0 C) := by simp only [VR]; exact ⟨p, x, C, h, rfl, h1, h2⟩
theorem VR.agg {l : List AV} {cs : Array Value} (h : VRs φ l cs.toList) : VR φ (.agg l) (.agg cs) := by simp only [VR]; exact ⟨cs, rfl, h⟩
theorem VR.tup {l : List AV} {cs : Array Value} (h : VRs φ l cs.toList) : VR φ (.tup l) (.tuple cs) := by simp only [VR]; exact ⟨cs, rfl, h⟩
theorem VR.fn {f : Nat} {a c : List AV} {xs cs : Array Value} (h : VRs φ a xs.toList) (k : VRs φ c cs.toList) : VR φ (.fn f a c) (.func (.func f) xs cs) := by simp only [VR]; exact ⟨xs, cs, rfl, h, k⟩
theorem VR.map {b : Nat} {p : Pl} (h : φ b = some p) : VR φ (.map b) (.map (some p.B)) := by simp only [VR]; exact ⟨p, h, rfl⟩
theorem VR.any (v : Value) : VR φ (.any v) v := by simp only [VR]
theorem VR.bad (v : Value) : VR φ .bad v := by simp only [VR]
theorem VR.undef : VR φ undefA Go.undef := VR.tup (cs := #[]) VRs.nil
theorem vstr_data (s : ByteArray) : vstr (s.data.toList.map UInt8.toNat) = s := by
  obtain ⟨⟨l⟩⟩ := s
  simp [vstr, List.map_map, Function.comp_def]
theorem ofV1_sound (v : Value) : VR φ (ofV1 v) v := by
  unfold ofV1
  split
  · exact .int _ _
  · rename_i s
    have := VR.str (φ := φ) (s := s.data.toList.map UInt8.toNat) (by
      intro x hx
      simp only [List.mem_map] at hx
      obtain ⟨y, _, rfl⟩ := hx
      exact y.toNat_lt)
    rwa [vstr_data] at this
  · exact .bool _
  · exact .nil
  · exact .nsl
  · exact .any _
theorem ofV_sound (v : Value) : VR φ (ofV v) v := by
  unfold ofV
  split
  · rename_i cs
    refine .agg ?_
    have := VRs.map (φ := φ) (f := ofV1) (g := id) ofV1_sound cs.toList
    simpa using this
  · rename_i cs
    refine .tup ?_
    have := VRs.map (φ := φ) (f := ofV1) (g := id) ofV1_sound cs.toList
    simpa using this
  · exact ofV1_sound _
theorem VR.cells {a : AV} {v : Value} (h : VR φ a v) (hc : okC a = true) : VRs φ a.cells v.cells.toList := by
  cases a <;> simp only [AV.cells]
  case agg l => obtain ⟨cs, rfl, h1⟩ := h.agg_inv; exact h1
  case bad => cases hc
  case any u => have := h.any_inv; subst this; simp only [okC] at hc; cases v <;> first | exact .cons h .nil | cases hc
  case si => have := h.si_inv; subst this; exact .cons h .nil
  case sb => have := h.sb_inv; subst this; exact .cons h .nil
  case ss => obtain ⟨rfl, _⟩ := h.ss_inv; exact .cons h .nil
  case sy => obtain ⟨p, C, _, rfl, _⟩ := h.sy_inv; exact .cons h .nil
  case rw =>
    rcases h.rw_inv with ⟨_, he⟩ | ⟨p, y, C, _, rfl, _⟩
    · obtain ⟨a, rfl⟩ := he.is; exact .cons h .nil
    · exact .cons h .nil
  case fr => obtain ⟨a, C, rfl⟩ := h.fr_is; exact .cons h .nil
  case fa => obtain ⟨q, o, _, rfl, _⟩ := h.fa_inv; exact .cons h .nil
  case int => have := h.int_inv; subst this; exact .cons h .nil
  case str => obtain ⟨rfl, _⟩ := h.str_inv; exact .cons h .nil
  case bool => have := h.bool_inv; subst this; exact .cons h .nil
  case nil => have := h.nil_inv; subst this; exact .cons h .nil
  case ptr => obtain ⟨p, _, rfl⟩ := h.ptr_inv; exact .cons h .nil
  case nsl => have := h.nsl_inv; subst this; exact .cons h .nil
  case sl => obtain ⟨p, C, _, rfl, _⟩ := h.sl_inv; exact .cons h .nil
  case esl => obtain ⟨p, x, C, _, rfl, _⟩ := h.esl_inv; exact .cons h .nil
  case tup => obtain ⟨p, rfl, _⟩ := h.tup_inv; exact .cons h .nil
  case fn => obtain ⟨p, q, rfl, _⟩ := h.fn_inv; exact .cons h .nil
  case map => obtain ⟨p, _, rfl⟩ := h.map_inv; exact .cons h .nil
end
end Go.Proofs.Ytpfflibkkjjlaaa
