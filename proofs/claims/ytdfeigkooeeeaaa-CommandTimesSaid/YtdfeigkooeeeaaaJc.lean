/- Texts of our own, joined: the engine, the machine that runs code, and what is known of the functions. -/
import Derived.Test.YtdfeigkooeeeaaaJb
import Derived.Laws.Strings
set_option linter.unusedSimpArgs false
set_option linter.unusedVariables false
namespace Go.Proofs.Ytdfeigkooeeeaaa
open Go
@[go_sem] theorem tab.sz2 : tySize Try.prog 2 = some 1 := by kernel_rfl
@[go_sem] theorem tab.by2 : tyBytes Try.prog 2 = some 8 := by kernel_rfl
@[go_sem] theorem tab.ze2 : tyZero Try.prog 2 = some (Go.Value.int Go.IntKind.i64 0) := by kernel_rfl
@[go_sem] theorem tab.un2 : Program.underlying Try.prog 2 = some (Go.TypeDesc.int Go.IntKind.i64) := by kernel_rfl
@[go_sem] theorem tab.ag2 : tyAgg Try.prog 2 = some false := by kernel_rfl
@[go_sem] theorem tab.sz3 : tySize Try.prog 3 = some 1 := by kernel_rfl
@[go_sem] theorem tab.by3 : tyBytes Try.prog 3 = some 8 := by kernel_rfl
@[go_sem] theorem tab.ze3 : tyZero Try.prog 3 = some (Go.Value.int Go.IntKind.i64 0) := by kernel_rfl
@[go_sem] theorem tab.un3 : Program.underlying Try.prog 3 = some (Go.TypeDesc.int Go.IntKind.i64) := by kernel_rfl
@[go_sem] theorem tab.ag3 : tyAgg Try.prog 3 = some false := by kernel_rfl
@[go_sem] theorem tab.sz4 : tySize Try.prog 4 = some 1 := by kernel_rfl
@[go_sem] theorem tab.by4 : tyBytes Try.prog 4 = some 1 := by kernel_rfl
@[go_sem] theorem tab.ze4 : tyZero Try.prog 4 = some (Go.Value.bool false) := by kernel_rfl
@[go_sem] theorem tab.un4 : Program.underlying Try.prog 4 = some Go.TypeDesc.bool := by kernel_rfl
@[go_sem] theorem tab.ag4 : tyAgg Try.prog 4 = some false := by kernel_rfl
@[go_sem] theorem tab.sz5 : tySize Try.prog 5 = some 1 := by kernel_rfl
@[go_sem] theorem tab.by5 : tyBytes Try.prog 5 = some 1 := by kernel_rfl
@[go_sem] theorem tab.ze5 : tyZero Try.prog 5 = some (Go.Value.int Go.IntKind.u8 0) := by kernel_rfl
@[go_sem] theorem tab.un5 : Program.underlying Try.prog 5 = some (Go.TypeDesc.int Go.IntKind.u8) := by kernel_rfl
@[go_sem] theorem tab.ag5 : tyAgg Try.prog 5 = some false := by kernel_rfl
@[go_sem] theorem tab.sz6 : tySize Try.prog 6 = some 1 := by kernel_rfl
@[go_sem] theorem tab.by6 : tyBytes Try.prog 6 = some 1 := by kernel_rfl
@[go_sem] theorem tab.ze6 : tyZero Try.prog 6 = some (Go.Value.int Go.IntKind.u8 0) := by kernel_rfl
@[go_sem] theorem tab.un6 : Program.underlying Try.prog 6 = some (Go.TypeDesc.int Go.IntKind.u8) := by kernel_rfl
@[go_sem] theorem tab.ag6 : tyAgg Try.prog 6 = some false := by kernel_rfl
@[go_sem] theorem tab.sz7 : tySize Try.prog 7 = some 4 := by kernel_rfl
@[go_sem] theorem tab.by7 : tyBytes Try.prog 7 = some 24 := by kernel_rfl
@[go_sem] theorem tab.ze7 : tyZero Try.prog 7 = some (Go.Value.agg #[(Go.Value.int Go.IntKind.i64 0), (Go.Value.int Go.IntKind.i64 0), (Go.Value.bool false), (Go.Value.int Go.IntKind.u8 0)]) := by kernel_rfl
@[go_sem] theorem tab.un7 : Program.underlying Try.prog 7 = some (Go.TypeDesc.struct #[{ name := "x", type := 2, offset := 0, embedded := false, tag := "", pkgPath := "runtime", byteOffset := 0 }, { name := "y", type := 3, offset := 1, embedded := false, tag := "", pkgPath := "runtime", byteOffset := 8 }, { name := "signed", type := 4, offset := 2, embedded := false, tag := "", pkgPath := "runtime", byteOffset := 16 }, { name := "code", type := 6, offset := 3, embedded := false, tag := "", pkgPath := "runtime", byteOffset := 17 }]) := by kernel_rfl
@[go_sem] theorem tab.ag7 : tyAgg Try.prog 7 = some true := by kernel_rfl
@[go_sem] theorem tab.eq7 : eqPlan Try.prog 7 = some [(0, 0), (0, 1), (2, 2), (0, 3)] := by kernel_rfl
@[go_sem] theorem tab.fi7_0 : tyField Try.prog 7 0 = some (2, 0) := by kernel_rfl
@[go_sem] theorem tab.fi7_1 : tyField Try.prog 7 1 = some (3, 1) := by kernel_rfl
@[go_sem] theorem tab.fi7_2 : tyField Try.prog 7 2 = some (4, 2) := by kernel_rfl
@[go_sem] theorem tab.fi7_3 : tyField Try.prog 7 3 = some (6, 3) := by kernel_rfl
@[go_sem] theorem tab.sz8 : tySize Try.prog 8 = some 4 := by kernel_rfl
@[go_sem] theorem tab.by8 : tyBytes Try.prog 8 = some 24 := by kernel_rfl
@[go_sem] theorem tab.ze8 : tyZero Try.prog 8 = some (Go.Value.agg #[(Go.Value.int Go.IntKind.i64 0), (Go.Value.int Go.IntKind.i64 0), (Go.Value.bool false), (Go.Value.int Go.IntKind.u8 0)]) := by kernel_rfl
@[go_sem] theorem tab.un8 : Program.underlying Try.prog 8 = some (Go.TypeDesc.struct #[{ name := "x", type := 2, offset := 0, embedded := false, tag := "", pkgPath := "runtime", byteOffset := 0 }, { name := "y", type := 3, offset := 1, embedded := false, tag := "", pkgPath := "runtime", byteOffset := 8 }, { name := "signed", type := 4, offset := 2, embedded := false, tag := "", pkgPath := "runtime", byteOffset := 16 }, { name := "code", type := 6, offset := 3, embedded := false, tag := "", pkgPath := "runtime", byteOffset := 17 }]) := by kernel_rfl
@[go_sem] theorem tab.ag8 : tyAgg Try.prog 8 = some true := by kernel_rfl
@[go_sem] theorem tab.eq8 : eqPlan Try.prog 8 = some [(0, 0), (0, 1), (2, 2), (0, 3)] := by kernel_rfl
@[go_sem] theorem tab.fi8_0 : tyField Try.prog 8 0 = some (2, 0) := by kernel_rfl
@[go_sem] theorem tab.fi8_1 : tyField Try.prog 8 1 = some (3, 1) := by kernel_rfl
@[go_sem] theorem tab.fi8_2 : tyField Try.prog 8 2 = some (4, 2) := by kernel_rfl
@[go_sem] theorem tab.fi8_3 : tyField Try.prog 8 3 = some (6, 3) := by kernel_rfl
@[go_sem] theorem tab.sz9 : tySize Try.prog 9 = some 1 := by kernel_rfl
@[go_sem] theorem tab.by9 : tyBytes Try.prog 9 = some 16 := by kernel_rfl
@[go_sem] theorem tab.ze9 : tyZero Try.prog 9 = some (Go.Value.string { data := #[] }) := by kernel_rfl
@[go_sem] theorem tab.un9 : Program.underlying Try.prog 9 = some Go.TypeDesc.string := by kernel_rfl
@[go_sem] theorem tab.ag9 : tyAgg Try.prog 9 = some false := by kernel_rfl
@[go_sem] theorem tab.sz10 : tySize Try.prog 10 = some 1 := by kernel_rfl
@[go_sem] theorem tab.by10 : tyBytes Try.prog 10 = some 16 := by kernel_rfl
@[go_sem] theorem tab.ze10 : tyZero Try.prog 10 = some (Go.Value.string { data := #[] }) := by kernel_rfl
@[go_sem] theorem tab.un10 : Program.underlying Try.prog 10 = some Go.TypeDesc.string := by kernel_rfl
@[go_sem] theorem tab.ag10 : tyAgg Try.prog 10 = some false := by kernel_rfl
@[go_sem] theorem tab.sz11 : tySize Try.prog 11 = some 1 := by kernel_rfl
@[go_sem] theorem tab.by11 : tyBytes Try.prog 11 = some 16 := by kernel_rfl
@[go_sem] theorem tab.ze11 : tyZero Try.prog 11 = some (Go.Value.string { data := #[] }) := by kernel_rfl
@[go_sem] theorem tab.un11 : Program.underlying Try.prog 11 = some Go.TypeDesc.string := by kernel_rfl
@[go_sem] theorem tab.ag11 : tyAgg Try.prog 11 = some false := by kernel_rfl
@[go_sem] theorem tab.sz12 : tySize Try.prog 12 = some 1 := by kernel_rfl
@[go_sem] theorem tab.by12 : tyBytes Try.prog 12 = some 8 := by kernel_rfl
@[go_sem] theorem tab.ze12 : tyZero Try.prog 12 = some (Go.Value.int Go.IntKind.u64 0) := by kernel_rfl
@[go_sem] theorem tab.un12 : Program.underlying Try.prog 12 = some (Go.TypeDesc.int Go.IntKind.u64) := by kernel_rfl
@[go_sem] theorem tab.ag12 : tyAgg Try.prog 12 = some false := by kernel_rfl
@[go_sem] theorem tab.sz13 : tySize Try.prog 13 = some 2 := by kernel_rfl
@[go_sem] theorem tab.by13 : tyBytes Try.prog 13 = some 24 := by kernel_rfl
@[go_sem] theorem tab.ze13 : tyZero Try.prog 13 = some (Go.Value.agg #[(Go.Value.string { data := #[] }), (Go.Value.int Go.IntKind.u64 0)]) := by kernel_rfl
@[go_sem] theorem tab.un13 : Program.underlying Try.prog 13 = some (Go.TypeDesc.struct #[{ name := "msg", type := 9, offset := 0, embedded := false, tag := "", pkgPath := "runtime", byteOffset := 0 }, { name := "addr", type := 12, offset := 1, embedded := false, tag := "", pkgPath := "runtime", byteOffset := 16 }]) := by kernel_rfl
@[go_sem] theorem tab.ag13 : tyAgg Try.prog 13 = some true := by kernel_rfl
@[go_sem] theorem tab.fi13_0 : tyField Try.prog 13 0 = some (9, 0) := by kernel_rfl
@[go_sem] theorem tab.fi13_1 : tyField Try.prog 13 1 = some (12, 1) := by kernel_rfl
@[go_sem] theorem tab.sz14 : tySize Try.prog 14 = some 2 := by kernel_rfl
@[go_sem] theorem tab.by14 : tyBytes Try.prog 14 = some 24 := by kernel_rfl
@[go_sem] theorem tab.ze14 : tyZero Try.prog 14 = some (Go.Value.agg #[(Go.Value.string { data := #[] }), (Go.Value.int Go.IntKind.u64 0)]) := by kernel_rfl
@[go_sem] theorem tab.un14 : Program.underlying Try.prog 14 = some (Go.TypeDesc.struct #[{ name := "msg", type := 9, offset := 0, embedded := false, tag := "", pkgPath := "runtime", byteOffset := 0 }, { name := "addr", type := 12, offset := 1, embedded := false, tag := "", pkgPath := "runtime", byteOffset := 16 }]) := by kernel_rfl
@[go_sem] theorem tab.ag14 : tyAgg Try.prog 14 = some true := by kernel_rfl
@[go_sem] theorem tab.fi14_0 : tyField Try.prog 14 0 = some (9, 0) := by kernel_rfl
@[go_sem] theorem tab.fi14_1 : tyField Try.prog 14 1 = some (12, 1) := by kernel_rfl
@[go_sem] theorem tab.sz15 : tySize Try.prog 15 = some 1 := by kernel_rfl
@[go_sem] theorem tab.by15 : tyBytes Try.prog 15 = some 8 := by kernel_rfl
@[go_sem] theorem tab.ze15 : tyZero Try.prog 15 = some (Go.Value.pointer none) := by kernel_rfl
@[go_sem] theorem tab.un15 : Program.underlying Try.prog 15 = some (Go.TypeDesc.pointer 100) := by kernel_rfl
@[go_sem] theorem tab.ag15 : tyAgg Try.prog 15 = some false := by kernel_rfl
@[go_sem] theorem tab.sz16 : tySize Try.prog 16 = some 1 := by kernel_rfl
@[go_sem] theorem tab.by16 : tyBytes Try.prog 16 = some 8 := by kernel_rfl
@[go_sem] theorem tab.ze16 : tyZero Try.prog 16 = some (Go.Value.pointer none) := by kernel_rfl
@[go_sem] theorem tab.un16 : Program.underlying Try.prog 16 = some (Go.TypeDesc.pointer 103) := by kernel_rfl
@[go_sem] theorem tab.ag16 : tyAgg Try.prog 16 = some false := by kernel_rfl
@[go_sem] theorem tab.sz17 : tySize Try.prog 17 = some 1 := by kernel_rfl
@[go_sem] theorem tab.by17 : tyBytes Try.prog 17 = some 8 := by kernel_rfl
@[go_sem] theorem tab.ze17 : tyZero Try.prog 17 = some (Go.Value.pointer none) := by kernel_rfl
@[go_sem] theorem tab.un17 : Program.underlying Try.prog 17 = some (Go.TypeDesc.pointer 111) := by kernel_rfl
@[go_sem] theorem tab.ag17 : tyAgg Try.prog 17 = some false := by kernel_rfl
@[go_sem] theorem tab.sz18 : tySize Try.prog 18 = some 1 := by kernel_rfl
@[go_sem] theorem tab.by18 : tyBytes Try.prog 18 = some 8 := by kernel_rfl
@[go_sem] theorem tab.ze18 : tyZero Try.prog 18 = some (Go.Value.agg #[(Go.Value.pointer none)]) := by kernel_rfl
@[go_sem] theorem tab.un18 : Program.underlying Try.prog 18 = some (Go.TypeDesc.struct #[{ name := "typ", type := 17, offset := 0, embedded := false, tag := "", pkgPath := "internal/runtime/maps", byteOffset := 0 }]) := by kernel_rfl
@[go_sem] theorem tab.ag18 : tyAgg Try.prog 18 = some true := by kernel_rfl
@[go_sem] theorem tab.fi18_0 : tyField Try.prog 18 0 = some (17, 0) := by kernel_rfl
@[go_sem] theorem tab.sz19 : tySize Try.prog 19 = some 1 := by kernel_rfl
@[go_sem] theorem tab.by19 : tyBytes Try.prog 19 = some 8 := by kernel_rfl
@[go_sem] theorem tab.ze19 : tyZero Try.prog 19 = some (Go.Value.agg #[(Go.Value.pointer none)]) := by kernel_rfl
@[go_sem] theorem tab.un19 : Program.underlying Try.prog 19 = some (Go.TypeDesc.struct #[{ name := "typ", type := 17, offset := 0, embedded := false, tag := "", pkgPath := "internal/runtime/maps", byteOffset := 0 }]) := by kernel_rfl
@[go_sem] theorem tab.ag19 : tyAgg Try.prog 19 = some true := by kernel_rfl
@[go_sem] theorem tab.fi19_0 : tyField Try.prog 19 0 = some (17, 0) := by kernel_rfl
@[go_sem] theorem tab.sz20 : tySize Try.prog 20 = some 1 := by kernel_rfl
@[go_sem] theorem tab.by20 : tyBytes Try.prog 20 = some 16 := by kernel_rfl
@[go_sem] theorem tab.ze20 : tyZero Try.prog 20 = some Go.Value.nilIface := by kernel_rfl
@[go_sem] theorem tab.ag20 : tyAgg Try.prog 20 = some false := by kernel_rfl
@[go_sem] theorem tab.sz21 : tySize Try.prog 21 = some 1 := by kernel_rfl
@[go_sem] theorem tab.by21 : tyBytes Try.prog 21 = some 4 := by kernel_rfl
@[go_sem] theorem tab.ze21 : tyZero Try.prog 21 = some (Go.Value.int Go.IntKind.i32 0) := by kernel_rfl
@[go_sem] theorem tab.un21 : Program.underlying Try.prog 21 = some (Go.TypeDesc.int Go.IntKind.i32) := by kernel_rfl
@[go_sem] theorem tab.ag21 : tyAgg Try.prog 21 = some false := by kernel_rfl
@[go_sem] theorem tab.sz23 : tySize Try.prog 23 = some 1 := by kernel_rfl
@[go_sem] theorem tab.by23 : tyBytes Try.prog 23 = some 8 := by kernel_rfl
@[go_sem] theorem tab.ze23 : tyZero Try.prog 23 = some (Go.Value.int Go.IntKind.i64 0) := by kernel_rfl
@[go_sem] theorem tab.un23 : Program.underlying Try.prog 23 = some (Go.TypeDesc.int Go.IntKind.i64) := by kernel_rfl
@[go_sem] theorem tab.ag23 : tyAgg Try.prog 23 = some false := by kernel_rfl
@[go_sem] theorem tab.sz28 : tySize Try.prog 28 = some 1 := by kernel_rfl
@[go_sem] theorem tab.by28 : tyBytes Try.prog 28 = some 24 := by kernel_rfl
@[go_sem] theorem tab.ze28 : tyZero Try.prog 28 = some (Go.Value.slice none 0 0) := by kernel_rfl
@[go_sem] theorem tab.un28 : Program.underlying Try.prog 28 = some (Go.TypeDesc.slice 9) := by kernel_rfl
@[go_sem] theorem tab.ag28 : tyAgg Try.prog 28 = some false := by kernel_rfl
@[go_sem] theorem tab.sz30 : tySize Try.prog 30 = some 1 := by kernel_rfl
@[go_sem] theorem tab.by30 : tyBytes Try.prog 30 = some 24 := by kernel_rfl
@[go_sem] theorem tab.ze30 : tyZero Try.prog 30 = some (Go.Value.slice none 0 0) := by kernel_rfl
@[go_sem] theorem tab.un30 : Program.underlying Try.prog 30 = some (Go.TypeDesc.slice 3) := by kernel_rfl
@[go_sem] theorem tab.ag30 : tyAgg Try.prog 30 = some false := by kernel_rfl
@[go_sem] theorem tab.sz31 : tySize Try.prog 31 = some 1 := by kernel_rfl
@[go_sem] theorem tab.by31 : tyBytes Try.prog 31 = some 24 := by kernel_rfl
@[go_sem] theorem tab.ze31 : tyZero Try.prog 31 = some (Go.Value.slice none 0 0) := by kernel_rfl
@[go_sem] theorem tab.un31 : Program.underlying Try.prog 31 = some (Go.TypeDesc.slice 81) := by kernel_rfl
@[go_sem] theorem tab.ag31 : tyAgg Try.prog 31 = some false := by kernel_rfl
@[go_sem] theorem tab.sz32 : tySize Try.prog 32 = some 12 := by kernel_rfl
@[go_sem] theorem tab.by32 : tyBytes Try.prog 32 = some 112 := by kernel_rfl
@[go_sem] theorem tab.ze32 : tyZero Try.prog 32 = some (Go.Value.agg #[(Go.Value.int Go.IntKind.i64 0), (Go.Value.int Go.IntKind.i64 0), (Go.Value.bool false), (Go.Value.int Go.IntKind.i64 0), (Go.Value.int Go.IntKind.i64 0), (Go.Value.int Go.IntKind.i64 0), (Go.Value.int Go.IntKind.i64 0), (Go.Value.bool false), (Go.Value.slice none 0 0), (Go.Value.bool false), (Go.Value.int Go.IntKind.i64 0), (Go.Value.int Go.IntKind.i64 0)]) := by kernel_rfl
@[go_sem] theorem tab.un32 : Program.underlying Try.prog 32 = some (Go.TypeDesc.struct #[{ name := "From", type := 3, offset := 0, embedded := false, tag := "", pkgPath := "", byteOffset := 0 }, { name := "To", type := 3, offset := 1, embedded := false, tag := "", pkgPath := "", byteOffset := 8 }, { name := "Back", type := 4, offset := 2, embedded := false, tag := "", pkgPath := "", byteOffset := 16 }, { name := "Count", type := 3, offset := 3, embedded := false, tag := "", pkgPath := "", byteOffset := 24 }, { name := "Kind", type := 3, offset := 4, embedded := false, tag := "", pkgPath := "", byteOffset := 32 }, { name := "Size", type := 3, offset := 5, embedded := false, tag := "", pkgPath := "", byteOffset := 40 }, { name := "Align", type := 3, offset := 6, embedded := false, tag := "", pkgPath := "", byteOffset := 48 }, { name := "Empty", type := 4, offset := 7, embedded := false, tag := "", pkgPath := "", byteOffset := 56 }, { name := "Times", type := 30, offset := 8, embedded := false, tag := "", pkgPath := "", byteOffset := 64 }, { name := "Values", type := 4, offset := 9, embedded := false, tag := "", pkgPath := "", byteOffset := 88 }, { name := "Low", type := 3, offset := 10, embedded := false, tag := "", pkgPath := "", byteOffset := 96 }, { name := "High", type := 3, offset := 11, embedded := false, tag := "", pkgPath := "", byteOffset := 104 }]) := by kernel_rfl
@[go_sem] theorem tab.ag32 : tyAgg Try.prog 32 = some true := by kernel_rfl
@[go_sem] theorem tab.fi32_0 : tyField Try.prog 32 0 = some (3, 0) := by kernel_rfl
@[go_sem] theorem tab.fi32_1 : tyField Try.prog 32 1 = some (3, 1) := by kernel_rfl
@[go_sem] theorem tab.fi32_2 : tyField Try.prog 32 2 = some (4, 2) := by kernel_rfl
@[go_sem] theorem tab.fi32_3 : tyField Try.prog 32 3 = some (3, 3) := by kernel_rfl
@[go_sem] theorem tab.fi32_4 : tyField Try.prog 32 4 = some (3, 4) := by kernel_rfl
@[go_sem] theorem tab.fi32_5 : tyField Try.prog 32 5 = some (3, 5) := by kernel_rfl
@[go_sem] theorem tab.fi32_6 : tyField Try.prog 32 6 = some (3, 6) := by kernel_rfl
@[go_sem] theorem tab.fi32_7 : tyField Try.prog 32 7 = some (4, 7) := by kernel_rfl
@[go_sem] theorem tab.fi32_8 : tyField Try.prog 32 8 = some (30, 8) := by kernel_rfl
@[go_sem] theorem tab.fi32_9 : tyField Try.prog 32 9 = some (4, 9) := by kernel_rfl
@[go_sem] theorem tab.fi32_10 : tyField Try.prog 32 10 = some (3, 10) := by kernel_rfl
@[go_sem] theorem tab.fi32_11 : tyField Try.prog 32 11 = some (3, 11) := by kernel_rfl
@[go_sem] theorem tab.sz33 : tySize Try.prog 33 = some 12 := by kernel_rfl
@[go_sem] theorem tab.by33 : tyBytes Try.prog 33 = some 112 := by kernel_rfl
@[go_sem] theorem tab.ze33 : tyZero Try.prog 33 = some (Go.Value.agg #[(Go.Value.int Go.IntKind.i64 0), (Go.Value.int Go.IntKind.i64 0), (Go.Value.bool false), (Go.Value.int Go.IntKind.i64 0), (Go.Value.int Go.IntKind.i64 0), (Go.Value.int Go.IntKind.i64 0), (Go.Value.int Go.IntKind.i64 0), (Go.Value.bool false), (Go.Value.slice none 0 0), (Go.Value.bool false), (Go.Value.int Go.IntKind.i64 0), (Go.Value.int Go.IntKind.i64 0)]) := by kernel_rfl
@[go_sem] theorem tab.un33 : Program.underlying Try.prog 33 = some (Go.TypeDesc.struct #[{ name := "From", type := 3, offset := 0, embedded := false, tag := "", pkgPath := "", byteOffset := 0 }, { name := "To", type := 3, offset := 1, embedded := false, tag := "", pkgPath := "", byteOffset := 8 }, { name := "Back", type := 4, offset := 2, embedded := false, tag := "", pkgPath := "", byteOffset := 16 }, { name := "Count", type := 3, offset := 3, embedded := false, tag := "", pkgPath := "", byteOffset := 24 }, { name := "Kind", type := 3, offset := 4, embedded := false, tag := "", pkgPath := "", byteOffset := 32 }, { name := "Size", type := 3, offset := 5, embedded := false, tag := "", pkgPath := "", byteOffset := 40 }, { name := "Align", type := 3, offset := 6, embedded := false, tag := "", pkgPath := "", byteOffset := 48 }, { name := "Empty", type := 4, offset := 7, embedded := false, tag := "", pkgPath := "", byteOffset := 56 }, { name := "Times", type := 30, offset := 8, embedded := false, tag := "", pkgPath := "", byteOffset := 64 }, { name := "Values", type := 4, offset := 9, embedded := false, tag := "", pkgPath := "", byteOffset := 88 }, { name := "Low", type := 3, offset := 10, embedded := false, tag := "", pkgPath := "", byteOffset := 96 }, { name := "High", type := 3, offset := 11, embedded := false, tag := "", pkgPath := "", byteOffset := 104 }]) := by kernel_rfl
@[go_sem] theorem tab.ag33 : tyAgg Try.prog 33 = some true := by kernel_rfl
@[go_sem] theorem tab.fi33_0 : tyField Try.prog 33 0 = some (3, 0) := by kernel_rfl
@[go_sem] theorem tab.fi33_1 : tyField Try.prog 33 1 = some (3, 1) := by kernel_rfl
@[go_sem] theorem tab.fi33_2 : tyField Try.prog 33 2 = some (4, 2) := by kernel_rfl
@[go_sem] theorem tab.fi33_3 : tyField Try.prog 33 3 = some (3, 3) := by kernel_rfl
@[go_sem] theorem tab.fi33_4 : tyField Try.prog 33 4 = some (3, 4) := by kernel_rfl
@[go_sem] theorem tab.fi33_5 : tyField Try.prog 33 5 = some (3, 5) := by kernel_rfl
@[go_sem] theorem tab.fi33_6 : tyField Try.prog 33 6 = some (3, 6) := by kernel_rfl
@[go_sem] theorem tab.fi33_7 : tyField Try.prog 33 7 = some (4, 7) := by kernel_rfl
@[go_sem] theorem tab.fi33_8 : tyField Try.prog 33 8 = some (30, 8) := by kernel_rfl
@[go_sem] theorem tab.fi33_9 : tyField Try.prog 33 9 = some (4, 9) := by kernel_rfl
@[go_sem] theorem tab.fi33_10 : tyField Try.prog 33 10 = some (3, 10) := by kernel_rfl
@[go_sem] theorem tab.fi33_11 : tyField Try.prog 33 11 = some (3, 11) := by kernel_rfl
@[go_sem] theorem tab.sz34 : tySize Try.prog 34 = some 29 := by kernel_rfl
@[go_sem] theorem tab.by34 : tyBytes Try.prog 34 = some 336 := by kernel_rfl
@[go_sem] theorem tab.ze34 : tyZero Try.prog 34 = some (Go.Value.agg #[(Go.Value.int Go.IntKind.i64 0), (Go.Value.slice none 0 0), (Go.Value.slice none 0 0), (Go.Value.slice none 0 0), (Go.Value.int Go.IntKind.i64 0), (Go.Value.int Go.IntKind.i64 0), (Go.Value.int Go.IntKind.i64 0), (Go.Value.slice none 0 0), (Go.Value.bool false), (Go.Value.int Go.IntKind.i64 0), (Go.Value.int Go.IntKind.i64 0), (Go.Value.int Go.IntKind.i64 0), (Go.Value.int Go.IntKind.i64 0), (Go.Value.int Go.IntKind.i64 0), (Go.Value.int Go.IntKind.i64 0), (Go.Value.int Go.IntKind.i64 0), (Go.Value.bool false), (Go.Value.int Go.IntKind.i64 0), (Go.Value.int Go.IntKind.i64 0), (Go.Value.int Go.IntKind.i64 0), (Go.Value.int Go.IntKind.i64 0), (Go.Value.bool false), (Go.Value.slice none 0 0), (Go.Value.bool false), (Go.Value.int Go.IntKind.i64 0), (Go.Value.int Go.IntKind.i64 0), (Go.Value.slice none 0 0), (Go.Value.string { data := #[] }), (Go.Value.int Go.IntKind.i64 0)]) := by kernel_rfl
@[go_sem] theorem tab.ag34 : tyAgg Try.prog 34 = some true := by kernel_rfl
@[go_sem] theorem tab.fi34_0 : tyField Try.prog 34 0 = some (3, 0) := by kernel_rfl
@[go_sem] theorem tab.fi34_1 : tyField Try.prog 34 1 = some (28, 1) := by kernel_rfl
@[go_sem] theorem tab.fi34_2 : tyField Try.prog 34 2 = some (30, 2) := by kernel_rfl
@[go_sem] theorem tab.fi34_3 : tyField Try.prog 34 3 = some (30, 3) := by kernel_rfl
@[go_sem] theorem tab.fi34_4 : tyField Try.prog 34 4 = some (3, 4) := by kernel_rfl
@[go_sem] theorem tab.fi34_5 : tyField Try.prog 34 5 = some (3, 5) := by kernel_rfl
@[go_sem] theorem tab.fi34_6 : tyField Try.prog 34 6 = some (3, 6) := by kernel_rfl
@[go_sem] theorem tab.fi34_7 : tyField Try.prog 34 7 = some (31, 7) := by kernel_rfl
@[go_sem] theorem tab.fi34_8 : tyField Try.prog 34 8 = some (4, 8) := by kernel_rfl
@[go_sem] theorem tab.fi34_9 : tyField Try.prog 34 9 = some (3, 9) := by kernel_rfl
@[go_sem] theorem tab.fi34_10 : tyField Try.prog 34 10 = some (3, 10) := by kernel_rfl
@[go_sem] theorem tab.fi34_11 : tyField Try.prog 34 11 = some (3, 11) := by kernel_rfl
@[go_sem] theorem tab.fi34_12 : tyField Try.prog 34 12 = some (3, 12) := by kernel_rfl
@[go_sem] theorem tab.fi34_13 : tyField Try.prog 34 13 = some (3, 13) := by kernel_rfl
@[go_sem] theorem tab.fi34_14 : tyField Try.prog 34 14 = some (33, 14) := by kernel_rfl
@[go_sem] theorem tab.fi34_15 : tyField Try.prog 34 15 = some (28, 26) := by kernel_rfl
@[go_sem] theorem tab.fi34_16 : tyField Try.prog 34 16 = some (9, 27) := by kernel_rfl
@[go_sem] theorem tab.fi34_17 : tyField Try.prog 34 17 = some (3, 28) := by kernel_rfl
@[go_sem] theorem tab.sz35 : tySize Try.prog 35 = some 29 := by kernel_rfl
@[go_sem] theorem tab.by35 : tyBytes Try.prog 35 = some 336 := by kernel_rfl
@[go_sem] theorem tab.ze35 : tyZero Try.prog 35 = some (Go.Value.agg #[(Go.Value.int Go.IntKind.i64 0), (Go.Value.slice none 0 0), (Go.Value.slice none 0 0), (Go.Value.slice none 0 0), (Go.Value.int Go.IntKind.i64 0), (Go.Value.int Go.IntKind.i64 0), (Go.Value.int Go.IntKind.i64 0), (Go.Value.slice none 0 0), (Go.Value.bool false), (Go.Value.int Go.IntKind.i64 0), (Go.Value.int Go.IntKind.i64 0), (Go.Value.int Go.IntKind.i64 0), (Go.Value.int Go.IntKind.i64 0), (Go.Value.int Go.IntKind.i64 0), (Go.Value.int Go.IntKind.i64 0), (Go.Value.int Go.IntKind.i64 0), (Go.Value.bool false), (Go.Value.int Go.IntKind.i64 0), (Go.Value.int Go.IntKind.i64 0), (Go.Value.int Go.IntKind.i64 0), (Go.Value.int Go.IntKind.i64 0), (Go.Value.bool false), (Go.Value.slice none 0 0), (Go.Value.bool false), (Go.Value.int Go.IntKind.i64 0), (Go.Value.int Go.IntKind.i64 0), (Go.Value.slice none 0 0), (Go.Value.string { data := #[] }), (Go.Value.int Go.IntKind.i64 0)]) := by kernel_rfl
@[go_sem] theorem tab.ag35 : tyAgg Try.prog 35 = some true := by kernel_rfl
@[go_sem] theorem tab.fi35_0 : tyField Try.prog 35 0 = some (3, 0) := by kernel_rfl
@[go_sem] theorem tab.fi35_1 : tyField Try.prog 35 1 = some (28, 1) := by kernel_rfl
@[go_sem] theorem tab.fi35_2 : tyField Try.prog 35 2 = some (30, 2) := by kernel_rfl
@[go_sem] theorem tab.fi35_3 : tyField Try.prog 35 3 = some (30, 3) := by kernel_rfl
@[go_sem] theorem tab.fi35_4 : tyField Try.prog 35 4 = some (3, 4) := by kernel_rfl
@[go_sem] theorem tab.fi35_5 : tyField Try.prog 35 5 = some (3, 5) := by kernel_rfl
@[go_sem] theorem tab.fi35_6 : tyField Try.prog 35 6 = some (3, 6) := by kernel_rfl
@[go_sem] theorem tab.fi35_7 : tyField Try.prog 35 7 = some (31, 7) := by kernel_rfl
@[go_sem] theorem tab.fi35_8 : tyField Try.prog 35 8 = some (4, 8) := by kernel_rfl
@[go_sem] theorem tab.fi35_9 : tyField Try.prog 35 9 = some (3, 9) := by kernel_rfl
@[go_sem] theorem tab.fi35_10 : tyField Try.prog 35 10 = some (3, 10) := by kernel_rfl
@[go_sem] theorem tab.fi35_11 : tyField Try.prog 35 11 = some (3, 11) := by kernel_rfl
@[go_sem] theorem tab.fi35_12 : tyField Try.prog 35 12 = some (3, 12) := by kernel_rfl
@[go_sem] theorem tab.fi35_13 : tyField Try.prog 35 13 = some (3, 13) := by kernel_rfl
@[go_sem] theorem tab.fi35_14 : tyField Try.prog 35 14 = some (33, 14) := by kernel_rfl
@[go_sem] theorem tab.fi35_15 : tyField Try.prog 35 15 = some (28, 26) := by kernel_rfl
@[go_sem] theorem tab.fi35_16 : tyField Try.prog 35 16 = some (9, 27) := by kernel_rfl
@[go_sem] theorem tab.fi35_17 : tyField Try.prog 35 17 = some (3, 28) := by kernel_rfl
@[go_sem] theorem tab.sz41 : tySize Try.prog 41 = some 3 := by kernel_rfl
@[go_sem] theorem tab.by41 : tyBytes Try.prog 41 = some 3 := by kernel_rfl
@[go_sem] theorem tab.ze41 : tyZero Try.prog 41 = some (Go.Value.agg #[(Go.Value.int Go.IntKind.u8 0), (Go.Value.int Go.IntKind.u8 0), (Go.Value.int Go.IntKind.u8 0)]) := by kernel_rfl
@[go_sem] theorem tab.un41 : Program.underlying Try.prog 41 = some (Go.TypeDesc.array 3 5) := by kernel_rfl
@[go_sem] theorem tab.ag41 : tyAgg Try.prog 41 = some true := by kernel_rfl
@[go_sem] theorem tab.sz43 : tySize Try.prog 43 = some 1 := by kernel_rfl
@[go_sem] theorem tab.by43 : tyBytes Try.prog 43 = some 24 := by kernel_rfl
@[go_sem] theorem tab.ze43 : tyZero Try.prog 43 = some (Go.Value.slice none 0 0) := by kernel_rfl
@[go_sem] theorem tab.un43 : Program.underlying Try.prog 43 = some (Go.TypeDesc.slice 5) := by kernel_rfl
@[go_sem] theorem tab.ag43 : tyAgg Try.prog 43 = some false := by kernel_rfl
@[go_sem] theorem tab.sz46 : tySize Try.prog 46 = some 12 := by kernel_rfl
@[go_sem] theorem tab.by46 : tyBytes Try.prog 46 = some 112 := by kernel_rfl
@[go_sem] theorem tab.ze46 : tyZero Try.prog 46 = some (Go.Value.agg #[(Go.Value.int Go.IntKind.i64 0), (Go.Value.int Go.IntKind.i64 0), (Go.Value.bool false), (Go.Value.int Go.IntKind.i64 0), (Go.Value.int Go.IntKind.i64 0), (Go.Value.int Go.IntKind.i64 0), (Go.Value.int Go.IntKind.i64 0), (Go.Value.bool false), (Go.Value.slice none 0 0), (Go.Value.bool false), (Go.Value.int Go.IntKind.i64 0), (Go.Value.int Go.IntKind.i64 0)]) := by kernel_rfl
@[go_sem] theorem tab.un46 : Program.underlying Try.prog 46 = some (Go.TypeDesc.struct #[{ name := "From", type := 3, offset := 0, embedded := false, tag := "", pkgPath := "", byteOffset := 0 }, { name := "To", type := 3, offset := 1, embedded := false, tag := "", pkgPath := "", byteOffset := 8 }, { name := "Back", type := 4, offset := 2, embedded := false, tag := "", pkgPath := "", byteOffset := 16 }, { name := "Count", type := 3, offset := 3, embedded := false, tag := "", pkgPath := "", byteOffset := 24 }, { name := "Kind", type := 3, offset := 4, embedded := false, tag := "", pkgPath := "", byteOffset := 32 }, { name := "Size", type := 3, offset := 5, embedded := false, tag := "", pkgPath := "", byteOffset := 40 }, { name := "Align", type := 3, offset := 6, embedded := false, tag := "", pkgPath := "", byteOffset := 48 }, { name := "Empty", type := 4, offset := 7, embedded := false, tag := "", pkgPath := "", byteOffset := 56 }, { name := "Times", type := 30, offset := 8, embedded := false, tag := "", pkgPath := "", byteOffset := 64 }, { name := "Values", type := 4, offset := 9, embedded := false, tag := "", pkgPath := "", byteOffset := 88 }, { name := "Low", type := 3, offset := 10, embedded := false, tag := "", pkgPath := "", byteOffset := 96 }, { name := "High", type := 3, offset := 11, embedded := false, tag := "", pkgPath := "", byteOffset := 104 }]) := by kernel_rfl
@[go_sem] theorem tab.ag46 : tyAgg Try.prog 46 = some true := by kernel_rfl
@[go_sem] theorem tab.fi46_0 : tyField Try.prog 46 0 = some (3, 0) := by kernel_rfl
@[go_sem] theorem tab.fi46_1 : tyField Try.prog 46 1 = some (3, 1) := by kernel_rfl
@[go_sem] theorem tab.fi46_2 : tyField Try.prog 46 2 = some (4, 2) := by kernel_rfl
@[go_sem] theorem tab.fi46_3 : tyField Try.prog 46 3 = some (3, 3) := by kernel_rfl
@[go_sem] theorem tab.fi46_4 : tyField Try.prog 46 4 = some (3, 4) := by kernel_rfl
@[go_sem] theorem tab.fi46_5 : tyField Try.prog 46 5 = some (3, 5) := by kernel_rfl
@[go_sem] theorem tab.fi46_6 : tyField Try.prog 46 6 = some (3, 6) := by kernel_rfl
@[go_sem] theorem tab.fi46_7 : tyField Try.prog 46 7 = some (4, 7) := by kernel_rfl
@[go_sem] theorem tab.fi46_8 : tyField Try.prog 46 8 = some (30, 8) := by kernel_rfl
@[go_sem] theorem tab.fi46_9 : tyField Try.prog 46 9 = some (4, 9) := by kernel_rfl
@[go_sem] theorem tab.fi46_10 : tyField Try.prog 46 10 = some (3, 10) := by kernel_rfl
@[go_sem] theorem tab.fi46_11 : tyField Try.prog 46 11 = some (3, 11) := by kernel_rfl
@[go_sem] theorem tab.sz47 : tySize Try.prog 47 = some 29 := by kernel_rfl
@[go_sem] theorem tab.by47 : tyBytes Try.prog 47 = some 336 := by kernel_rfl
@[go_sem] theorem tab.ze47 : tyZero Try.prog 47 = some (Go.Value.agg #[(Go.Value.int Go.IntKind.i64 0), (Go.Value.slice none 0 0), (Go.Value.slice none 0 0), (Go.Value.slice none 0 0), (Go.Value.int Go.IntKind.i64 0), (Go.Value.int Go.IntKind.i64 0), (Go.Value.int Go.IntKind.i64 0), (Go.Value.slice none 0 0), (Go.Value.bool false), (Go.Value.int Go.IntKind.i64 0), (Go.Value.int Go.IntKind.i64 0), (Go.Value.int Go.IntKind.i64 0), (Go.Value.int Go.IntKind.i64 0), (Go.Value.int Go.IntKind.i64 0), (Go.Value.int Go.IntKind.i64 0), (Go.Value.int Go.IntKind.i64 0), (Go.Value.bool false), (Go.Value.int Go.IntKind.i64 0), (Go.Value.int Go.IntKind.i64 0), (Go.Value.int Go.IntKind.i64 0), (Go.Value.int Go.IntKind.i64 0), (Go.Value.bool false), (Go.Value.slice none 0 0), (Go.Value.bool false), (Go.Value.int Go.IntKind.i64 0), (Go.Value.int Go.IntKind.i64 0), (Go.Value.slice none 0 0), (Go.Value.string { data := #[] }), (Go.Value.int Go.IntKind.i64 0)]) := by kernel_rfl
@[go_sem] theorem tab.ag47 : tyAgg Try.prog 47 = some true := by kernel_rfl
@[go_sem] theorem tab.fi47_0 : tyField Try.prog 47 0 = some (3, 0) := by kernel_rfl
@[go_sem] theorem tab.fi47_1 : tyField Try.prog 47 1 = some (28, 1) := by kernel_rfl
@[go_sem] theorem tab.fi47_2 : tyField Try.prog 47 2 = some (30, 2) := by kernel_rfl
@[go_sem] theorem tab.fi47_3 : tyField Try.prog 47 3 = some (30, 3) := by kernel_rfl
@[go_sem] theorem tab.fi47_4 : tyField Try.prog 47 4 = some (3, 4) := by kernel_rfl
@[go_sem] theorem tab.fi47_5 : tyField Try.prog 47 5 = some (3, 5) := by kernel_rfl
@[go_sem] theorem tab.fi47_6 : tyField Try.prog 47 6 = some (3, 6) := by kernel_rfl
@[go_sem] theorem tab.fi47_7 : tyField Try.prog 47 7 = some (31, 7) := by kernel_rfl
@[go_sem] theorem tab.fi47_8 : tyField Try.prog 47 8 = some (4, 8) := by kernel_rfl
@[go_sem] theorem tab.fi47_9 : tyField Try.prog 47 9 = some (3, 9) := by kernel_rfl
@[go_sem] theorem tab.fi47_10 : tyField Try.prog 47 10 = some (3, 10) := by kernel_rfl
@[go_sem] theorem tab.fi47_11 : tyField Try.prog 47 11 = some (3, 11) := by kernel_rfl
@[go_sem] theorem tab.fi47_12 : tyField Try.prog 47 12 = some (3, 12) := by kernel_rfl
@[go_sem] theorem tab.fi47_13 : tyField Try.prog 47 13 = some (3, 13) := by kernel_rfl
@[go_sem] theorem tab.fi47_14 : tyField Try.prog 47 14 = some (46, 14) := by kernel_rfl
@[go_sem] theorem tab.fi47_15 : tyField Try.prog 47 15 = some (28, 26) := by kernel_rfl
@[go_sem] theorem tab.fi47_16 : tyField Try.prog 47 16 = some (9, 27) := by kernel_rfl
@[go_sem] theorem tab.fi47_17 : tyField Try.prog 47 17 = some (3, 28) := by kernel_rfl
@[go_sem] theorem tab.sz48 : tySize Try.prog 48 = some 29 := by kernel_rfl
@[go_sem] theorem tab.by48 : tyBytes Try.prog 48 = some 336 := by kernel_rfl
@[go_sem] theorem tab.ze48 : tyZero Try.prog 48 = some (Go.Value.agg #[(Go.Value.int Go.IntKind.i64 0), (Go.Value.slice none 0 0), (Go.Value.slice none 0 0), (Go.Value.slice none 0 0), (Go.Value.int Go.IntKind.i64 0), (Go.Value.int Go.IntKind.i64 0), (Go.Value.int Go.IntKind.i64 0), (Go.Value.slice none 0 0), (Go.Value.bool false), (Go.Value.int Go.IntKind.i64 0), (Go.Value.int Go.IntKind.i64 0), (Go.Value.int Go.IntKind.i64 0), (Go.Value.int Go.IntKind.i64 0), (Go.Value.int Go.IntKind.i64 0), (Go.Value.int Go.IntKind.i64 0), (Go.Value.int Go.IntKind.i64 0), (Go.Value.bool false), (Go.Value.int Go.IntKind.i64 0), (Go.Value.int Go.IntKind.i64 0), (Go.Value.int Go.IntKind.i64 0), (Go.Value.int Go.IntKind.i64 0), (Go.Value.bool false), (Go.Value.slice none 0 0), (Go.Value.bool false), (Go.Value.int Go.IntKind.i64 0), (Go.Value.int Go.IntKind.i64 0), (Go.Value.slice none 0 0), (Go.Value.string { data := #[] }), (Go.Value.int Go.IntKind.i64 0)]) := by kernel_rfl
@[go_sem] theorem tab.ag48 : tyAgg Try.prog 48 = some true := by kernel_rfl
@[go_sem] theorem tab.fi48_0 : tyField Try.prog 48 0 = some (3, 0) := by kernel_rfl
@[go_sem] theorem tab.fi48_1 : tyField Try.prog 48 1 = some (28, 1) := by kernel_rfl
@[go_sem] theorem tab.fi48_2 : tyField Try.prog 48 2 = some (30, 2) := by kernel_rfl
@[go_sem] theorem tab.fi48_3 : tyField Try.prog 48 3 = some (30, 3) := by kernel_rfl
@[go_sem] theorem tab.fi48_4 : tyField Try.prog 48 4 = some (3, 4) := by kernel_rfl
@[go_sem] theorem tab.fi48_5 : tyField Try.prog 48 5 = some (3, 5) := by kernel_rfl
@[go_sem] theorem tab.fi48_6 : tyField Try.prog 48 6 = some (3, 6) := by kernel_rfl
@[go_sem] theorem tab.fi48_7 : tyField Try.prog 48 7 = some (31, 7) := by kernel_rfl
@[go_sem] theorem tab.fi48_8 : tyField Try.prog 48 8 = some (4, 8) := by kernel_rfl
@[go_sem] theorem tab.fi48_9 : tyField Try.prog 48 9 = some (3, 9) := by kernel_rfl
@[go_sem] theorem tab.fi48_10 : tyField Try.prog 48 10 = some (3, 10) := by kernel_rfl
@[go_sem] theorem tab.fi48_11 : tyField Try.prog 48 11 = some (3, 11) := by kernel_rfl
@[go_sem] theorem tab.fi48_12 : tyField Try.prog 48 12 = some (3, 12) := by kernel_rfl
@[go_sem] theorem tab.fi48_13 : tyField Try.prog 48 13 = some (3, 13) := by kernel_rfl
@[go_sem] theorem tab.fi48_14 : tyField Try.prog 48 14 = some (46, 14) := by kernel_rfl
@[go_sem] theorem tab.fi48_15 : tyField Try.prog 48 15 = some (28, 26) := by kernel_rfl
@[go_sem] theorem tab.fi48_16 : tyField Try.prog 48 16 = some (9, 27) := by kernel_rfl
@[go_sem] theorem tab.fi48_17 : tyField Try.prog 48 17 = some (3, 28) := by kernel_rfl
@[go_sem] theorem tab.sz50 : tySize Try.prog 50 = some 1 := by kernel_rfl
@[go_sem] theorem tab.by50 : tyBytes Try.prog 50 = some 24 := by kernel_rfl
@[go_sem] theorem tab.ze50 : tyZero Try.prog 50 = some (Go.Value.slice none 0 0) := by kernel_rfl
@[go_sem] theorem tab.un50 : Program.underlying Try.prog 50 = some (Go.TypeDesc.slice 53) := by kernel_rfl
@[go_sem] theorem tab.ag50 : tyAgg Try.prog 50 = some false := by kernel_rfl
@[go_sem] theorem tab.sz51 : tySize Try.prog 51 = some 1 := by kernel_rfl
@[go_sem] theorem tab.by51 : tyBytes Try.prog 51 = some 4 := by kernel_rfl
@[go_sem] theorem tab.ze51 : tyZero Try.prog 51 = some (Go.Value.int Go.IntKind.u32 0) := by kernel_rfl
@[go_sem] theorem tab.un51 : Program.underlying Try.prog 51 = some (Go.TypeDesc.int Go.IntKind.u32) := by kernel_rfl
@[go_sem] theorem tab.ag51 : tyAgg Try.prog 51 = some false := by kernel_rfl
@[go_sem] theorem tab.sz52 : tySize Try.prog 52 = some 2 := by kernel_rfl
@[go_sem] theorem tab.by52 : tyBytes Try.prog 52 = some 16 := by kernel_rfl
@[go_sem] theorem tab.ze52 : tyZero Try.prog 52 = some (Go.Value.agg #[(Go.Value.int Go.IntKind.i64 0), (Go.Value.int Go.IntKind.i64 0)]) := by kernel_rfl
@[go_sem] theorem tab.un52 : Program.underlying Try.prog 52 = some (Go.TypeDesc.struct #[{ name := "T", type := 3, offset := 0, embedded := false, tag := "", pkgPath := "", byteOffset := 0 }, { name := "V", type := 3, offset := 1, embedded := false, tag := "", pkgPath := "", byteOffset := 8 }]) := by kernel_rfl
@[go_sem] theorem tab.ag52 : tyAgg Try.prog 52 = some true := by kernel_rfl
@[go_sem] theorem tab.eq52 : eqPlan Try.prog 52 = some [(0, 0), (0, 1)] := by kernel_rfl
@[go_sem] theorem tab.fi52_0 : tyField Try.prog 52 0 = some (3, 0) := by kernel_rfl
@[go_sem] theorem tab.fi52_1 : tyField Try.prog 52 1 = some (3, 1) := by kernel_rfl
@[go_sem] theorem tab.sz53 : tySize Try.prog 53 = some 2 := by kernel_rfl
@[go_sem] theorem tab.by53 : tyBytes Try.prog 53 = some 16 := by kernel_rfl
@[go_sem] theorem tab.ze53 : tyZero Try.prog 53 = some (Go.Value.agg #[(Go.Value.int Go.IntKind.i64 0), (Go.Value.int Go.IntKind.i64 0)]) := by kernel_rfl
@[go_sem] theorem tab.un53 : Program.underlying Try.prog 53 = some (Go.TypeDesc.struct #[{ name := "T", type := 3, offset := 0, embedded := false, tag := "", pkgPath := "", byteOffset := 0 }, { name := "V", type := 3, offset := 1, embedded := false, tag := "", pkgPath := "", byteOffset := 8 }]) := by kernel_rfl
@[go_sem] theorem tab.ag53 : tyAgg Try.prog 53 = some true := by kernel_rfl
@[go_sem] theorem tab.eq53 : eqPlan Try.prog 53 = some [(0, 0), (0, 1)] := by kernel_rfl
@[go_sem] theorem tab.fi53_0 : tyField Try.prog 53 0 = some (3, 0) := by kernel_rfl
@[go_sem] theorem tab.fi53_1 : tyField Try.prog 53 1 = some (3, 1) := by kernel_rfl
@[go_sem] theorem tab.sz57 : tySize Try.prog 57 = some 1 := by kernel_rfl
@[go_sem] theorem tab.by57 : tyBytes Try.prog 57 = some 8 := by kernel_rfl
@[go_sem] theorem tab.ze57 : tyZero Try.prog 57 = some (Go.Value.pointer none) := by kernel_rfl
@[go_sem] theorem tab.un57 : Program.underlying Try.prog 57 = some (Go.TypeDesc.pointer 59) := by kernel_rfl
@[go_sem] theorem tab.ag57 : tyAgg Try.prog 57 = some false := by kernel_rfl
@[go_sem] theorem tab.sz58 : tySize Try.prog 58 = some 31 := by kernel_rfl
@[go_sem] theorem tab.by58 : tyBytes Try.prog 58 = some 368 := by kernel_rfl
@[go_sem] theorem tab.ze58 : tyZero Try.prog 58 = some (Go.Value.agg #[(Go.Value.slice none 0 0), (Go.Value.int Go.IntKind.i64 0), (Go.Value.int Go.IntKind.i64 0), (Go.Value.slice none 0 0), (Go.Value.slice none 0 0), (Go.Value.slice none 0 0), (Go.Value.int Go.IntKind.i64 0), (Go.Value.int Go.IntKind.i64 0), (Go.Value.int Go.IntKind.i64 0), (Go.Value.slice none 0 0), (Go.Value.bool false), (Go.Value.int Go.IntKind.i64 0), (Go.Value.int Go.IntKind.i64 0), (Go.Value.int Go.IntKind.i64 0), (Go.Value.int Go.IntKind.i64 0), (Go.Value.int Go.IntKind.i64 0), (Go.Value.int Go.IntKind.i64 0), (Go.Value.int Go.IntKind.i64 0), (Go.Value.bool false), (Go.Value.int Go.IntKind.i64 0), (Go.Value.int Go.IntKind.i64 0), (Go.Value.int Go.IntKind.i64 0), (Go.Value.int Go.IntKind.i64 0), (Go.Value.bool false), (Go.Value.slice none 0 0), (Go.Value.bool false), (Go.Value.int Go.IntKind.i64 0), (Go.Value.int Go.IntKind.i64 0), (Go.Value.slice none 0 0), (Go.Value.string { data := #[] }), (Go.Value.int Go.IntKind.i64 0)]) := by kernel_rfl
@[go_sem] theorem tab.un58 : Program.underlying Try.prog 58 = some (Go.TypeDesc.struct #[{ name := "words", type := 28, offset := 0, embedded := false, tag := "", pkgPath := "tachograph/command", byteOffset := 0 }, { name := "e", type := 23, offset := 1, embedded := false, tag := "", pkgPath := "tachograph/command", byteOffset := 24 }, { name := "c", type := 35, offset := 2, embedded := false, tag := "", pkgPath := "tachograph/command", byteOffset := 32 }]) := by kernel_rfl
@[go_sem] theorem tab.ag58 : tyAgg Try.prog 58 = some true := by kernel_rfl
@[go_sem] theorem tab.fi58_0 : tyField Try.prog 58 0 = some (28, 0) := by kernel_rfl
@[go_sem] theorem tab.fi58_1 : tyField Try.prog 58 1 = some (23, 1) := by kernel_rfl
@[go_sem] theorem tab.fi58_2 : tyField Try.prog 58 2 = some (35, 2) := by kernel_rfl
@[go_sem] theorem tab.sz59 : tySize Try.prog 59 = some 31 := by kernel_rfl
@[go_sem] theorem tab.by59 : tyBytes Try.prog 59 = some 368 := by kernel_rfl
@[go_sem] theorem tab.ze59 : tyZero Try.prog 59 = some (Go.Value.agg #[(Go.Value.slice none 0 0), (Go.Value.int Go.IntKind.i64 0), (Go.Value.int Go.IntKind.i64 0), (Go.Value.slice none 0 0), (Go.Value.slice none 0 0), (Go.Value.slice none 0 0), (Go.Value.int Go.IntKind.i64 0), (Go.Value.int Go.IntKind.i64 0), (Go.Value.int Go.IntKind.i64 0), (Go.Value.slice none 0 0), (Go.Value.bool false), (Go.Value.int Go.IntKind.i64 0), (Go.Value.int Go.IntKind.i64 0), (Go.Value.int Go.IntKind.i64 0), (Go.Value.int Go.IntKind.i64 0), (Go.Value.int Go.IntKind.i64 0), (Go.Value.int Go.IntKind.i64 0), (Go.Value.int Go.IntKind.i64 0), (Go.Value.bool false), (Go.Value.int Go.IntKind.i64 0), (Go.Value.int Go.IntKind.i64 0), (Go.Value.int Go.IntKind.i64 0), (Go.Value.int Go.IntKind.i64 0), (Go.Value.bool false), (Go.Value.slice none 0 0), (Go.Value.bool false), (Go.Value.int Go.IntKind.i64 0), (Go.Value.int Go.IntKind.i64 0), (Go.Value.slice none 0 0), (Go.Value.string { data := #[] }), (Go.Value.int Go.IntKind.i64 0)]) := by kernel_rfl
@[go_sem] theorem tab.un59 : Program.underlying Try.prog 59 = some (Go.TypeDesc.struct #[{ name := "words", type := 28, offset := 0, embedded := false, tag := "", pkgPath := "tachograph/command", byteOffset := 0 }, { name := "e", type := 23, offset := 1, embedded := false, tag := "", pkgPath := "tachograph/command", byteOffset := 24 }, { name := "c", type := 35, offset := 2, embedded := false, tag := "", pkgPath := "tachograph/command", byteOffset := 32 }]) := by kernel_rfl
@[go_sem] theorem tab.ag59 : tyAgg Try.prog 59 = some true := by kernel_rfl
@[go_sem] theorem tab.fi59_0 : tyField Try.prog 59 0 = some (28, 0) := by kernel_rfl
@[go_sem] theorem tab.fi59_1 : tyField Try.prog 59 1 = some (23, 1) := by kernel_rfl
@[go_sem] theorem tab.fi59_2 : tyField Try.prog 59 2 = some (35, 2) := by kernel_rfl
@[go_sem] theorem tab.sz61 : tySize Try.prog 61 = some 1 := by kernel_rfl
@[go_sem] theorem tab.by61 : tyBytes Try.prog 61 = some 8 := by kernel_rfl
@[go_sem] theorem tab.ze61 : tyZero Try.prog 61 = some (Go.Value.map none) := by kernel_rfl
@[go_sem] theorem tab.mk61 : mapKind Try.prog 61 = some (3, (Go.TypeDesc.int Go.IntKind.i64), 9) := by kernel_rfl
@[go_sem] theorem tab.un61 : Program.underlying Try.prog 61 = some (Go.TypeDesc.map 3 9) := by kernel_rfl
@[go_sem] theorem tab.ag61 : tyAgg Try.prog 61 = some false := by kernel_rfl
@[go_sem] theorem tab.sz65 : tySize Try.prog 65 = some 1 := by kernel_rfl
@[go_sem] theorem tab.by65 : tyBytes Try.prog 65 = some 8 := by kernel_rfl
@[go_sem] theorem tab.ze65 : tyZero Try.prog 65 = some (Go.Value.map none) := by kernel_rfl
@[go_sem] theorem tab.mk65 : mapKind Try.prog 65 = some (3, (Go.TypeDesc.int Go.IntKind.i64), 63) := by kernel_rfl
@[go_sem] theorem tab.un65 : Program.underlying Try.prog 65 = some (Go.TypeDesc.map 3 63) := by kernel_rfl
@[go_sem] theorem tab.ag65 : tyAgg Try.prog 65 = some false := by kernel_rfl
@[go_sem] theorem tab.sz69 : tySize Try.prog 69 = some 1 := by kernel_rfl
@[go_sem] theorem tab.by69 : tyBytes Try.prog 69 = some 24 := by kernel_rfl
@[go_sem] theorem tab.ze69 : tyZero Try.prog 69 = some (Go.Value.slice none 0 0) := by kernel_rfl
@[go_sem] theorem tab.un69 : Program.underlying Try.prog 69 = some (Go.TypeDesc.slice 9) := by kernel_rfl
@[go_sem] theorem tab.ag69 : tyAgg Try.prog 69 = some false := by kernel_rfl
@[go_sem] theorem tab.sz73 : tySize Try.prog 73 = some 10 := by kernel_rfl
@[go_sem] theorem tab.by73 : tyBytes Try.prog 73 = some 80 := by kernel_rfl
@[go_sem] theorem tab.ze73 : tyZero Try.prog 73 = some (Go.Value.agg #[(Go.Value.int Go.IntKind.i64 0), (Go.Value.int Go.IntKind.i64 0), (Go.Value.int Go.IntKind.i64 0), (Go.Value.int Go.IntKind.i64 0), (Go.Value.int Go.IntKind.i64 0), (Go.Value.int Go.IntKind.i64 0), (Go.Value.int Go.IntKind.i64 0), (Go.Value.int Go.IntKind.i64 0), (Go.Value.int Go.IntKind.i64 0), (Go.Value.int Go.IntKind.i64 0)]) := by kernel_rfl
@[go_sem] theorem tab.un73 : Program.underlying Try.prog 73 = some (Go.TypeDesc.struct #[{ name := "name", type := 3, offset := 0, embedded := false, tag := "", pkgPath := "tachograph/command", byteOffset := 0 }, { name := "retention", type := 3, offset := 1, embedded := false, tag := "", pkgPath := "tachograph/command", byteOffset := 8 }, { name := "size", type := 3, offset := 2, embedded := false, tag := "", pkgPath := "tachograph/command", byteOffset := 16 }, { name := "policy", type := 3, offset := 3, embedded := false, tag := "", pkgPath := "tachograph/command", byteOffset := 24 }, { name := "from", type := 3, offset := 4, embedded := false, tag := "", pkgPath := "tachograph/command", byteOffset := 32 }, { name := "to", type := 3, offset := 5, embedded := false, tag := "", pkgPath := "tachograph/command", byteOffset := 40 }, { name := "kind", type := 3, offset := 6, embedded := false, tag := "", pkgPath := "tachograph/command", byteOffset := 48 }, { name := "bucket", type := 3, offset := 7, embedded := false, tag := "", pkgPath := "tachograph/command", byteOffset := 56 }, { name := "align", type := 3, offset := 8, embedded := false, tag := "", pkgPath := "tachograph/command", byteOffset := 64 }, { name := "reduce", type := 3, offset := 9, embedded := false, tag := "", pkgPath := "tachograph/command", byteOffset := 72 }]) := by kernel_rfl
@[go_sem] theorem tab.ag73 : tyAgg Try.prog 73 = some true := by kernel_rfl
@[go_sem] theorem tab.eq73 : eqPlan Try.prog 73 = some [(0, 0), (0, 1), (0, 2), (0, 3), (0, 4), (0, 5), (0, 6), (0, 7), (0, 8), (0, 9)] := by kernel_rfl
@[go_sem] theorem tab.fi73_0 : tyField Try.prog 73 0 = some (3, 0) := by kernel_rfl
@[go_sem] theorem tab.fi73_1 : tyField Try.prog 73 1 = some (3, 1) := by kernel_rfl
@[go_sem] theorem tab.fi73_2 : tyField Try.prog 73 2 = some (3, 2) := by kernel_rfl
@[go_sem] theorem tab.fi73_3 : tyField Try.prog 73 3 = some (3, 3) := by kernel_rfl
@[go_sem] theorem tab.fi73_4 : tyField Try.prog 73 4 = some (3, 4) := by kernel_rfl
@[go_sem] theorem tab.fi73_5 : tyField Try.prog 73 5 = some (3, 5) := by kernel_rfl
@[go_sem] theorem tab.fi73_6 : tyField Try.prog 73 6 = some (3, 6) := by kernel_rfl
@[go_sem] theorem tab.fi73_7 : tyField Try.prog 73 7 = some (3, 7) := by kernel_rfl
@[go_sem] theorem tab.fi73_8 : tyField Try.prog 73 8 = some (3, 8) := by kernel_rfl
@[go_sem] theorem tab.fi73_9 : tyField Try.prog 73 9 = some (3, 9) := by kernel_rfl
@[go_sem] theorem tab.sz74 : tySize Try.prog 74 = some 10 := by kernel_rfl
@[go_sem] theorem tab.by74 : tyBytes Try.prog 74 = some 80 := by kernel_rfl
@[go_sem] theorem tab.ze74 : tyZero Try.prog 74 = some (Go.Value.agg #[(Go.Value.int Go.IntKind.i64 0), (Go.Value.int Go.IntKind.i64 0), (Go.Value.int Go.IntKind.i64 0), (Go.Value.int Go.IntKind.i64 0), (Go.Value.int Go.IntKind.i64 0), (Go.Value.int Go.IntKind.i64 0), (Go.Value.int Go.IntKind.i64 0), (Go.Value.int Go.IntKind.i64 0), (Go.Value.int Go.IntKind.i64 0), (Go.Value.int Go.IntKind.i64 0)]) := by kernel_rfl
@[go_sem] theorem tab.un74 : Program.underlying Try.prog 74 = some (Go.TypeDesc.struct #[{ name := "name", type := 3, offset := 0, embedded := false, tag := "", pkgPath := "tachograph/command", byteOffset := 0 }, { name := "retention", type := 3, offset := 1, embedded := false, tag := "", pkgPath := "tachograph/command", byteOffset := 8 }, { name := "size", type := 3, offset := 2, embedded := false, tag := "", pkgPath := "tachograph/command", byteOffset := 16 }, { name := "policy", type := 3, offset := 3, embedded := false, tag := "", pkgPath := "tachograph/command", byteOffset := 24 }, { name := "from", type := 3, offset := 4, embedded := false, tag := "", pkgPath := "tachograph/command", byteOffset := 32 }, { name := "to", type := 3, offset := 5, embedded := false, tag := "", pkgPath := "tachograph/command", byteOffset := 40 }, { name := "kind", type := 3, offset := 6, embedded := false, tag := "", pkgPath := "tachograph/command", byteOffset := 48 }, { name := "bucket", type := 3, offset := 7, embedded := false, tag := "", pkgPath := "tachograph/command", byteOffset := 56 }, { name := "align", type := 3, offset := 8, embedded := false, tag := "", pkgPath := "tachograph/command", byteOffset := 64 }, { name := "reduce", type := 3, offset := 9, embedded := false, tag := "", pkgPath := "tachograph/command", byteOffset := 72 }]) := by kernel_rfl
@[go_sem] theorem tab.ag74 : tyAgg Try.prog 74 = some true := by kernel_rfl
@[go_sem] theorem tab.eq74 : eqPlan Try.prog 74 = some [(0, 0), (0, 1), (0, 2), (0, 3), (0, 4), (0, 5), (0, 6), (0, 7), (0, 8), (0, 9)] := by kernel_rfl
@[go_sem] theorem tab.fi74_0 : tyField Try.prog 74 0 = some (3, 0) := by kernel_rfl
@[go_sem] theorem tab.fi74_1 : tyField Try.prog 74 1 = some (3, 1) := by kernel_rfl
@[go_sem] theorem tab.fi74_2 : tyField Try.prog 74 2 = some (3, 2) := by kernel_rfl
@[go_sem] theorem tab.fi74_3 : tyField Try.prog 74 3 = some (3, 3) := by kernel_rfl
@[go_sem] theorem tab.fi74_4 : tyField Try.prog 74 4 = some (3, 4) := by kernel_rfl
@[go_sem] theorem tab.fi74_5 : tyField Try.prog 74 5 = some (3, 5) := by kernel_rfl
@[go_sem] theorem tab.fi74_6 : tyField Try.prog 74 6 = some (3, 6) := by kernel_rfl
@[go_sem] theorem tab.fi74_7 : tyField Try.prog 74 7 = some (3, 7) := by kernel_rfl
@[go_sem] theorem tab.fi74_8 : tyField Try.prog 74 8 = some (3, 8) := by kernel_rfl
@[go_sem] theorem tab.fi74_9 : tyField Try.prog 74 9 = some (3, 9) := by kernel_rfl
@[go_sem] theorem tab.sz76 : tySize Try.prog 76 = some 13 := by kernel_rfl
@[go_sem] theorem tab.by76 : tyBytes Try.prog 76 = some 88 := by kernel_rfl
@[go_sem] theorem tab.ze76 : tyZero Try.prog 76 = some (Go.Value.agg #[(Go.Value.int Go.IntKind.i64 0), (Go.Value.int Go.IntKind.i64 0), (Go.Value.int Go.IntKind.i64 0), (Go.Value.int Go.IntKind.i64 0), (Go.Value.int Go.IntKind.i64 0), (Go.Value.int Go.IntKind.i64 0), (Go.Value.int Go.IntKind.i64 0), (Go.Value.int Go.IntKind.i64 0), (Go.Value.bool false), (Go.Value.bool false), (Go.Value.bool false), (Go.Value.bool false), (Go.Value.string { data := #[] })]) := by kernel_rfl
@[go_sem] theorem tab.ag76 : tyAgg Try.prog 76 = some true := by kernel_rfl
@[go_sem] theorem tab.eq76 : eqPlan Try.prog 76 = some [(0, 0), (0, 1), (0, 2), (0, 3), (0, 4), (0, 5), (0, 6), (0, 7), (2, 8), (2, 9), (2, 10), (2, 11), (1, 12)] := by kernel_rfl
@[go_sem] theorem tab.fi76_0 : tyField Try.prog 76 0 = some (3, 0) := by kernel_rfl
@[go_sem] theorem tab.fi76_1 : tyField Try.prog 76 1 = some (3, 1) := by kernel_rfl
@[go_sem] theorem tab.fi76_2 : tyField Try.prog 76 2 = some (3, 2) := by kernel_rfl
@[go_sem] theorem tab.fi76_3 : tyField Try.prog 76 3 = some (3, 3) := by kernel_rfl
@[go_sem] theorem tab.fi76_4 : tyField Try.prog 76 4 = some (3, 4) := by kernel_rfl
@[go_sem] theorem tab.fi76_5 : tyField Try.prog 76 5 = some (3, 5) := by kernel_rfl
@[go_sem] theorem tab.fi76_6 : tyField Try.prog 76 6 = some (3, 6) := by kernel_rfl
@[go_sem] theorem tab.fi76_7 : tyField Try.prog 76 7 = some (3, 7) := by kernel_rfl
@[go_sem] theorem tab.fi76_8 : tyField Try.prog 76 8 = some (4, 8) := by kernel_rfl
@[go_sem] theorem tab.fi76_9 : tyField Try.prog 76 9 = some (4, 9) := by kernel_rfl
@[go_sem] theorem tab.fi76_10 : tyField Try.prog 76 10 = some (4, 10) := by kernel_rfl
@[go_sem] theorem tab.fi76_11 : tyField Try.prog 76 11 = some (4, 11) := by kernel_rfl
@[go_sem] theorem tab.fi76_12 : tyField Try.prog 76 12 = some (9, 12) := by kernel_rfl
@[go_sem] theorem tab.sz77 : tySize Try.prog 77 = some 13 := by kernel_rfl
@[go_sem] theorem tab.by77 : tyBytes Try.prog 77 = some 88 := by kernel_rfl
@[go_sem] theorem tab.ze77 : tyZero Try.prog 77 = some (Go.Value.agg #[(Go.Value.int Go.IntKind.i64 0), (Go.Value.int Go.IntKind.i64 0), (Go.Value.int Go.IntKind.i64 0), (Go.Value.int Go.IntKind.i64 0), (Go.Value.int Go.IntKind.i64 0), (Go.Value.int Go.IntKind.i64 0), (Go.Value.int Go.IntKind.i64 0), (Go.Value.int Go.IntKind.i64 0), (Go.Value.bool false), (Go.Value.bool false), (Go.Value.bool false), (Go.Value.bool false), (Go.Value.string { data := #[] })]) := by kernel_rfl
@[go_sem] theorem tab.ag77 : tyAgg Try.prog 77 = some true := by kernel_rfl
@[go_sem] theorem tab.eq77 : eqPlan Try.prog 77 = some [(0, 0), (0, 1), (0, 2), (0, 3), (0, 4), (0, 5), (0, 6), (0, 7), (2, 8), (2, 9), (2, 10), (2, 11), (1, 12)] := by kernel_rfl
@[go_sem] theorem tab.fi77_0 : tyField Try.prog 77 0 = some (3, 0) := by kernel_rfl
@[go_sem] theorem tab.fi77_1 : tyField Try.prog 77 1 = some (3, 1) := by kernel_rfl
@[go_sem] theorem tab.fi77_2 : tyField Try.prog 77 2 = some (3, 2) := by kernel_rfl
@[go_sem] theorem tab.fi77_3 : tyField Try.prog 77 3 = some (3, 3) := by kernel_rfl
@[go_sem] theorem tab.fi77_4 : tyField Try.prog 77 4 = some (3, 4) := by kernel_rfl
@[go_sem] theorem tab.fi77_5 : tyField Try.prog 77 5 = some (3, 5) := by kernel_rfl
@[go_sem] theorem tab.fi77_6 : tyField Try.prog 77 6 = some (3, 6) := by kernel_rfl
@[go_sem] theorem tab.fi77_7 : tyField Try.prog 77 7 = some (3, 7) := by kernel_rfl
@[go_sem] theorem tab.fi77_8 : tyField Try.prog 77 8 = some (4, 8) := by kernel_rfl
@[go_sem] theorem tab.fi77_9 : tyField Try.prog 77 9 = some (4, 9) := by kernel_rfl
@[go_sem] theorem tab.fi77_10 : tyField Try.prog 77 10 = some (4, 10) := by kernel_rfl
@[go_sem] theorem tab.fi77_11 : tyField Try.prog 77 11 = some (4, 11) := by kernel_rfl
@[go_sem] theorem tab.fi77_12 : tyField Try.prog 77 12 = some (9, 12) := by kernel_rfl
@[go_sem] theorem tab.sz80 : tySize Try.prog 80 = some 2 := by kernel_rfl
@[go_sem] theorem tab.by80 : tyBytes Try.prog 80 = some 32 := by kernel_rfl
@[go_sem] theorem tab.ze80 : tyZero Try.prog 80 = some (Go.Value.agg #[(Go.Value.string { data := #[] }), (Go.Value.string { data := #[] })]) := by kernel_rfl
@[go_sem] theorem tab.un80 : Program.underlying Try.prog 80 = some (Go.TypeDesc.struct #[{ name := "Name", type := 9, offset := 0, embedded := false, tag := "", pkgPath := "", byteOffset := 0 }, { name := "Value", type := 9, offset := 1, embedded := false, tag := "", pkgPath := "", byteOffset := 16 }]) := by kernel_rfl
@[go_sem] theorem tab.ag80 : tyAgg Try.prog 80 = some true := by kernel_rfl
@[go_sem] theorem tab.eq80 : eqPlan Try.prog 80 = some [(1, 0), (1, 1)] := by kernel_rfl
@[go_sem] theorem tab.fi80_0 : tyField Try.prog 80 0 = some (9, 0) := by kernel_rfl
@[go_sem] theorem tab.fi80_1 : tyField Try.prog 80 1 = some (9, 1) := by kernel_rfl
@[go_sem] theorem tab.sz81 : tySize Try.prog 81 = some 2 := by kernel_rfl
@[go_sem] theorem tab.by81 : tyBytes Try.prog 81 = some 32 := by kernel_rfl
@[go_sem] theorem tab.ze81 : tyZero Try.prog 81 = some (Go.Value.agg #[(Go.Value.string { data := #[] }), (Go.Value.string { data := #[] })]) := by kernel_rfl
@[go_sem] theorem tab.un81 : Program.underlying Try.prog 81 = some (Go.TypeDesc.struct #[{ name := "Name", type := 9, offset := 0, embedded := false, tag := "", pkgPath := "", byteOffset := 0 }, { name := "Value", type := 9, offset := 1, embedded := false, tag := "", pkgPath := "", byteOffset := 16 }]) := by kernel_rfl
@[go_sem] theorem tab.ag81 : tyAgg Try.prog 81 = some true := by kernel_rfl
@[go_sem] theorem tab.eq81 : eqPlan Try.prog 81 = some [(1, 0), (1, 1)] := by kernel_rfl
@[go_sem] theorem tab.fi81_0 : tyField Try.prog 81 0 = some (9, 0) := by kernel_rfl
@[go_sem] theorem tab.fi81_1 : tyField Try.prog 81 1 = some (9, 1) := by kernel_rfl
@[go_sem] theorem tab.sz85 : tySize Try.prog 85 = some 1 := by kernel_rfl
@[go_sem] theorem tab.by85 : tyBytes Try.prog 85 = some 8 := by kernel_rfl
@[go_sem] theorem tab.ze85 : tyZero Try.prog 85 = some (Go.Value.pointer none) := by kernel_rfl
@[go_sem] theorem tab.un85 : Program.underlying Try.prog 85 = some (Go.TypeDesc.pointer 69) := by kernel_rfl
@[go_sem] theorem tab.ag85 : tyAgg Try.prog 85 = some false := by kernel_rfl
@[go_sem] theorem tab.sz87 : tySize Try.prog 87 = some 7 := by kernel_rfl
@[go_sem] theorem tab.by87 : tyBytes Try.prog 87 = some 112 := by kernel_rfl
@[go_sem] theorem tab.ze87 : tyZero Try.prog 87 = some (Go.Value.agg #[(Go.Value.string { data := #[] }), (Go.Value.string { data := #[] }), (Go.Value.string { data := #[] }), (Go.Value.string { data := #[] }), (Go.Value.string { data := #[] }), (Go.Value.string { data := #[] }), (Go.Value.string { data := #[] })]) := by kernel_rfl
@[go_sem] theorem tab.un87 : Program.underlying Try.prog 87 = some (Go.TypeDesc.array 7 9) := by kernel_rfl
@[go_sem] theorem tab.ag87 : tyAgg Try.prog 87 = some true := by kernel_rfl
@[go_sem] theorem tab.sz89 : tySize Try.prog 89 = some 8 := by kernel_rfl
@[go_sem] theorem tab.by89 : tyBytes Try.prog 89 = some 128 := by kernel_rfl
@[go_sem] theorem tab.ze89 : tyZero Try.prog 89 = some (Go.Value.agg #[(Go.Value.string { data := #[] }), (Go.Value.string { data := #[] }), (Go.Value.string { data := #[] }), (Go.Value.string { data := #[] }), (Go.Value.string { data := #[] }), (Go.Value.string { data := #[] }), (Go.Value.string { data := #[] }), (Go.Value.string { data := #[] })]) := by kernel_rfl
@[go_sem] theorem tab.un89 : Program.underlying Try.prog 89 = some (Go.TypeDesc.array 8 9) := by kernel_rfl
@[go_sem] theorem tab.ag89 : tyAgg Try.prog 89 = some true := by kernel_rfl
@[go_sem] theorem tab.sz98 : tySize Try.prog 98 = some 1 := by kernel_rfl
@[go_sem] theorem tab.by98 : tyBytes Try.prog 98 = some 8 := by kernel_rfl
@[go_sem] theorem tab.ze98 : tyZero Try.prog 98 = some (Go.Value.pointer none) := by kernel_rfl
@[go_sem] theorem tab.un98 : Program.underlying Try.prog 98 = some (Go.TypeDesc.pointer 33) := by kernel_rfl
@[go_sem] theorem tab.ag98 : tyAgg Try.prog 98 = some false := by kernel_rfl
@[go_sem] theorem tab.sz99 : tySize Try.prog 99 = some 4 := by kernel_rfl
@[go_sem] theorem tab.by99 : tyBytes Try.prog 99 = some 40 := by kernel_rfl
@[go_sem] theorem tab.ze99 : tyZero Try.prog 99 = some (Go.Value.agg #[(Go.Value.pointer none), (Go.Value.pointer none), (Go.Value.pointer none), (Go.Value.string { data := #[] })]) := by kernel_rfl
@[go_sem] theorem tab.un99 : Program.underlying Try.prog 99 = some (Go.TypeDesc.struct #[{ name := "_interface", type := 17, offset := 0, embedded := false, tag := "", pkgPath := "runtime", byteOffset := 0 }, { name := "concrete", type := 17, offset := 1, embedded := false, tag := "", pkgPath := "runtime", byteOffset := 8 }, { name := "asserted", type := 17, offset := 2, embedded := false, tag := "", pkgPath := "runtime", byteOffset := 16 }, { name := "missingMethod", type := 9, offset := 3, embedded := false, tag := "", pkgPath := "runtime", byteOffset := 24 }]) := by kernel_rfl
@[go_sem] theorem tab.ag99 : tyAgg Try.prog 99 = some true := by kernel_rfl
@[go_sem] theorem tab.fi99_0 : tyField Try.prog 99 0 = some (17, 0) := by kernel_rfl
@[go_sem] theorem tab.fi99_1 : tyField Try.prog 99 1 = some (17, 1) := by kernel_rfl
@[go_sem] theorem tab.fi99_2 : tyField Try.prog 99 2 = some (17, 2) := by kernel_rfl
@[go_sem] theorem tab.fi99_3 : tyField Try.prog 99 3 = some (9, 3) := by kernel_rfl
@[go_sem] theorem tab.sz100 : tySize Try.prog 100 = some 4 := by kernel_rfl
@[go_sem] theorem tab.by100 : tyBytes Try.prog 100 = some 40 := by kernel_rfl
@[go_sem] theorem tab.ze100 : tyZero Try.prog 100 = some (Go.Value.agg #[(Go.Value.pointer none), (Go.Value.pointer none), (Go.Value.pointer none), (Go.Value.string { data := #[] })]) := by kernel_rfl
@[go_sem] theorem tab.un100 : Program.underlying Try.prog 100 = some (Go.TypeDesc.struct #[{ name := "_interface", type := 17, offset := 0, embedded := false, tag := "", pkgPath := "runtime", byteOffset := 0 }, { name := "concrete", type := 17, offset := 1, embedded := false, tag := "", pkgPath := "runtime", byteOffset := 8 }, { name := "asserted", type := 17, offset := 2, embedded := false, tag := "", pkgPath := "runtime", byteOffset := 16 }, { name := "missingMethod", type := 9, offset := 3, embedded := false, tag := "", pkgPath := "runtime", byteOffset := 24 }]) := by kernel_rfl
@[go_sem] theorem tab.ag100 : tyAgg Try.prog 100 = some true := by kernel_rfl
@[go_sem] theorem tab.fi100_0 : tyField Try.prog 100 0 = some (17, 0) := by kernel_rfl
@[go_sem] theorem tab.fi100_1 : tyField Try.prog 100 1 = some (17, 1) := by kernel_rfl
@[go_sem] theorem tab.fi100_2 : tyField Try.prog 100 2 = some (17, 2) := by kernel_rfl
@[go_sem] theorem tab.fi100_3 : tyField Try.prog 100 3 = some (9, 3) := by kernel_rfl
@[go_sem] theorem tab.sz101 : tySize Try.prog 101 = some 0 := by kernel_rfl
@[go_sem] theorem tab.by101 : tyBytes Try.prog 101 = some 0 := by kernel_rfl
@[go_sem] theorem tab.ze101 : tyZero Try.prog 101 = some (Go.Value.agg #[]) := by kernel_rfl
@[go_sem] theorem tab.un101 : Program.underlying Try.prog 101 = some (Go.TypeDesc.array 0 16) := by kernel_rfl
@[go_sem] theorem tab.ag101 : tyAgg Try.prog 101 = some true := by kernel_rfl
@[go_sem] theorem tab.sz102 : tySize Try.prog 102 = some 0 := by kernel_rfl
@[go_sem] theorem tab.by102 : tyBytes Try.prog 102 = some 0 := by kernel_rfl
@[go_sem] theorem tab.ze102 : tyZero Try.prog 102 = some (Go.Value.agg #[]) := by kernel_rfl
@[go_sem] theorem tab.un102 : Program.underlying Try.prog 102 = some (Go.TypeDesc.struct #[{ name := "_", type := 101, offset := 0, embedded := false, tag := "", pkgPath := "runtime", byteOffset := 0 }]) := by kernel_rfl
@[go_sem] theorem tab.ag102 : tyAgg Try.prog 102 = some true := by kernel_rfl
@[go_sem] theorem tab.sz103 : tySize Try.prog 103 = some 0 := by kernel_rfl
@[go_sem] theorem tab.by103 : tyBytes Try.prog 103 = some 0 := by kernel_rfl
@[go_sem] theorem tab.ze103 : tyZero Try.prog 103 = some (Go.Value.agg #[]) := by kernel_rfl
@[go_sem] theorem tab.un103 : Program.underlying Try.prog 103 = some (Go.TypeDesc.struct #[{ name := "_", type := 101, offset := 0, embedded := false, tag := "", pkgPath := "runtime", byteOffset := 0 }]) := by kernel_rfl
@[go_sem] theorem tab.ag103 : tyAgg Try.prog 103 = some true := by kernel_rfl
@[go_sem] theorem tab.sz104 : tySize Try.prog 104 = some 1 := by kernel_rfl
@[go_sem] theorem tab.by104 : tyBytes Try.prog 104 = some 1 := by kernel_rfl
@[go_sem] theorem tab.ze104 : tyZero Try.prog 104 = some (Go.Value.int Go.IntKind.u8 0) := by kernel_rfl
@[go_sem] theorem tab.un104 : Program.underlying Try.prog 104 = some (Go.TypeDesc.int Go.IntKind.u8) := by kernel_rfl
@[go_sem] theorem tab.ag104 : tyAgg Try.prog 104 = some false := by kernel_rfl
@[go_sem] theorem tab.sz105 : tySize Try.prog 105 = some 1 := by kernel_rfl
@[go_sem] theorem tab.by105 : tyBytes Try.prog 105 = some 1 := by kernel_rfl
@[go_sem] theorem tab.ze105 : tyZero Try.prog 105 = some (Go.Value.int Go.IntKind.u8 0) := by kernel_rfl
@[go_sem] theorem tab.un105 : Program.underlying Try.prog 105 = some (Go.TypeDesc.int Go.IntKind.u8) := by kernel_rfl
@[go_sem] theorem tab.ag105 : tyAgg Try.prog 105 = some false := by kernel_rfl
@[go_sem] theorem tab.sz107 : tySize Try.prog 107 = some 1 := by kernel_rfl
@[go_sem] theorem tab.by107 : tyBytes Try.prog 107 = some 8 := by kernel_rfl
@[go_sem] theorem tab.ze107 : tyZero Try.prog 107 = some (Go.Value.pointer none) := by kernel_rfl
@[go_sem] theorem tab.un107 : Program.underlying Try.prog 107 = some (Go.TypeDesc.pointer 5) := by kernel_rfl
@[go_sem] theorem tab.ag107 : tyAgg Try.prog 107 = some false := by kernel_rfl
@[go_sem] theorem tab.sz108 : tySize Try.prog 108 = some 1 := by kernel_rfl
@[go_sem] theorem tab.by108 : tyBytes Try.prog 108 = some 4 := by kernel_rfl
@[go_sem] theorem tab.ze108 : tyZero Try.prog 108 = some (Go.Value.int Go.IntKind.i32 0) := by kernel_rfl
@[go_sem] theorem tab.un108 : Program.underlying Try.prog 108 = some (Go.TypeDesc.int Go.IntKind.i32) := by kernel_rfl
@[go_sem] theorem tab.ag108 : tyAgg Try.prog 108 = some false := by kernel_rfl
@[go_sem] theorem tab.sz109 : tySize Try.prog 109 = some 1 := by kernel_rfl
@[go_sem] theorem tab.by109 : tyBytes Try.prog 109 = some 4 := by kernel_rfl
@[go_sem] theorem tab.ze109 : tyZero Try.prog 109 = some (Go.Value.int Go.IntKind.i32 0) := by kernel_rfl
@[go_sem] theorem tab.un109 : Program.underlying Try.prog 109 = some (Go.TypeDesc.int Go.IntKind.i32) := by kernel_rfl
@[go_sem] theorem tab.ag109 : tyAgg Try.prog 109 = some false := by kernel_rfl
@[go_sem] theorem tab.sz110 : tySize Try.prog 110 = some 11 := by kernel_rfl
@[go_sem] theorem tab.by110 : tyBytes Try.prog 110 = some 48 := by kernel_rfl
@[go_sem] theorem tab.ze110 : tyZero Try.prog 110 = some (Go.Value.agg #[(Go.Value.int Go.IntKind.u64 0), (Go.Value.int Go.IntKind.u64 0), (Go.Value.int Go.IntKind.u32 0), (Go.Value.int Go.IntKind.u8 0), (Go.Value.int Go.IntKind.u8 0), (Go.Value.int Go.IntKind.u8 0), (Go.Value.int Go.IntKind.u8 0), Go.Value.nilFunc, (Go.Value.pointer none), (Go.Value.int Go.IntKind.i32 0), (Go.Value.int Go.IntKind.i32 0)]) := by kernel_rfl
@[go_sem] theorem tab.un110 : Program.underlying Try.prog 110 = some (Go.TypeDesc.struct #[{ name := "Size_", type := 12, offset := 0, embedded := false, tag := "", pkgPath := "", byteOffset := 0 }, { name := "PtrBytes", type := 12, offset := 1, embedded := false, tag := "", pkgPath := "", byteOffset := 8 }, { name := "Hash", type := 51, offset := 2, embedded := false, tag := "", pkgPath := "", byteOffset := 16 }, { name := "TFlag", type := 104, offset := 3, embedded := false, tag := "", pkgPath := "", byteOffset := 20 }, { name := "Align_", type := 5, offset := 4, embedded := false, tag := "", pkgPath := "", byteOffset := 21 }, { name := "FieldAlign_", type := 5, offset := 5, embedded := false, tag := "", pkgPath := "", byteOffset := 22 }, { name := "Kind_", type := 105, offset := 6, embedded := false, tag := "", pkgPath := "", byteOffset := 23 }, { name := "Equal", type := 106, offset := 7, embedded := false, tag := "", pkgPath := "", byteOffset := 24 }, { name := "GCData", type := 107, offset := 8, embedded := false, tag := "", pkgPath := "", byteOffset := 32 }, { name := "Str", type := 108, offset := 9, embedded := false, tag := "", pkgPath := "", byteOffset := 40 }, { name := "PtrToThis", type := 109, offset := 10, embedded := false, tag := "", pkgPath := "", byteOffset := 44 }]) := by kernel_rfl
@[go_sem] theorem tab.ag110 : tyAgg Try.prog 110 = some true := by kernel_rfl
@[go_sem] theorem tab.fi110_0 : tyField Try.prog 110 0 = some (12, 0) := by kernel_rfl
@[go_sem] theorem tab.fi110_1 : tyField Try.prog 110 1 = some (12, 1) := by kernel_rfl
@[go_sem] theorem tab.fi110_2 : tyField Try.prog 110 2 = some (51, 2) := by kernel_rfl
@[go_sem] theorem tab.fi110_3 : tyField Try.prog 110 3 = some (104, 3) := by kernel_rfl
@[go_sem] theorem tab.fi110_4 : tyField Try.prog 110 4 = some (5, 4) := by kernel_rfl
@[go_sem] theorem tab.fi110_5 : tyField Try.prog 110 5 = some (5, 5) := by kernel_rfl
@[go_sem] theorem tab.fi110_6 : tyField Try.prog 110 6 = some (105, 6) := by kernel_rfl
@[go_sem] theorem tab.fi110_7 : tyField Try.prog 110 7 = some (106, 7) := by kernel_rfl
@[go_sem] theorem tab.fi110_8 : tyField Try.prog 110 8 = some (107, 8) := by kernel_rfl
@[go_sem] theorem tab.fi110_9 : tyField Try.prog 110 9 = some (108, 9) := by kernel_rfl
@[go_sem] theorem tab.fi110_10 : tyField Try.prog 110 10 = some (109, 10) := by kernel_rfl
@[go_sem] theorem tab.sz111 : tySize Try.prog 111 = some 11 := by kernel_rfl
@[go_sem] theorem tab.by111 : tyBytes Try.prog 111 = some 48 := by kernel_rfl
@[go_sem] theorem tab.ze111 : tyZero Try.prog 111 = some (Go.Value.agg #[(Go.Value.int Go.IntKind.u64 0), (Go.Value.int Go.IntKind.u64 0), (Go.Value.int Go.IntKind.u32 0), (Go.Value.int Go.IntKind.u8 0), (Go.Value.int Go.IntKind.u8 0), (Go.Value.int Go.IntKind.u8 0), (Go.Value.int Go.IntKind.u8 0), Go.Value.nilFunc, (Go.Value.pointer none), (Go.Value.int Go.IntKind.i32 0), (Go.Value.int Go.IntKind.i32 0)]) := by kernel_rfl
@[go_sem] theorem tab.un111 : Program.underlying Try.prog 111 = some (Go.TypeDesc.struct #[{ name := "Size_", type := 12, offset := 0, embedded := false, tag := "", pkgPath := "", byteOffset := 0 }, { name := "PtrBytes", type := 12, offset := 1, embedded := false, tag := "", pkgPath := "", byteOffset := 8 }, { name := "Hash", type := 51, offset := 2, embedded := false, tag := "", pkgPath := "", byteOffset := 16 }, { name := "TFlag", type := 104, offset := 3, embedded := false, tag := "", pkgPath := "", byteOffset := 20 }, { name := "Align_", type := 5, offset := 4, embedded := false, tag := "", pkgPath := "", byteOffset := 21 }, { name := "FieldAlign_", type := 5, offset := 5, embedded := false, tag := "", pkgPath := "", byteOffset := 22 }, { name := "Kind_", type := 105, offset := 6, embedded := false, tag := "", pkgPath := "", byteOffset := 23 }, { name := "Equal", type := 106, offset := 7, embedded := false, tag := "", pkgPath := "", byteOffset := 24 }, { name := "GCData", type := 107, offset := 8, embedded := false, tag := "", pkgPath := "", byteOffset := 32 }, { name := "Str", type := 108, offset := 9, embedded := false, tag := "", pkgPath := "", byteOffset := 40 }, { name := "PtrToThis", type := 109, offset := 10, embedded := false, tag := "", pkgPath := "", byteOffset := 44 }]) := by kernel_rfl
@[go_sem] theorem tab.ag111 : tyAgg Try.prog 111 = some true := by kernel_rfl
@[go_sem] theorem tab.fi111_0 : tyField Try.prog 111 0 = some (12, 0) := by kernel_rfl
@[go_sem] theorem tab.fi111_1 : tyField Try.prog 111 1 = some (12, 1) := by kernel_rfl
@[go_sem] theorem tab.fi111_2 : tyField Try.prog 111 2 = some (51, 2) := by kernel_rfl
@[go_sem] theorem tab.fi111_3 : tyField Try.prog 111 3 = some (104, 3) := by kernel_rfl
@[go_sem] theorem tab.fi111_4 : tyField Try.prog 111 4 = some (5, 4) := by kernel_rfl
@[go_sem] theorem tab.fi111_5 : tyField Try.prog 111 5 = some (5, 5) := by kernel_rfl
@[go_sem] theorem tab.fi111_6 : tyField Try.prog 111 6 = some (105, 6) := by kernel_rfl
@[go_sem] theorem tab.fi111_7 : tyField Try.prog 111 7 = some (106, 7) := by kernel_rfl
@[go_sem] theorem tab.fi111_8 : tyField Try.prog 111 8 = some (107, 8) := by kernel_rfl
@[go_sem] theorem tab.fi111_9 : tyField Try.prog 111 9 = some (108, 9) := by kernel_rfl
@[go_sem] theorem tab.fi111_10 : tyField Try.prog 111 10 = some (109, 10) := by kernel_rfl
@[go_sem] theorem tab.sz112 : tySize Try.prog 112 = some 1 := by kernel_rfl
@[go_sem] theorem tab.by112 : tyBytes Try.prog 112 = some 8 := by kernel_rfl
@[go_sem] theorem tab.ze112 : tyZero Try.prog 112 = some (Go.Value.pointer none) := by kernel_rfl
@[go_sem] theorem tab.ag112 : tyAgg Try.prog 112 = some false := by kernel_rfl
@[go_sem] theorem tab.ca3 : isCall Try.prog 3 = true := by kernel_rfl
@[go_sem] theorem tab.ca4 : isCall Try.prog 4 = true := by kernel_rfl
@[go_sem] theorem tab.ca5 : isCall Try.prog 5 = true := by kernel_rfl
@[go_sem] theorem tab.ca6 : isCall Try.prog 6 = true := by kernel_rfl
@[go_sem] theorem tab.ca7 : isCall Try.prog 7 = true := by kernel_rfl
@[go_sem] theorem tab.ca8 : isCall Try.prog 8 = true := by kernel_rfl
@[go_sem] theorem tab.ca9 : isCall Try.prog 9 = true := by kernel_rfl
@[go_sem] theorem tab.ca10 : isCall Try.prog 10 = true := by kernel_rfl
@[go_sem] theorem tab.ca11 : isCall Try.prog 11 = true := by kernel_rfl
@[go_sem] theorem tab.ca12 : isCall Try.prog 12 = true := by kernel_rfl
@[go_sem] theorem tab.ca13 : isCall Try.prog 13 = true := by kernel_rfl
@[go_sem] theorem tab.ca14 : isCall Try.prog 14 = true := by kernel_rfl
@[go_sem] theorem tab.ca15 : isCall Try.prog 15 = true := by kernel_rfl
@[go_sem] theorem tab.ca16 : isCall Try.prog 16 = true := by kernel_rfl
@[go_sem] theorem tab.ca17 : isCall Try.prog 17 = true := by kernel_rfl
@[go_sem] theorem tab.ca18 : isCall Try.prog 18 = true := by kernel_rfl
@[go_sem] theorem tab.ca19 : isCall Try.prog 19 = true := by kernel_rfl
@[go_sem] theorem tab.ca20 : isCall Try.prog 20 = true := by kernel_rfl
@[go_sem] theorem tab.ca21 : isCall Try.prog 21 = true := by kernel_rfl
@[go_sem] theorem tab.ca22 : isCall Try.prog 22 = true := by kernel_rfl
@[go_sem] theorem tab.ca23 : isCall Try.prog 23 = true := by kernel_rfl
@[go_sem] theorem tab.ca24 : isCall Try.prog 24 = true := by kernel_rfl
@[go_sem] theorem tab.ca25 : isCall Try.prog 25 = true := by kernel_rfl
@[go_sem] theorem tab.ca26 : isCall Try.prog 26 = true := by kernel_rfl
@[go_sem] theorem tab.ca27 : isCall Try.prog 27 = true := by kernel_rfl
@[go_sem] theorem tab.ca28 : isCall Try.prog 28 = true := by kernel_rfl
@[go_sem] theorem tab.ca29 : isCall Try.prog 29 = true := by kernel_rfl
@[go_sem] theorem tab.ca30 : isCall Try.prog 30 = true := by kernel_rfl
@[go_sem] theorem tab.ca31 : isCall Try.prog 31 = true := by kernel_rfl
@[go_sem] theorem tab.ca32 : isCall Try.prog 32 = true := by kernel_rfl
@[go_sem] theorem tab.ca33 : isCall Try.prog 33 = true := by kernel_rfl
@[go_sem] theorem tab.ca34 : isCall Try.prog 34 = true := by kernel_rfl
@[go_sem] theorem tab.ca35 : isCall Try.prog 35 = true := by kernel_rfl
@[go_sem] theorem tab.ca36 : isCall Try.prog 36 = true := by kernel_rfl
@[go_sem] theorem tab.ca37 : isCall Try.prog 37 = true := by kernel_rfl
@[go_sem] theorem tab.ca38 : isCall Try.prog 38 = true := by kernel_rfl
@[go_sem] theorem tab.ca39 : isCall Try.prog 39 = true := by kernel_rfl
@[go_sem] theorem tab.ca40 : isCall Try.prog 40 = true := by kernel_rfl
@[go_sem] theorem tab.ca41 : isCall Try.prog 41 = true := by kernel_rfl
@[go_sem] theorem tab.ca42 : isCall Try.prog 42 = true := by kernel_rfl
@[go_sem] theorem tab.ca43 : isCall Try.prog 43 = true := by kernel_rfl
@[go_sem] theorem tab.ca44 : isCall Try.prog 44 = true := by kernel_rfl
@[go_sem] theorem tab.ca45 : isCall Try.prog 45 = true := by kernel_rfl
@[go_sem] theorem tab.ca46 : isCall Try.prog 46 = true := by kernel_rfl
@[go_sem] theorem tab.ca47 : isCall Try.prog 47 = true := by kernel_rfl
@[go_sem] theorem tab.ca48 : isCall Try.prog 48 = true := by kernel_rfl
@[go_sem] theorem tab.ca49 : isCall Try.prog 49 = true := by kernel_rfl
@[go_sem] theorem tab.ca50 : isCall Try.prog 50 = true := by kernel_rfl
@[go_sem] theorem tab.ca51 : isCall Try.prog 51 = true := by kernel_rfl
@[go_sem] theorem tab.ca52 : isCall Try.prog 52 = true := by kernel_rfl
@[go_sem] theorem tab.ca53 : isCall Try.prog 53 = true := by kernel_rfl
@[go_sem] theorem tab.ca54 : isCall Try.prog 54 = true := by kernel_rfl
@[go_sem] theorem tab.ca55 : isCall Try.prog 55 = true := by kernel_rfl
@[go_sem] theorem tab.ca56 : isCall Try.prog 56 = true := by kernel_rfl
@[go_sem] theorem tab.ca57 : isCall Try.prog 57 = true := by kernel_rfl
@[go_sem] theorem tab.ca58 : isCall Try.prog 58 = true := by kernel_rfl
@[go_sem] theorem tab.ca59 : isCall Try.prog 59 = true := by kernel_rfl
@[go_sem] theorem tab.ca60 : isCall Try.prog 60 = true := by kernel_rfl
@[go_sem] theorem tab.ca61 : isCall Try.prog 61 = true := by kernel_rfl
@[go_sem] theorem tab.ca62 : isCall Try.prog 62 = true := by kernel_rfl
@[go_sem] theorem tab.ca63 : isCall Try.prog 63 = true := by kernel_rfl
@[go_sem] theorem tab.ca64 : isCall Try.prog 64 = true := by kernel_rfl
@[go_sem] theorem tab.ca65 : isCall Try.prog 65 = true := by kernel_rfl
@[go_sem] theorem tab.ca66 : isCall Try.prog 66 = true := by kernel_rfl
@[go_sem] theorem tab.ca67 : isCall Try.prog 67 = true := by kernel_rfl
@[go_sem] theorem tab.ca68 : isCall Try.prog 68 = true := by kernel_rfl
@[go_sem] theorem tab.ca69 : isCall Try.prog 69 = true := by kernel_rfl
@[go_sem] theorem tab.ca70 : isCall Try.prog 70 = true := by kernel_rfl
@[go_sem] theorem tab.ca71 : isCall Try.prog 71 = true := by kernel_rfl
@[go_sem] theorem tab.ca72 : isCall Try.prog 72 = true := by kernel_rfl
@[go_sem] theorem tab.ca73 : isCall Try.prog 73 = true := by kernel_rfl
@[go_sem] theorem tab.ca74 : isCall Try.prog 74 = true := by kernel_rfl
@[go_sem] theorem tab.ca75 : isCall Try.prog 75 = true := by kernel_rfl
@[go_sem] theorem tab.ca76 : isCall Try.prog 76 = true := by kernel_rfl
@[go_sem] theorem tab.ca77 : isCall Try.prog 77 = true := by kernel_rfl
@[go_sem] theorem tab.ca78 : isCall Try.prog 78 = true := by kernel_rfl
theorem tab.mixed : Try.prog.follows .mixedOrders = true := by kernel_rfl
end Go.Proofs.Ytdfeigkooeeeaaa
namespace Go.Proofs.Ytdfeigkooeeeaaa
open Go Go.RowKit

/-! ### small ways on; what follows is not looked into before the value is known -/
def optK (r : Option Value) (C : Value → Prop) : Prop := match r with
  | some v => C v
  | none => False
def optL (r : Option (List Value)) (C : Value → Prop) : Prop := match r with
  | some l => C (.agg l.toArray)
  | none => False
def optS (r : Option (List UInt8)) (C : Value → Prop) : Prop := match r with
  | some l => C (.string ⟨l.toArray⟩)
  | none => False
def optB (r : Option UInt8) (C : Value → Prop) : Prop := match r with
  | some l => C (.int .u8 l.toNat)
  | none => False
def optN (r : Option Nat) (C : Nat → Prop) : Prop := match r with
  | some n => C n
  | none => False
def cellK (r : Option Obj) (o : Nat) (C : Value → Prop) : Prop := match r with
  | some (.cells c _ _) => optK c[o]? C
  | _ => False
def aggK (r : Option Obj) (o n : Nat) (C : Value → Prop) : Prop := match r with
  | some (.cells c _ _) => optL (cellsL c o n) C
  | _ => False
def strK (r : Option Obj) (o n : Nat) (C : Value → Prop) : Prop := match r with
  | some (.cells c _ _) => optS ((cellsL c o n).bind bytesOf) C
  | _ => False
def stK (r : Option Obj) (b o n : Nat) (l : List Value) (h : Hp) (K : KH) : Prop := match r with
  | some (.cells c e fz) => l.all Value.oneCell' = true ∧ o + n ≤ c.size ∧ (fz.2 ≤ fz.1 ∨ o + n ≤ fz.1) ∧ K undef (h.put b (.cells (writeL c o l) e fz))
  | _ => False
section
variable (P : Program) (C : Value → Prop) (t : TypeId) (h : Hp) (K : KH) (b o n i : Nat) (x y v : Value)
theorem optK_some : optK (some v) C = C v := id rfl
theorem optL_some (l : List Value) : optL (some l) C = C (.agg l.toArray) := id rfl
theorem optS_some (l : List UInt8) : optS (some l) C = C (.string ⟨l.toArray⟩) := id rfl
theorem optB_some (c : UInt8) : optB (some c) C = C (.int .u8 c.toNat) := id rfl
theorem optN_some (G : Nat → Prop) : optN (some n) G = G n := id rfl
theorem cellK_cells (c : Array Value) (e : TypeId) (fz : Nat × Nat) : cellK (some (.cells c e fz)) o C = optK c[o]? C := id rfl
theorem aggK_cells (c : Array Value) (e : TypeId) (fz : Nat × Nat) : aggK (some (.cells c e fz)) o n C = optL (cellsL c o n) C := id rfl
theorem strK_cells (c : Array Value) (e : TypeId) (fz : Nat × Nat) : strK (some (.cells c e fz)) o n C = optS ((cellsL c o n).bind bytesOf) C := id rfl
theorem stK_cells (c : Array Value) (e : TypeId) (lo hi : Nat) (l : List Value) : stK (some (.cells c e (lo, hi))) b o n l h K = (l.all Value.oneCell' = true ∧ o + n ≤ c.size ∧ (hi ≤ lo ∨ o + n ≤ lo) ∧ K undef (h.put b (.cells (writeL c o l) e (lo, hi)))) := id rfl

/-! ### types -/
def isSl : Option TypeDesc → Bool
  | some (.slice _) => true
  | _ => false
def isArr : Option TypeDesc → Bool
  | some (.array _ _) => true
  | _ => false
def isPtr : Option TypeDesc → Bool
  | some (.pointer _) => true
  | _ => false
def elT : Option TypeDesc → TypeId
  | some (.slice e) => e
  | some (.array _ e) => e
  | _ => 0
def arrN : Option TypeDesc → Nat
  | some (.array n _) => n
  | _ => 0
def isInt : Option TypeDesc → Bool
  | some (.int _) => true
  | _ => false
def intK : Option TypeDesc → IntKind
  | some (.int k) => k
  | _ => .i64
theorem isSl_spec {d : Option TypeDesc} (h : isSl d = true) : ∃ e, d = some (.slice e) := by
  unfold isSl at h; split at h
  · exact ⟨_, rfl⟩
  · cases h
theorem isArr_spec {d : Option TypeDesc} (h : isArr d = true) : ∃ n e, d = some (.array n e) := by
  unfold isArr at h; split at h
  · exact ⟨_, _, rfl⟩
  · cases h
theorem isInt_spec {d : Option TypeDesc} (h : isInt d = true) : ∃ k, d = some (.int k) := by
  unfold isInt at h; split at h
  · exact ⟨_, rfl⟩
  · cases h
theorem isPtr_spec {d : Option TypeDesc} (h : isPtr d = true) : ∃ e, d = some (.pointer e) := by
  unfold isPtr at h; split at h
  · exact ⟨_, rfl⟩
  · cases h

/-! ### operations -/
def QC (P : Program) (f : FuncId) (args : Array Value) (h : Hp) (C : Value → Prop) : Prop := ∃ v, QCall P f args h v ∧ C v
theorem acall_func (g : FuncId) (a c d : Array Value) : acall P (.func (.func g) a d) c h K = CallF P g (a ++ c ++ d) h K := id rfl
theorem qcall_func (g : FuncId) (a c d : Array Value) : qcall P (.func (.func g) a d) c h C = QC P g (a ++ c ++ d) h C := id rfl
theorem ab_add (k : IntKind) (p q : Int) : abin P .add t (.int k p) (.int k q) C = C (.int k (k.wrap (p + q))) := by simp [abin]
theorem ab_sub (k : IntKind) (p q : Int) : abin P .sub t (.int k p) (.int k q) C = C (.int k (k.wrap (p - q))) := by simp [abin]
theorem ab_mul (k : IntKind) (p q : Int) : abin P .mul t (.int k p) (.int k q) C = C (.int k (k.wrap (p * q))) := by simp [abin]
theorem ab_quo (k : IntKind) (p q : Int) : abin P .quo t (.int k p) (.int k q) C = (q ≠ 0 ∧ C (.int k (k.wrap (p.tdiv q)))) := by simp [abin]
theorem ab_rem (k : IntKind) (p q : Int) : abin P .rem t (.int k p) (.int k q) C = (q ≠ 0 ∧ C (.int k (p.tmod q))) := by simp [abin]
theorem ab_and (k : IntKind) (p q : Int) : abin P .and t (.int k p) (.int k q) C = C (.int k (bitsV .and k p q)) := by simp [abin]
theorem ab_or (k : IntKind) (p q : Int) : abin P .or t (.int k p) (.int k q) C = C (.int k (bitsV .or k p q)) := by simp [abin]
theorem ab_xor (k : IntKind) (p q : Int) : abin P .xor t (.int k p) (.int k q) C = C (.int k (bitsV .xor k p q)) := by simp [abin]
theorem ab_andNot (k : IntKind) (p q : Int) : abin P .andNot t (.int k p) (.int k q) C = C (.int k (bitsV .andNot k p q)) := by simp [abin]
theorem ab_shl (k k' : IntKind) (p q : Int) : abin P .shl t (.int k p) (.int k' q) C = (0 ≤ q ∧ C (.int k (k.wrap (p * 2 ^ min q.toNat k.bits)))) := by simp [abin]
theorem ab_shr (k k' : IntKind) (p q : Int) : abin P .shr t (.int k p) (.int k' q) C = (0 ≤ q ∧ C (.int k (p.fdiv (2 ^ min q.toNat k.bits)))) := by simp [abin]
theorem ab_eql (k : IntKind) (p q : Int) : abin P .eql t (.int k p) (.int k q) C = C (.bool (decide (p = q))) := by simp [abin]
theorem ab_neq (k : IntKind) (p q : Int) : abin P .neq t (.int k p) (.int k q) C = C (.bool (!decide (p = q))) := by simp [abin]
theorem ab_lss (k : IntKind) (p q : Int) : abin P .lss t (.int k p) (.int k q) C = C (.bool (decide (p < q))) := by simp [abin]
theorem ab_leq (k : IntKind) (p q : Int) : abin P .leq t (.int k p) (.int k q) C = C (.bool (decide (p ≤ q))) := by simp [abin]
theorem ab_gtr (k : IntKind) (p q : Int) : abin P .gtr t (.int k p) (.int k q) C = C (.bool (decide (q < p))) := by simp [abin]
theorem ab_geq (k : IntKind) (p q : Int) : abin P .geq t (.int k p) (.int k q) C = C (.bool (decide (q ≤ p))) := by simp [abin]
theorem ab_sadd (s r : ByteArray) : abin P .add t (.string s) (.string r) C = (s.size + r.size ≤ 9223372036854775807 ∧ C (.string (s ++ r))) := id rfl
theorem ab_seql (s r : ByteArray) : abin P .eql t (.string s) (.string r) C = C (.bool (s.toList == r.toList)) := id rfl
theorem ab_sneq (s r : ByteArray) : abin P .neq t (.string s) (.string r) C = C (.bool (!(s.toList == r.toList))) := id rfl
theorem ab_slss (s r : ByteArray) : abin P .lss t (.string s) (.string r) C = C (.bool (Op.bytesLess s.toList r.toList)) := id rfl
theorem ab_sleq (s r : ByteArray) : abin P .leq t (.string s) (.string r) C = C (.bool (Op.bytesLess s.toList r.toList || s.toList == r.toList)) := id rfl
theorem ab_sgtr (s r : ByteArray) : abin P .gtr t (.string s) (.string r) C = C (.bool (!(Op.bytesLess s.toList r.toList || s.toList == r.toList))) := id rfl
theorem ab_sgeq (s r : ByteArray) : abin P .geq t (.string s) (.string r) C = C (.bool (!(Op.bytesLess s.toList r.toList))) := id rfl
theorem ab_beql (p q : Bool) (hu : P.underlying t = some .bool) : abin P .eql t (.bool p) (.bool q) C = C (.bool (p == q)) := by simp [abin, hu]
theorem ab_bneq (p q : Bool) (hu : P.underlying t = some .bool) : abin P .neq t (.bool p) (.bool q) C = C (.bool (!(p == q))) := by simp [abin, hu]
theorem ab_peql (p : Option Addr) (hu : isPtr (P.underlying t) = true) : abin P .eql t (.pointer p) (.pointer none) C = C (.bool p.isNone) := by
  obtain ⟨e, he⟩ := isPtr_spec hu; simp only [abin, he]
theorem ab_pneq (p : Option Addr) (hu : isPtr (P.underlying t) = true) : abin P .neq t (.pointer p) (.pointer none) C = C (.bool (!p.isNone)) := by
  obtain ⟨e, he⟩ := isPtr_spec hu; simp only [abin, he]
theorem ab_sleql (p : Option Addr) (m c m' c' : Nat) (hu : isSl (P.underlying t) = true) : abin P .eql t (.slice p m c) (.slice none m' c') C = C (.bool p.isNone) := by
  obtain ⟨e, he⟩ := isSl_spec hu; simp only [abin, he]
theorem ab_slneq (p : Option Addr) (m c m' c' : Nat) (hu : isSl (P.underlying t) = true) : abin P .neq t (.slice p m c) (.slice none m' c') C = C (.bool (!p.isNone)) := by
  obtain ⟨e, he⟩ := isSl_spec hu; simp only [abin, he]
theorem au_not (q : Bool) : aun .not (.bool q) C = C (.bool (!q)) := id rfl
theorem au_neg (k : IntKind) (p : Int) : aun .neg (.int k p) C = C (.int k (k.wrap (0 - p))) := id rfl
theorem au_xor (k : IntKind) (p : Int) : aun .xor (.int k p) C = C (.int k (bitsV .xor k (if k.signed then -1 else k.max) p)) := id rfl
theorem ld_cell (ha : tyAgg P t = some false) : aload P t (.pointer (some ⟨b, o, none⟩)) h C = cellK (h.f b) o C := by
  simp only [aload, cellK, ha]
  generalize h.f b = r
  cases r with
  | none => rfl
  | some ob =>
    cases ob <;> try rfl
theorem ld_agg (ha : tyAgg P t = some true) : aload P t (.pointer (some ⟨b, o, none⟩)) h C = optN (tySize P t) (fun n => aggK (h.f b) o n C) := by
  simp only [aload, aggK, ha, optN]
  generalize h.f b = r
  cases tySize P t with
  | none =>
    cases r with
    | none => rfl
    | some ob => cases ob <;> rfl
  | some n =>
    cases r with
    | none => rfl
    | some ob =>
      cases ob <;> try rfl
theorem sto (hn : tySize P t = some v.cells.size) : astore P t (.pointer (some ⟨b, o, none⟩)) v h K = stK (h.f b) b o v.cells.size v.cells.toList h K := by
  simp only [astore, stK, hn, Free, true_and]
  generalize h.f b = r
  cases r with
  | none => rfl
  | some ob => cases ob <;> rfl
theorem fa_ptr : afieldAddr P t (.pointer (some ⟨b, o, none⟩)) i C = optN ((tyField P t i).map (·.2)) (fun off => C (.pointer (some ⟨b, o + off, none⟩))) := by
  simp only [afieldAddr, optN]
  cases tyField P t i <;> rfl
theorem f_agg (cs : Array Value) : afield P t (.agg cs) i C = optN ((tyField P t i).map (·.2)) (fun off => optN ((tyField P t i).map (·.1)) fun t' => apart_ P t' cs off C) := by
  simp only [afield, optN]
  cases tyField P t i <;> rfl
theorem part_f (cs : Array Value) (off : Nat) (ha : tyAgg P t = some false) : apart_ P t cs off C = optK cs[off]? C := by
  simp only [apart_, ha, optK]
  cases cs[off]? <;> rfl
theorem part_t (cs : Array Value) (off : Nat) (ha : tyAgg P t = some true) : apart_ P t cs off C = optN (tySize P t) (fun n => C (.agg (cs.extract off (off + n)))) := by
  simp only [apart_, ha, optN]
  cases tySize P t <;> rfl
theorem ia_sl (k : IntKind) (p : Int) (len cap : Nat) (hu : isSl (P.underlying t) = true) : aindexAddr P t (.slice (some ⟨b, o, none⟩) len cap) (.int k p) C =
    (0 ≤ p ∧ p < (len : Int) ∧ optN (tySize P (elT (P.underlying t))) fun n => C (.pointer (some ⟨b, o + p.toNat * n, none⟩))) := by
  obtain ⟨e, he⟩ := isSl_spec hu
  simp only [aindexAddr, he, elT, optN]
  cases tySize P e <;> rfl
theorem ia_arr (k : IntKind) (p : Int) (hu : isArr (P.underlying t) = true) : aindexAddr P t (.pointer (some ⟨b, o, none⟩)) (.int k p) C =
    (0 ≤ p ∧ p < (arrN (P.underlying t) : Int) ∧ optN (tySize P (elT (P.underlying t))) fun n => C (.pointer (some ⟨b, o + p.toNat * n, none⟩))) := by
  obtain ⟨m, e, he⟩ := isArr_spec hu
  simp only [aindexAddr, he, elT, arrN, optN]
  cases tySize P e <;> rfl
theorem ix_arr (k : IntKind) (p : Int) (cs : Array Value) (hu : isArr (P.underlying t) = true) : aindex P t (.agg cs) (.int k p) C =
    (0 ≤ p ∧ p < (arrN (P.underlying t) : Int) ∧ optN (tySize P (elT (P.underlying t))) fun n => apart_ P (elT (P.underlying t)) cs (p.toNat * n) C) := by
  obtain ⟨m, e, he⟩ := isArr_spec hu
  simp only [aindex, he, elT, arrN, optN]
  cases tySize P e <;> rfl
theorem ix_str (k : IntKind) (p : Int) (s : ByteArray) (hu : P.underlying t = some .string) : aindex P t (.string s) (.int k p) C = (0 ≤ p ∧ optB s.toList[p.toNat]? C) := by
  simp only [aindex, hu, optB]
  cases s.toList[p.toNat]? <;> rfl
theorem ex_tuple (vs : Array Value) : aextract (.tuple vs) i C = optK vs[i]? C := by
  simp only [aextract, optK]
  cases vs[i]? <;> rfl
theorem le_str (s : ByteArray) (hu : P.underlying t = some .string) : alen P t (.string s) h C = C (.int .i64 s.size) := by simp only [alen, hu]
theorem le_sl (p : Option Addr) (m c : Nat) (hu : isSl (P.underlying t) = true) : alen P t (.slice p m c) h C = C (.int .i64 m) := by
  obtain ⟨e, he⟩ := isSl_spec hu; simp only [alen, he]
theorem le_arr (hu : isArr (P.underlying t) = true) : alen P t x h C = C (.int .i64 (arrN (P.underlying t))) := by
  obtain ⟨m, e, he⟩ := isArr_spec hu; simp only [alen, he, arrN]
theorem mm_min (k k' : IntKind) (p q : Int) : aminmax false (.int k p) (.int k' q) C = C (.int k (min p q)) := id rfl
theorem mm_max (k k' : IntKind) (p q : Int) : aminmax true (.int k p) (.int k' q) C = C (.int k (max p q)) := id rfl
def sliceK (x : Value) (lo hi mx : Option Int) (hx : Bool) (k : Option Nat) (C : Value → Prop) : Prop := match x with
  | .string s => (match hi, lo with
    | some p, some q => 0 ≤ q ∧ q ≤ p ∧ p ≤ s.size ∧ C (.string (s.extract q.toNat p.toNat))
    | _, _ => False)
  | .slice a _ cap => (match mx, hi, lo, k with
    | some m, some p, some q, some n => 0 ≤ q ∧ q ≤ p ∧ (hx = true → p ≤ m) ∧ m ≤ (cap : Int) ∧ C (sliceOf a q.toNat p.toNat m.toNat n)
    | _, _, _, _ => False)
  | _ => False
theorem sliceK_str (s : ByteArray) (p q : Int) : sliceK (.string s) (some q) (some p) none false none C = (0 ≤ q ∧ q ≤ p ∧ p ≤ s.size ∧ C (.string (s.extract q.toNat p.toNat))) := id rfl
theorem sliceK_sl (a : Option Addr) (len cap : Nat) (m p q : Int) (hx : Bool) : sliceK (.slice a len cap) (some q) (some p) (some m) hx (some n) C = (0 ≤ q ∧ q ≤ p ∧ (hx = true → p ≤ m) ∧ m ≤ (cap : Int) ∧ C (sliceOf a q.toNat p.toNat m.toNat n)) := id rfl
theorem sl_str (s : ByteArray) (lo hi : Option Value) (hu : P.underlying t = some .string) : aslice P t (.string s) lo hi none C = sliceK (.string s) (bnd lo 0) (bnd hi s.size) none false none C := by
  simp only [aslice, sliceK, hu, true_and, Option.isSome_none]
  cases bnd hi s.size <;> cases bnd lo 0 <;> rfl
theorem upTo_eq (v : Option Value) (p m : Int) : upTo v p m = (v.isSome = true → p ≤ m) := by cases v <;> simp [upTo]
theorem sl_sl (a : Option Addr) (len cap : Nat) (lo hi : Option Value) (hu : isSl (P.underlying t) = true) : aslice P t (.slice a len cap) lo hi none C = sliceK (.slice a len cap) (bnd lo 0) (bnd hi len) (some cap) hi.isSome (tySize P (elT (P.underlying t))) C := by
  obtain ⟨e, he⟩ := isSl_spec hu
  simp only [aslice, he, elT, sliceK, upTo_eq, Option.isSome_none, show bnd none (cap : Int) = some (cap : Int) from rfl]
  generalize bnd lo 0 = x
  generalize bnd hi len = y
  cases tySize P e <;> cases x <;> cases y <;> simp
theorem sl_sl3 (a : Option Addr) (len cap : Nat) (lo : Option Value) (hi mx : Value) (hu : isSl (P.underlying t) = true) : aslice P t (.slice a len cap) lo (some hi) (some mx) C = sliceK (.slice a len cap) (bnd lo 0) (bnd (some hi) len) (bnd (some mx) cap) true (tySize P (elT (P.underlying t))) C := by
  obtain ⟨e, he⟩ := isSl_spec hu
  simp only [aslice, he, elT, sliceK, upTo_eq, Option.isSome_some]
  cases tySize P e <;> cases bnd (some mx) cap <;> cases bnd (some hi) len <;> cases bnd lo 0 <;> simp
theorem mk_slice (k k' : IntKind) (p q : Int) (hu : isSl (P.underlying t) = true) : amake P t (.int k p) (.int k' q) h K = optN (tySize P (elT (P.underlying t))) fun n => optN (tyBytes P (elT (P.underlying t))) fun m => optK (tyZero P (elT (P.underlying t))) fun z =>
    0 ≤ p ∧ p ≤ q ∧ (m : Int) * q ≤ 281474976710656 ∧ q ≤ 9223372036854775807 ∧ K (.slice (some ⟨h.n, 0, none⟩) p.toNat q.toNat) ((h.put h.n (.cells (madeCells z.cells (q.toNat * n)) (elT (P.underlying t)) (0, 0))).to (h.n + 1)) := by
  obtain ⟨e, he⟩ := isSl_spec hu
  simp only [amake, he, elT, optN, optK]
  cases tySize P e <;> cases tyBytes P e <;> cases tyZero P e <;> rfl
theorem cv_int (s' : TypeId) (k : IntKind) (p : Int) (hs : isInt (P.underlying s') = true) (hd : isInt (P.underlying t) = true) : aconv P s' t (.int k p) h K = K (.int (intK (P.underlying t)) ((intK (P.underlying t)).wrap p)) h := by
  obtain ⟨k1, h1⟩ := isInt_spec hs
  obtain ⟨k2, h2⟩ := isInt_spec hd
  simp only [aconv, h1, h2, intK]
theorem cvq_int (s' : TypeId) (k : IntKind) (p : Int) (hs : isInt (P.underlying s') = true) (hd : isInt (P.underlying t) = true) : qconv P s' t (.int k p) h C = C (.int (intK (P.underlying t)) ((intK (P.underlying t)).wrap p)) := by
  obtain ⟨k1, h1⟩ := isInt_spec hs
  obtain ⟨k2, h2⟩ := isInt_spec hd
  simp only [qconv, h1, h2, intK]
theorem cv_bytes (s' : TypeId) (s : ByteArray) (hs : P.underlying s' = some .string) (hd : isSl (P.underlying t) = true) (he : P.underlying (elT (P.underlying t)) = some (.int .u8)) : aconv P s' t (.string s) h K = ∀ cap, s.size ≤ cap →
    K (.slice (some ⟨h.n, 0, none⟩) s.size cap) ((h.put h.n (.cells (byteVals s ++ Array.replicate (cap - s.size) (.int .u8 0)) (elT (P.underlying t)) (cap, cap + 1))).to (h.n + 1)) := by
  obtain ⟨e, h1⟩ := isSl_spec hd
  rw [h1] at he
  simp only [elT] at he
  simp only [aconv, hs, h1, elT, he, true_and]
theorem cv_str (s' : TypeId) (m c : Nat) (hs : isSl (P.underlying s') = true) (he : P.underlying (elT (P.underlying s')) = some (.int .u8)) (hd : P.underlying t = some .string) :
    aconv P s' t (.slice (some ⟨b, o, none⟩) m c) h K = strK (h.f b) o m (fun v => K v h) := by
  obtain ⟨e, h1⟩ := isSl_spec hs
  rw [h1] at he
  simp only [elT] at he
  simp only [aconv, hd, h1, he, true_and, strK, optS]
  generalize h.f b = r
  cases r with
  | none => rfl
  | some ob => cases ob <;> rfl
theorem cv_nil (s' : TypeId) (m c : Nat) (hs : isSl (P.underlying s') = true) (he : P.underlying (elT (P.underlying s')) = some (.int .u8)) (hd : P.underlying t = some .string) :
    aconv P s' t (.slice none m c) h K = K (.string ByteArray.empty) h := by
  obtain ⟨e, h1⟩ := isSl_spec hs
  rw [h1] at he
  simp only [elT] at he
  simp only [aconv, hd, h1, he, true_and]
theorem bnd_none (d : Int) : bnd none d = some d := id rfl
theorem bnd_int (d : Int) (k : IntKind) (p : Int) : bnd (some (.int k p)) d = some p := id rfl
end

/-! ### the same, what follows out of the rules' sight -/
class Cn (α : Type) where
  go : α
abbrev CV := Cn (Value → Prop)
abbrev CH := Cn (Value → Hp → Prop)
def Go1 {α : Type} (F : α → Prop) [C : Cn α] : Prop := F C.go
section
variable (P : Program) [C : CV] (t : TypeId) (h : Hp) (b o n i : Nat) (x y v : Value)
theorem i_ab_add (k : IntKind) (p q : Int) : Go1 (abin P .add t (.int k p) (.int k q)) = C.go (.int k (k.wrap (p + q))) := by
  delta Go1; apply ab_add
theorem i_ab_sub (k : IntKind) (p q : Int) : Go1 (abin P .sub t (.int k p) (.int k q)) = C.go (.int k (k.wrap (p - q))) := by
  delta Go1; apply ab_sub
theorem i_ab_mul (k : IntKind) (p q : Int) : Go1 (abin P .mul t (.int k p) (.int k q)) = C.go (.int k (k.wrap (p * q))) := by
  delta Go1; apply ab_mul
theorem i_ab_quo (k : IntKind) (p q : Int) : Go1 (abin P .quo t (.int k p) (.int k q)) = (q ≠ 0 ∧ C.go (.int k (k.wrap (p.tdiv q)))) := by
  delta Go1; apply ab_quo
theorem i_ab_rem (k : IntKind) (p q : Int) : Go1 (abin P .rem t (.int k p) (.int k q)) = (q ≠ 0 ∧ C.go (.int k (p.tmod q))) := by
  delta Go1; apply ab_rem
theorem i_ab_and (k : IntKind) (p q : Int) : Go1 (abin P .and t (.int k p) (.int k q)) = C.go (.int k (bitsV .and k p q)) := by
  delta Go1; apply ab_and
theorem i_ab_or (k : IntKind) (p q : Int) : Go1 (abin P .or t (.int k p) (.int k q)) = C.go (.int k (bitsV .or k p q)) := by
  delta Go1; apply ab_or
theorem i_ab_xor (k : IntKind) (p q : Int) : Go1 (abin P .xor t (.int k p) (.int k q)) = C.go (.int k (bitsV .xor k p q)) := by
  delta Go1; apply ab_xor
theorem i_ab_andNot (k : IntKind) (p q : Int) : Go1 (abin P .andNot t (.int k p) (.int k q)) = C.go (.int k (bitsV .andNot k p q)) := by
  delta Go1; apply ab_andNot
theorem i_ab_shl (k k' : IntKind) (p q : Int) : Go1 (abin P .shl t (.int k p) (.int k' q)) = (0 ≤ q ∧ C.go (.int k (k.wrap (p * 2 ^ min q.toNat k.bits)))) := by
  delta Go1; apply ab_shl
theorem i_ab_shr (k k' : IntKind) (p q : Int) : Go1 (abin P .shr t (.int k p) (.int k' q)) = (0 ≤ q ∧ C.go (.int k (p.fdiv (2 ^ min q.toNat k.bits)))) := by
  delta Go1; apply ab_shr
theorem i_ab_eql (k : IntKind) (p q : Int) : Go1 (abin P .eql t (.int k p) (.int k q)) = C.go (.bool (decide (p = q))) := by
  delta Go1; apply ab_eql
theorem i_ab_neq (k : IntKind) (p q : Int) : Go1 (abin P .neq t (.int k p) (.int k q)) = C.go (.bool (!decide (p = q))) := by
  delta Go1; apply ab_neq
theorem i_ab_lss (k : IntKind) (p q : Int) : Go1 (abin P .lss t (.int k p) (.int k q)) = C.go (.bool (decide (p < q))) := by
  delta Go1; apply ab_lss
theorem i_ab_leq (k : IntKind) (p q : Int) : Go1 (abin P .leq t (.int k p) (.int k q)) = C.go (.bool (decide (p ≤ q))) := by
  delta Go1; apply ab_leq
theorem i_ab_gtr (k : IntKind) (p q : Int) : Go1 (abin P .gtr t (.int k p) (.int k q)) = C.go (.bool (decide (q < p))) := by
  delta Go1; apply ab_gtr
theorem i_ab_geq (k : IntKind) (p q : Int) : Go1 (abin P .geq t (.int k p) (.int k q)) = C.go (.bool (decide (q ≤ p))) := by
  delta Go1; apply ab_geq
theorem i_ab_sadd (s r : ByteArray) : Go1 (abin P .add t (.string s) (.string r)) = (s.size + r.size ≤ 9223372036854775807 ∧ C.go (.string (s ++ r))) := by
  delta Go1; apply ab_sadd
theorem i_ab_seql (s r : ByteArray) : Go1 (abin P .eql t (.string s) (.string r)) = C.go (.bool (s.toList == r.toList)) := by
  delta Go1; apply ab_seql
theorem i_ab_sneq (s r : ByteArray) : Go1 (abin P .neq t (.string s) (.string r)) = C.go (.bool (!(s.toList == r.toList))) := by
  delta Go1; apply ab_sneq
theorem i_ab_slss (s r : ByteArray) : Go1 (abin P .lss t (.string s) (.string r)) = C.go (.bool (Op.bytesLess s.toList r.toList)) := by
  delta Go1; apply ab_slss
theorem i_ab_sleq (s r : ByteArray) : Go1 (abin P .leq t (.string s) (.string r)) = C.go (.bool (Op.bytesLess s.toList r.toList || s.toList == r.toList)) := by
  delta Go1; apply ab_sleq
theorem i_ab_sgtr (s r : ByteArray) : Go1 (abin P .gtr t (.string s) (.string r)) = C.go (.bool (!(Op.bytesLess s.toList r.toList || s.toList == r.toList))) := by
  delta Go1; apply ab_sgtr
theorem i_ab_sgeq (s r : ByteArray) : Go1 (abin P .geq t (.string s) (.string r)) = C.go (.bool (!(Op.bytesLess s.toList r.toList))) := by
  delta Go1; apply ab_sgeq
theorem i_ab_beql (p q : Bool) (hu : P.underlying t = some .bool) : Go1 (abin P .eql t (.bool p) (.bool q)) = C.go (.bool (p == q)) := by
  delta Go1; apply ab_beql <;> assumption
theorem i_ab_bneq (p q : Bool) (hu : P.underlying t = some .bool) : Go1 (abin P .neq t (.bool p) (.bool q)) = C.go (.bool (!(p == q))) := by
  delta Go1; apply ab_bneq <;> assumption
theorem i_ab_peql (p : Option Addr) (hu : isPtr (P.underlying t) = true) : Go1 (abin P .eql t (.pointer p) (.pointer none)) = C.go (.bool p.isNone) := by
  delta Go1; apply ab_peql <;> assumption
theorem i_ab_pneq (p : Option Addr) (hu : isPtr (P.underlying t) = true) : Go1 (abin P .neq t (.pointer p) (.pointer none)) = C.go (.bool (!p.isNone)) := by
  delta Go1; apply ab_pneq <;> assumption
theorem i_ab_sleql (p : Option Addr) (m c m' c' : Nat) (hu : isSl (P.underlying t) = true) : Go1 (abin P .eql t (.slice p m c) (.slice none m' c')) = C.go (.bool p.isNone) := by
  delta Go1; apply ab_sleql <;> assumption
theorem i_ab_slneq (p : Option Addr) (m c m' c' : Nat) (hu : isSl (P.underlying t) = true) : Go1 (abin P .neq t (.slice p m c) (.slice none m' c')) = C.go (.bool (!p.isNone)) := by
  delta Go1; apply ab_slneq <;> assumption
theorem i_au_not (q : Bool) : Go1 (aun .not (.bool q)) = C.go (.bool (!q)) := by
  delta Go1; apply au_not
theorem i_au_neg (k : IntKind) (p : Int) : Go1 (aun .neg (.int k p)) = C.go (.int k (k.wrap (0 - p))) := by
  delta Go1; apply au_neg
theorem i_au_xor (k : IntKind) (p : Int) : Go1 (aun .xor (.int k p)) = C.go (.int k (bitsV .xor k (if k.signed then -1 else k.max) p)) := by
  delta Go1; apply au_xor
theorem i_le_str (s : ByteArray) (hu : P.underlying t = some .string) : Go1 (alen P t (.string s) h) = C.go (.int .i64 s.size) := by
  delta Go1; apply le_str <;> assumption
theorem i_le_sl (p : Option Addr) (m c : Nat) (hu : isSl (P.underlying t) = true) : Go1 (alen P t (.slice p m c) h) = C.go (.int .i64 m) := by
  delta Go1; apply le_sl <;> assumption
theorem i_le_arr (hu : isArr (P.underlying t) = true) : Go1 (alen P t x h) = C.go (.int .i64 (arrN (P.underlying t))) := by
  delta Go1; apply le_arr <;> assumption
theorem i_mm_min (k k' : IntKind) (p q : Int) : Go1 (aminmax false (.int k p) (.int k' q)) = C.go (.int k (min p q)) := by
  delta Go1; apply mm_min
theorem i_mm_max (k k' : IntKind) (p q : Int) : Go1 (aminmax true (.int k p) (.int k' q)) = C.go (.int k (max p q)) := by
  delta Go1; apply mm_max
theorem i_cvq_int (s' : TypeId) (k : IntKind) (p : Int) (hs : isInt (P.underlying s') = true) (hd : isInt (P.underlying t) = true) : Go1 (qconv P s' t (.int k p) h) = C.go (.int (intK (P.underlying t)) ((intK (P.underlying t)).wrap p)) := by
  delta Go1; apply cvq_int <;> assumption
theorem i_optK (v : Value) : Go1 (optK (some v)) = C.go v := id rfl
theorem i_optL (l : List Value) : Go1 (optL (some l)) = C.go (.agg l.toArray) := id rfl
theorem i_optS (l : List UInt8) : Go1 (optS (some l)) = C.go (.string ⟨l.toArray⟩) := id rfl
theorem i_optB (c : UInt8) : Go1 (optB (some c)) = C.go (.int .u8 c.toNat) := id rfl
theorem i_cellK (c : Array Value) (e : TypeId) (fz : Nat × Nat) : Go1 (cellK (some (.cells c e fz)) o) = Go1 (optK c[o]?) := id rfl
theorem i_aggK (c : Array Value) (e : TypeId) (fz : Nat × Nat) : Go1 (aggK (some (.cells c e fz)) o n) = Go1 (optL (cellsL c o n)) := id rfl
theorem i_strK (c : Array Value) (e : TypeId) (fz : Nat × Nat) : Go1 (strK (some (.cells c e fz)) o n) = Go1 (optS ((cellsL c o n).bind bytesOf)) := id rfl
theorem i_qcall (g : FuncId) (a c d : Array Value) : Go1 (qcall P (.func (.func g) a d) c h) = Go1 (QC P g (a ++ c ++ d) h) := id rfl
theorem i_ld_cell (ha : tyAgg P t = some false) : Go1 (aload P t (.pointer (some ⟨b, o, none⟩)) h) = Go1 (cellK (h.f b) o) := ld_cell P C.go t h b o ha
theorem i_ld_agg (ha : tyAgg P t = some true) : Go1 (aload P t (.pointer (some ⟨b, o, none⟩)) h) = @Go1 _ (optN (tySize P t)) ⟨fun n => Go1 (aggK (h.f b) o n)⟩ := ld_agg P C.go t h b o ha
theorem i_fa_ptr : Go1 (afieldAddr P t (.pointer (some ⟨b, o, none⟩)) i) = @Go1 _ (optN ((tyField P t i).map (·.2))) ⟨fun off => C.go (.pointer (some ⟨b, o + off, none⟩))⟩ := fa_ptr P C.go t b o i
theorem i_f_agg (cs : Array Value) : Go1 (afield P t (.agg cs) i) = @Go1 _ (optN ((tyField P t i).map (·.2))) ⟨fun off => @Go1 _ (optN ((tyField P t i).map (·.1))) ⟨fun t' => Go1 (apart_ P t' cs off)⟩⟩ := f_agg P C.go t i cs
theorem i_part_f (cs : Array Value) (off : Nat) (ha : tyAgg P t = some false) : Go1 (apart_ P t cs off) = Go1 (optK cs[off]?) := part_f P C.go t cs off ha
theorem i_part_t (cs : Array Value) (off : Nat) (ha : tyAgg P t = some true) : Go1 (apart_ P t cs off) = @Go1 _ (optN (tySize P t)) ⟨fun n => C.go (.agg (cs.extract off (off + n)))⟩ := part_t P C.go t cs off ha
theorem i_ia_sl (k : IntKind) (p : Int) (len cap : Nat) (hu : isSl (P.underlying t) = true) : Go1 (aindexAddr P t (.slice (some ⟨b, o, none⟩) len cap) (.int k p)) =
    (0 ≤ p ∧ p < (len : Int) ∧ @Go1 _ (optN (tySize P (elT (P.underlying t)))) ⟨fun n => C.go (.pointer (some ⟨b, o + p.toNat * n, none⟩))⟩) := ia_sl P C.go t b o k p len cap hu
theorem i_ia_arr (k : IntKind) (p : Int) (hu : isArr (P.underlying t) = true) : Go1 (aindexAddr P t (.pointer (some ⟨b, o, none⟩)) (.int k p)) =
    (0 ≤ p ∧ p < (arrN (P.underlying t) : Int) ∧ @Go1 _ (optN (tySize P (elT (P.underlying t)))) ⟨fun n => C.go (.pointer (some ⟨b, o + p.toNat * n, none⟩))⟩) := ia_arr P C.go t b o k p hu
theorem i_ix_arr (k : IntKind) (p : Int) (cs : Array Value) (hu : isArr (P.underlying t) = true) : Go1 (aindex P t (.agg cs) (.int k p)) =
    (0 ≤ p ∧ p < (arrN (P.underlying t) : Int) ∧ @Go1 _ (optN (tySize P (elT (P.underlying t)))) ⟨fun n => Go1 (apart_ P (elT (P.underlying t)) cs (p.toNat * n))⟩) := ix_arr P C.go t k p cs hu
theorem i_ix_str (k : IntKind) (p : Int) (s : ByteArray) (hu : P.underlying t = some .string) : Go1 (aindex P t (.string s) (.int k p)) = (0 ≤ p ∧ Go1 (optB s.toList[p.toNat]?)) := ix_str P C.go t k p s hu
theorem i_ex_tuple (vs : Array Value) : Go1 (aextract (.tuple vs) i) = Go1 (optK vs[i]?) := ex_tuple C.go i vs
theorem i_sliceK_str (s : ByteArray) (p q : Int) : Go1 (sliceK (.string s) (some q) (some p) none false none) = (0 ≤ q ∧ q ≤ p ∧ p ≤ s.size ∧ C.go (.string (s.extract q.toNat p.toNat))) := id rfl
theorem i_sliceK_sl (a : Option Addr) (len cap : Nat) (m p q : Int) (hx : Bool) : Go1 (sliceK (.slice a len cap) (some q) (some p) (some m) hx (some n)) = (0 ≤ q ∧ q ≤ p ∧ (hx = true → p ≤ m) ∧ m ≤ (cap : Int) ∧ C.go (sliceOf a q.toNat p.toNat m.toNat n)) := id rfl
theorem i_sl_str (s : ByteArray) (lo hi : Option Value) (hu : P.underlying t = some .string) : Go1 (aslice P t (.string s) lo hi none) = Go1 (sliceK (.string s) (bnd lo 0) (bnd hi s.size) none false none) := sl_str P C.go t s lo hi hu
theorem i_sl_sl (a : Option Addr) (len cap : Nat) (lo hi : Option Value) (hu : isSl (P.underlying t) = true) : Go1 (aslice P t (.slice a len cap) lo hi none) = Go1 (sliceK (.slice a len cap) (bnd lo 0) (bnd hi len) (some cap) hi.isSome (tySize P (elT (P.underlying t)))) := sl_sl P C.go t a len cap lo hi hu
theorem i_sl_sl3 (a : Option Addr) (len cap : Nat) (lo : Option Value) (hi mx : Value) (hu : isSl (P.underlying t) = true) : Go1 (aslice P t (.slice a len cap) lo (some hi) (some mx)) = Go1 (sliceK (.slice a len cap) (bnd lo 0) (bnd (some hi) len) (bnd (some mx) cap) true (tySize P (elT (P.underlying t)))) := sl_sl3 P C.go t a len cap lo hi mx hu
end
section
variable (P : Program) [K : CH] (t : TypeId) (h : Hp) (b o n i : Nat) (x y v : Value)
theorem i_cv_int (s' : TypeId) (k : IntKind) (p : Int) (hs : isInt (P.underlying s') = true) (hd : isInt (P.underlying t) = true) : Go1 (aconv P s' t (.int k p) h) = K.go (.int (intK (P.underlying t)) ((intK (P.underlying t)).wrap p)) h := by
  delta Go1; apply cv_int <;> assumption
theorem i_cv_bytes (s' : TypeId) (s : ByteArray) (hs : P.underlying s' = some .string) (hd : isSl (P.underlying t) = true) (he : P.underlying (elT (P.underlying t)) = some (.int .u8)) : Go1 (aconv P s' t (.string s) h) = ∀ cap, s.size ≤ cap → K.go (.slice (some ⟨h.n, 0, none⟩) s.size cap) ((h.put h.n (.cells (byteVals s ++ Array.replicate (cap - s.size) (.int .u8 0)) (elT (P.underlying t)) (cap, cap + 1))).to (h.n + 1)) := by
  delta Go1; apply cv_bytes <;> assumption
theorem i_stK (c : Array Value) (e : TypeId) (lo hi : Nat) (l : List Value) : Go1 (stK (some (.cells c e (lo, hi))) b o n l h) = (l.all Value.oneCell' = true ∧ o + n ≤ c.size ∧ (hi ≤ lo ∨ o + n ≤ lo) ∧ K.go undef (h.put b (.cells (writeL c o l) e (lo, hi)))) := id rfl
theorem i_acall (g : FuncId) (a c d : Array Value) : Go1 (acall P (.func (.func g) a d) c h) = Go1 (CallF P g (a ++ c ++ d) h) := id rfl
theorem i_sto (hn : tySize P t = some v.cells.size) : Go1 (astore P t (.pointer (some ⟨b, o, none⟩)) v h) = Go1 (stK (h.f b) b o v.cells.size v.cells.toList h) := sto P t h K.go b o v hn
theorem i_mk_slice (k k' : IntKind) (p q : Int) (hu : isSl (P.underlying t) = true) : Go1 (amake P t (.int k p) (.int k' q) h) = @Go1 _ (optN (tySize P (elT (P.underlying t)))) ⟨fun n => @Go1 _ (optN (tyBytes P (elT (P.underlying t)))) ⟨fun m => @Go1 _ (optK (tyZero P (elT (P.underlying t)))) ⟨fun z =>
    0 ≤ p ∧ p ≤ q ∧ (m : Int) * q ≤ 281474976710656 ∧ q ≤ 9223372036854775807 ∧ K.go (.slice (some ⟨h.n, 0, none⟩) p.toNat q.toNat) ((h.put h.n (.cells (madeCells z.cells (q.toNat * n)) (elT (P.underlying t)) (0, 0))).to (h.n + 1))⟩⟩⟩ := mk_slice P t h K.go k k' p q hu
theorem i_cv_str (s' : TypeId) (m c : Nat) (hs : isSl (P.underlying s') = true) (he : P.underlying (elT (P.underlying s')) = some (.int .u8)) (hd : P.underlying t = some .string) :
    Go1 (aconv P s' t (.slice (some ⟨b, o, none⟩) m c) h) = @Go1 _ (strK (h.f b) o m) ⟨fun v => K.go v h⟩ := cv_str P t h K.go b o s' m c hs he hd
end
theorem i_optN {n : Nat} [G : Cn (Nat → Prop)] : Go1 (optN (some n)) = G.go n := id rfl
end Go.Proofs.Ytdfeigkooeeeaaa
namespace Go.Proofs.Ytdfeigkooeeeaaa
open Go Go.RowKit
section
variable (P : Program) (ops : Array Oper) (l : List Oper) (ρ : Env) (h : Hp) (N R : EH) (X : Nat → EH) (K : KH) (C : Value → Prop) (d : Option Nat) (op : Op) (ty : TypeId) (pos : String) (af : Array Edge)
/-- A branch, both ways out of the rules' sight till it is known. -/
def brK (q : Bool) (D : Prop × Prop) : Prop := Br q D.1 D.2
def Two (p : Prop) (A B : Prop) : Prop := (p → A) ∧ (¬ p → B)
theorem brK_true [D : Cn (Prop × Prop)] : Go1 (brK true) = D.go.1 := by simp [Go1, brK, Br]
theorem brK_false [D : Cn (Prop × Prop)] : Go1 (brK false) = D.go.2 := by simp [Go1, brK, Br]
theorem brK_not (q : Bool) [D : Cn (Prop × Prop)] : Go1 (brK (!q)) = @Go1 _ (brK q) ⟨(D.go.2, D.go.1)⟩ := by cases q <;> simp [Go1, brK, Br]
theorem brK_sym (q : Bool) [D : Cn (Prop × Prop)] : Go1 (brK q) = Two (q = true) D.go.1 D.go.2 := by cases q <;> simp [Go1, brK, Br, Two]
theorem Two.mk {p A B : Prop} (h : p → A) (k : ¬ p → B) : Two p A B := ⟨h, k⟩
theorem brK_dec (p : Prop) [Decidable p] [D : Cn (Prop × Prop)] : Go1 (brK (decide p)) = Two p D.go.1 D.go.2 := by simp [Go1, brK, Br, Two]
def gs : List Oper → Nat → Option Nat
  | [], _ => none
  | o :: _, 0 => o.dst
  | _ :: l, n + 1 => gs l n
theorem gslot_list : ∀ (l : List Oper) (j : Nat), gslot l.toArray j = gs l j
  | [], j => by simp [gslot, gs]
  | o :: l, 0 => by simp [gslot, gs]
  | o :: l, j + 1 => by rw [gs, ← gslot_list l j]; simp [gslot]
theorem gs_zero (o : Oper) : gs (o :: l) 0 = o.dst := id rfl
theorem gs_succ (o : Oper) (n : Nat) : gs (o :: l) (n + 1) = gs l n := id rfl
/-- Operations under a guard: first the guard's slot, then what it holds, then the operation. -/
abbrev GD := Env × (Env → Prop) × (Env → Prop)
def guardV (t : Nat) (v : Value) (want : Bool) (D : GD) : Prop := match v with
  | .bool q => Br (q == want) (D.2.1 (D.1.upd t (.bool want))) (D.2.2 (D.1.upd t (.bool (!want))))
  | .tuple _ => D.2.2 D.1
  | _ => False
def guardO (t : Option Nat) (want : Bool) (D : GD) : Prop := match t with
  | none => False
  | some t => guardV t (D.1 t) want D
theorem guardO_some (t : Nat) (want : Bool) [D : Cn GD] : Go1 (guardO (some t) want) = Go1 (guardV t (D.go.1 t) want) := id rfl
theorem guardV_bool (t : Nat) (q want : Bool) [D : Cn GD] : Go1 (guardV t (.bool q) want) = @Go1 _ (brK (q == want)) ⟨(D.go.2.1 (D.go.1.upd t (.bool want)), D.go.2.2 (D.go.1.upd t (.bool (!want))))⟩ := id rfl
theorem guardV_undef (t : Nat) (want : Bool) [D : Cn GD] : Go1 (guardV t undef want) = D.go.2.2 D.go.1 := id rfl
theorem guardV_tuple (t : Nat) (vs : Array Value) (want : Bool) [D : Cn GD] : Go1 (guardV t (.tuple vs) want) = D.go.2.2 D.go.1 := id rfl
theorem aops_nil : aops P ops [] ρ h N = N ρ h := id rfl
theorem aops_plain : aops P ops (⟨d, op, ty, pos, af, none⟩ :: l) ρ h N = astep P op ρ h fun v h' => aops P ops l (ρ.put d v) h' N := id rfl
theorem aops_guard (j : Nat) (want : Bool) : aops P ops (⟨d, op, ty, pos, af, some (j, want)⟩ :: l) ρ h N =
    @Go1 _ (guardO (gslot ops j) want) ⟨(ρ, (fun ρ => astep P op ρ h fun v h' => aops P ops l (ρ.put d v) h' N), (fun ρ => aops P ops l (ρ.put d undef) h N))⟩ := by
  unfold Go1 guardO guardV
  rw [aops]
  dsimp only
  cases gslot ops j with
  | none => rfl
  | some t => cases ht : ρ t <;> simp only [ht]
theorem aopsQ_nil (C : Env → Prop) : aopsQ P ops h [] ρ C = C ρ := id rfl
theorem aopsQ_plain (C : Env → Prop) : aopsQ P ops h (⟨d, op, ty, pos, af, none⟩ :: l) ρ C = aqstep P op ρ h fun v => aopsQ P ops h l (ρ.put d v) C := id rfl
theorem aopsQ_guard (C : Env → Prop) (j : Nat) (want : Bool) : aopsQ P ops h (⟨d, op, ty, pos, af, some (j, want)⟩ :: l) ρ C =
    @Go1 _ (guardO (gslot ops j) want) ⟨(ρ, (fun ρ => aqstep P op ρ h fun v => aopsQ P ops h l (ρ.put d v) C), (fun ρ => aopsQ P ops h l (ρ.put d undef) C))⟩ := by
  unfold Go1 guardO guardV
  rw [aopsQ]
  dsimp only
  cases gslot ops j with
  | none => rfl
  | some t => cases ht : ρ t <;> simp only [ht]
theorem avc_skip : avc P .skip N R X ρ h = N ρ h := id rfl
theorem avc_region (id' : Nat) : avc P (.region id' l.toArray false) N R X ρ h = aops P l.toArray l ρ h N := id rfl
/-- A region that draws: its order does not matter. -/
def Draw (P : Program) (D : List Oper × Prop × Prop × Prop) : Prop := (Region.lexB .any D.1.toArray = true ∧ D.2.1) ∨ (swapB P D.1.toArray = true ∧ D.2.2.1) ∨ D.2.2.2
theorem avc_draw (id' : Nat) : avc P (.region id' l.toArray true) N R X ρ h = @Go1 _ (Draw P) ⟨(l, aopsQ P l.toArray h l ρ fun ρ' => ∀ n, h.n ≤ n → N ρ' (h.to n), aops P l.toArray l ρ h N, AnyI P l.toArray ρ h N)⟩ := id rfl
theorem Draw.quiet {P : Program} {D : Cn (List Oper × Prop × Prop × Prop)} (h : Region.lexB .any D.go.1.toArray = true) (k : D.go.2.1) : @Go1 _ (Draw P) D := .inl ⟨h, k⟩
theorem Draw.swap {P : Program} {D : Cn (List Oper × Prop × Prop × Prop)} (h : swapB P D.go.1.toArray = true) (k : D.go.2.2.1) : @Go1 _ (Draw P) D := .inr (.inl ⟨h, k⟩)
theorem Draw.any {P : Program} {D : Cn (List Oper × Prop × Prop × Prop)} (k : D.go.2.2.2) : @Go1 _ (Draw P) D := .inr (.inr k)
theorem avc_seq (a b : Code) : avc P (.seq a b) N R X ρ h = avc P a (fun ρ' h' => avc P b N R X ρ' h') R X ρ h := id rfl
def condK (v : Value) (D : Prop × Prop) : Prop := match v with
  | .bool q => Br q D.1 D.2
  | _ => False
theorem condK_bool (q : Bool) [D : Cn (Prop × Prop)] : Go1 (condK (.bool q)) = Go1 (brK q) := id rfl
theorem avc_cond (c : Operand) (a b : Code) : avc P (.cond c a b) N R X ρ h = @Go1 _ (condK (ρ.ev c)) ⟨(avc P a N R X ρ h, avc P b N R X ρ h)⟩ := id rfl
theorem avc_block (id' : Nat) (c : Code) : avc P (.block id' c) N R X ρ h = avc P c N R (fun i ρ' h' => if i = id' then N ρ' h' else X i ρ' h') ρ h := id rfl
/-- A loop: its body, its slots and the frame are out of the rules' sight. -/
abbrev LD := (EH → EH) × List Nat × Env
def LoopI (h : Hp) (D : LD) : Prop := LoopG D.1 D.2.1 D.2.2 h
theorem avc_loop (c : Code) : avc P (.loop c) N R X ρ h = @Go1 _ (LoopI h) ⟨((fun N' ρ' h' => avc P c N' R X ρ' h'), codeDsts c, ρ)⟩ := id rfl
theorem avc_exit (i : Nat) : avc P (.exit i) N R X ρ h = X i ρ h := id rfl
theorem avc_ret : avc P .ret N R X ρ h = R ρ h := id rfl
theorem beq_t (q : Bool) : (q == true) = q := by cases q <;> rfl
theorem beq_f (q : Bool) : (q == false) = !q := by cases q <;> rfl
theorem st_move (x : Operand) : astep P (.move x) ρ h K = K (ρ.ev x) h := id rfl
theorem st_assign (x : Operand) : astep P (.assign x) ρ h K = K (ρ.ev x) h := id rfl
def pickK (v a b : Value) (C : Value → Prop) : Prop := match v with
  | .bool q => C (if q = true then a else b)
  | _ => False
theorem pickK_true (a b : Value) [C : CV] : Go1 (pickK (.bool true) a b) = C.go a := id rfl
theorem pickK_false (a b : Value) [C : CV] : Go1 (pickK (.bool false) a b) = C.go b := id rfl
theorem pickK_and (q : Bool) (x : Bool) [C : CV] : Go1 (pickK (.bool q) (.bool x) (.bool false)) = C.go (.bool (q && x)) := by cases q <;> rfl
theorem st_pick (c a b : Operand) : astep P (.pick c a b) ρ h K = @Go1 _ (pickK (ρ.ev c) (ρ.ev a) (ρ.ev b)) ⟨fun v => K v h⟩ := id rfl
def buildK (r : Option (Array Value)) (C : Value → Prop) : Prop := match r with
  | some r => C (.agg r)
  | none => False
theorem buildK_some (r : Array Value) [C : CV] : Go1 (buildK (some r)) = C.go (.agg r) := id rfl
theorem st_build (t : TypeId) (ps : Array (Nat × Operand)) : astep P (.build t ps) ρ h K = @Go1 _ (buildK (tyBuild P t (ps.toList.map fun x => (x.1, ρ.ev x.2)))) ⟨fun v => K v h⟩ := id rfl
theorem st_load (t : TypeId) (a : Operand) : astep P (.load t a) ρ h K = @Go1 _ (aload P t (ρ.ev a) h) ⟨fun v => K v h⟩ := id rfl
def nilK (v : Value) (C : Value → Prop) : Prop := match v with
  | .pointer (some a) => C (.pointer (some a))
  | .func (.func f) a b => C (.func (.func f) a b)
  | _ => False
theorem nilK_ptr (a : Addr) [C : CV] : Go1 (nilK (.pointer (some a))) = C.go (.pointer (some a)) := id rfl
theorem nilK_fun (f : FuncId) (a b : Array Value) [C : CV] : Go1 (nilK (.func (.func f) a b)) = C.go (.func (.func f) a b) := id rfl
theorem st_nil (x : Operand) : astep P (.nilCheck x) ρ h K = @Go1 _ (nilK (ρ.ev x)) ⟨fun v => K v h⟩ := id rfl
theorem bH_int (o : BinOp) (t : TypeId) (k k' : IntKind) (a b : Int) : abinH P o t (.int k a) (.int k' b) h = abin P o t (.int k a) (.int k' b) := id rfl
theorem bH_str (o : BinOp) (t : TypeId) (a b : ByteArray) : abinH P o t (.string a) (.string b) h = abin P o t (.string a) (.string b) := id rfl
theorem bH_bool (o : BinOp) (t : TypeId) (a b : Bool) : abinH P o t (.bool a) (.bool b) h = abin P o t (.bool a) (.bool b) := id rfl
theorem bH_nil (o : BinOp) (t : TypeId) (a : Option Addr) : abinH P o t (.pointer a) (.pointer none) h = abin P o t (.pointer a) (.pointer none) := by cases a <;> rfl
theorem bH_sl (o : BinOp) (t : TypeId) (a b : Option Addr) (n c m d : Nat) : abinH P o t (.slice a n c) (.slice b m d) h = abin P o t (.slice a n c) (.slice b m d) := id rfl
theorem bH_agg (o : BinOp) (t : TypeId) (a b : Array Value) : abinH P o t (.agg a) (.agg b) h = abin P o t (.agg a) (.agg b) := id rfl
attribute [go_sem] bH_int bH_str bH_bool bH_nil bH_sl bH_agg
theorem st_bin (o : BinOp) (t t' : TypeId) (x y : Operand) : astep P (.binOp o t x y t') ρ h K = @Go1 _ (abinH P o t (ρ.ev x) (ρ.ev y) h) ⟨fun v => K v h⟩ := id rfl
theorem st_un (o : UnOp) (t : TypeId) (x : Operand) : astep P (.unOp o t x) ρ h K = @Go1 _ (aun o (ρ.ev x)) ⟨fun v => K v h⟩ := id rfl
theorem st_makeFunc (fn : Fn) (a b : Array Operand) : astep P (.makeFunc fn a b) ρ h K = K (.func fn (a.map ρ.ev) (b.map ρ.ev)) h := id rfl
theorem st_slice (t : TypeId) (x : Operand) (lo hi mx : Option Operand) : astep P (.slice t x lo hi mx) ρ h K = @Go1 _ (aslice P t (ρ.ev x) (lo.map ρ.ev) (hi.map ρ.ev) (mx.map ρ.ev)) ⟨fun v => K v h⟩ := id rfl
theorem st_fieldAddr (s : TypeId) (x : Operand) (i : Nat) : astep P (.fieldAddr s x i) ρ h K = @Go1 _ (afieldAddr P s (ρ.ev x) i) ⟨fun v => K v h⟩ := id rfl
theorem st_field (s : TypeId) (x : Operand) (i : Nat) : astep P (.field s x i) ρ h K = @Go1 _ (afield P s (ρ.ev x) i) ⟨fun v => K v h⟩ := id rfl
theorem st_indexAddr (t : TypeId) (x i : Operand) : astep P (.indexAddr t x i) ρ h K = @Go1 _ (aindexAddr P t (ρ.ev x) (ρ.ev i)) ⟨fun v => K v h⟩ := id rfl
theorem st_index (t : TypeId) (x i : Operand) : astep P (.index t x i) ρ h K = @Go1 _ (aindex P t (ρ.ev x) (ρ.ev i)) ⟨fun v => K v h⟩ := id rfl
theorem st_extract (x : Operand) (i : Nat) : astep P (.extract x i) ρ h K = @Go1 _ (aextract (ρ.ev x) i) ⟨fun v => K v h⟩ := id rfl
theorem st_lookup (t : TypeId) (m k : Operand) (ok : Bool) : astep P (.lookup t m k ok) ρ h K = @Go1 _ (optK (lookupR P t (ρ.ev m) (ρ.ev k) ok h)) ⟨fun v => K v h⟩ := id rfl
theorem qs_lookup (t : TypeId) (m k : Operand) (ok : Bool) : aqstep P (.lookup t m k ok) ρ h C = @Go1 _ (optK (lookupR P t (ρ.ev m) (ρ.ev k) ok h)) ⟨C⟩ := id rfl
def optH (r : Option Hp) (K : KH) : Prop := match r with
  | some h => K undef h
  | none => False
theorem optH_some (g : Hp) [K : CH] : Go1 (optH (some g)) = K.go undef g := id rfl
theorem st_makeMap (t : TypeId) : astep P (.makeMap t none) ρ h K = K (.map (some h.n)) ((h.put h.n (.map #[] 0)).to (h.n + 1)) := id rfl
theorem st_mapUpd (t : TypeId) (m k x : Operand) : astep P (.mapUpdate t m k x) ρ h K = @Go1 _ (optH (mapUpdR P t (ρ.ev m) (ρ.ev k) (ρ.ev x) h)) ⟨K⟩ := id rfl
theorem st_insert (t : TypeId) (m k x : Operand) : astep P (.insert t m k x) ρ h K = @Go1 _ (optH (mapUpdR P t (ρ.ev m) (ρ.ev k) (ρ.ev x) h)) ⟨K⟩ := id rfl
def mapO (o : Option Obj) : Option (List MapEntry × Nat) := match o with
  | some (.map es cl) => some (es.toList, cl)
  | _ => none
theorem mapO_map (es : Array MapEntry) (cl : Nat) : mapO (some (.map es cl)) = some (es.toList, cl) := rfl
theorem mapRow_eq (r : Nat) : mapRow h (.map (some r)) = (mapO (h.f r)).map (·.1) := by
  simp only [mapRow, mapO]
  generalize h.f r = o
  cases o with
  | none => rfl
  | some o => cases o <;> rfl
theorem mapUpdR_eq (t : TypeId) (r : Nat) (k v : Value) : mapUpdR P t (.map (some r)) k v h = (mapO (h.f r)).bind fun q => (mapKind P t).bind fun x => (mfind x.2.1 k q.1 0).map fun z => h.put r (putEs k v q.1 q.2 z) := by
  simp only [mapUpdR, mapO]
  generalize h.f r = o
  cases o with
  | none => rfl
  | some o => cases o <;> rfl
theorem mfind_nil (kd : TypeDesc) (k : Value) (i : Nat) : mfind kd k [] i = some none := rfl
def pickF (q : Option Bool) (a b : Option (Option (Nat × Value))) : Option (Option (Nat × Value)) := match q with
  | some true => a
  | some false => b
  | none => none
theorem pickF_t (a b : Option (Option (Nat × Value))) : pickF (some true) a b = a := rfl
theorem pickF_f (a b : Option (Option (Nat × Value))) : pickF (some false) a b = b := rfl
theorem mfind_cons (kd : TypeDesc) (k : Value) (i : Nat) (e : MapEntry) (es : List MapEntry) : mfind kd k (e :: es) i = pickF (Instr.sameNow kd k e.key) (some (some (i, e.val))) (mfind kd k es (i + 1)) := by
  simp only [mfind, pickF]
  cases Instr.sameNow kd k e.key with
  | none => rfl
  | some q => cases q <;> rfl
theorem same_int (k : IntKind) (a b : Int) (kk : IntKind) : Instr.sameNow (.int kk) (.int k a) (.int k b) = some (decide (a = b)) := by
  simp [Instr.sameNow]
  by_cases h : a = b <;> simp [h]
theorem same_str (a b : ByteArray) : Instr.sameNow .string (.string a) (.string b) = some (a == b) := rfl
theorem st_len (t : TypeId) (x : Operand) : astep P (.call ⟨.builtin .len, #[x], #[t]⟩) ρ h K = @Go1 _ (alen P t (ρ.ev x) h) ⟨fun v => K v h⟩ := id rfl
theorem st_min (ts : Array TypeId) (x y : Operand) : astep P (.call ⟨.builtin .min, #[x, y], ts⟩) ρ h K = @Go1 _ (aminmax false (ρ.ev x) (ρ.ev y)) ⟨fun v => K v h⟩ := id rfl
theorem st_max (ts : Array TypeId) (x y : Operand) : astep P (.call ⟨.builtin .max, #[x, y], ts⟩) ρ h K = @Go1 _ (aminmax true (ρ.ev x) (ρ.ev y)) ⟨fun v => K v h⟩ := id rfl
theorem st_alloc (e : TypeId) : astep P (.alloc e) ρ h K = @Go1 _ (optK (tyZero P e)) ⟨fun z => K (.pointer (some ⟨h.n, 0, none⟩)) ((h.put h.n (.cells z.cells e (0, 0))).to (h.n + 1))⟩ := by
  show aalloc P e h K = _
  simp only [aalloc, Go1, optK]
  cases tyZero P e <;> rfl
theorem st_box (e : TypeId) (x : Operand) : astep P (.box e x) ρ h K = K (.pointer (some ⟨h.n, 0, none⟩)) ((h.put h.n (.cells (ρ.ev x).cells e (0, 0))).to (h.n + 1)) := id rfl
def buildSK (r : Option (TypeId × Array Value)) (len : Nat) (h : Hp) (K : KH) : Prop := match r with
  | some (e, r) => K (.slice (some ⟨h.n, 0, none⟩) len len) ((h.put h.n (.cells r e (0, 0))).to (h.n + 1))
  | none => False
theorem buildSK_some (e : TypeId) (r : Array Value) (n : Nat) [K : CH] : Go1 (buildSK (some (e, r)) n h) = K.go (.slice (some ⟨h.n, 0, none⟩) n n) ((h.put h.n (.cells r e (0, 0))).to (h.n + 1)) := id rfl
theorem st_buildSlice (t : TypeId) (n : Nat) (ps : Array (Nat × Operand)) : astep P (.buildSlice t n ps) ρ h K = @Go1 _ (buildSK (tyBuildSlice P t n (ps.toList.map fun x => (x.1, ρ.ev x.2))) n h) ⟨K⟩ := by
  show (match tyBuildSlice P t n (ps.toList.map fun x => (x.1, ρ.ev x.2)) with
    | some (e, r) => K (.slice (some ⟨h.n, 0, none⟩) n n) ((h.put h.n (.cells r e (0, 0))).to (h.n + 1))
    | none => False) = _
  unfold Go1 buildSK
  generalize tyBuildSlice P t n (ps.toList.map fun x => (x.1, ρ.ev x.2)) = r
  cases r <;> rfl
theorem st_store (t : TypeId) (a x : Operand) : astep P (.store t a x) ρ h K = @Go1 _ (astore P t (ρ.ev a) (ρ.ev x) h) ⟨K⟩ := id rfl
theorem st_convert (s t : TypeId) (x : Operand) : astep P (.convert s t x) ρ h K = @Go1 _ (aconv P s t (ρ.ev x) h) ⟨K⟩ := id rfl
theorem st_make (t : TypeId) (x y : Operand) : astep P (.makeSlice t x y) ρ h K = @Go1 _ (amake P t (ρ.ev x) (ρ.ev y) h) ⟨K⟩ := id rfl
def appW (P : Program) (t u : TypeId) (s x : Value) (h : Hp) (K : KH) : Prop := aappend P t u s x h (Weak K)
theorem st_append (t u : TypeId) (s x : Operand) : astep P (.call ⟨.builtin .append, #[s, x], #[t, u]⟩) ρ h K = @Go1 _ (appW P t u (ρ.ev s) (ρ.ev x) h) ⟨K⟩ := id rfl
theorem st_copy (t u : TypeId) (s x : Operand) : astep P (.call ⟨.builtin .copy, #[s, x], #[t, u]⟩) ρ h K = @Go1 _ (acopy P t (ρ.ev s) (ρ.ev x) h) ⟨K⟩ := id rfl
theorem st_call (f : Operand) (args : Array Operand) (ts : Array TypeId) : astep P (.call ⟨.value f, args, ts⟩) ρ h K = @Go1 _ (acall P (ρ.ev f) (args.map ρ.ev) h) ⟨K⟩ := id rfl
theorem qs_call (f : Operand) (args : Array Operand) (ts : Array TypeId) : aqstep P (.call ⟨.value f, args, ts⟩) ρ h C = @Go1 _ (qcall P (ρ.ev f) (args.map ρ.ev) h) ⟨C⟩ := id rfl
theorem qs_move (x : Operand) : aqstep P (.move x) ρ h C = C (ρ.ev x) := id rfl
theorem qs_assign (x : Operand) : aqstep P (.assign x) ρ h C = C (ρ.ev x) := id rfl
theorem qs_pick (c a b : Operand) : aqstep P (.pick c a b) ρ h C = @Go1 _ (pickK (ρ.ev c) (ρ.ev a) (ρ.ev b)) ⟨C⟩ := id rfl
theorem qs_build (t : TypeId) (ps : Array (Nat × Operand)) : aqstep P (.build t ps) ρ h C = @Go1 _ (buildK (tyBuild P t (ps.toList.map fun x => (x.1, ρ.ev x.2)))) ⟨C⟩ := id rfl
theorem qs_load (t : TypeId) (a : Operand) : aqstep P (.load t a) ρ h C = @Go1 _ (aload P t (ρ.ev a) h) ⟨C⟩ := id rfl
theorem qs_nil (x : Operand) : aqstep P (.nilCheck x) ρ h C = @Go1 _ (nilK (ρ.ev x)) ⟨C⟩ := id rfl
theorem qs_bin (o : BinOp) (t t' : TypeId) (x y : Operand) : aqstep P (.binOp o t x y t') ρ h C = @Go1 _ (abinH P o t (ρ.ev x) (ρ.ev y) h) ⟨C⟩ := id rfl
theorem qs_un (o : UnOp) (t : TypeId) (x : Operand) : aqstep P (.unOp o t x) ρ h C = @Go1 _ (aun o (ρ.ev x)) ⟨C⟩ := id rfl
theorem qs_makeFunc (fn : Fn) (a b : Array Operand) : aqstep P (.makeFunc fn a b) ρ h C = C (.func fn (a.map ρ.ev) (b.map ρ.ev)) := id rfl
theorem qs_slice (t : TypeId) (x : Operand) (lo hi mx : Option Operand) : aqstep P (.slice t x lo hi mx) ρ h C = @Go1 _ (aslice P t (ρ.ev x) (lo.map ρ.ev) (hi.map ρ.ev) (mx.map ρ.ev)) ⟨C⟩ := id rfl
theorem qs_fieldAddr (s : TypeId) (x : Operand) (i : Nat) : aqstep P (.fieldAddr s x i) ρ h C = @Go1 _ (afieldAddr P s (ρ.ev x) i) ⟨C⟩ := id rfl
theorem qs_field (s : TypeId) (x : Operand) (i : Nat) : aqstep P (.field s x i) ρ h C = @Go1 _ (afield P s (ρ.ev x) i) ⟨C⟩ := id rfl
theorem qs_indexAddr (t : TypeId) (x i : Operand) : aqstep P (.indexAddr t x i) ρ h C = @Go1 _ (aindexAddr P t (ρ.ev x) (ρ.ev i)) ⟨C⟩ := id rfl
theorem qs_index (t : TypeId) (x i : Operand) : aqstep P (.index t x i) ρ h C = @Go1 _ (aindex P t (ρ.ev x) (ρ.ev i)) ⟨C⟩ := id rfl
theorem qs_extract (x : Operand) (i : Nat) : aqstep P (.extract x i) ρ h C = @Go1 _ (aextract (ρ.ev x) i) ⟨C⟩ := id rfl
theorem qs_len (t : TypeId) (x : Operand) : aqstep P (.call ⟨.builtin .len, #[x], #[t]⟩) ρ h C = @Go1 _ (alen P t (ρ.ev x) h) ⟨C⟩ := id rfl
theorem qs_min (ts : Array TypeId) (x y : Operand) : aqstep P (.call ⟨.builtin .min, #[x, y], ts⟩) ρ h C = @Go1 _ (aminmax false (ρ.ev x) (ρ.ev y)) ⟨C⟩ := id rfl
theorem qs_max (ts : Array TypeId) (x y : Operand) : aqstep P (.call ⟨.builtin .max, #[x, y], ts⟩) ρ h C = @Go1 _ (aminmax true (ρ.ev x) (ρ.ev y)) ⟨C⟩ := id rfl
theorem qs_convert (s t : TypeId) (x : Operand) : aqstep P (.convert s t x) ρ h C = @Go1 _ (qconv P s t (ρ.ev x) h) ⟨C⟩ := id rfl
theorem re_0 : resK P [] [] ρ h K = Fin K (.tuple #[]) h := id rfl
theorem re_1 (t : Nat) : resK P [.tmp t] [] ρ h K = Fin K (ρ t) h := id rfl
theorem re_2 (t u : Nat) : resK P [.tmp t, .tmp u] [] ρ h K = Fin K (.tuple #[ρ t, ρ u]) h := id rfl
theorem re_3 (t u v : Nat) : resK P [.tmp t, .tmp u, .tmp v] [] ρ h K = Fin K (.tuple #[ρ t, ρ u, ρ v]) h := id rfl
theorem en_nil (k : Nat) : entryEnv [] k = fun _ => undef := id rfl
theorem en_cons (v : Value) (vs : List Value) (k : Nat) : entryEnv (v :: vs) k = (entryEnv vs (k + 1)).upd k v := id rfl
theorem upd_lit (v : Value) (d t : Nat) (h : (t == d) = false) : ρ.upd d v t = ρ t := upd_ne ρ d v t (by simpa using h)
end
attribute [go_sem ↓] upd_same upd_lit put_some put_none ev_tmp ev_const ev_func ev_global
attribute [go_sem ↓] aops_nil aops_plain aops_guard aopsQ_nil aopsQ_plain aopsQ_guard guardV_undef avc_skip avc_region avc_draw avc_seq avc_cond avc_block avc_loop avc_exit avc_ret
attribute [go_sem ↓] st_move st_assign st_pick st_build st_load st_nil st_bin st_un st_makeFunc st_slice st_fieldAddr st_field st_indexAddr st_index st_extract st_len st_min st_max st_alloc st_box st_buildSlice st_store st_convert st_make st_append st_copy st_call qs_call
attribute [go_sem ↓] qs_move qs_assign qs_pick qs_build qs_load qs_nil qs_bin qs_un qs_makeFunc qs_slice qs_fieldAddr qs_field qs_indexAddr qs_index qs_extract qs_len qs_min qs_max qs_convert re_0 re_1 re_2 re_3 en_nil en_cons
attribute [go_sem] guardO_some guardV_bool guardV_undef guardV_tuple brK_true brK_false brK_not brK_dec condK_bool pickK_true pickK_false buildK_some nilK_ptr nilK_fun buildSK_some
attribute [go_sem] i_ab_add i_ab_sub i_ab_mul i_ab_quo i_ab_rem i_ab_and i_ab_or i_ab_xor i_ab_andNot i_ab_shl i_ab_shr i_ab_eql i_ab_neq i_ab_lss i_ab_leq i_ab_gtr i_ab_geq i_ab_sadd i_ab_seql i_ab_sneq i_ab_slss i_ab_sleq i_ab_sgtr i_ab_sgeq i_ab_beql i_ab_bneq i_ab_peql i_ab_pneq i_ab_sleql i_ab_slneq i_au_not i_au_neg i_au_xor i_le_str i_le_sl i_le_arr i_mm_min i_mm_max i_cv_int i_cvq_int i_cv_bytes i_optK i_optL i_optS i_optB i_optN i_cellK i_aggK i_strK i_stK i_acall i_qcall i_ld_cell i_ld_agg i_sto i_fa_ptr i_f_agg i_part_f i_part_t i_ia_sl i_ia_arr i_ix_arr i_ix_str i_ex_tuple i_sliceK_str i_sliceK_sl i_sl_str i_sl_sl i_sl_sl3 i_mk_slice i_cv_str
attribute [go_sem] bnd_none bnd_int gslot_list gs_zero gs_succ beq_t beq_f put_n to_n to_f to_put to_to put_f_same isSl isArr isPtr isInt elT arrN intK tyBuild tyBuildSlice fillP structPlaces writeL cellsL copies bytesOf
attribute [go_sem ↓] st_lookup qs_lookup st_makeMap st_mapUpd st_insert
attribute [go_sem] optH_some mapO_map mapRow_eq mapUpdR_eq mfind_nil pickF_t pickF_f mfind_cons same_int same_str lookupR found putEs chg
attribute [go_sem low] brK_sym
attribute [go_sem] Bool.not_not true_or or_true false_or or_false Nat.le_refl Nat.zero_le put_put List.set_cons_zero if_true if_false Int.le_refl
attribute [go_sem] Bool.not_true Bool.not_false List.map_cons List.map_nil List.map_toArray List.append_toArray List.nil_append List.cons_append List.append_nil Option.map_some Option.map_none Option.isSome_some Option.isSome_none Option.isNone_some Option.isNone_none
attribute [go_sem] List.getElem?_toArray List.getElem?_cons_zero List.getElem?_cons_succ Option.bind_some Value.cells List.size_toArray List.length_cons List.length_nil List.all_cons List.all_nil Value.oneCell' Bool.and_true Bool.true_and true_and and_true eq_self List.setIfInBounds_toArray List.set_cons_zero List.set_cons_succ
/-- A call of a Go function out of what its code is reckoned to. -/
theorem go_of {P : Program} (hm : P.follows .mixedOrders = true) {f : FuncId} {fn : Func} {c : Code} (hf : P.funcs[f]? = some fn) (hb : fn.body = some c) {n : Nat} (hn : fn.ntmps = n) {rs : Array ResultVar} (hr : fn.results = rs)
    (hc : isCall P f = true) (hok : ((codeDsts c).all fun t => decide (t < n)) = true) {args : Array Value} (hl : args.size ≤ n) {h : Hp} [K : CH]
    (hk : Wf h → avc P c (fun ρ g => resK P rs.toList [] ρ g K.go) (fun ρ g => resK P rs.toList [] ρ g K.go) (fun _ _ _ => False) (entryEnv args.toList 0) h) : Go1 (CallF P f args h) :=
  ⟨hc, callG_of hm hf hb hn hr hok hl hk⟩
/-- A contract whose value does not hang on how many blocks there are serves in a region that draws. -/
theorem QC.of {P : Program} {f : FuncId} {args : Array Value} {h : Hp} (v : Value) [C : CV] (hc : ∀ (n : Nat), h.n ≤ n → ∀ [K : CH], (∀ k, n ≤ k → K.go v (h.to k)) → Go1 (CallF P f args (h.to n))) (hv : C.go v) : Go1 (QC P f args h) :=
  ⟨v, ⟨(hc h.n (Nat.le_refl _) (K := ⟨fun _ _ => True⟩) (fun _ _ => trivial)).1, fun n hn => (hc n hn (K := ⟨fun u g => u = v ∧ ∃ k, n ≤ k ∧ g = h.to k⟩) fun k hk => ⟨rfl, k, hk, rfl⟩).2⟩, hv⟩
/-- A loop: what holds at the head of each round, and what each round lowers. -/
theorem LoopI.rule {h : Hp} {D : Cn LD} (ds : List Nat) (hds : (D.go.2.1.all fun t => ds.contains t) = true) (I : EH) (μ : Env → Hp → Nat) (h0 : I D.go.2.2 h)
    (hstep : ∀ ρ' h', I ρ' h' → Wf h' → (∀ t, ds.contains t = false → ρ' t = D.go.2.2 t) → D.go.1 (fun ρ2 h2 => ∃ g, Sub g h2 ∧ I ρ2 g ∧ μ ρ2 g < μ ρ' h') ρ' h') : @Go1 _ (LoopI h) D :=
  ⟨I, μ, h0, fun ρ' h' hI hw hk => hstep ρ' h' hI hw fun t ht => hk t (by
    cases e : D.go.2.1.contains t with
    | false => rfl
    | true =>
      have := List.all_eq_true.1 hds t (by simpa using e)
      rw [this] at ht; cases ht)⟩
def eqK (op : BinOp) (r : Option Bool) (C : Value → Prop) : Prop := match op, r with
  | .eql, some q => C (.bool q)
  | .neq, some q => C (.bool (!q))
  | _, _ => False
theorem i_ab_agg (P : Program) (op : BinOp) (t : TypeId) (xs ys : Array Value) [C : CV] : Go1 (abin P op t (.agg xs) (.agg ys)) = Go1 (eqK op (aggEq P t xs ys)) := id rfl
theorem eqK_eql (q : Bool) [C : CV] : Go1 (eqK .eql (some q)) = C.go (.bool q) := id rfl
theorem eqK_neq (q : Bool) [C : CV] : Go1 (eqK .neq (some q)) = C.go (.bool (!q)) := id rfl
attribute [go_sem] i_ab_agg eqK_eql eqK_neq aggEq planEq
theorem wrap_i64_of {x : Int} (h1 : -9223372036854775808 ≤ x) (h2 : x ≤ 9223372036854775807) : IntKind.i64.wrap x = x := by
  rw [IntKind.wrap_i64]; omega
end Go.Proofs.Ytdfeigkooeeeaaa
namespace Go.Proofs.Ytdfeigkooeeeaaa
open Go Go.RowKit
theorem Fin.sub {K : KH} {v : Value} {g h : Hp} (hs : Sub g h) (k : K v g) : Fin K v h := ⟨g, hs, k⟩
theorem Wf.none {h : Hp} (hw : Wf h) {b : Nat} (hb : h.n ≤ b) : h.f b = none := by
  cases e : h.f b with
  | none => rfl
  | some o => exact absurd (hw b o e) (by omega)
theorem Sub.put_new {g h : Hp} (hs : Sub g h) {b : Nat} (hb : g.f b = none) (o : Obj) : Sub g (h.put b o) := ⟨hs.1, fun x y e => by
  rw [put_f_ne _ _ _ _ (fun q => by rw [q, hb] at e; cases e)]
  exact hs.2 x y e⟩
theorem Sub.put_both {g h : Hp} (hs : Sub g h) (b : Nat) (o : Obj) : Sub (g.put b o) (h.put b o) := ⟨hs.1, fun x y e => by
  by_cases q : x = b
  · subst q; rwa [put_f_same] at e ⊢
  · rw [put_f_ne _ _ _ _ q] at e ⊢; exact hs.2 x y e⟩
theorem put_f_old {g : Hp} {b n : Nat} {o : Obj} (hb : b < n) : (g.put n o).f b = g.f b := put_f_ne _ _ _ _ (by omega)
theorem put_f_old' {g : Hp} {b n k : Nat} {o : Obj} (hb : b < n) : (g.put (n + k) o).f b = g.f b := put_f_ne _ _ _ _ (by omega)
theorem put_f_new {g : Hp} {b n : Nat} {o : Obj} (hb : b < n) : (g.put b o).f n = g.f n := put_f_ne _ _ _ _ (by omega)
theorem put_f_new' {g : Hp} {b n k : Nat} {o : Obj} (hb : b < n) : (g.put b o).f (n + k) = g.f (n + k) := put_f_ne _ _ _ _ (by omega)
theorem put_f_up (g : Hp) (n k : Nat) (o : Obj) : (g.put n o).f (n + (k + 1)) = g.f (n + (k + 1)) := put_f_ne _ _ _ _ (by omega)
theorem put_f_dn (g : Hp) (n k : Nat) (o : Obj) : (g.put (n + (k + 1)) o).f n = g.f n := put_f_ne _ _ _ _ (by omega)
theorem put_f_add (g : Hp) (n j k : Nat) (o : Obj) (hjk : (j == k) = false) : (g.put (n + j) o).f (n + k) = g.f (n + k) := put_f_ne _ _ _ _ (by simp at hjk; omega)
theorem put_f_add0 (g : Hp) (n j : Nat) (o : Obj) (hj : (j == 0) = false) : (g.put (n + j) o).f n = g.f n := put_f_ne _ _ _ _ (by simp at hj; omega)
theorem put_f_0add (g : Hp) (n j : Nat) (o : Obj) (hj : (j == 0) = false) : (g.put n o).f (n + j) = g.f (n + j) := put_f_ne _ _ _ _ (by simp at hj; omega)
theorem str_eq (a b : ByteArray) : ((a.toList == b.toList) = true) = (a = b) := by
  rw [beq_iff_eq, ByteArray.toList_eq, ByteArray.toList_eq]
  refine propext ⟨fun h => ?_, fun h => by rw [h]⟩
  obtain ⟨⟨a⟩⟩ := a
  obtain ⟨⟨b⟩⟩ := b
  exact congrArg (fun l => ByteArray.mk ⟨l⟩) h
attribute [go_sem] str_eq
/-! ### long lists of operations, laid in parts -/
section
variable (P : Program) (ops : Array Oper) (o : Oper) (l r s : List Oper) (ρ : Env) (h : Hp)
theorem aops_app (N : EH) : aops P ops (List.append (o :: l) r) ρ h N = aops P ops (o :: List.append l r) ρ h N := id rfl
theorem aops_app0 (N : EH) : aops P ops (List.append [] r) ρ h N = aops P ops r ρ h N := id rfl
theorem aops_app2 (N : EH) : aops P ops (List.append (List.append l r) s) ρ h N = aops P ops (List.append l (List.append r s)) ρ h N := by simp
theorem aopsQ_app (N : Env → Prop) : aopsQ P ops h (List.append (o :: l) r) ρ N = aopsQ P ops h (o :: List.append l r) ρ N := id rfl
theorem aopsQ_app0 (N : Env → Prop) : aopsQ P ops h (List.append [] r) ρ N = aopsQ P ops h r ρ N := id rfl
theorem aopsQ_app2 (N : Env → Prop) : aopsQ P ops h (List.append (List.append l r) s) ρ N = aopsQ P ops h (List.append l (List.append r s)) ρ N := by simp
theorem gs_app0 : gs (List.append (o :: l) r) 0 = o.dst := id rfl
theorem gs_appS (n : Nat) : gs (List.append (o :: l) r) (n + 1) = gs (List.append l r) n := id rfl
theorem gs_appN (n : Nat) : gs (List.append [] r) n = gs r n := id rfl
theorem gs_app2 (n : Nat) : gs (List.append (List.append l r) s) n = gs (List.append l (List.append r s)) n := by simp
end
attribute [go_sem ↓] aops_app aops_app0 aops_app2 aopsQ_app aopsQ_app0 aopsQ_app2 gs_app0 gs_appS gs_appN gs_app2 gslot_list gs_zero gs_succ
/-! ### append -/
structure SlTy (P : Program) (t e : TypeId) (k by' : Nat) (z : Value) : Prop where
  un : P.underlying t = some (.slice e)
  sz : tySize P e = some k
  bs : tyBytes P e = some by'
  ze : tyZero P e = some z
  zc : z.cells.size = k
  k0 : 0 < k
  b0 : 0 < by'
theorem copies_length (z : List Value) : ∀ n, (copies z n).length = n * z.length
  | 0 => by simp [copies]
  | n + 1 => by simp [copies, copies_length z n, Nat.succ_mul, Nat.add_comm]
theorem writeL_append : ∀ (a new old rest : List Value), new.length = old.length → writeL (a ++ (old ++ rest)).toArray a.length new = (a ++ (new ++ rest)).toArray
  | a, [], [], rest, _ => rfl
  | a, x :: new, y :: old, rest, h => by
    have ih := writeL_append (a ++ [x]) new old rest (by simpa using h)
    simp only [writeL]
    have e1 : (a ++ (y :: old ++ rest)).toArray.setIfInBounds a.length x = (a ++ [x] ++ (old ++ rest)).toArray := by simp
    rw [e1]
    simpa using ih
theorem cellsL_all : ∀ (l r p : List Value), cellsL (p ++ (l ++ r)).toArray p.length l.length = some l
  | [], _, _ => rfl
  | x :: l, r, p => by
    have ih := cellsL_all l r (p ++ [x])
    simp only [List.length_cons, cellsL]
    have e1 : (p ++ (x :: l ++ r)).toArray[p.length]? = some x := by simp
    have e2 : (p ++ (x :: l ++ r)) = (p ++ [x] ++ (l ++ r)) := by simp
    rw [e1, e2]
    rw [show p.length + 1 = (p ++ [x]).length from by simp, ih]
section
variable {P : Program} {t u e : TypeId} {k by' : Nat} {z x : Value} {h : Hp}
/-- Appended to a slice that is none: a new block. -/
theorem append_nil {K : CH} (hT : SlTy P t e k by' z) (hU : ∃ e', P.underlying u = some (.slice e')) {m : Nat} {new : List Value} (hx : srcCells h k x = some (m, new)) (hm : 0 < m) (hb : m * by' ≤ 140737488355328)
    (hk : ∀ cap rest, m ≤ cap → rest.length = (cap - m) * k → K.go (.slice (some ⟨h.n, 0, none⟩) m cap) ((h.put h.n (.cells (new ++ rest).toArray e (0, 0))).to (h.n + 1))) : @Go1 _ (appW P t u (.slice none 0 0) x h) K := by
  obtain ⟨e', he'⟩ := hU
  refine ⟨e, _, k, by', z, m, new, hT.un, he', fun q => by simp, hT.sz, hT.bs, hT.ze, hT.zc, hT.b0, hx, fun q => by omega, fun q => ⟨by simpa using hb, [], rfl, fun cap hc => ⟨_, Sub.refl _, ?_⟩⟩⟩
  have := hk cap (copies z.cells.toList (cap - m)) (by omega) (by rw [copies_length]; simp [hT.zc])
  simpa using this
/-- Appended to a row of one's own: there, or in a new block; what was there is forgotten. -/
theorem append_own {K : CH} (hT : SlTy P t e k by' z) (hU : ∃ e', P.underlying u = some (.slice e')) {b n cap m : Nat} {base : Hp} {vs rest new : List Value} (hbl : h.f b = some (.cells (vs ++ rest).toArray e (0, 0))) (hvs : vs.length = n * k) (hc : n ≤ cap) (hr : rest.length = (cap - n) * k)
    (hsub : Sub base h) (hx : srcCells h k x = some (m, new)) (hnew : new.length = m * k) (hone : new.all Value.oneCell' = true) (hb : (n + m) * by' ≤ 140737488355328)
    (hk : ∀ b' n' cap rest, (b' = b ∧ n' = h.n ∨ b' = h.n ∧ n' = h.n + 1) → n + m ≤ cap → rest.length = (cap - (n + m)) * k → K.go (.slice (some ⟨b', 0, none⟩) (n + m) cap) ((base.put b' (.cells (vs ++ new ++ rest).toArray e (0, 0))).to n')) :
    @Go1 _ (appW P t u (.slice (some ⟨b, 0, none⟩) n cap) x h) K := by
  obtain ⟨e', he'⟩ := hU
  refine ⟨e, _, k, by', z, m, new, hT.un, he', fun q => by simp, hT.sz, hT.bs, hT.ze, hT.zc, hT.b0, hx, fun q => ?_, fun q => ⟨hb, vs, ?_, fun cap' hc' => ?_⟩⟩
  · simp only [stayK, hbl]
    have hle : m * k ≤ (cap - n) * k := Nat.mul_le_mul_right k (by omega)
    have hcap : n * k + (cap - n) * k = cap * k := by rw [← Nat.add_mul]; congr 1; omega
    refine ⟨hone, ?_, free_zero _ _, ?_⟩
    · simp only [List.size_toArray, List.length_append, hvs, hr, hnew]; omega
    · obtain ⟨old, rest', rfl, hold⟩ : ∃ old rest', rest = old ++ rest' ∧ old.length = new.length := ⟨rest.take new.length, rest.drop new.length, by simp, by simp; omega⟩
      refine ⟨_, ?_, hk b h.n cap rest' (.inl ⟨rfl, rfl⟩) q ?_⟩
      · rw [Nat.zero_add, ← hvs, writeL_append vs new old rest' hold.symm]
        have := hsub.put b (.cells (vs ++ (new ++ rest')).toArray e (0, 0))
        rw [List.append_assoc]
        exact ⟨rfl, this.2⟩
      · simp only [List.length_append, hold, hnew] at hr
        have : (cap - n) * k = m * k + (cap - (n + m)) * k := by rw [← Nat.add_mul]; congr 1; omega
        omega
  · simp only [srcCells, hbl]
    have := cellsL_all vs rest []
    simp only [List.nil_append, List.length_nil] at this
    rw [← hvs, this]; rfl
  · refine ⟨_, ?_, hk h.n (h.n + 1) cap' (copies z.cells.toList (cap' - (n + m))) (.inr ⟨rfl, rfl⟩) hc' (by rw [copies_length]; simp [hT.zc])⟩
    have := (hsub.put h.n (.cells (vs ++ new ++ copies z.cells.toList (cap' - (n + m))).toArray e (0, 0))).to (h.n + 1)
    simpa [List.append_assoc] using this
end
attribute [go_sem] put_f_old put_f_old' put_f_new put_f_new' put_f_add put_f_add0 put_f_0add Nat.add_assoc
/-! ### the slots forgotten, but those that are named -/
theorem aops_forget {P : Program} {ops : Array Oper} {l : List Oper} {ρ : Env} {h : Hp} {N : EH} (L : List Nat) (k : ∀ ρ' : Env, (∀ t, L.contains t = true → ρ' t = ρ t) → aops P ops l ρ' h N) : aops P ops l ρ h N := k ρ fun _ _ => rfl
theorem avc_forget {P : Program} {c : Code} {ρ : Env} {h : Hp} {N R : EH} {X : Nat → EH} (L : List Nat) (k : ∀ ρ' : Env, (∀ t, L.contains t = true → ρ' t = ρ t) → avc P c N R X ρ' h) : avc P c N R X ρ h := k ρ fun _ _ => rfl
end Go.Proofs.Ytdfeigkooeeeaaa
