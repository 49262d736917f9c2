/- The tables of types of this seat, as closed equations (written by a program of ours). -/
import Derived.Test.YtgfmdhjhknhmcaaEngEnt
namespace Go.Proofs.Ytgfmdhjhknhmcaa
open Go
@[go_sem] theorem tab.sz2 : tySize Try.prog 2 = some 1 := by kernel_rfl
@[go_sem] theorem tab.by2 : tyBytes Try.prog 2 = some 8 := by kernel_rfl
@[go_sem] theorem tab.ze2 : tyZero Try.prog 2 = some (Go.Value.int Go.IntKind.i64 0) := by kernel_rfl
@[go_sem] theorem tab.un2 : Program.underlying Try.prog 2 = some (Go.TypeDesc.int Go.IntKind.i64) := by kernel_rfl
@[go_sem] theorem tab.ag2 : tyAgg Try.prog 2 = some false := by kernel_rfl
@[go_sem] theorem tab.sz3 : tySize Try.prog 3 = some 1 := by kernel_rfl
@[go_sem] theorem tab.by3 : tyBytes Try.prog 3 = some 8 := by kernel_rfl
@[go_sem] theorem tab.ze3 : tyZero Try.prog 3 = some (Go.Value.int Go.IntKind.i64 0) := by kernel_rfl
@[go_sem] theorem tab.un3 : Program.underlying Try.prog 3 = some (Go.TypeDesc.int Go.IntKind.i64) := by kernel_rfl
@[go_sem] theorem tab.ag3 : tyAgg Try.prog 3 = some false := by kernel_rfl
@[go_sem] theorem tab.sz4 : tySize Try.prog 4 = some 1 := by kernel_rfl
@[go_sem] theorem tab.by4 : tyBytes Try.prog 4 = some 1 := by kernel_rfl
@[go_sem] theorem tab.ze4 : tyZero Try.prog 4 = some (Go.Value.bool false) := by kernel_rfl
@[go_sem] theorem tab.un4 : Program.underlying Try.prog 4 = some Go.TypeDesc.bool := by kernel_rfl
@[go_sem] theorem tab.ag4 : tyAgg Try.prog 4 = some false := by kernel_rfl
@[go_sem] theorem tab.sz5 : tySize Try.prog 5 = some 1 := by kernel_rfl
@[go_sem] theorem tab.by5 : tyBytes Try.prog 5 = some 1 := by kernel_rfl
@[go_sem] theorem tab.ze5 : tyZero Try.prog 5 = some (Go.Value.int Go.IntKind.u8 0) := by kernel_rfl
@[go_sem] theorem tab.un5 : Program.underlying Try.prog 5 = some (Go.TypeDesc.int Go.IntKind.u8) := by kernel_rfl
@[go_sem] theorem tab.ag5 : tyAgg Try.prog 5 = some false := by kernel_rfl
@[go_sem] theorem tab.sz6 : tySize Try.prog 6 = some 1 := by kernel_rfl
@[go_sem] theorem tab.by6 : tyBytes Try.prog 6 = some 1 := by kernel_rfl
@[go_sem] theorem tab.ze6 : tyZero Try.prog 6 = some (Go.Value.int Go.IntKind.u8 0) := by kernel_rfl
@[go_sem] theorem tab.un6 : Program.underlying Try.prog 6 = some (Go.TypeDesc.int Go.IntKind.u8) := by kernel_rfl
@[go_sem] theorem tab.ag6 : tyAgg Try.prog 6 = some false := by kernel_rfl
@[go_sem] theorem tab.sz7 : tySize Try.prog 7 = some 4 := by kernel_rfl
@[go_sem] theorem tab.by7 : tyBytes Try.prog 7 = some 24 := by kernel_rfl
@[go_sem] theorem tab.ze7 : tyZero Try.prog 7 = some (Go.Value.agg #[(Go.Value.int Go.IntKind.i64 0), (Go.Value.int Go.IntKind.i64 0), (Go.Value.bool false), (Go.Value.int Go.IntKind.u8 0)]) := by kernel_rfl
@[go_sem] theorem tab.un7 : Program.underlying Try.prog 7 = some (Go.TypeDesc.struct #[{ name := "x", type := 2, offset := 0, embedded := false, tag := "", pkgPath := "runtime", byteOffset := 0 }, { name := "y", type := 3, offset := 1, embedded := false, tag := "", pkgPath := "runtime", byteOffset := 8 }, { name := "signed", type := 4, offset := 2, embedded := false, tag := "", pkgPath := "runtime", byteOffset := 16 }, { name := "code", type := 6, offset := 3, embedded := false, tag := "", pkgPath := "runtime", byteOffset := 17 }]) := by kernel_rfl
@[go_sem] theorem tab.ag7 : tyAgg Try.prog 7 = some true := by kernel_rfl
@[go_sem] theorem tab.eq7 : eqPlan Try.prog 7 = some [(0, 0), (0, 1), (2, 2), (0, 3)] := by kernel_rfl
@[go_sem] theorem tab.fi7_0 : tyField Try.prog 7 0 = some (2, 0) := by kernel_rfl
@[go_sem] theorem tab.fi7_1 : tyField Try.prog 7 1 = some (3, 1) := by kernel_rfl
@[go_sem] theorem tab.fi7_2 : tyField Try.prog 7 2 = some (4, 2) := by kernel_rfl
@[go_sem] theorem tab.fi7_3 : tyField Try.prog 7 3 = some (6, 3) := by kernel_rfl
@[go_sem] theorem tab.sz8 : tySize Try.prog 8 = some 4 := by kernel_rfl
@[go_sem] theorem tab.by8 : tyBytes Try.prog 8 = some 24 := by kernel_rfl
@[go_sem] theorem tab.ze8 : tyZero Try.prog 8 = some (Go.Value.agg #[(Go.Value.int Go.IntKind.i64 0), (Go.Value.int Go.IntKind.i64 0), (Go.Value.bool false), (Go.Value.int Go.IntKind.u8 0)]) := by kernel_rfl
@[go_sem] theorem tab.un8 : Program.underlying Try.prog 8 = some (Go.TypeDesc.struct #[{ name := "x", type := 2, offset := 0, embedded := false, tag := "", pkgPath := "runtime", byteOffset := 0 }, { name := "y", type := 3, offset := 1, embedded := false, tag := "", pkgPath := "runtime", byteOffset := 8 }, { name := "signed", type := 4, offset := 2, embedded := false, tag := "", pkgPath := "runtime", byteOffset := 16 }, { name := "code", type := 6, offset := 3, embedded := false, tag := "", pkgPath := "runtime", byteOffset := 17 }]) := by kernel_rfl
@[go_sem] theorem tab.ag8 : tyAgg Try.prog 8 = some true := by kernel_rfl
@[go_sem] theorem tab.eq8 : eqPlan Try.prog 8 = some [(0, 0), (0, 1), (2, 2), (0, 3)] := by kernel_rfl
@[go_sem] theorem tab.fi8_0 : tyField Try.prog 8 0 = some (2, 0) := by kernel_rfl
@[go_sem] theorem tab.fi8_1 : tyField Try.prog 8 1 = some (3, 1) := by kernel_rfl
@[go_sem] theorem tab.fi8_2 : tyField Try.prog 8 2 = some (4, 2) := by kernel_rfl
@[go_sem] theorem tab.fi8_3 : tyField Try.prog 8 3 = some (6, 3) := by kernel_rfl
@[go_sem] theorem tab.sz9 : tySize Try.prog 9 = some 1 := by kernel_rfl
@[go_sem] theorem tab.by9 : tyBytes Try.prog 9 = some 16 := by kernel_rfl
@[go_sem] theorem tab.ze9 : tyZero Try.prog 9 = some (Go.Value.string { data := #[] }) := by kernel_rfl
@[go_sem] theorem tab.un9 : Program.underlying Try.prog 9 = some Go.TypeDesc.string := by kernel_rfl
@[go_sem] theorem tab.ag9 : tyAgg Try.prog 9 = some false := by kernel_rfl
@[go_sem] theorem tab.sz10 : tySize Try.prog 10 = some 1 := by kernel_rfl
@[go_sem] theorem tab.by10 : tyBytes Try.prog 10 = some 16 := by kernel_rfl
@[go_sem] theorem tab.ze10 : tyZero Try.prog 10 = some (Go.Value.string { data := #[] }) := by kernel_rfl
@[go_sem] theorem tab.un10 : Program.underlying Try.prog 10 = some Go.TypeDesc.string := by kernel_rfl
@[go_sem] theorem tab.ag10 : tyAgg Try.prog 10 = some false := by kernel_rfl
@[go_sem] theorem tab.sz11 : tySize Try.prog 11 = some 1 := by kernel_rfl
@[go_sem] theorem tab.by11 : tyBytes Try.prog 11 = some 16 := by kernel_rfl
@[go_sem] theorem tab.ze11 : tyZero Try.prog 11 = some (Go.Value.string { data := #[] }) := by kernel_rfl
@[go_sem] theorem tab.un11 : Program.underlying Try.prog 11 = some Go.TypeDesc.string := by kernel_rfl
@[go_sem] theorem tab.ag11 : tyAgg Try.prog 11 = some false := by kernel_rfl
@[go_sem] theorem tab.sz12 : tySize Try.prog 12 = some 1 := by kernel_rfl
@[go_sem] theorem tab.by12 : tyBytes Try.prog 12 = some 8 := by kernel_rfl
@[go_sem] theorem tab.ze12 : tyZero Try.prog 12 = some (Go.Value.int Go.IntKind.u64 0) := by kernel_rfl
@[go_sem] theorem tab.un12 : Program.underlying Try.prog 12 = some (Go.TypeDesc.int Go.IntKind.u64) := by kernel_rfl
@[go_sem] theorem tab.ag12 : tyAgg Try.prog 12 = some false := by kernel_rfl
@[go_sem] theorem tab.sz13 : tySize Try.prog 13 = some 2 := by kernel_rfl
@[go_sem] theorem tab.by13 : tyBytes Try.prog 13 = some 24 := by kernel_rfl
@[go_sem] theorem tab.ze13 : tyZero Try.prog 13 = some (Go.Value.agg #[(Go.Value.string { data := #[] }), (Go.Value.int Go.IntKind.u64 0)]) := by kernel_rfl
@[go_sem] theorem tab.un13 : Program.underlying Try.prog 13 = some (Go.TypeDesc.struct #[{ name := "msg", type := 9, offset := 0, embedded := false, tag := "", pkgPath := "runtime", byteOffset := 0 }, { name := "addr", type := 12, offset := 1, embedded := false, tag := "", pkgPath := "runtime", byteOffset := 16 }]) := by kernel_rfl
@[go_sem] theorem tab.ag13 : tyAgg Try.prog 13 = some true := by kernel_rfl
@[go_sem] theorem tab.fi13_0 : tyField Try.prog 13 0 = some (9, 0) := by kernel_rfl
@[go_sem] theorem tab.fi13_1 : tyField Try.prog 13 1 = some (12, 1) := by kernel_rfl
@[go_sem] theorem tab.sz14 : tySize Try.prog 14 = some 2 := by kernel_rfl
@[go_sem] theorem tab.by14 : tyBytes Try.prog 14 = some 24 := by kernel_rfl
@[go_sem] theorem tab.ze14 : tyZero Try.prog 14 = some (Go.Value.agg #[(Go.Value.string { data := #[] }), (Go.Value.int Go.IntKind.u64 0)]) := by kernel_rfl
@[go_sem] theorem tab.un14 : Program.underlying Try.prog 14 = some (Go.TypeDesc.struct #[{ name := "msg", type := 9, offset := 0, embedded := false, tag := "", pkgPath := "runtime", byteOffset := 0 }, { name := "addr", type := 12, offset := 1, embedded := false, tag := "", pkgPath := "runtime", byteOffset := 16 }]) := by kernel_rfl
@[go_sem] theorem tab.ag14 : tyAgg Try.prog 14 = some true := by kernel_rfl
@[go_sem] theorem tab.fi14_0 : tyField Try.prog 14 0 = some (9, 0) := by kernel_rfl
@[go_sem] theorem tab.fi14_1 : tyField Try.prog 14 1 = some (12, 1) := by kernel_rfl
@[go_sem] theorem tab.sz15 : tySize Try.prog 15 = some 1 := by kernel_rfl
@[go_sem] theorem tab.by15 : tyBytes Try.prog 15 = some 8 := by kernel_rfl
@[go_sem] theorem tab.ze15 : tyZero Try.prog 15 = some (Go.Value.pointer none) := by kernel_rfl
@[go_sem] theorem tab.un15 : Program.underlying Try.prog 15 = some (Go.TypeDesc.pointer 120) := by kernel_rfl
@[go_sem] theorem tab.ag15 : tyAgg Try.prog 15 = some false := by kernel_rfl
@[go_sem] theorem tab.sz16 : tySize Try.prog 16 = some 1 := by kernel_rfl
@[go_sem] theorem tab.by16 : tyBytes Try.prog 16 = some 8 := by kernel_rfl
@[go_sem] theorem tab.ze16 : tyZero Try.prog 16 = some (Go.Value.pointer none) := by kernel_rfl
@[go_sem] theorem tab.un16 : Program.underlying Try.prog 16 = some (Go.TypeDesc.pointer 123) := by kernel_rfl
@[go_sem] theorem tab.ag16 : tyAgg Try.prog 16 = some false := by kernel_rfl
@[go_sem] theorem tab.sz17 : tySize Try.prog 17 = some 1 := by kernel_rfl
@[go_sem] theorem tab.by17 : tyBytes Try.prog 17 = some 8 := by kernel_rfl
@[go_sem] theorem tab.ze17 : tyZero Try.prog 17 = some (Go.Value.pointer none) := by kernel_rfl
@[go_sem] theorem tab.un17 : Program.underlying Try.prog 17 = some (Go.TypeDesc.pointer 132) := by kernel_rfl
@[go_sem] theorem tab.ag17 : tyAgg Try.prog 17 = some false := by kernel_rfl
@[go_sem] theorem tab.sz18 : tySize Try.prog 18 = some 1 := by kernel_rfl
@[go_sem] theorem tab.by18 : tyBytes Try.prog 18 = some 8 := by kernel_rfl
@[go_sem] theorem tab.ze18 : tyZero Try.prog 18 = some (Go.Value.agg #[(Go.Value.pointer none)]) := by kernel_rfl
@[go_sem] theorem tab.un18 : Program.underlying Try.prog 18 = some (Go.TypeDesc.struct #[{ name := "typ", type := 17, offset := 0, embedded := false, tag := "", pkgPath := "internal/runtime/maps", byteOffset := 0 }]) := by kernel_rfl
@[go_sem] theorem tab.ag18 : tyAgg Try.prog 18 = some true := by kernel_rfl
@[go_sem] theorem tab.fi18_0 : tyField Try.prog 18 0 = some (17, 0) := by kernel_rfl
@[go_sem] theorem tab.sz19 : tySize Try.prog 19 = some 1 := by kernel_rfl
@[go_sem] theorem tab.by19 : tyBytes Try.prog 19 = some 8 := by kernel_rfl
@[go_sem] theorem tab.ze19 : tyZero Try.prog 19 = some (Go.Value.agg #[(Go.Value.pointer none)]) := by kernel_rfl
@[go_sem] theorem tab.un19 : Program.underlying Try.prog 19 = some (Go.TypeDesc.struct #[{ name := "typ", type := 17, offset := 0, embedded := false, tag := "", pkgPath := "internal/runtime/maps", byteOffset := 0 }]) := by kernel_rfl
@[go_sem] theorem tab.ag19 : tyAgg Try.prog 19 = some true := by kernel_rfl
@[go_sem] theorem tab.fi19_0 : tyField Try.prog 19 0 = some (17, 0) := by kernel_rfl
@[go_sem] theorem tab.sz20 : tySize Try.prog 20 = some 1 := by kernel_rfl
@[go_sem] theorem tab.by20 : tyBytes Try.prog 20 = some 16 := by kernel_rfl
@[go_sem] theorem tab.ze20 : tyZero Try.prog 20 = some Go.Value.nilIface := by kernel_rfl
@[go_sem] theorem tab.ag20 : tyAgg Try.prog 20 = some false := by kernel_rfl
@[go_sem] theorem tab.sz21 : tySize Try.prog 21 = some 1 := by kernel_rfl
@[go_sem] theorem tab.by21 : tyBytes Try.prog 21 = some 4 := by kernel_rfl
@[go_sem] theorem tab.ze21 : tyZero Try.prog 21 = some (Go.Value.int Go.IntKind.i32 0) := by kernel_rfl
@[go_sem] theorem tab.un21 : Program.underlying Try.prog 21 = some (Go.TypeDesc.int Go.IntKind.i32) := by kernel_rfl
@[go_sem] theorem tab.ag21 : tyAgg Try.prog 21 = some false := by kernel_rfl
@[go_sem] theorem tab.sz22 : tySize Try.prog 22 = some 1 := by kernel_rfl
@[go_sem] theorem tab.by22 : tyBytes Try.prog 22 = some 8 := by kernel_rfl
@[go_sem] theorem tab.ze22 : tyZero Try.prog 22 = some (Go.Value.pointer none) := by kernel_rfl
@[go_sem] theorem tab.un22 : Program.underlying Try.prog 22 = some (Go.TypeDesc.pointer 24) := by kernel_rfl
@[go_sem] theorem tab.ag22 : tyAgg Try.prog 22 = some false := by kernel_rfl
@[go_sem] theorem tab.sz23 : tySize Try.prog 23 = some 8 := by kernel_rfl
@[go_sem] theorem tab.by23 : tyBytes Try.prog 23 = some 64 := by kernel_rfl
@[go_sem] theorem tab.ze23 : tyZero Try.prog 23 = some (Go.Value.agg #[(Go.Value.int Go.IntKind.i64 0), (Go.Value.int Go.IntKind.i64 0), (Go.Value.int Go.IntKind.i64 0), (Go.Value.int Go.IntKind.i64 0), (Go.Value.int Go.IntKind.i64 0), (Go.Value.int Go.IntKind.i64 0), (Go.Value.int Go.IntKind.i64 0), (Go.Value.int Go.IntKind.i64 0)]) := by kernel_rfl
@[go_sem] theorem tab.un23 : Program.underlying Try.prog 23 = some (Go.TypeDesc.struct #[{ name := "kind", type := 3, offset := 0, embedded := false, tag := "", pkgPath := "tachograph/agg", byteOffset := 0 }, { name := "n", type := 3, offset := 1, embedded := false, tag := "", pkgPath := "tachograph/agg", byteOffset := 8 }, { name := "sum", type := 3, offset := 2, embedded := false, tag := "", pkgPath := "tachograph/agg", byteOffset := 16 }, { name := "least", type := 3, offset := 3, embedded := false, tag := "", pkgPath := "tachograph/agg", byteOffset := 24 }, { name := "great", type := 3, offset := 4, embedded := false, tag := "", pkgPath := "tachograph/agg", byteOffset := 32 }, { name := "first", type := 3, offset := 5, embedded := false, tag := "", pkgPath := "tachograph/agg", byteOffset := 40 }, { name := "last", type := 3, offset := 6, embedded := false, tag := "", pkgPath := "tachograph/agg", byteOffset := 48 }, { name := "spare", type := 3, offset := 7, embedded := false, tag := "", pkgPath := "tachograph/agg", byteOffset := 56 }]) := by kernel_rfl
@[go_sem] theorem tab.ag23 : tyAgg Try.prog 23 = some true := by kernel_rfl
@[go_sem] theorem tab.eq23 : eqPlan Try.prog 23 = some [(0, 0), (0, 1), (0, 2), (0, 3), (0, 4), (0, 5), (0, 6), (0, 7)] := by kernel_rfl
@[go_sem] theorem tab.fi23_0 : tyField Try.prog 23 0 = some (3, 0) := by kernel_rfl
@[go_sem] theorem tab.fi23_1 : tyField Try.prog 23 1 = some (3, 1) := by kernel_rfl
@[go_sem] theorem tab.fi23_2 : tyField Try.prog 23 2 = some (3, 2) := by kernel_rfl
@[go_sem] theorem tab.fi23_3 : tyField Try.prog 23 3 = some (3, 3) := by kernel_rfl
@[go_sem] theorem tab.fi23_4 : tyField Try.prog 23 4 = some (3, 4) := by kernel_rfl
@[go_sem] theorem tab.fi23_5 : tyField Try.prog 23 5 = some (3, 5) := by kernel_rfl
@[go_sem] theorem tab.fi23_6 : tyField Try.prog 23 6 = some (3, 6) := by kernel_rfl
@[go_sem] theorem tab.fi23_7 : tyField Try.prog 23 7 = some (3, 7) := by kernel_rfl
@[go_sem] theorem tab.sz24 : tySize Try.prog 24 = some 8 := by kernel_rfl
@[go_sem] theorem tab.by24 : tyBytes Try.prog 24 = some 64 := by kernel_rfl
@[go_sem] theorem tab.ze24 : tyZero Try.prog 24 = some (Go.Value.agg #[(Go.Value.int Go.IntKind.i64 0), (Go.Value.int Go.IntKind.i64 0), (Go.Value.int Go.IntKind.i64 0), (Go.Value.int Go.IntKind.i64 0), (Go.Value.int Go.IntKind.i64 0), (Go.Value.int Go.IntKind.i64 0), (Go.Value.int Go.IntKind.i64 0), (Go.Value.int Go.IntKind.i64 0)]) := by kernel_rfl
@[go_sem] theorem tab.un24 : Program.underlying Try.prog 24 = some (Go.TypeDesc.struct #[{ name := "kind", type := 3, offset := 0, embedded := false, tag := "", pkgPath := "tachograph/agg", byteOffset := 0 }, { name := "n", type := 3, offset := 1, embedded := false, tag := "", pkgPath := "tachograph/agg", byteOffset := 8 }, { name := "sum", type := 3, offset := 2, embedded := false, tag := "", pkgPath := "tachograph/agg", byteOffset := 16 }, { name := "least", type := 3, offset := 3, embedded := false, tag := "", pkgPath := "tachograph/agg", byteOffset := 24 }, { name := "great", type := 3, offset := 4, embedded := false, tag := "", pkgPath := "tachograph/agg", byteOffset := 32 }, { name := "first", type := 3, offset := 5, embedded := false, tag := "", pkgPath := "tachograph/agg", byteOffset := 40 }, { name := "last", type := 3, offset := 6, embedded := false, tag := "", pkgPath := "tachograph/agg", byteOffset := 48 }, { name := "spare", type := 3, offset := 7, embedded := false, tag := "", pkgPath := "tachograph/agg", byteOffset := 56 }]) := by kernel_rfl
@[go_sem] theorem tab.ag24 : tyAgg Try.prog 24 = some true := by kernel_rfl
@[go_sem] theorem tab.eq24 : eqPlan Try.prog 24 = some [(0, 0), (0, 1), (0, 2), (0, 3), (0, 4), (0, 5), (0, 6), (0, 7)] := by kernel_rfl
@[go_sem] theorem tab.fi24_0 : tyField Try.prog 24 0 = some (3, 0) := by kernel_rfl
@[go_sem] theorem tab.fi24_1 : tyField Try.prog 24 1 = some (3, 1) := by kernel_rfl
@[go_sem] theorem tab.fi24_2 : tyField Try.prog 24 2 = some (3, 2) := by kernel_rfl
@[go_sem] theorem tab.fi24_3 : tyField Try.prog 24 3 = some (3, 3) := by kernel_rfl
@[go_sem] theorem tab.fi24_4 : tyField Try.prog 24 4 = some (3, 4) := by kernel_rfl
@[go_sem] theorem tab.fi24_5 : tyField Try.prog 24 5 = some (3, 5) := by kernel_rfl
@[go_sem] theorem tab.fi24_6 : tyField Try.prog 24 6 = some (3, 6) := by kernel_rfl
@[go_sem] theorem tab.fi24_7 : tyField Try.prog 24 7 = some (3, 7) := by kernel_rfl
@[go_sem] theorem tab.sz27 : tySize Try.prog 27 = some 1 := by kernel_rfl
@[go_sem] theorem tab.by27 : tyBytes Try.prog 27 = some 8 := by kernel_rfl
@[go_sem] theorem tab.ze27 : tyZero Try.prog 27 = some (Go.Value.int Go.IntKind.i64 0) := by kernel_rfl
@[go_sem] theorem tab.un27 : Program.underlying Try.prog 27 = some (Go.TypeDesc.int Go.IntKind.i64) := by kernel_rfl
@[go_sem] theorem tab.ag27 : tyAgg Try.prog 27 = some false := by kernel_rfl
@[go_sem] theorem tab.sz33 : tySize Try.prog 33 = some 2 := by kernel_rfl
@[go_sem] theorem tab.by33 : tyBytes Try.prog 33 = some 16 := by kernel_rfl
@[go_sem] theorem tab.ze33 : tyZero Try.prog 33 = some (Go.Value.agg #[(Go.Value.int Go.IntKind.i64 0), (Go.Value.int Go.IntKind.i64 0)]) := by kernel_rfl
@[go_sem] theorem tab.un33 : Program.underlying Try.prog 33 = some (Go.TypeDesc.struct #[{ name := "T", type := 3, offset := 0, embedded := false, tag := "", pkgPath := "", byteOffset := 0 }, { name := "V", type := 3, offset := 1, embedded := false, tag := "", pkgPath := "", byteOffset := 8 }]) := by kernel_rfl
@[go_sem] theorem tab.ag33 : tyAgg Try.prog 33 = some true := by kernel_rfl
@[go_sem] theorem tab.eq33 : eqPlan Try.prog 33 = some [(0, 0), (0, 1)] := by kernel_rfl
@[go_sem] theorem tab.fi33_0 : tyField Try.prog 33 0 = some (3, 0) := by kernel_rfl
@[go_sem] theorem tab.fi33_1 : tyField Try.prog 33 1 = some (3, 1) := by kernel_rfl
@[go_sem] theorem tab.sz34 : tySize Try.prog 34 = some 2 := by kernel_rfl
@[go_sem] theorem tab.by34 : tyBytes Try.prog 34 = some 16 := by kernel_rfl
@[go_sem] theorem tab.ze34 : tyZero Try.prog 34 = some (Go.Value.agg #[(Go.Value.int Go.IntKind.i64 0), (Go.Value.int Go.IntKind.i64 0)]) := by kernel_rfl
@[go_sem] theorem tab.un34 : Program.underlying Try.prog 34 = some (Go.TypeDesc.struct #[{ name := "T", type := 3, offset := 0, embedded := false, tag := "", pkgPath := "", byteOffset := 0 }, { name := "V", type := 3, offset := 1, embedded := false, tag := "", pkgPath := "", byteOffset := 8 }]) := by kernel_rfl
@[go_sem] theorem tab.ag34 : tyAgg Try.prog 34 = some true := by kernel_rfl
@[go_sem] theorem tab.eq34 : eqPlan Try.prog 34 = some [(0, 0), (0, 1)] := by kernel_rfl
@[go_sem] theorem tab.fi34_0 : tyField Try.prog 34 0 = some (3, 0) := by kernel_rfl
@[go_sem] theorem tab.fi34_1 : tyField Try.prog 34 1 = some (3, 1) := by kernel_rfl
@[go_sem] theorem tab.sz35 : tySize Try.prog 35 = some 1 := by kernel_rfl
@[go_sem] theorem tab.by35 : tyBytes Try.prog 35 = some 8 := by kernel_rfl
@[go_sem] theorem tab.ze35 : tyZero Try.prog 35 = some (Go.Value.pointer none) := by kernel_rfl
@[go_sem] theorem tab.un35 : Program.underlying Try.prog 35 = some (Go.TypeDesc.pointer 37) := by kernel_rfl
@[go_sem] theorem tab.ag35 : tyAgg Try.prog 35 = some false := by kernel_rfl
@[go_sem] theorem tab.sz36 : tySize Try.prog 36 = some 4 := by kernel_rfl
@[go_sem] theorem tab.by36 : tyBytes Try.prog 36 = some 40 := by kernel_rfl
@[go_sem] theorem tab.ze36 : tyZero Try.prog 36 = some (Go.Value.agg #[(Go.Value.int Go.IntKind.i64 0), (Go.Value.string { data := #[] }), (Go.Value.int Go.IntKind.i64 0), (Go.Value.int Go.IntKind.i64 0)]) := by kernel_rfl
@[go_sem] theorem tab.un36 : Program.underlying Try.prog 36 = some (Go.TypeDesc.struct #[{ name := "size", type := 3, offset := 0, embedded := false, tag := "", pkgPath := "tachograph/chunk", byteOffset := 0 }, { name := "s", type := 9, offset := 1, embedded := false, tag := "", pkgPath := "tachograph/chunk", byteOffset := 8 }, { name := "bits", type := 3, offset := 2, embedded := false, tag := "", pkgPath := "tachograph/chunk", byteOffset := 24 }, { name := "n", type := 3, offset := 3, embedded := false, tag := "", pkgPath := "tachograph/chunk", byteOffset := 32 }]) := by kernel_rfl
@[go_sem] theorem tab.ag36 : tyAgg Try.prog 36 = some true := by kernel_rfl
@[go_sem] theorem tab.eq36 : eqPlan Try.prog 36 = some [(0, 0), (1, 1), (0, 2), (0, 3)] := by kernel_rfl
@[go_sem] theorem tab.fi36_0 : tyField Try.prog 36 0 = some (3, 0) := by kernel_rfl
@[go_sem] theorem tab.fi36_1 : tyField Try.prog 36 1 = some (9, 1) := by kernel_rfl
@[go_sem] theorem tab.fi36_2 : tyField Try.prog 36 2 = some (3, 2) := by kernel_rfl
@[go_sem] theorem tab.fi36_3 : tyField Try.prog 36 3 = some (3, 3) := by kernel_rfl
@[go_sem] theorem tab.sz37 : tySize Try.prog 37 = some 4 := by kernel_rfl
@[go_sem] theorem tab.by37 : tyBytes Try.prog 37 = some 40 := by kernel_rfl
@[go_sem] theorem tab.ze37 : tyZero Try.prog 37 = some (Go.Value.agg #[(Go.Value.int Go.IntKind.i64 0), (Go.Value.string { data := #[] }), (Go.Value.int Go.IntKind.i64 0), (Go.Value.int Go.IntKind.i64 0)]) := by kernel_rfl
@[go_sem] theorem tab.un37 : Program.underlying Try.prog 37 = some (Go.TypeDesc.struct #[{ name := "size", type := 3, offset := 0, embedded := false, tag := "", pkgPath := "tachograph/chunk", byteOffset := 0 }, { name := "s", type := 9, offset := 1, embedded := false, tag := "", pkgPath := "tachograph/chunk", byteOffset := 8 }, { name := "bits", type := 3, offset := 2, embedded := false, tag := "", pkgPath := "tachograph/chunk", byteOffset := 24 }, { name := "n", type := 3, offset := 3, embedded := false, tag := "", pkgPath := "tachograph/chunk", byteOffset := 32 }]) := by kernel_rfl
@[go_sem] theorem tab.ag37 : tyAgg Try.prog 37 = some true := by kernel_rfl
@[go_sem] theorem tab.eq37 : eqPlan Try.prog 37 = some [(0, 0), (1, 1), (0, 2), (0, 3)] := by kernel_rfl
@[go_sem] theorem tab.fi37_0 : tyField Try.prog 37 0 = some (3, 0) := by kernel_rfl
@[go_sem] theorem tab.fi37_1 : tyField Try.prog 37 1 = some (9, 1) := by kernel_rfl
@[go_sem] theorem tab.fi37_2 : tyField Try.prog 37 2 = some (3, 2) := by kernel_rfl
@[go_sem] theorem tab.fi37_3 : tyField Try.prog 37 3 = some (3, 3) := by kernel_rfl
@[go_sem] theorem tab.sz48 : tySize Try.prog 48 = some 1 := by kernel_rfl
@[go_sem] theorem tab.by48 : tyBytes Try.prog 48 = some 24 := by kernel_rfl
@[go_sem] theorem tab.ze48 : tyZero Try.prog 48 = some (Go.Value.slice none 0 0) := by kernel_rfl
@[go_sem] theorem tab.un48 : Program.underlying Try.prog 48 = some (Go.TypeDesc.slice 34) := by kernel_rfl
@[go_sem] theorem tab.ag48 : tyAgg Try.prog 48 = some false := by kernel_rfl
@[go_sem] theorem tab.sz52 : tySize Try.prog 52 = some 1 := by kernel_rfl
@[go_sem] theorem tab.by52 : tyBytes Try.prog 52 = some 8 := by kernel_rfl
@[go_sem] theorem tab.ze52 : tyZero Try.prog 52 = some (Go.Value.pointer none) := by kernel_rfl
@[go_sem] theorem tab.un52 : Program.underlying Try.prog 52 = some (Go.TypeDesc.pointer 55) := by kernel_rfl
@[go_sem] theorem tab.ag52 : tyAgg Try.prog 52 = some false := by kernel_rfl
@[go_sem] theorem tab.sz53 : tySize Try.prog 53 = some 1 := by kernel_rfl
@[go_sem] theorem tab.by53 : tyBytes Try.prog 53 = some 24 := by kernel_rfl
@[go_sem] theorem tab.ze53 : tyZero Try.prog 53 = some (Go.Value.slice none 0 0) := by kernel_rfl
@[go_sem] theorem tab.un53 : Program.underlying Try.prog 53 = some (Go.TypeDesc.slice 35) := by kernel_rfl
@[go_sem] theorem tab.ag53 : tyAgg Try.prog 53 = some false := by kernel_rfl
@[go_sem] theorem tab.sz54 : tySize Try.prog 54 = some 6 := by kernel_rfl
@[go_sem] theorem tab.by54 : tyBytes Try.prog 54 = some 64 := by kernel_rfl
@[go_sem] theorem tab.ze54 : tyZero Try.prog 54 = some (Go.Value.agg #[(Go.Value.int Go.IntKind.i64 0), (Go.Value.int Go.IntKind.i64 0), (Go.Value.int Go.IntKind.i64 0), (Go.Value.int Go.IntKind.i64 0), (Go.Value.int Go.IntKind.i64 0), (Go.Value.slice none 0 0)]) := by kernel_rfl
@[go_sem] theorem tab.un54 : Program.underlying Try.prog 54 = some (Go.TypeDesc.struct #[{ name := "size", type := 3, offset := 0, embedded := false, tag := "", pkgPath := "tachograph/series", byteOffset := 0 }, { name := "retention", type := 3, offset := 1, embedded := false, tag := "", pkgPath := "tachograph/series", byteOffset := 8 }, { name := "policy", type := 3, offset := 2, embedded := false, tag := "", pkgPath := "tachograph/series", byteOffset := 16 }, { name := "max", type := 3, offset := 3, embedded := false, tag := "", pkgPath := "tachograph/series", byteOffset := 24 }, { name := "floor", type := 3, offset := 4, embedded := false, tag := "", pkgPath := "tachograph/series", byteOffset := 32 }, { name := "chunks", type := 53, offset := 5, embedded := false, tag := "", pkgPath := "tachograph/series", byteOffset := 40 }]) := by kernel_rfl
@[go_sem] theorem tab.ag54 : tyAgg Try.prog 54 = some true := by kernel_rfl
@[go_sem] theorem tab.fi54_0 : tyField Try.prog 54 0 = some (3, 0) := by kernel_rfl
@[go_sem] theorem tab.fi54_1 : tyField Try.prog 54 1 = some (3, 1) := by kernel_rfl
@[go_sem] theorem tab.fi54_2 : tyField Try.prog 54 2 = some (3, 2) := by kernel_rfl
@[go_sem] theorem tab.fi54_3 : tyField Try.prog 54 3 = some (3, 3) := by kernel_rfl
@[go_sem] theorem tab.fi54_4 : tyField Try.prog 54 4 = some (3, 4) := by kernel_rfl
@[go_sem] theorem tab.fi54_5 : tyField Try.prog 54 5 = some (53, 5) := by kernel_rfl
@[go_sem] theorem tab.sz55 : tySize Try.prog 55 = some 6 := by kernel_rfl
@[go_sem] theorem tab.by55 : tyBytes Try.prog 55 = some 64 := by kernel_rfl
@[go_sem] theorem tab.ze55 : tyZero Try.prog 55 = some (Go.Value.agg #[(Go.Value.int Go.IntKind.i64 0), (Go.Value.int Go.IntKind.i64 0), (Go.Value.int Go.IntKind.i64 0), (Go.Value.int Go.IntKind.i64 0), (Go.Value.int Go.IntKind.i64 0), (Go.Value.slice none 0 0)]) := by kernel_rfl
@[go_sem] theorem tab.un55 : Program.underlying Try.prog 55 = some (Go.TypeDesc.struct #[{ name := "size", type := 3, offset := 0, embedded := false, tag := "", pkgPath := "tachograph/series", byteOffset := 0 }, { name := "retention", type := 3, offset := 1, embedded := false, tag := "", pkgPath := "tachograph/series", byteOffset := 8 }, { name := "policy", type := 3, offset := 2, embedded := false, tag := "", pkgPath := "tachograph/series", byteOffset := 16 }, { name := "max", type := 3, offset := 3, embedded := false, tag := "", pkgPath := "tachograph/series", byteOffset := 24 }, { name := "floor", type := 3, offset := 4, embedded := false, tag := "", pkgPath := "tachograph/series", byteOffset := 32 }, { name := "chunks", type := 53, offset := 5, embedded := false, tag := "", pkgPath := "tachograph/series", byteOffset := 40 }]) := by kernel_rfl
@[go_sem] theorem tab.ag55 : tyAgg Try.prog 55 = some true := by kernel_rfl
@[go_sem] theorem tab.fi55_0 : tyField Try.prog 55 0 = some (3, 0) := by kernel_rfl
@[go_sem] theorem tab.fi55_1 : tyField Try.prog 55 1 = some (3, 1) := by kernel_rfl
@[go_sem] theorem tab.fi55_2 : tyField Try.prog 55 2 = some (3, 2) := by kernel_rfl
@[go_sem] theorem tab.fi55_3 : tyField Try.prog 55 3 = some (3, 3) := by kernel_rfl
@[go_sem] theorem tab.fi55_4 : tyField Try.prog 55 4 = some (3, 4) := by kernel_rfl
@[go_sem] theorem tab.fi55_5 : tyField Try.prog 55 5 = some (53, 5) := by kernel_rfl
@[go_sem] theorem tab.sz58 : tySize Try.prog 58 = some 1 := by kernel_rfl
@[go_sem] theorem tab.by58 : tyBytes Try.prog 58 = some 24 := by kernel_rfl
@[go_sem] theorem tab.ze58 : tyZero Try.prog 58 = some (Go.Value.slice none 0 0) := by kernel_rfl
@[go_sem] theorem tab.un58 : Program.underlying Try.prog 58 = some (Go.TypeDesc.slice 3) := by kernel_rfl
@[go_sem] theorem tab.ag58 : tyAgg Try.prog 58 = some false := by kernel_rfl
@[go_sem] theorem tab.sz61 : tySize Try.prog 61 = some 1 := by kernel_rfl
@[go_sem] theorem tab.by61 : tyBytes Try.prog 61 = some 8 := by kernel_rfl
@[go_sem] theorem tab.ze61 : tyZero Try.prog 61 = some (Go.Value.map none) := by kernel_rfl
@[go_sem] theorem tab.mk61 : mapKind Try.prog 61 = some (3, (Go.TypeDesc.int Go.IntKind.i64), 29) := by kernel_rfl
@[go_sem] theorem tab.un61 : Program.underlying Try.prog 61 = some (Go.TypeDesc.map 3 29) := by kernel_rfl
@[go_sem] theorem tab.ag61 : tyAgg Try.prog 61 = some false := by kernel_rfl
@[go_sem] theorem tab.sz83 : tySize Try.prog 83 = some 8 := by kernel_rfl
@[go_sem] theorem tab.by83 : tyBytes Try.prog 83 = some 128 := by kernel_rfl
@[go_sem] theorem tab.ze83 : tyZero Try.prog 83 = some (Go.Value.agg #[(Go.Value.string { data := #[] }), (Go.Value.string { data := #[] }), (Go.Value.string { data := #[] }), (Go.Value.string { data := #[] }), (Go.Value.string { data := #[] }), (Go.Value.string { data := #[] }), (Go.Value.string { data := #[] }), (Go.Value.string { data := #[] })]) := by kernel_rfl
@[go_sem] theorem tab.un83 : Program.underlying Try.prog 83 = some (Go.TypeDesc.array 8 9) := by kernel_rfl
@[go_sem] theorem tab.ag83 : tyAgg Try.prog 83 = some true := by kernel_rfl
@[go_sem] theorem tab.sz88 : tySize Try.prog 88 = some 1 := by kernel_rfl
@[go_sem] theorem tab.by88 : tyBytes Try.prog 88 = some 8 := by kernel_rfl
@[go_sem] theorem tab.ze88 : tyZero Try.prog 88 = some (Go.Value.pointer none) := by kernel_rfl
@[go_sem] theorem tab.un88 : Program.underlying Try.prog 88 = some (Go.TypeDesc.pointer 106) := by kernel_rfl
@[go_sem] theorem tab.ag88 : tyAgg Try.prog 88 = some false := by kernel_rfl
@[go_sem] theorem tab.sz91 : tySize Try.prog 91 = some 1 := by kernel_rfl
@[go_sem] theorem tab.by91 : tyBytes Try.prog 91 = some 8 := by kernel_rfl
@[go_sem] theorem tab.ze91 : tyZero Try.prog 91 = some (Go.Value.pointer none) := by kernel_rfl
@[go_sem] theorem tab.un91 : Program.underlying Try.prog 91 = some (Go.TypeDesc.pointer 93) := by kernel_rfl
@[go_sem] theorem tab.ag91 : tyAgg Try.prog 91 = some false := by kernel_rfl
@[go_sem] theorem tab.sz92 : tySize Try.prog 92 = some 5 := by kernel_rfl
@[go_sem] theorem tab.by92 : tyBytes Try.prog 92 = some 40 := by kernel_rfl
@[go_sem] theorem tab.ze92 : tyZero Try.prog 92 = some (Go.Value.agg #[(Go.Value.pointer none), (Go.Value.int Go.IntKind.i64 0), (Go.Value.int Go.IntKind.i64 0), (Go.Value.int Go.IntKind.i64 0), (Go.Value.int Go.IntKind.i64 0)]) := by kernel_rfl
@[go_sem] theorem tab.un92 : Program.underlying Try.prog 92 = some (Go.TypeDesc.struct #[{ name := "r", type := 88, offset := 0, embedded := false, tag := "", pkgPath := "tachograph/delta", byteOffset := 0 }, { name := "last", type := 34, offset := 1, embedded := false, tag := "", pkgPath := "tachograph/delta", byteOffset := 8 }, { name := "step", type := 3, offset := 3, embedded := false, tag := "", pkgPath := "tachograph/delta", byteOffset := 24 }, { name := "e", type := 27, offset := 4, embedded := false, tag := "", pkgPath := "tachograph/delta", byteOffset := 32 }]) := by kernel_rfl
@[go_sem] theorem tab.ag92 : tyAgg Try.prog 92 = some true := by kernel_rfl
@[go_sem] theorem tab.fi92_0 : tyField Try.prog 92 0 = some (88, 0) := by kernel_rfl
@[go_sem] theorem tab.fi92_1 : tyField Try.prog 92 1 = some (34, 1) := by kernel_rfl
@[go_sem] theorem tab.fi92_2 : tyField Try.prog 92 2 = some (3, 3) := by kernel_rfl
@[go_sem] theorem tab.fi92_3 : tyField Try.prog 92 3 = some (27, 4) := by kernel_rfl
@[go_sem] theorem tab.sz93 : tySize Try.prog 93 = some 5 := by kernel_rfl
@[go_sem] theorem tab.by93 : tyBytes Try.prog 93 = some 40 := by kernel_rfl
@[go_sem] theorem tab.ze93 : tyZero Try.prog 93 = some (Go.Value.agg #[(Go.Value.pointer none), (Go.Value.int Go.IntKind.i64 0), (Go.Value.int Go.IntKind.i64 0), (Go.Value.int Go.IntKind.i64 0), (Go.Value.int Go.IntKind.i64 0)]) := by kernel_rfl
@[go_sem] theorem tab.un93 : Program.underlying Try.prog 93 = some (Go.TypeDesc.struct #[{ name := "r", type := 88, offset := 0, embedded := false, tag := "", pkgPath := "tachograph/delta", byteOffset := 0 }, { name := "last", type := 34, offset := 1, embedded := false, tag := "", pkgPath := "tachograph/delta", byteOffset := 8 }, { name := "step", type := 3, offset := 3, embedded := false, tag := "", pkgPath := "tachograph/delta", byteOffset := 24 }, { name := "e", type := 27, offset := 4, embedded := false, tag := "", pkgPath := "tachograph/delta", byteOffset := 32 }]) := by kernel_rfl
@[go_sem] theorem tab.ag93 : tyAgg Try.prog 93 = some true := by kernel_rfl
@[go_sem] theorem tab.fi93_0 : tyField Try.prog 93 0 = some (88, 0) := by kernel_rfl
@[go_sem] theorem tab.fi93_1 : tyField Try.prog 93 1 = some (34, 1) := by kernel_rfl
@[go_sem] theorem tab.fi93_2 : tyField Try.prog 93 2 = some (3, 3) := by kernel_rfl
@[go_sem] theorem tab.fi93_3 : tyField Try.prog 93 3 = some (27, 4) := by kernel_rfl
@[go_sem] theorem tab.sz96 : tySize Try.prog 96 = some 1 := by kernel_rfl
@[go_sem] theorem tab.by96 : tyBytes Try.prog 96 = some 24 := by kernel_rfl
@[go_sem] theorem tab.ze96 : tyZero Try.prog 96 = some (Go.Value.slice none 0 0) := by kernel_rfl
@[go_sem] theorem tab.un96 : Program.underlying Try.prog 96 = some (Go.TypeDesc.slice 5) := by kernel_rfl
@[go_sem] theorem tab.ag96 : tyAgg Try.prog 96 = some false := by kernel_rfl
@[go_sem] theorem tab.sz97 : tySize Try.prog 97 = some 1 := by kernel_rfl
@[go_sem] theorem tab.by97 : tyBytes Try.prog 97 = some 8 := by kernel_rfl
@[go_sem] theorem tab.ze97 : tyZero Try.prog 97 = some (Go.Value.pointer none) := by kernel_rfl
@[go_sem] theorem tab.un97 : Program.underlying Try.prog 97 = some (Go.TypeDesc.pointer 99) := by kernel_rfl
@[go_sem] theorem tab.ag97 : tyAgg Try.prog 97 = some false := by kernel_rfl
@[go_sem] theorem tab.sz98 : tySize Try.prog 98 = some 2 := by kernel_rfl
@[go_sem] theorem tab.by98 : tyBytes Try.prog 98 = some 32 := by kernel_rfl
@[go_sem] theorem tab.ze98 : tyZero Try.prog 98 = some (Go.Value.agg #[(Go.Value.slice none 0 0), (Go.Value.int Go.IntKind.i64 0)]) := by kernel_rfl
@[go_sem] theorem tab.un98 : Program.underlying Try.prog 98 = some (Go.TypeDesc.struct #[{ name := "b", type := 96, offset := 0, embedded := false, tag := "", pkgPath := "tachograph/bits", byteOffset := 0 }, { name := "n", type := 3, offset := 1, embedded := false, tag := "", pkgPath := "tachograph/bits", byteOffset := 24 }]) := by kernel_rfl
@[go_sem] theorem tab.ag98 : tyAgg Try.prog 98 = some true := by kernel_rfl
@[go_sem] theorem tab.fi98_0 : tyField Try.prog 98 0 = some (96, 0) := by kernel_rfl
@[go_sem] theorem tab.fi98_1 : tyField Try.prog 98 1 = some (3, 1) := by kernel_rfl
@[go_sem] theorem tab.sz99 : tySize Try.prog 99 = some 2 := by kernel_rfl
@[go_sem] theorem tab.by99 : tyBytes Try.prog 99 = some 32 := by kernel_rfl
@[go_sem] theorem tab.ze99 : tyZero Try.prog 99 = some (Go.Value.agg #[(Go.Value.slice none 0 0), (Go.Value.int Go.IntKind.i64 0)]) := by kernel_rfl
@[go_sem] theorem tab.un99 : Program.underlying Try.prog 99 = some (Go.TypeDesc.struct #[{ name := "b", type := 96, offset := 0, embedded := false, tag := "", pkgPath := "tachograph/bits", byteOffset := 0 }, { name := "n", type := 3, offset := 1, embedded := false, tag := "", pkgPath := "tachograph/bits", byteOffset := 24 }]) := by kernel_rfl
@[go_sem] theorem tab.ag99 : tyAgg Try.prog 99 = some true := by kernel_rfl
@[go_sem] theorem tab.fi99_0 : tyField Try.prog 99 0 = some (96, 0) := by kernel_rfl
@[go_sem] theorem tab.fi99_1 : tyField Try.prog 99 1 = some (3, 1) := by kernel_rfl
@[go_sem] theorem tab.sz101 : tySize Try.prog 101 = some 1 := by kernel_rfl
@[go_sem] theorem tab.by101 : tyBytes Try.prog 101 = some 8 := by kernel_rfl
@[go_sem] theorem tab.ze101 : tyZero Try.prog 101 = some (Go.Value.int Go.IntKind.u64 0) := by kernel_rfl
@[go_sem] theorem tab.un101 : Program.underlying Try.prog 101 = some (Go.TypeDesc.int Go.IntKind.u64) := by kernel_rfl
@[go_sem] theorem tab.ag101 : tyAgg Try.prog 101 = some false := by kernel_rfl
@[go_sem] theorem tab.sz105 : tySize Try.prog 105 = some 4 := by kernel_rfl
@[go_sem] theorem tab.by105 : tyBytes Try.prog 105 = some 40 := by kernel_rfl
@[go_sem] theorem tab.ze105 : tyZero Try.prog 105 = some (Go.Value.agg #[(Go.Value.string { data := #[] }), (Go.Value.int Go.IntKind.i64 0), (Go.Value.int Go.IntKind.i64 0), (Go.Value.bool false)]) := by kernel_rfl
@[go_sem] theorem tab.un105 : Program.underlying Try.prog 105 = some (Go.TypeDesc.struct #[{ name := "s", type := 9, offset := 0, embedded := false, tag := "", pkgPath := "tachograph/bits", byteOffset := 0 }, { name := "n", type := 3, offset := 1, embedded := false, tag := "", pkgPath := "tachograph/bits", byteOffset := 16 }, { name := "at", type := 3, offset := 2, embedded := false, tag := "", pkgPath := "tachograph/bits", byteOffset := 24 }, { name := "made", type := 4, offset := 3, embedded := false, tag := "", pkgPath := "tachograph/bits", byteOffset := 32 }]) := by kernel_rfl
@[go_sem] theorem tab.ag105 : tyAgg Try.prog 105 = some true := by kernel_rfl
@[go_sem] theorem tab.eq105 : eqPlan Try.prog 105 = some [(1, 0), (0, 1), (0, 2), (2, 3)] := by kernel_rfl
@[go_sem] theorem tab.fi105_0 : tyField Try.prog 105 0 = some (9, 0) := by kernel_rfl
@[go_sem] theorem tab.fi105_1 : tyField Try.prog 105 1 = some (3, 1) := by kernel_rfl
@[go_sem] theorem tab.fi105_2 : tyField Try.prog 105 2 = some (3, 2) := by kernel_rfl
@[go_sem] theorem tab.fi105_3 : tyField Try.prog 105 3 = some (4, 3) := by kernel_rfl
@[go_sem] theorem tab.sz106 : tySize Try.prog 106 = some 4 := by kernel_rfl
@[go_sem] theorem tab.by106 : tyBytes Try.prog 106 = some 40 := by kernel_rfl
@[go_sem] theorem tab.ze106 : tyZero Try.prog 106 = some (Go.Value.agg #[(Go.Value.string { data := #[] }), (Go.Value.int Go.IntKind.i64 0), (Go.Value.int Go.IntKind.i64 0), (Go.Value.bool false)]) := by kernel_rfl
@[go_sem] theorem tab.un106 : Program.underlying Try.prog 106 = some (Go.TypeDesc.struct #[{ name := "s", type := 9, offset := 0, embedded := false, tag := "", pkgPath := "tachograph/bits", byteOffset := 0 }, { name := "n", type := 3, offset := 1, embedded := false, tag := "", pkgPath := "tachograph/bits", byteOffset := 16 }, { name := "at", type := 3, offset := 2, embedded := false, tag := "", pkgPath := "tachograph/bits", byteOffset := 24 }, { name := "made", type := 4, offset := 3, embedded := false, tag := "", pkgPath := "tachograph/bits", byteOffset := 32 }]) := by kernel_rfl
@[go_sem] theorem tab.ag106 : tyAgg Try.prog 106 = some true := by kernel_rfl
@[go_sem] theorem tab.eq106 : eqPlan Try.prog 106 = some [(1, 0), (0, 1), (0, 2), (2, 3)] := by kernel_rfl
@[go_sem] theorem tab.fi106_0 : tyField Try.prog 106 0 = some (9, 0) := by kernel_rfl
@[go_sem] theorem tab.fi106_1 : tyField Try.prog 106 1 = some (3, 1) := by kernel_rfl
@[go_sem] theorem tab.fi106_2 : tyField Try.prog 106 2 = some (3, 2) := by kernel_rfl
@[go_sem] theorem tab.fi106_3 : tyField Try.prog 106 3 = some (4, 3) := by kernel_rfl
@[go_sem] theorem tab.sz110 : tySize Try.prog 110 = some 5 := by kernel_rfl
@[go_sem] theorem tab.by110 : tyBytes Try.prog 110 = some 40 := by kernel_rfl
@[go_sem] theorem tab.ze110 : tyZero Try.prog 110 = some (Go.Value.agg #[(Go.Value.int Go.IntKind.i64 0), (Go.Value.int Go.IntKind.i64 0), (Go.Value.int Go.IntKind.i64 0), (Go.Value.int Go.IntKind.i64 0), (Go.Value.int Go.IntKind.i64 0)]) := by kernel_rfl
@[go_sem] theorem tab.un110 : Program.underlying Try.prog 110 = some (Go.TypeDesc.array 5 3) := by kernel_rfl
@[go_sem] theorem tab.ag110 : tyAgg Try.prog 110 = some true := by kernel_rfl
@[go_sem] theorem tab.sz112 : tySize Try.prog 112 = some 1 := by kernel_rfl
@[go_sem] theorem tab.by112 : tyBytes Try.prog 112 = some 8 := by kernel_rfl
@[go_sem] theorem tab.ze112 : tyZero Try.prog 112 = some (Go.Value.int Go.IntKind.u64 0) := by kernel_rfl
@[go_sem] theorem tab.un112 : Program.underlying Try.prog 112 = some (Go.TypeDesc.int Go.IntKind.u64) := by kernel_rfl
@[go_sem] theorem tab.ag112 : tyAgg Try.prog 112 = some false := by kernel_rfl
@[go_sem] theorem tab.sz119 : tySize Try.prog 119 = some 4 := by kernel_rfl
@[go_sem] theorem tab.by119 : tyBytes Try.prog 119 = some 40 := by kernel_rfl
@[go_sem] theorem tab.ze119 : tyZero Try.prog 119 = some (Go.Value.agg #[(Go.Value.pointer none), (Go.Value.pointer none), (Go.Value.pointer none), (Go.Value.string { data := #[] })]) := by kernel_rfl
@[go_sem] theorem tab.un119 : Program.underlying Try.prog 119 = some (Go.TypeDesc.struct #[{ name := "_interface", type := 17, offset := 0, embedded := false, tag := "", pkgPath := "runtime", byteOffset := 0 }, { name := "concrete", type := 17, offset := 1, embedded := false, tag := "", pkgPath := "runtime", byteOffset := 8 }, { name := "asserted", type := 17, offset := 2, embedded := false, tag := "", pkgPath := "runtime", byteOffset := 16 }, { name := "missingMethod", type := 9, offset := 3, embedded := false, tag := "", pkgPath := "runtime", byteOffset := 24 }]) := by kernel_rfl
@[go_sem] theorem tab.ag119 : tyAgg Try.prog 119 = some true := by kernel_rfl
@[go_sem] theorem tab.fi119_0 : tyField Try.prog 119 0 = some (17, 0) := by kernel_rfl
@[go_sem] theorem tab.fi119_1 : tyField Try.prog 119 1 = some (17, 1) := by kernel_rfl
@[go_sem] theorem tab.fi119_2 : tyField Try.prog 119 2 = some (17, 2) := by kernel_rfl
@[go_sem] theorem tab.fi119_3 : tyField Try.prog 119 3 = some (9, 3) := by kernel_rfl
@[go_sem] theorem tab.sz120 : tySize Try.prog 120 = some 4 := by kernel_rfl
@[go_sem] theorem tab.by120 : tyBytes Try.prog 120 = some 40 := by kernel_rfl
@[go_sem] theorem tab.ze120 : tyZero Try.prog 120 = some (Go.Value.agg #[(Go.Value.pointer none), (Go.Value.pointer none), (Go.Value.pointer none), (Go.Value.string { data := #[] })]) := by kernel_rfl
@[go_sem] theorem tab.un120 : Program.underlying Try.prog 120 = some (Go.TypeDesc.struct #[{ name := "_interface", type := 17, offset := 0, embedded := false, tag := "", pkgPath := "runtime", byteOffset := 0 }, { name := "concrete", type := 17, offset := 1, embedded := false, tag := "", pkgPath := "runtime", byteOffset := 8 }, { name := "asserted", type := 17, offset := 2, embedded := false, tag := "", pkgPath := "runtime", byteOffset := 16 }, { name := "missingMethod", type := 9, offset := 3, embedded := false, tag := "", pkgPath := "runtime", byteOffset := 24 }]) := by kernel_rfl
@[go_sem] theorem tab.ag120 : tyAgg Try.prog 120 = some true := by kernel_rfl
@[go_sem] theorem tab.fi120_0 : tyField Try.prog 120 0 = some (17, 0) := by kernel_rfl
@[go_sem] theorem tab.fi120_1 : tyField Try.prog 120 1 = some (17, 1) := by kernel_rfl
@[go_sem] theorem tab.fi120_2 : tyField Try.prog 120 2 = some (17, 2) := by kernel_rfl
@[go_sem] theorem tab.fi120_3 : tyField Try.prog 120 3 = some (9, 3) := by kernel_rfl
@[go_sem] theorem tab.sz121 : tySize Try.prog 121 = some 0 := by kernel_rfl
@[go_sem] theorem tab.by121 : tyBytes Try.prog 121 = some 0 := by kernel_rfl
@[go_sem] theorem tab.ze121 : tyZero Try.prog 121 = some (Go.Value.agg #[]) := by kernel_rfl
@[go_sem] theorem tab.un121 : Program.underlying Try.prog 121 = some (Go.TypeDesc.array 0 16) := by kernel_rfl
@[go_sem] theorem tab.ag121 : tyAgg Try.prog 121 = some true := by kernel_rfl
@[go_sem] theorem tab.sz122 : tySize Try.prog 122 = some 0 := by kernel_rfl
@[go_sem] theorem tab.by122 : tyBytes Try.prog 122 = some 0 := by kernel_rfl
@[go_sem] theorem tab.ze122 : tyZero Try.prog 122 = some (Go.Value.agg #[]) := by kernel_rfl
@[go_sem] theorem tab.un122 : Program.underlying Try.prog 122 = some (Go.TypeDesc.struct #[{ name := "_", type := 121, offset := 0, embedded := false, tag := "", pkgPath := "runtime", byteOffset := 0 }]) := by kernel_rfl
@[go_sem] theorem tab.ag122 : tyAgg Try.prog 122 = some true := by kernel_rfl
@[go_sem] theorem tab.sz123 : tySize Try.prog 123 = some 0 := by kernel_rfl
@[go_sem] theorem tab.by123 : tyBytes Try.prog 123 = some 0 := by kernel_rfl
@[go_sem] theorem tab.ze123 : tyZero Try.prog 123 = some (Go.Value.agg #[]) := by kernel_rfl
@[go_sem] theorem tab.un123 : Program.underlying Try.prog 123 = some (Go.TypeDesc.struct #[{ name := "_", type := 121, offset := 0, embedded := false, tag := "", pkgPath := "runtime", byteOffset := 0 }]) := by kernel_rfl
@[go_sem] theorem tab.ag123 : tyAgg Try.prog 123 = some true := by kernel_rfl
@[go_sem] theorem tab.sz124 : tySize Try.prog 124 = some 1 := by kernel_rfl
@[go_sem] theorem tab.by124 : tyBytes Try.prog 124 = some 4 := by kernel_rfl
@[go_sem] theorem tab.ze124 : tyZero Try.prog 124 = some (Go.Value.int Go.IntKind.u32 0) := by kernel_rfl
@[go_sem] theorem tab.un124 : Program.underlying Try.prog 124 = some (Go.TypeDesc.int Go.IntKind.u32) := by kernel_rfl
@[go_sem] theorem tab.ag124 : tyAgg Try.prog 124 = some false := by kernel_rfl
@[go_sem] theorem tab.sz125 : tySize Try.prog 125 = some 1 := by kernel_rfl
@[go_sem] theorem tab.by125 : tyBytes Try.prog 125 = some 1 := by kernel_rfl
@[go_sem] theorem tab.ze125 : tyZero Try.prog 125 = some (Go.Value.int Go.IntKind.u8 0) := by kernel_rfl
@[go_sem] theorem tab.un125 : Program.underlying Try.prog 125 = some (Go.TypeDesc.int Go.IntKind.u8) := by kernel_rfl
@[go_sem] theorem tab.ag125 : tyAgg Try.prog 125 = some false := by kernel_rfl
@[go_sem] theorem tab.sz126 : tySize Try.prog 126 = some 1 := by kernel_rfl
@[go_sem] theorem tab.by126 : tyBytes Try.prog 126 = some 1 := by kernel_rfl
@[go_sem] theorem tab.ze126 : tyZero Try.prog 126 = some (Go.Value.int Go.IntKind.u8 0) := by kernel_rfl
@[go_sem] theorem tab.un126 : Program.underlying Try.prog 126 = some (Go.TypeDesc.int Go.IntKind.u8) := by kernel_rfl
@[go_sem] theorem tab.ag126 : tyAgg Try.prog 126 = some false := by kernel_rfl
@[go_sem] theorem tab.sz128 : tySize Try.prog 128 = some 1 := by kernel_rfl
@[go_sem] theorem tab.by128 : tyBytes Try.prog 128 = some 8 := by kernel_rfl
@[go_sem] theorem tab.ze128 : tyZero Try.prog 128 = some (Go.Value.pointer none) := by kernel_rfl
@[go_sem] theorem tab.un128 : Program.underlying Try.prog 128 = some (Go.TypeDesc.pointer 5) := by kernel_rfl
@[go_sem] theorem tab.ag128 : tyAgg Try.prog 128 = some false := by kernel_rfl
@[go_sem] theorem tab.sz129 : tySize Try.prog 129 = some 1 := by kernel_rfl
@[go_sem] theorem tab.by129 : tyBytes Try.prog 129 = some 4 := by kernel_rfl
@[go_sem] theorem tab.ze129 : tyZero Try.prog 129 = some (Go.Value.int Go.IntKind.i32 0) := by kernel_rfl
@[go_sem] theorem tab.un129 : Program.underlying Try.prog 129 = some (Go.TypeDesc.int Go.IntKind.i32) := by kernel_rfl
@[go_sem] theorem tab.ag129 : tyAgg Try.prog 129 = some false := by kernel_rfl
@[go_sem] theorem tab.sz130 : tySize Try.prog 130 = some 1 := by kernel_rfl
@[go_sem] theorem tab.by130 : tyBytes Try.prog 130 = some 4 := by kernel_rfl
@[go_sem] theorem tab.ze130 : tyZero Try.prog 130 = some (Go.Value.int Go.IntKind.i32 0) := by kernel_rfl
@[go_sem] theorem tab.un130 : Program.underlying Try.prog 130 = some (Go.TypeDesc.int Go.IntKind.i32) := by kernel_rfl
@[go_sem] theorem tab.ag130 : tyAgg Try.prog 130 = some false := by kernel_rfl
@[go_sem] theorem tab.sz131 : tySize Try.prog 131 = some 11 := by kernel_rfl
@[go_sem] theorem tab.by131 : tyBytes Try.prog 131 = some 48 := by kernel_rfl
@[go_sem] theorem tab.ze131 : tyZero Try.prog 131 = some (Go.Value.agg #[(Go.Value.int Go.IntKind.u64 0), (Go.Value.int Go.IntKind.u64 0), (Go.Value.int Go.IntKind.u32 0), (Go.Value.int Go.IntKind.u8 0), (Go.Value.int Go.IntKind.u8 0), (Go.Value.int Go.IntKind.u8 0), (Go.Value.int Go.IntKind.u8 0), Go.Value.nilFunc, (Go.Value.pointer none), (Go.Value.int Go.IntKind.i32 0), (Go.Value.int Go.IntKind.i32 0)]) := by kernel_rfl
@[go_sem] theorem tab.un131 : Program.underlying Try.prog 131 = some (Go.TypeDesc.struct #[{ name := "Size_", type := 12, offset := 0, embedded := false, tag := "", pkgPath := "", byteOffset := 0 }, { name := "PtrBytes", type := 12, offset := 1, embedded := false, tag := "", pkgPath := "", byteOffset := 8 }, { name := "Hash", type := 124, offset := 2, embedded := false, tag := "", pkgPath := "", byteOffset := 16 }, { name := "TFlag", type := 125, offset := 3, embedded := false, tag := "", pkgPath := "", byteOffset := 20 }, { name := "Align_", type := 5, offset := 4, embedded := false, tag := "", pkgPath := "", byteOffset := 21 }, { name := "FieldAlign_", type := 5, offset := 5, embedded := false, tag := "", pkgPath := "", byteOffset := 22 }, { name := "Kind_", type := 126, offset := 6, embedded := false, tag := "", pkgPath := "", byteOffset := 23 }, { name := "Equal", type := 127, offset := 7, embedded := false, tag := "", pkgPath := "", byteOffset := 24 }, { name := "GCData", type := 128, offset := 8, embedded := false, tag := "", pkgPath := "", byteOffset := 32 }, { name := "Str", type := 129, offset := 9, embedded := false, tag := "", pkgPath := "", byteOffset := 40 }, { name := "PtrToThis", type := 130, offset := 10, embedded := false, tag := "", pkgPath := "", byteOffset := 44 }]) := by kernel_rfl
@[go_sem] theorem tab.ag131 : tyAgg Try.prog 131 = some true := by kernel_rfl
@[go_sem] theorem tab.fi131_0 : tyField Try.prog 131 0 = some (12, 0) := by kernel_rfl
@[go_sem] theorem tab.fi131_1 : tyField Try.prog 131 1 = some (12, 1) := by kernel_rfl
@[go_sem] theorem tab.fi131_2 : tyField Try.prog 131 2 = some (124, 2) := by kernel_rfl
@[go_sem] theorem tab.fi131_3 : tyField Try.prog 131 3 = some (125, 3) := by kernel_rfl
@[go_sem] theorem tab.fi131_4 : tyField Try.prog 131 4 = some (5, 4) := by kernel_rfl
@[go_sem] theorem tab.fi131_5 : tyField Try.prog 131 5 = some (5, 5) := by kernel_rfl
@[go_sem] theorem tab.fi131_6 : tyField Try.prog 131 6 = some (126, 6) := by kernel_rfl
@[go_sem] theorem tab.fi131_7 : tyField Try.prog 131 7 = some (127, 7) := by kernel_rfl
@[go_sem] theorem tab.fi131_8 : tyField Try.prog 131 8 = some (128, 8) := by kernel_rfl
@[go_sem] theorem tab.fi131_9 : tyField Try.prog 131 9 = some (129, 9) := by kernel_rfl
@[go_sem] theorem tab.fi131_10 : tyField Try.prog 131 10 = some (130, 10) := by kernel_rfl
@[go_sem] theorem tab.sz132 : tySize Try.prog 132 = some 11 := by kernel_rfl
@[go_sem] theorem tab.by132 : tyBytes Try.prog 132 = some 48 := by kernel_rfl
@[go_sem] theorem tab.ze132 : tyZero Try.prog 132 = some (Go.Value.agg #[(Go.Value.int Go.IntKind.u64 0), (Go.Value.int Go.IntKind.u64 0), (Go.Value.int Go.IntKind.u32 0), (Go.Value.int Go.IntKind.u8 0), (Go.Value.int Go.IntKind.u8 0), (Go.Value.int Go.IntKind.u8 0), (Go.Value.int Go.IntKind.u8 0), Go.Value.nilFunc, (Go.Value.pointer none), (Go.Value.int Go.IntKind.i32 0), (Go.Value.int Go.IntKind.i32 0)]) := by kernel_rfl
@[go_sem] theorem tab.un132 : Program.underlying Try.prog 132 = some (Go.TypeDesc.struct #[{ name := "Size_", type := 12, offset := 0, embedded := false, tag := "", pkgPath := "", byteOffset := 0 }, { name := "PtrBytes", type := 12, offset := 1, embedded := false, tag := "", pkgPath := "", byteOffset := 8 }, { name := "Hash", type := 124, offset := 2, embedded := false, tag := "", pkgPath := "", byteOffset := 16 }, { name := "TFlag", type := 125, offset := 3, embedded := false, tag := "", pkgPath := "", byteOffset := 20 }, { name := "Align_", type := 5, offset := 4, embedded := false, tag := "", pkgPath := "", byteOffset := 21 }, { name := "FieldAlign_", type := 5, offset := 5, embedded := false, tag := "", pkgPath := "", byteOffset := 22 }, { name := "Kind_", type := 126, offset := 6, embedded := false, tag := "", pkgPath := "", byteOffset := 23 }, { name := "Equal", type := 127, offset := 7, embedded := false, tag := "", pkgPath := "", byteOffset := 24 }, { name := "GCData", type := 128, offset := 8, embedded := false, tag := "", pkgPath := "", byteOffset := 32 }, { name := "Str", type := 129, offset := 9, embedded := false, tag := "", pkgPath := "", byteOffset := 40 }, { name := "PtrToThis", type := 130, offset := 10, embedded := false, tag := "", pkgPath := "", byteOffset := 44 }]) := by kernel_rfl
@[go_sem] theorem tab.ag132 : tyAgg Try.prog 132 = some true := by kernel_rfl
@[go_sem] theorem tab.fi132_0 : tyField Try.prog 132 0 = some (12, 0) := by kernel_rfl
@[go_sem] theorem tab.fi132_1 : tyField Try.prog 132 1 = some (12, 1) := by kernel_rfl
@[go_sem] theorem tab.fi132_2 : tyField Try.prog 132 2 = some (124, 2) := by kernel_rfl
@[go_sem] theorem tab.fi132_3 : tyField Try.prog 132 3 = some (125, 3) := by kernel_rfl
@[go_sem] theorem tab.fi132_4 : tyField Try.prog 132 4 = some (5, 4) := by kernel_rfl
@[go_sem] theorem tab.fi132_5 : tyField Try.prog 132 5 = some (5, 5) := by kernel_rfl
@[go_sem] theorem tab.fi132_6 : tyField Try.prog 132 6 = some (126, 6) := by kernel_rfl
@[go_sem] theorem tab.fi132_7 : tyField Try.prog 132 7 = some (127, 7) := by kernel_rfl
@[go_sem] theorem tab.fi132_8 : tyField Try.prog 132 8 = some (128, 8) := by kernel_rfl
@[go_sem] theorem tab.fi132_9 : tyField Try.prog 132 9 = some (129, 9) := by kernel_rfl
@[go_sem] theorem tab.fi132_10 : tyField Try.prog 132 10 = some (130, 10) := by kernel_rfl
@[go_sem] theorem tab.sz133 : tySize Try.prog 133 = some 1 := by kernel_rfl
@[go_sem] theorem tab.by133 : tyBytes Try.prog 133 = some 8 := by kernel_rfl
@[go_sem] theorem tab.ze133 : tyZero Try.prog 133 = some (Go.Value.pointer none) := by kernel_rfl
@[go_sem] theorem tab.ag133 : tyAgg Try.prog 133 = some false := by kernel_rfl
@[go_sem] theorem tab.ca3 : isCall Try.prog 3 = true := by kernel_rfl
@[go_sem] theorem tab.ca4 : isCall Try.prog 4 = true := by kernel_rfl
@[go_sem] theorem tab.ca5 : isCall Try.prog 5 = true := by kernel_rfl
@[go_sem] theorem tab.ca6 : isCall Try.prog 6 = true := by kernel_rfl
@[go_sem] theorem tab.ca7 : isCall Try.prog 7 = true := by kernel_rfl
@[go_sem] theorem tab.ca8 : isCall Try.prog 8 = true := by kernel_rfl
@[go_sem] theorem tab.ca9 : isCall Try.prog 9 = true := by kernel_rfl
@[go_sem] theorem tab.ca10 : isCall Try.prog 10 = true := by kernel_rfl
@[go_sem] theorem tab.ca11 : isCall Try.prog 11 = true := by kernel_rfl
@[go_sem] theorem tab.ca12 : isCall Try.prog 12 = true := by kernel_rfl
@[go_sem] theorem tab.ca13 : isCall Try.prog 13 = true := by kernel_rfl
@[go_sem] theorem tab.ca14 : isCall Try.prog 14 = true := by kernel_rfl
@[go_sem] theorem tab.ca15 : isCall Try.prog 15 = true := by kernel_rfl
@[go_sem] theorem tab.ca16 : isCall Try.prog 16 = true := by kernel_rfl
@[go_sem] theorem tab.ca17 : isCall Try.prog 17 = true := by kernel_rfl
@[go_sem] theorem tab.ca18 : isCall Try.prog 18 = true := by kernel_rfl
@[go_sem] theorem tab.ca19 : isCall Try.prog 19 = true := by kernel_rfl
@[go_sem] theorem tab.ca20 : isCall Try.prog 20 = true := by kernel_rfl
@[go_sem] theorem tab.ca21 : isCall Try.prog 21 = true := by kernel_rfl
@[go_sem] theorem tab.ca22 : isCall Try.prog 22 = true := by kernel_rfl
@[go_sem] theorem tab.ca23 : isCall Try.prog 23 = true := by kernel_rfl
@[go_sem] theorem tab.ca24 : isCall Try.prog 24 = true := by kernel_rfl
@[go_sem] theorem tab.ca25 : isCall Try.prog 25 = true := by kernel_rfl
@[go_sem] theorem tab.ca26 : isCall Try.prog 26 = true := by kernel_rfl
@[go_sem] theorem tab.ca27 : isCall Try.prog 27 = true := by kernel_rfl
@[go_sem] theorem tab.ca28 : isCall Try.prog 28 = true := by kernel_rfl
@[go_sem] theorem tab.ca29 : isCall Try.prog 29 = true := by kernel_rfl
@[go_sem] theorem tab.ca30 : isCall Try.prog 30 = true := by kernel_rfl
@[go_sem] theorem tab.ca31 : isCall Try.prog 31 = true := by kernel_rfl
@[go_sem] theorem tab.ca32 : isCall Try.prog 32 = true := by kernel_rfl
@[go_sem] theorem tab.ca33 : isCall Try.prog 33 = true := by kernel_rfl
@[go_sem] theorem tab.ca34 : isCall Try.prog 34 = true := by kernel_rfl
@[go_sem] theorem tab.ca35 : isCall Try.prog 35 = true := by kernel_rfl
@[go_sem] theorem tab.ca36 : isCall Try.prog 36 = true := by kernel_rfl
@[go_sem] theorem tab.ca37 : isCall Try.prog 37 = true := by kernel_rfl
@[go_sem] theorem tab.ca38 : isCall Try.prog 38 = true := by kernel_rfl
@[go_sem] theorem tab.ca39 : isCall Try.prog 39 = true := by kernel_rfl
@[go_sem] theorem tab.ca40 : isCall Try.prog 40 = true := by kernel_rfl
@[go_sem] theorem tab.ca41 : isCall Try.prog 41 = true := by kernel_rfl
@[go_sem] theorem tab.ca42 : isCall Try.prog 42 = true := by kernel_rfl
@[go_sem] theorem tab.ca43 : isCall Try.prog 43 = true := by kernel_rfl
@[go_sem] theorem tab.ca44 : isCall Try.prog 44 = true := by kernel_rfl
@[go_sem] theorem tab.ca45 : isCall Try.prog 45 = true := by kernel_rfl
@[go_sem] theorem tab.ca46 : isCall Try.prog 46 = true := by kernel_rfl
@[go_sem] theorem tab.ca47 : isCall Try.prog 47 = true := by kernel_rfl
@[go_sem] theorem tab.ca48 : isCall Try.prog 48 = true := by kernel_rfl
@[go_sem] theorem tab.ca49 : isCall Try.prog 49 = true := by kernel_rfl
@[go_sem] theorem tab.ca50 : isCall Try.prog 50 = true := by kernel_rfl
@[go_sem] theorem tab.ca51 : isCall Try.prog 51 = true := by kernel_rfl
@[go_sem] theorem tab.ca52 : isCall Try.prog 52 = true := by kernel_rfl
@[go_sem] theorem tab.ca53 : isCall Try.prog 53 = true := by kernel_rfl
@[go_sem] theorem tab.ca54 : isCall Try.prog 54 = true := by kernel_rfl
@[go_sem] theorem tab.ca55 : isCall Try.prog 55 = true := by kernel_rfl
@[go_sem] theorem tab.ca56 : isCall Try.prog 56 = true := by kernel_rfl
@[go_sem] theorem tab.ca57 : isCall Try.prog 57 = true := by kernel_rfl
@[go_sem] theorem tab.ca58 : isCall Try.prog 58 = true := by kernel_rfl
@[go_sem] theorem tab.ca59 : isCall Try.prog 59 = true := by kernel_rfl
@[go_sem] theorem tab.ca60 : isCall Try.prog 60 = true := by kernel_rfl
@[go_sem] theorem tab.ca61 : isCall Try.prog 61 = true := by kernel_rfl
@[go_sem] theorem tab.ca62 : isCall Try.prog 62 = true := by kernel_rfl
@[go_sem] theorem tab.ca63 : isCall Try.prog 63 = true := by kernel_rfl
@[go_sem] theorem tab.ca64 : isCall Try.prog 64 = true := by kernel_rfl
@[go_sem] theorem tab.ca65 : isCall Try.prog 65 = true := by kernel_rfl
@[go_sem] theorem tab.ca66 : isCall Try.prog 66 = true := by kernel_rfl
@[go_sem] theorem tab.ca67 : isCall Try.prog 67 = true := by kernel_rfl
@[go_sem] theorem tab.ca68 : isCall Try.prog 68 = true := by kernel_rfl
@[go_sem] theorem tab.ca69 : isCall Try.prog 69 = true := by kernel_rfl
@[go_sem] theorem tab.ca70 : isCall Try.prog 70 = true := by kernel_rfl
@[go_sem] theorem tab.ca71 : isCall Try.prog 71 = true := by kernel_rfl
@[go_sem] theorem tab.ca72 : isCall Try.prog 72 = true := by kernel_rfl
@[go_sem] theorem tab.ca73 : isCall Try.prog 73 = true := by kernel_rfl
@[go_sem] theorem tab.ca74 : isCall Try.prog 74 = true := by kernel_rfl
@[go_sem] theorem tab.ca75 : isCall Try.prog 75 = true := by kernel_rfl
@[go_sem] theorem tab.ca76 : isCall Try.prog 76 = true := by kernel_rfl
@[go_sem] theorem tab.ca77 : isCall Try.prog 77 = true := by kernel_rfl
@[go_sem] theorem tab.ca78 : isCall Try.prog 78 = true := by kernel_rfl
@[go_sem] theorem tab.ca79 : isCall Try.prog 79 = true := by kernel_rfl
@[go_sem] theorem tab.ca80 : isCall Try.prog 80 = true := by kernel_rfl
@[go_sem] theorem tab.ca81 : isCall Try.prog 81 = true := by kernel_rfl
@[go_sem] theorem tab.ca82 : isCall Try.prog 82 = true := by kernel_rfl
@[go_sem] theorem tab.ca83 : isCall Try.prog 83 = true := by kernel_rfl
@[go_sem] theorem tab.ca84 : isCall Try.prog 84 = true := by kernel_rfl
@[go_sem] theorem tab.ca85 : isCall Try.prog 85 = true := by kernel_rfl
@[go_sem] theorem tab.ca86 : isCall Try.prog 86 = true := by kernel_rfl
@[go_sem] theorem tab.ca87 : isCall Try.prog 87 = true := by kernel_rfl
@[go_sem] theorem tab.ca88 : isCall Try.prog 88 = true := by kernel_rfl
@[go_sem] theorem tab.ca89 : isCall Try.prog 89 = true := by kernel_rfl
@[go_sem] theorem tab.ca90 : isCall Try.prog 90 = true := by kernel_rfl
@[go_sem] theorem tab.ca91 : isCall Try.prog 91 = true := by kernel_rfl
@[go_sem] theorem tab.ca92 : isCall Try.prog 92 = true := by kernel_rfl
@[go_sem] theorem tab.ca93 : isCall Try.prog 93 = true := by kernel_rfl
@[go_sem] theorem tab.ca94 : isCall Try.prog 94 = true := by kernel_rfl
@[go_sem] theorem tab.ca95 : isCall Try.prog 95 = true := by kernel_rfl
@[go_sem] theorem tab.ca96 : isCall Try.prog 96 = true := by kernel_rfl
@[go_sem] theorem tab.ca97 : isCall Try.prog 97 = true := by kernel_rfl
@[go_sem] theorem tab.ca98 : isCall Try.prog 98 = true := by kernel_rfl
@[go_sem] theorem tab.ca99 : isCall Try.prog 99 = true := by kernel_rfl
@[go_sem] theorem tab.ca100 : isCall Try.prog 100 = true := by kernel_rfl
@[go_sem] theorem tab.ca101 : isCall Try.prog 101 = true := by kernel_rfl
@[go_sem] theorem tab.ca102 : isCall Try.prog 102 = true := by kernel_rfl
@[go_sem] theorem tab.ca103 : isCall Try.prog 103 = true := by kernel_rfl
@[go_sem] theorem tab.ca104 : isCall Try.prog 104 = true := by kernel_rfl
@[go_sem] theorem tab.ca105 : isCall Try.prog 105 = true := by kernel_rfl
@[go_sem] theorem tab.ca106 : isCall Try.prog 106 = true := by kernel_rfl
@[go_sem] theorem tab.ca107 : isCall Try.prog 107 = true := by kernel_rfl
theorem tab.mixed : Try.prog.follows .mixedOrders = true := by kernel_rfl
end Go.Proofs.Ytgfmdhjhknhmcaa
