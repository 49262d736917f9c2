/-
  PROVED: 'Rows.SeriesRangesSaid': a range of times is the range of its first part, and of its second part; back it is the same the other way round; a range of one time has its sample: for every input the law returns true, and each argument reads afterwards as it read before. No condition.
-/
import Derived.Test.YthjggjhebbdkdaaJf
import Derived.Test.YthjggjhebbdkdaaJd
set_option linter.unusedSimpArgs false
set_option linter.unusedVariables false
namespace Go.Proofs.Ythjggjhebbdkdaa.seriesRanges
open Go Go.RowKit Go.ChangeShapes Go.WideShapes Go.ChangeAt
theorem own : ownKnob Try.prog.godebug = none := by kernel_rfl
set_option maxHeartbeats 2000000 in
set_option maxRecDepth 100000 in
theorem lifted (os : Os) (started : os.Started) (H : Type) (enc : TypeId × Value → H) :
    ReturnsInHanded {} Try.checked os 3 .any (Rows.seriesRangesSpec.pre6 enc Try.prog Try.f3 Rows.seriesRangesRow.domain false) (Rows.seriesRangesSpec.post enc Try.prog Try.f3 false true false false) := by
  refine returnsInHanded_of_change_sized (C := Try.checked) own started (by kernel_rfl) Try.func3
    (ChangeSpec.witness6 (enc := enc) (C := Try.checked) false ⟨#[], #[.slice none 0 0, .agg #[.int .i64 0, .int .i64 0, .int .i64 0]], []⟩ 8 (by kernel_rfl) (by kernel_rfl) (by kernel_rfl) (by kernel_rfl)) ?_
  intro W base args ds gs before hval0 hW hcnd hsz _
  have hval : ∀ (j : Nat) t v, Try.f3.params[j]? = some t → args[j]? = some v → Value.okWide Try.prog W .any base t v := hval0
  have hW2 := hW
  obtain ⟨p, q, hA0, hV, rfl, _, _⟩ := hW2
  have hA : DataW.TrodAll enc Try.prog W 0 (fun _ => true) true Try.f3.params.toList args.toList ds p := hA0
  rw [Try.params3] at hA hval
  obtain ⟨v0, vs0, d0, ds0, p0, q0, hargs, rfl, rfl, h0, r0⟩ := trodAll_cons hA
  obtain ⟨v1, vs1, d1, ds1, p1, q1, rfl, rfl, rfl, h1, r1⟩ := trodAll_cons r0
  obtain ⟨rfl, rfl, rfl⟩ := trodAll_nil r1
  obtain rfl : args = #[v0, v1] := by cases args; simp_all
  obtain ⟨rfl, rfl⟩ := trodVars_none hV
  obtain ⟨X0, z0, in0, fr0, hv0, dd0, ln0⟩ := Fa (P := Try.prog) (d := 5) Try.underlying22 (by kernel_rfl) (by kernel_rfl) (uW Try.underlying22 (hval 0 22 v0 rfl rfl)) h0
  have sz0 : X0.length ≤ 8796093022208 := wZ (P := Try.prog) (t := 22) (e := 31) hsz (j := 0) rfl rfl ((by first | exact dd0.imp (fun q => by rw [q]; rfl) id | exact dd0) : X0.length = 0 ∨ _) (by kernel_rfl) (Nat.le_of_ble_eq_true (by kernel_rfl))
  obtain ⟨zs1, hz1, rfl, rfl, hw1⟩ := uO (P := Try.prog) (n := 3) (e := 3) (k := .i64) (by kernel_rfl) (by kernel_rfl) (by kernel_rfl) (by kernel_rfl) (hval 1 23 v1 rfl rfl) h1
  obtain ⟨z1_0, z1_1, z1_2, rfl⟩ := KI hz1
  clear hA0 hval0
  refine (wV Fb (qi X0 z1_0 z1_1 z1_2 in0 sz0 (.of (hw1 z1_0 (by simp))) (.of (hw1 z1_1 (by simp))) (.of (hw1 z1_2 (by simp)))) W (HR.frs (fr0)) (.cons (hv0 _ fun _ h => h) (.cons (DZ (k := .i64) [z1_0, z1_1, z1_2]) .nil))).mono fun e W' ⟨he, hb⟩ => ?_
  subst he
  exact ⟨_, rfl, A7 (by kernel_rfl) (by kernel_rfl) (by kernel_rfl) Try.underlying4 rfl rfl hW hb⟩
theorem proved : Rows.SeriesRangesSaid :=
  OpenClaim.holds_of_wide 3 Try.f3 rfl rfl rfl rfl rfl rfl rfl ⟨rfl, rfl, rfl, rfl, rfl⟩ rfl rfl rfl rfl rfl (by kernel_rfl) Try.func3 (by kernel_rfl)
    (of_decide_eq_true (by kernel_rfl)) (by unfold Func.isWrapper; first | (rw [if_pos (by decide +kernel)]; kernel_rfl) | (rw [if_neg (by decide +kernel)]; exact ⟨rfl, rfl⟩))
    (fun os started H enc _ => lifted os started H enc)
#print axioms proved
end Go.Proofs.Ythjggjhebbdkdaa.seriesRanges
