/-
  PROVED: 'Rows.SeriesRestoresSaid': what is restored of any times and samples, or why not, is as the document says; a series that is restored from what another one tells tells the same, also behind any calls more; its chunks stand as they must: for every input the law returns true, and each argument reads afterwards as it read before. No condition.
-/
import Derived.Test.YthjggjhebbdkdaaJg
import Derived.Test.YthjggjhebbdkdaaJd
set_option linter.unusedSimpArgs false
set_option linter.unusedVariables false
namespace Go.Proofs.Ythjggjhebbdkdaa.seriesRestores
open Go Go.RowKit Go.ChangeShapes Go.WideShapes Go.ChangeAt
theorem own : ownKnob Try.prog.godebug = none := by kernel_rfl
set_option maxHeartbeats 2000000 in
set_option maxRecDepth 100000 in
theorem lifted (os : Os) (started : os.Started) (H : Type) (enc : TypeId × Value → H) :
    ReturnsInHanded {} Try.checked os 4 .any (Rows.seriesRestoresSpec.pre6 enc Try.prog Try.f4 Rows.seriesRestoresRow.domain false) (Rows.seriesRestoresSpec.post enc Try.prog Try.f4 false true false false) := by
  refine returnsInHanded_of_change_sized (C := Try.checked) own started (by kernel_rfl) Try.func4
    (ChangeSpec.witness6 (enc := enc) (C := Try.checked) false ⟨#[], #[.slice none 0 0, .agg #[.int .i64 0, .int .i64 0], .slice none 0 0], []⟩ 8 (by kernel_rfl) (by kernel_rfl) (by kernel_rfl) (by kernel_rfl)) ?_
  intro W base args ds gs before hval0 hW hcnd hsz _
  have hval : ∀ (j : Nat) t v, Try.f4.params[j]? = some t → args[j]? = some v → Value.okWide Try.prog W .any base t v := hval0
  have hW2 := hW
  obtain ⟨p, q, hA0, hV, rfl, _, _⟩ := hW2
  have hA : DataW.TrodAll enc Try.prog W 0 (fun _ => true) true Try.f4.params.toList args.toList ds p := hA0
  rw [Try.params4] at hA hval
  obtain ⟨v0, vs0, d0, ds0, p0, q0, hargs, rfl, rfl, h0, r0⟩ := trodAll_cons hA
  obtain ⟨v1, vs1, d1, ds1, p1, q1, rfl, rfl, rfl, h1, r1⟩ := trodAll_cons r0
  obtain ⟨v2, vs2, d2, ds2, p2, q2, rfl, rfl, rfl, h2, r2⟩ := trodAll_cons r1
  obtain ⟨rfl, rfl, rfl⟩ := trodAll_nil r2
  obtain rfl : args = #[v0, v1, v2] := by cases args; simp_all
  obtain ⟨rfl, rfl⟩ := trodVars_none hV
  obtain ⟨X0, z0, in0, fr0, hv0, dd0, ln0⟩ := GD (P := Try.prog) (d := 5) Try.underlying22 (by kernel_rfl) (by kernel_rfl) (oJ Try.underlying22 (hval 0 22 v0 rfl rfl)) h0
  have sz0 : X0.length ≤ 8796093022208 := qw (P := Try.prog) (t := 22) (e := 31) hsz (j := 0) rfl rfl ((by first | exact dd0.imp (fun q => by rw [q]; rfl) id | exact dd0) : X0.length = 0 ∨ _) (by kernel_rfl) (Nat.le_of_ble_eq_true (by kernel_rfl))
  obtain ⟨zs1, hz1, rfl, rfl, hw1⟩ := vN (P := Try.prog) (n := 2) (e := 3) (k := .i64) (by kernel_rfl) (by kernel_rfl) (by kernel_rfl) (by kernel_rfl) (hval 1 42 v1 rfl rfl) h1
  obtain ⟨z1_0, z1_1, rfl⟩ := MM hz1
  obtain ⟨X2, z2, in2, fr2, hv2, dd2, ln2⟩ := EU (P := Try.prog) (d := 5) Try.underlying35 (by kernel_rfl) (by kernel_rfl) (oJ Try.underlying35 (hval 2 35 v2 rfl rfl)) h2
  have sz2 : X2.length ≤ 8796093022208 := qw (P := Try.prog) (t := 35) (e := 29) hsz (j := 2) rfl rfl ((by first | exact dd2.imp (fun q => by rw [q]; rfl) id | exact dd2) : X2.length = 0 ∨ _) (by kernel_rfl) (Nat.le_of_ble_eq_true (by kernel_rfl))
  clear hA0 hval0
  refine (x6 GY (om X0 z1_0 z1_1 X2 in0 sz0 (.of (hw1 z1_0 (by simp))) (.of (hw1 z1_1 (by simp))) in2 sz2) W (HR.frs ((fr0).or fr2)) (.cons (hv0 _ fun _ h => .inl h) (.cons (Fp (k := .i64) [z1_0, z1_1]) (.cons (hv2 _ fun _ h => .inr h) .nil)))).mono fun e W' ⟨he, hb⟩ => ?_
  subst he
  exact ⟨_, rfl, Cy (by kernel_rfl) (by kernel_rfl) (by kernel_rfl) Try.underlying4 rfl rfl hW hb⟩
theorem proved : Rows.SeriesRestoresSaid :=
  OpenClaim.holds_of_wide 4 Try.f4 rfl rfl rfl rfl rfl rfl rfl ⟨rfl, rfl, rfl, rfl, rfl⟩ rfl rfl rfl rfl rfl (by kernel_rfl) Try.func4 (by kernel_rfl)
    (of_decide_eq_true (by kernel_rfl)) (by unfold Func.isWrapper; first | (rw [if_pos (by decide +kernel)]; kernel_rfl) | (rw [if_neg (by decide +kernel)]; exact ⟨rfl, rfl⟩))
    (fun os started H enc _ => lifted os started H enc)
#print axioms proved
end Go.Proofs.Ythjggjhebbdkdaa.seriesRestores
