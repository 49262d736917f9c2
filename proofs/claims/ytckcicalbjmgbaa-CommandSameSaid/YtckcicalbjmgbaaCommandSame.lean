/-
  PROVED: 'Rows.CommandSameSaid': two commands are the same just if the document says so: for every input the law returns true, and each argument reads afterwards as it read before. No condition.
-/
import Derived.Test.YtckcicalbjmgbaaJe
import Derived.Test.YtckcicalbjmgbaaJc
set_option linter.unusedSimpArgs false
set_option linter.unusedVariables false
namespace Go.Proofs.Ytckcicalbjmgbaa.commandSame
open Go Go.RowKit Go.ChangeShapes Go.WideShapes Go.ChangeAt
theorem own : ownKnob Try.prog.godebug = none := by kernel_rfl
set_option maxHeartbeats 2000000 in
set_option maxRecDepth 100000 in
theorem lifted (os : Os) (started : os.Started) (H : Type) (enc : TypeId × Value → H) :
    ReturnsInHanded {} Try.checked os 4 .any (Rows.commandSameSpec.pre6 enc Try.prog Try.f4 Rows.commandSameRow.domain false) (Rows.commandSameSpec.post enc Try.prog Try.f4 false true false false) := by
  refine returnsInHanded_of_change_sized (C := Try.checked) own started (by kernel_rfl) Try.func4
    (ChangeSpec.witness6 (enc := enc) (C := Try.checked) false ⟨#[], #[.slice none 0 0, .slice none 0 0], []⟩ 8 (by kernel_rfl) (by kernel_rfl) (by kernel_rfl) (by kernel_rfl)) ?_
  intro W base args ds gs before hval0 hW hcnd hsz _
  have hval : ∀ (j : Nat) t v, Try.f4.params[j]? = some t → args[j]? = some v → Value.okWide Try.prog W .any base t v := hval0
  have hW2 := hW
  obtain ⟨p, q, hA0, hV, rfl, _, _⟩ := hW2
  have hA : DataW.TrodAll enc Try.prog W 0 (fun _ => true) true Try.f4.params.toList args.toList ds p := hA0
  rw [Try.params4] at hA hval
  obtain ⟨v0, vs0, d0, ds0, p0, q0, hargs, rfl, rfl, h0, r0⟩ := trodAll_cons hA
  obtain ⟨v1, vs1, d1, ds1, p1, q1, rfl, rfl, rfl, h1, r1⟩ := trodAll_cons r0
  obtain ⟨rfl, rfl, rfl⟩ := trodAll_nil r1
  obtain rfl : args = #[v0, v1] := by cases args; simp_all
  obtain ⟨rfl, rfl⟩ := trodVars_none hV
  obtain ⟨X0, z0, in0, fr0, hv0, dd0, ln0⟩ := pO (P := Try.prog) (d := 5) Try.underlying25 (by kernel_rfl) (by kernel_rfl) (mz Try.underlying25 (hval 0 25 v0 rfl rfl)) h0
  have sz0 : X0.length ≤ 8796093022208 := oj (P := Try.prog) (t := 25) (e := 9) hsz (j := 0) rfl rfl ((by first | exact dd0.imp (fun q => by rw [q]; rfl) id | exact dd0) : X0.length = 0 ∨ _) (by kernel_rfl) (Nat.le_of_ble_eq_true (by kernel_rfl))
  obtain ⟨X1, z1, in1, fr1, hv1, dd1, ln1⟩ := pO (P := Try.prog) (d := 5) Try.underlying25 (by kernel_rfl) (by kernel_rfl) (mz Try.underlying25 (hval 1 25 v1 rfl rfl)) h1
  have sz1 : X1.length ≤ 8796093022208 := oj (P := Try.prog) (t := 25) (e := 9) hsz (j := 1) rfl rfl ((by first | exact dd1.imp (fun q => by rw [q]; rfl) id | exact dd1) : X1.length = 0 ∨ _) (by kernel_rfl) (Nat.le_of_ble_eq_true (by kernel_rfl))
  clear hA0 hval0
  refine (ur CY (oY X0 X1 in0 sz0 in1 sz1) W (HR.frs ((fr0).or fr1)) (.cons (hv0 _ fun _ h => .inl h) (.cons (hv1 _ fun _ h => .inr h) .nil))).mono fun e W' ⟨he, hb⟩ => ?_
  subst he
  exact ⟨_, rfl, xW (by kernel_rfl) (by kernel_rfl) (by kernel_rfl) Try.underlying4 rfl rfl hW hb⟩
theorem proved : Rows.CommandSameSaid :=
  OpenClaim.holds_of_wide 4 Try.f4 rfl rfl rfl rfl rfl rfl rfl ⟨rfl, rfl, rfl, rfl, rfl⟩ rfl rfl rfl rfl rfl (by kernel_rfl) Try.func4 (by kernel_rfl)
    (of_decide_eq_true (by kernel_rfl)) (by unfold Func.isWrapper; first | (rw [if_pos (by decide +kernel)]; kernel_rfl) | (rw [if_neg (by decide +kernel)]; exact ⟨rfl, rfl⟩))
    (fun os started H enc _ => lifted os started H enc)
#print axioms proved
end Go.Proofs.Ytckcicalbjmgbaa.commandSame
