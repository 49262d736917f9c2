/-
  PROVED: 'Rows.CommandBackSaid': a command's words are read as it; words made again are the same; there are no more than were read, but a few: for every input the law returns true, and each argument reads afterwards as it read before. No condition.
-/
import Derived.Test.YtdfeigkooeeeaaaJf
import Derived.Test.YtdfeigkooeeeaaaJc
set_option linter.unusedSimpArgs false
set_option linter.unusedVariables false
namespace Go.Proofs.Ytdfeigkooeeeaaa.commandBack
open Go Go.RowKit Go.ChangeShapes Go.WideShapes Go.ChangeAt
theorem own : ownKnob Try.prog.godebug = none := by kernel_rfl
set_option maxHeartbeats 2000000 in
set_option maxRecDepth 100000 in
theorem lifted (os : Os) (started : os.Started) (H : Type) (enc : TypeId × Value → H) :
    ReturnsInHanded {} Try.checked os 4 .any (Rows.commandBackSpec.pre6 enc Try.prog Try.f4 Rows.commandBackRow.domain false) (Rows.commandBackSpec.post enc Try.prog Try.f4 false true false false) := by
  refine returnsInHanded_of_change_sized (C := Try.checked) own started (by kernel_rfl) Try.func4
    (ChangeSpec.witness6 (enc := enc) (C := Try.checked) false ⟨#[], #[.slice none 0 0], []⟩ 8 (by kernel_rfl) (by kernel_rfl) (by kernel_rfl) (by kernel_rfl)) ?_
  intro W base args ds gs before hval0 hW hcnd hsz _
  have hval : ∀ (j : Nat) t v, Try.f4.params[j]? = some t → args[j]? = some v → Value.okWide Try.prog W .any base t v := hval0
  have hW2 := hW
  obtain ⟨p, q, hA0, hV, rfl, _, _⟩ := hW2
  have hA : DataW.TrodAll enc Try.prog W 0 (fun _ => true) true Try.f4.params.toList args.toList ds p := hA0
  rw [Try.params4] at hA hval
  obtain ⟨v0, vs0, d0, ds0, p0, q0, hargs, rfl, rfl, h0, r0⟩ := trodAll_cons hA
  obtain ⟨rfl, rfl, rfl⟩ := trodAll_nil r0
  obtain rfl : args = #[v0] := by cases args; simp_all
  obtain ⟨rfl, rfl⟩ := trodVars_none hV
  obtain ⟨X0, z0, in0, fr0, hv0, dd0, ln0⟩ := AB (P := Try.prog) (d := 5) Try.underlying28 (by kernel_rfl) (by kernel_rfl) (wx Try.underlying28 (hval 0 28 v0 rfl rfl)) h0
  have sz0 : X0.length ≤ 8796093022208 := xZ (P := Try.prog) (t := 28) (e := 9) hsz (j := 0) rfl rfl ((by first | exact dd0.imp (fun q => by rw [q]; rfl) id | exact dd0) : X0.length = 0 ∨ _) (by kernel_rfl) (Nat.le_of_ble_eq_true (by kernel_rfl))
  clear hA0 hval0
  refine (xV HW (so X0 in0 sz0) W (HR.frs (fr0)) (.cons (hv0 _ fun _ h => h) .nil)).mono fun e W' ⟨he, hb⟩ => ?_
  subst he
  exact ⟨_, rfl, BX (by kernel_rfl) (by kernel_rfl) (by kernel_rfl) Try.underlying4 rfl rfl hW hb⟩
theorem proved : Rows.CommandBackSaid :=
  OpenClaim.holds_of_wide 4 Try.f4 rfl rfl rfl rfl rfl rfl rfl ⟨rfl, rfl, rfl, rfl, rfl⟩ rfl rfl rfl rfl rfl (by kernel_rfl) Try.func4 (by kernel_rfl)
    (of_decide_eq_true (by kernel_rfl)) (by unfold Func.isWrapper; first | (rw [if_pos (by decide +kernel)]; kernel_rfl) | (rw [if_neg (by decide +kernel)]; exact ⟨rfl, rfl⟩))
    (fun os started H enc _ => lifted os started H enc)
#print axioms proved
end Go.Proofs.Ytdfeigkooeeeaaa.commandBack
