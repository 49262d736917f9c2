/-
  PROVED: 'Rows.SeriesLineSaid': nothing below the line is there; a sample below it is too old, one on it is not; the line never falls, whatever the retention becomes: for every input the law returns true, and each argument reads afterwards as it read before. No condition.
-/
import Derived.Test.YtapjijhjnloimaaJf
import Derived.Test.YtapjijhjnloimaaJd
set_option linter.unusedSimpArgs false
set_option linter.unusedVariables false
namespace Go.Proofs.Ytapjijhjnloimaa.seriesLine
open Go Go.RowKit Go.ChangeShapes Go.WideShapes Go.ChangeAt
theorem own : ownKnob Try.prog.godebug = none := by kernel_rfl
set_option maxHeartbeats 2000000 in
set_option maxRecDepth 100000 in
theorem lifted (os : Os) (started : os.Started) (H : Type) (enc : TypeId × Value → H) :
    ReturnsInHanded {} Try.checked os 7 .any (Rows.seriesLineSpec.pre6 enc Try.prog Try.f7 Rows.seriesLineRow.domain false) (Rows.seriesLineSpec.post enc Try.prog Try.f7 false true false false) := by
  refine returnsInHanded_of_change_sized (C := Try.checked) own started (by kernel_rfl) Try.func7
    (ChangeSpec.witness6 (enc := enc) (C := Try.checked) false ⟨#[], #[.int .u8 0, .slice none 0 0, .int .u8 0], []⟩ 8 (by kernel_rfl) (by kernel_rfl) (by kernel_rfl) (by kernel_rfl)) ?_
  intro W base args ds gs before hval0 hW hcnd hsz _
  have hval : ∀ (j : Nat) t v, Try.f7.params[j]? = some t → args[j]? = some v → Value.okWide Try.prog W .any base t v := hval0
  have hW2 := hW
  obtain ⟨p, q, hA0, hV, rfl, _, _⟩ := hW2
  have hA : DataW.TrodAll enc Try.prog W 0 (fun _ => true) true Try.f7.params.toList args.toList ds p := hA0
  rw [Try.params7] at hA hval
  obtain ⟨v0, vs0, d0, ds0, p0, q0, hargs, rfl, rfl, h0, r0⟩ := trodAll_cons hA
  obtain ⟨v1, vs1, d1, ds1, p1, q1, rfl, rfl, rfl, h1, r1⟩ := trodAll_cons r0
  obtain ⟨v2, vs2, d2, ds2, p2, q2, rfl, rfl, rfl, h2, r2⟩ := trodAll_cons r1
  obtain ⟨rfl, rfl, rfl⟩ := trodAll_nil r2
  obtain rfl : args = #[v0, v1, v2] := by cases args; simp_all
  obtain ⟨rfl, rfl⟩ := trodVars_none hV
  obtain ⟨a0, rfl, rfl, rfl, w0⟩ := open_int Try.underlying5 (hval 0 5 v0 rfl rfl) h0
  obtain ⟨X1, z1, in1, fr1, hv1, dd1, ln1⟩ := E2 (P := Try.prog) (d := 5) Try.underlying35 (by kernel_rfl) (by kernel_rfl) (uQ Try.underlying35 (hval 1 35 v1 rfl rfl)) h1
  have sz1 : X1.length ≤ 8796093022208 := wQ (P := Try.prog) (t := 35) (e := 38) hsz (j := 1) rfl rfl ((by first | exact dd1.imp (fun q => by rw [q]; rfl) id | exact dd1) : X1.length = 0 ∨ _) (by kernel_rfl) (Nat.le_of_ble_eq_true (by kernel_rfl))
  obtain ⟨a2, rfl, rfl, rfl, w2⟩ := open_int Try.underlying5 (hval 2 5 v2 rfl rfl) h2
  clear hA0 hval0
  refine (wN Hl (tB a0 X1 a2 (Bq w0) in1 sz1 (Bq w2)) W (HR.frs (fr1)) (.cons (.si .u8 a0) (.cons (hv1 _ fun _ h => h) (.cons (.si .u8 a2) .nil)))).mono fun e W' ⟨he, hb⟩ => ?_
  subst he
  exact ⟨_, rfl, AX (by kernel_rfl) (by kernel_rfl) (by kernel_rfl) Try.underlying4 rfl rfl hW hb⟩
theorem proved : Rows.SeriesLineSaid :=
  OpenClaim.holds_of_wide 7 Try.f7 rfl rfl rfl rfl rfl rfl rfl ⟨rfl, rfl, rfl, rfl, rfl⟩ rfl rfl rfl rfl rfl (by kernel_rfl) Try.func7 (by kernel_rfl)
    (of_decide_eq_true (by kernel_rfl)) (by unfold Func.isWrapper; first | (rw [if_pos (by decide +kernel)]; kernel_rfl) | (rw [if_neg (by decide +kernel)]; exact ⟨rfl, rfl⟩))
    (fun os started H enc _ => lifted os started H enc)
#print axioms proved
end Go.Proofs.Ytapjijhjnloimaa.seriesLine
