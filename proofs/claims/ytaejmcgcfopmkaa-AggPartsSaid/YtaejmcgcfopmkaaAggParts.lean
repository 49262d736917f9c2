/-
  PROVED: 'Rows.AggPartsSaid': numbers in two parts, the second one added to what the first one made, make what all make; the least, the greatest, how many, and the sum as long as it is beyond no end, are the same in any order: for every input the law returns true, and each argument reads afterwards as it read before. No condition.
-/
import Derived.Test.YtaejmcgcfopmkaaJg
import Derived.Test.YtaejmcgcfopmkaaJf
import Derived.SizedLaws
namespace Go.Proofs.Ytaejmcgcfopmkaa.aggParts
open Go Go.RowKit Go.ChangeShapes Go.WideShapes Go.ChangeAt
theorem own : ownKnob Try.prog.godebug = none := by kernel_rfl
set_option maxHeartbeats 2000000 in
set_option maxRecDepth 100000 in
theorem lifted (os : Os) (started : os.Started) (H : Type) (enc : TypeId × Value → H) :
    ReturnsInHanded {} Try.checked os 9 .any (Rows.aggPartsSpec.pre6 enc Try.prog Try.f9 Rows.aggPartsRow.domain false) (Rows.aggPartsSpec.post enc Try.prog Try.f9 false true false false) := by
  refine returnsInHanded_of_change_sized (C := Try.checked) own started (by kernel_rfl) Try.func9
    (ChangeSpec.witness6 (enc := enc) (C := Try.checked) false ⟨#[], #[.int .u8 0, .slice none 0 0, .int .u8 0], []⟩ 8 (by kernel_rfl) (by kernel_rfl) (by kernel_rfl) (by kernel_rfl)) ?_
  intro W base args ds gs before hval0 hW hcnd hsz _
  have hval : ∀ (j : Nat) t v, Try.f9.params[j]? = some t → args[j]? = some v → Value.okWide Try.prog W .any base t v := hval0
  have hW2 := hW
  obtain ⟨p, q, hA0, hV, rfl, _, _⟩ := hW2
  have hA : DataW.TrodAll enc Try.prog W 0 (fun _ => true) true Try.f9.params.toList args.toList ds p := hA0
  rw [Try.params9] at hA hval
  obtain ⟨v0, vs0, d0, ds0, p0, q0, hargs, rfl, rfl, h0, r0⟩ := trodAll_cons hA
  obtain ⟨v1, vs1, d1, ds1, p1, q1, rfl, rfl, rfl, h1, r1⟩ := trodAll_cons r0
  obtain ⟨v2, vs2, d2, ds2, p2, q2, rfl, rfl, rfl, h2, r2⟩ := trodAll_cons r1
  obtain ⟨rfl, rfl, rfl⟩ := trodAll_nil r2
  obtain rfl : args = #[v0, v1, v2] := by cases args; simp_all
  obtain ⟨rfl, rfl⟩ := trodVars_none hV
  obtain ⟨a0, rfl, rfl, rfl, w0⟩ := open_int Try.underlying5 (hval 0 5 v0 rfl rfl) h0
  obtain ⟨a2, rfl, rfl, rfl, w2⟩ := open_int Try.underlying5 (hval 2 5 v2 rfl rfl) h2
  clear hA0 hval0
  rcases open_samples (P := Try.prog) (e := 39) (f0 := { name := "T", type := 3, offset := 0, embedded := false, tag := "", pkgPath := "", byteOffset := 0 }) (f1 := { name := "V", type := 3, offset := 1, embedded := false, tag := "", pkgPath := "", byteOffset := 8 }) (by kernel_rfl) (by kernel_rfl) (by kernel_rfl) rfl rfl (by kernel_rfl) (by kernel_rfl) (by kernel_rfl) (by kernel_rfl) (hval 1 31 v1 rfl rfl) h1 with hv | ⟨b, off, cap, L, D0, D1, E, hv, hlc, hcap, hro, hin, hd⟩
  · subst hv
    refine (evP_calls FT_ok (.cons (.si .u8 a0) (.cons .nsl (.cons (.si .u8 a2) .nil))) (w_aggParts0 a0 (u8_rng w0) a2 (u8_rng w2)) W).mono fun e W' ⟨he, hb⟩ => ?_
    subst he
    exact ⟨_, rfl, law_left (by kernel_rfl) (by kernel_rfl) (by kernel_rfl) Try.underlying4 rfl rfl hW hb⟩
  · subst hv hd
    have hl : L.length ≤ 8796093022208 := sized_len (P := Try.prog) (t := 31) (e := 39) hsz (j := 1) rfl rfl (by kernel_rfl) (by kernel_rfl)
    refine (evP_callsM FT_ok (w_aggParts a0 (u8_rng w0) L cap a2 (u8_rng w2) hin hl hlc) W (HR.ro1 (wholeHp_is W).wf hro) (.cons (.si .u8 a0) (.cons (.sy (p := ⟨b, off, L.length * 2⟩) (b := 0) (o := 0) (C := cap) rfl (fun _ => rfl) (fun q => absurd rfl q)) (.cons (.si .u8 a2) .nil)))).mono fun e W' ⟨he, hb⟩ => ?_
    subst he
    exact ⟨_, rfl, law_left (by kernel_rfl) (by kernel_rfl) (by kernel_rfl) Try.underlying4 rfl rfl hW hb⟩
theorem proved : Rows.AggPartsSaid :=
  OpenClaim.holds_of_wide 9 Try.f9 rfl rfl rfl rfl rfl rfl rfl ⟨rfl, rfl, rfl, rfl, rfl⟩ rfl rfl rfl rfl rfl (by kernel_rfl) Try.func9 (by kernel_rfl)
    (of_decide_eq_true (by kernel_rfl)) (by unfold Func.isWrapper; first | (rw [if_pos (by decide +kernel)]; kernel_rfl) | (rw [if_neg (by decide +kernel)]; exact ⟨rfl, rfl⟩))
    (fun os started H enc _ => lifted os started H enc)
#print axioms proved
end Go.Proofs.Ytaejmcgcfopmkaa.aggParts
