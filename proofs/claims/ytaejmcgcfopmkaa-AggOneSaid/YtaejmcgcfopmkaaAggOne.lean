/-
  PROVED: 'Rows.AggOneSaid': each bucket of which there is a sample is told once, if times rise; a bucket's number is that of the samples from its beginning to its end alone: for every input the law returns true, and each argument reads afterwards as it read before. No condition.
-/
import Derived.Test.YtaejmcgcfopmkaaJg
import Derived.Test.YtaejmcgcfopmkaaJf
import Derived.SizedLaws
namespace Go.Proofs.Ytaejmcgcfopmkaa.aggOne
open Go Go.RowKit Go.ChangeShapes Go.WideShapes Go.ChangeAt
theorem own : ownKnob Try.prog.godebug = none := by kernel_rfl
set_option maxHeartbeats 2000000 in
set_option maxRecDepth 100000 in
theorem lifted (os : Os) (started : os.Started) (H : Type) (enc : TypeId × Value → H) :
    ReturnsInHanded {} Try.checked os 7 .any (Rows.aggOneSpec.pre6 enc Try.prog Try.f7 Rows.aggOneRow.domain false) (Rows.aggOneSpec.post enc Try.prog Try.f7 false true false false) := by
  refine returnsInHanded_of_change_sized (C := Try.checked) own started (by kernel_rfl) Try.func7
    (ChangeSpec.witness6 (enc := enc) (C := Try.checked) false ⟨#[], #[.int .u8 0, .agg #[.int .u8 0, .int .u8 0], .slice none 0 0], []⟩ 8 (by kernel_rfl) (by kernel_rfl) (by kernel_rfl) (by kernel_rfl)) ?_
  intro W base args ds gs before hval0 hW hcnd hsz _
  have hval : ∀ (j : Nat) t v, Try.f7.params[j]? = some t → args[j]? = some v → Value.okWide Try.prog W .any base t v := hval0
  have hW2 := hW
  obtain ⟨p, q, hA0, hV, rfl, _, _⟩ := hW2
  have hA : DataW.TrodAll enc Try.prog W 0 (fun _ => true) true Try.f7.params.toList args.toList ds p := hA0
  rw [Try.params7] at hA hval
  obtain ⟨v0, vs0, d0, ds0, p0, q0, hargs, rfl, rfl, h0, r0⟩ := trodAll_cons hA
  obtain ⟨v1, vs1, d1, ds1, p1, q1, rfl, rfl, rfl, h1, r1⟩ := trodAll_cons r0
  obtain ⟨v2, vs2, d2, ds2, p2, q2, rfl, rfl, rfl, h2, r2⟩ := trodAll_cons r1
  obtain ⟨rfl, rfl, rfl⟩ := trodAll_nil r2
  obtain rfl : args = #[v0, v1, v2] := by cases args; simp_all
  obtain ⟨rfl, rfl⟩ := trodVars_none hV
  obtain ⟨a0, rfl, rfl, rfl, w0⟩ := open_int Try.underlying5 (hval 0 5 v0 rfl rfl) h0
  obtain ⟨zs1, hz1, rfl, rfl, hw1⟩ := open_intarr (P := Try.prog) (n := 2) (e := 5) (k := .u8) (by kernel_rfl) (by kernel_rfl) (by kernel_rfl) (by kernel_rfl) (hval 1 48 v1 rfl rfl) h1
  obtain ⟨z1_0, z1_1, rfl⟩ := len2 hz1
  clear hA0 hval0
  rcases open_samples (P := Try.prog) (e := 39) (f0 := { name := "T", type := 3, offset := 0, embedded := false, tag := "", pkgPath := "", byteOffset := 0 }) (f1 := { name := "V", type := 3, offset := 1, embedded := false, tag := "", pkgPath := "", byteOffset := 8 }) (by kernel_rfl) (by kernel_rfl) (by kernel_rfl) rfl rfl (by kernel_rfl) (by kernel_rfl) (by kernel_rfl) (by kernel_rfl) (hval 2 31 v2 rfl rfl) h2 with hv | ⟨b, off, cap, L, D0, D1, E, hv, hlc, hcap, hro, hin, hd⟩
  · subst hv
    refine (evP_calls FO_ok (.cons (.si .u8 a0) (.cons (vr_ints (k := .u8) [z1_0, z1_1]) (.cons .nsl .nil))) (w_aggOne0 a0 (u8_rng w0) z1_0 z1_1 (u8_rng (hw1 z1_0 (by simp))) (u8_rng (hw1 z1_1 (by simp)))) W).mono fun e W' ⟨he, hb⟩ => ?_
    subst he
    exact ⟨_, rfl, law_left (by kernel_rfl) (by kernel_rfl) (by kernel_rfl) Try.underlying4 rfl rfl hW hb⟩
  · subst hv hd
    have hl : L.length ≤ 8796093022208 := sized_len (P := Try.prog) (t := 31) (e := 39) hsz (j := 2) rfl rfl (by kernel_rfl) (by kernel_rfl)
    refine (evP_callsM FO_ok (w_aggOne a0 (u8_rng w0) z1_0 z1_1 (u8_rng (hw1 z1_0 (by simp))) (u8_rng (hw1 z1_1 (by simp))) L cap hin hl hlc) W (HR.ro1 (wholeHp_is W).wf hro) (.cons (.si .u8 a0) (.cons (vr_ints (k := .u8) [z1_0, z1_1]) (.cons (.sy (p := ⟨b, off, L.length * 2⟩) (b := 0) (o := 0) (C := cap) rfl (fun _ => rfl) (fun q => absurd rfl q)) .nil)))).mono fun e W' ⟨he, hb⟩ => ?_
    subst he
    exact ⟨_, rfl, law_left (by kernel_rfl) (by kernel_rfl) (by kernel_rfl) Try.underlying4 rfl rfl hW hb⟩
theorem proved : Rows.AggOneSaid :=
  OpenClaim.holds_of_wide 7 Try.f7 rfl rfl rfl rfl rfl rfl rfl ⟨rfl, rfl, rfl, rfl, rfl⟩ rfl rfl rfl rfl rfl (by kernel_rfl) Try.func7 (by kernel_rfl)
    (of_decide_eq_true (by kernel_rfl)) (by unfold Func.isWrapper; first | (rw [if_pos (by decide +kernel)]; kernel_rfl) | (rw [if_neg (by decide +kernel)]; exact ⟨rfl, rfl⟩))
    (fun os started H enc _ => lifted os started H enc)
#print axioms proved
end Go.Proofs.Ytaejmcgcfopmkaa.aggOne
