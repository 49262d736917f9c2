/- What must come of fixed calls; the law on buckets' times. -/
import Derived.Test.YtaejmcgcfopmkaaAgg5
import Derived.Test.YtaejmcgcfopmkaaEvV
namespace Go.Proofs.Ytaejmcgcfopmkaa
open Go Go.RowKit
theorem known_true : isTrue (callq evQ 30 11 [] .nil 0 topq) = true := by kernel_rfl
theorem c_known (h : Hp) {K : CH} (hk : ∀ g, Ext h g → K.go (.bool true) g) : @Go1 _ (CallF Try.prog 11 #[] h) K := by
  obtain ⟨H', n', e⟩ := isTrue_inv known_true
  refine ⟨by kernel_rfl, fun w hi => ?_⟩
  exact (callq_sound tab.mixed evQ_ok 30 _ [] .nil 0 _ H' n' e (fun _ => none) h h #[] K.go (start_none hi.wf) .nil
    (fun ψ u g _ hg hu => by rw [hu.bool_inv]; exact hk g ⟨hg.size, fun b o hb => (hg.base b o hb).2⟩)).2 w hi
structure TimesOk (t s a : Int) : Prop where
  s1 : 1 ≤ s
  s2 : s ≤ 1099511627776
  a1 : 0 ≤ a
  a2 : a < s
  t1 : 0 ≤ t
  t2 : t < 1099511627776
theorem mod_facts (x s : Int) (hs : 1 ≤ s) : 0 ≤ x % s ∧ x % s < s ∧ x - x % s = s * (x / s) := by
  have h1 := Int.emod_nonneg x (show s ≠ 0 by omega)
  have h2 := Int.emod_lt_of_pos x (show 0 < s by omega)
  have h3 := Int.emod_add_mul_ediv x s
  exact ⟨h1, h2, by omega⟩
theorem start_eq {t s a : Int} (h1 : 1 ≤ s) (h2 : s ≤ 1099511627776) (h3 : 0 ≤ a) (h4 : a < s) (h5 : 0 ≤ t) (h6 : t ≤ 1099511627776) : sStart t s a = if a ≤ t then t - (t - a) % s else 0 := by
  unfold sStart
  have e1 : sCan s a = true := by simp only [sCan, decide_eq_true_eq]; omega
  have e2 : sTime t = true := by simp only [sTime, decide_eq_true_eq]; omega
  by_cases h : a ≤ t
  · rw [if_pos ⟨e1, e2, h⟩, if_pos h]
  · rw [if_neg (fun k => h k.2.2), if_neg h]
theorem end_eq {t s a : Int} (h1 : 1 ≤ s) (h2 : s ≤ 1099511627776) (h3 : 0 ≤ a) (h4 : a < s) (h5 : 0 ≤ t) (h6 : t ≤ 1099511627776) : sEnd t s a = if t < a then a else sStart t s a + s := by
  unfold sEnd
  have e1 : sCan s a = true := by simp only [sCan, decide_eq_true_eq]; omega
  have e2 : sTime t = true := by simp only [sTime, decide_eq_true_eq]; omega
  rw [if_pos ⟨e1, e2⟩]
theorem mod_shift (q s r : Int) (hs : 1 ≤ s) (h0 : 0 ≤ r) (h1 : r < s) : (s * q + r) % s = r := by
  rw [Int.mul_add_emod_self_left]; exact Int.emod_eq_of_lt h0 h1
theorem times_law {t s a : Int} (h : TimesOk t s a) : sStart t s a ≤ t ∧ t < sEnd (sStart t s a) s a ∧ sEnd (sStart t s a) s a - sStart t s a ≤ s ∧ sStart (sStart t s a) s a = sStart t s a ∧ sEnd t s a = sEnd (sStart t s a) s a ∧
    (1099511627776 < sEnd (sStart t s a) s a ∨ sStart (sEnd (sStart t s a) s a) s a = sEnd (sStart t s a) s a) ∧ (sStart t s a = 0 ∨ sEnd (sStart t s a - 1) s a = sStart t s a) := by
  obtain ⟨h1, h2, h3, h4, h5, h6⟩ := h
  have eS := start_eq h1 h2 h3 h4 h5 (by omega)
  by_cases hta : a ≤ t
  · rw [if_pos hta] at eS
    obtain ⟨m1, m2, m3⟩ := mod_facts (t - a) s h1
    have hq : 0 ≤ (t - a) / s := Int.ediv_nonneg (by omega) (by omega)
    generalize (t - a) / s = q at m3 hq
    have hsq : 0 ≤ s * q := Int.mul_nonneg (by omega) hq
    have hb : sStart t s a = a + s * q := by omega
    have hbt : a + s * q ≤ t := by omega
    have hbb : sStart (a + s * q) s a = a + s * q := by
      rw [start_eq h1 h2 h3 h4 (by omega) (by omega), if_pos (by omega), show a + s * q - a = s * q + 0 from by omega, mod_shift q s 0 h1 (by omega) (by omega)]; omega
    have he : sEnd (a + s * q) s a = a + s * q + s := by
      rw [end_eq h1 h2 h3 h4 (by omega) (by omega), if_neg (by omega), hbb]
    rw [hb, hbb, he]
    refine ⟨hbt, by omega, by omega, rfl, ?_, ?_, ?_⟩
    · rw [end_eq h1 h2 h3 h4 h5 (by omega), if_neg (by omega), hb]
    · by_cases hM : 1099511627776 < a + s * q + s
      · exact .inl hM
      · refine .inr ?_
        have e3 : a + s * q + s - a = s * (q + 1) + 0 := by rw [Int.mul_add]; omega
        rw [start_eq h1 h2 h3 h4 (by omega) (by omega), if_pos (by omega), e3, mod_shift (q + 1) s 0 h1 (by omega) (by omega)]; omega
    · by_cases h0 : a + s * q = 0
      · exact .inl h0
      · refine .inr ?_
        rw [end_eq h1 h2 h3 h4 (by omega) (by omega)]
        by_cases hq0 : q = 0
        · subst hq0
          rw [if_pos (by omega)]; omega
        · have hsq1 : s ≤ s * q := by
            have := Int.mul_le_mul_of_nonneg_left (show 1 ≤ q by omega) (show 0 ≤ s by omega)
            omega
          rw [if_neg (by omega), start_eq h1 h2 h3 h4 (by omega) (by omega), if_pos (by omega)]
          have e3 : a + s * q - 1 - a = s * (q - 1) + (s - 1) := by rw [Int.mul_sub]; omega
          rw [e3, mod_shift (q - 1) s (s - 1) h1 (by omega) (by omega)]; omega
  · rw [if_neg hta] at eS
    have h00 : sStart 0 s a = 0 := by rw [start_eq h1 h2 h3 h4 (by omega) (by omega), if_neg (by omega)]
    have he : sEnd 0 s a = a := by rw [end_eq h1 h2 h3 h4 (by omega) (by omega), if_pos (by omega)]
    rw [eS, h00, he]
    refine ⟨by omega, by omega, by omega, rfl, ?_, ?_, .inl rfl⟩
    · rw [end_eq h1 h2 h3 h4 h5 (by omega), if_pos (by omega)]
    · refine .inr ?_
      rw [start_eq h1 h2 h3 h4 (by omega) (by omega), if_pos (by omega)]
      simp
theorem sStart_hi {t s a : Int} : sStart t s a ≤ 1099511627776 := sStart_bounds.2
end Go.Proofs.Ytaejmcgcfopmkaa
