/- Functions of package agg's as known ones, for the machine that asks. -/
import Derived.Test.YtaejmcgcfopmkaaEvN
namespace Go.Proofs.Ytaejmcgcfopmkaa
open Go Go.RowKit
def sRight (k : Int) : Bool := decide (1 ≤ k ∧ k ≤ 7)
def sCan (s a : Int) : Bool := decide (1 ≤ s ∧ s ≤ 1099511627776 ∧ 0 ≤ a ∧ a < s)
def sTime (t : Int) : Bool := decide (0 ≤ t ∧ t ≤ 1099511627776)
def sStart (t s a : Int) : Int := if sCan s a = true ∧ sTime t = true ∧ a ≤ t then t - (t - a) % s else 0
def sEnd (b s a : Int) : Int := if sCan s a = true ∧ sTime b = true then (if b < a then a else sStart b s a + s) else 0
theorem sStart_bounds {t s a : Int} : 0 ≤ sStart t s a ∧ sStart t s a ≤ 1099511627776 := by
  unfold sStart
  split
  · rename_i h
    simp only [sCan, sTime, decide_eq_true_eq] at h
    have hm1 := Int.emod_nonneg (t - a) (show s ≠ 0 by omega)
    have hm2 := Int.emod_add_mul_ediv (t - a) s
    have hm3 := Int.mul_nonneg (show 0 ≤ s by omega) (Int.ediv_nonneg (show 0 ≤ t - a by omega) (show 0 ≤ s by omega))
    omega
  · omega
def sOver (a b : Int) : Bool := decide (0 ≤ b ∧ IntKind.i64.wrap (a + b) < a ∨ b < 0 ∧ a < IntKind.i64.wrap (a + b))
def sCap (a b : Int) : Int := if sOver a b = true then (if 0 < b then 9223372036854775807 else -9223372036854775808) else IntKind.i64.wrap (a + b)
set_option maxRecDepth 100000 in
theorem n_right : NatP 14 (nat1b sRight) := nat1b_ok (d := 1) evP_ok fun t H n κ hk => by
  repeat' (conv => whnf
           first | refine Fork.dec (fun _ => ?_) (fun _ => ?_) | refine Fork.ndec (fun _ => ?_) (fun _ => ?_) | refine leafB hk ?_)
  all_goals simp [sRight, *]
set_option maxRecDepth 100000 in
theorem n_can : NatP 34 (nat2b sCan) := nat2b_ok (d := 1) evP_ok fun s a H n κ hk => by
  repeat' (conv => whnf
           first | refine Fork.dec (fun _ => ?_) (fun _ => ?_) | refine Fork.ndec (fun _ => ?_) (fun _ => ?_) | refine leafB hk ?_)
  all_goals simp [sCan, *]
set_option maxRecDepth 100000 in
theorem n_time : NatP 35 (nat1b sTime) := nat1b_ok (d := 1) evP_ok fun s H n κ hk => by
  repeat' (conv => whnf
           first | refine Fork.dec (fun _ => ?_) (fun _ => ?_) | refine Fork.ndec (fun _ => ?_) (fun _ => ?_) | refine leafB hk ?_)
  all_goals simp [sTime, *]
noncomputable def FA : FuncId → EP := withS 34 (nat2b sCan) (withS 35 (nat1b sTime) (withS 14 (nat1b sRight) evP))
theorem FA_ok : TabP FA := withS_ok (withS_ok (withS_ok evP_ok n_right sing1b) n_time sing1b) n_can sing2b
set_option maxRecDepth 100000 in
theorem n_start : NatP 17 (nat3 sStart) := nat3_ok (d := 2) FA_ok fun t s a H n κ hk => by
  repeat' (conv => whnf
           first | refine Fork.dec (fun _ => ?_) (fun _ => ?_) | refine Fork.ndec (fun _ => ?_) (fun _ => ?_) | refine Fork.sb (fun _ => ?_) (fun _ => ?_) | refine Fork.nsb (fun _ => ?_) (fun _ => ?_) | refine And.intro ?_ ?_ | refine leafI hk ?_)
  · rename_i h1
    simp [sStart, sCan, h1]
  · rename_i h2 h1
    simp [sStart, sTime, h1]
  · rename_i h3 h2 h1
    unfold sStart
    rw [if_neg (by omega)]
  · intro h0
    omega
  · rename_i h3 h2 h1
    rw [wrap_i64_of (x := t - a) (by omega) (by omega), Int.tmod_eq_emod_of_nonneg (by omega)]
    have hm1 := Int.emod_nonneg (t - a) (show s ≠ 0 by omega)
    have hm2 := Int.emod_lt_of_pos (t - a) (show 0 < s by omega)
    rw [wrap_i64_of (by omega) (by omega)]
    simp only [sStart, sCan, sTime, decide_eq_true_eq]
    rw [if_pos (by omega)]
noncomputable def FB : FuncId → EP := withS 17 (nat3 sStart) FA
theorem FB_ok : TabP FB := withS_ok FA_ok n_start sing3
set_option maxRecDepth 100000 in
theorem n_end : NatP 19 (nat3 sEnd) := nat3_ok (d := 2) FB_ok fun b s a H n κ hk => by
  repeat' (conv => whnf
           first | refine Fork.dec (fun _ => ?_) (fun _ => ?_) | refine Fork.ndec (fun _ => ?_) (fun _ => ?_) | refine Fork.sb (fun _ => ?_) (fun _ => ?_) | refine Fork.nsb (fun _ => ?_) (fun _ => ?_) | refine And.intro ?_ ?_ | refine leafI hk ?_)
  · rename_i h1
    simp [sEnd, sCan, h1]
  · rename_i h2 h1
    simp [sEnd, sTime, h1]
  · rename_i h3 h2 h1
    simp [sEnd, sCan, sTime, h1, h2, h3]
  · rename_i h3 h2 h1
    have hb := sStart_bounds (t := b) (s := s) (a := a)
    rw [wrap_i64_of (by omega) (by omega)]
    simp [sEnd, sCan, sTime, h1, h2, h3]
theorem known_true : isTrue (callq evQ 30 11 [] .nil 0 topq) = true := by kernel_rfl
theorem n_known : NatP 11 (natQ trueN) := natTrue known_true
noncomputable def FC : FuncId → EP := withS 11 (natQ trueN) (withS 19 (nat3 sEnd) FB)
theorem FC_ok : TabP FC := withS_ok (withS_ok FB_ok n_end sing3) n_known singTrue
structure TimesOk (t s a : Int) : Prop where
  s1 : 1 ≤ s
  s2 : s ≤ 1099511627776
  a1 : 0 ≤ a
  a2 : a < s
  t1 : 0 ≤ t
  t2 : t < 1099511627776
theorem mod_facts (x s : Int) (hs : 1 ≤ s) : 0 ≤ x % s ∧ x % s < s ∧ x - x % s = s * (x / s) := by
  have h1 := Int.emod_nonneg x (show s ≠ 0 by omega)
  have h2 := Int.emod_lt_of_pos x (show 0 < s by omega)
  have h3 := Int.emod_add_mul_ediv x s
  exact ⟨h1, h2, by omega⟩
theorem start_eq {t s a : Int} (h1 : 1 ≤ s) (h2 : s ≤ 1099511627776) (h3 : 0 ≤ a) (h4 : a < s) (h5 : 0 ≤ t) (h6 : t ≤ 1099511627776) : sStart t s a = if a ≤ t then t - (t - a) % s else 0 := by
  unfold sStart
  have e1 : sCan s a = true := by simp only [sCan, decide_eq_true_eq]; omega
  have e2 : sTime t = true := by simp only [sTime, decide_eq_true_eq]; omega
  by_cases h : a ≤ t
  · rw [if_pos ⟨e1, e2, h⟩, if_pos h]
  · rw [if_neg (fun k => h k.2.2), if_neg h]
theorem end_eq {t s a : Int} (h1 : 1 ≤ s) (h2 : s ≤ 1099511627776) (h3 : 0 ≤ a) (h4 : a < s) (h5 : 0 ≤ t) (h6 : t ≤ 1099511627776) : sEnd t s a = if t < a then a else sStart t s a + s := by
  unfold sEnd
  have e1 : sCan s a = true := by simp only [sCan, decide_eq_true_eq]; omega
  have e2 : sTime t = true := by simp only [sTime, decide_eq_true_eq]; omega
  rw [if_pos ⟨e1, e2⟩]
theorem mod_shift (q s r : Int) (hs : 1 ≤ s) (h0 : 0 ≤ r) (h1 : r < s) : (s * q + r) % s = r := by
  rw [Int.mul_add_emod_self_left]; exact Int.emod_eq_of_lt h0 h1
theorem times_law {t s a : Int} (h : TimesOk t s a) : sStart t s a ≤ t ∧ t < sEnd (sStart t s a) s a ∧ sEnd (sStart t s a) s a - sStart t s a ≤ s ∧ sStart (sStart t s a) s a = sStart t s a ∧ sEnd t s a = sEnd (sStart t s a) s a ∧
    (1099511627776 < sEnd (sStart t s a) s a ∨ sStart (sEnd (sStart t s a) s a) s a = sEnd (sStart t s a) s a) ∧ (sStart t s a = 0 ∨ sEnd (sStart t s a - 1) s a = sStart t s a) := by
  obtain ⟨h1, h2, h3, h4, h5, h6⟩ := h
  have eS := start_eq h1 h2 h3 h4 h5 (by omega)
  by_cases hta : a ≤ t
  · rw [if_pos hta] at eS
    obtain ⟨m1, m2, m3⟩ := mod_facts (t - a) s h1
    have hq : 0 ≤ (t - a) / s := Int.ediv_nonneg (by omega) (by omega)
    generalize (t - a) / s = q at m3 hq
    have hsq : 0 ≤ s * q := Int.mul_nonneg (by omega) hq
    have hb : sStart t s a = a + s * q := by omega
    have hbt : a + s * q ≤ t := by omega
    have hbb : sStart (a + s * q) s a = a + s * q := by
      rw [start_eq h1 h2 h3 h4 (by omega) (by omega), if_pos (by omega), show a + s * q - a = s * q + 0 from by omega, mod_shift q s 0 h1 (by omega) (by omega)]; omega
    have he : sEnd (a + s * q) s a = a + s * q + s := by
      rw [end_eq h1 h2 h3 h4 (by omega) (by omega), if_neg (by omega), hbb]
    rw [hb, hbb, he]
    refine ⟨hbt, by omega, by omega, rfl, ?_, ?_, ?_⟩
    · rw [end_eq h1 h2 h3 h4 h5 (by omega), if_neg (by omega), hb]
    · by_cases hM : 1099511627776 < a + s * q + s
      · exact .inl hM
      · refine .inr ?_
        have e3 : a + s * q + s - a = s * (q + 1) + 0 := by rw [Int.mul_add]; omega
        rw [start_eq h1 h2 h3 h4 (by omega) (by omega), if_pos (by omega), e3, mod_shift (q + 1) s 0 h1 (by omega) (by omega)]; omega
    · by_cases h0 : a + s * q = 0
      · exact .inl h0
      · refine .inr ?_
        rw [end_eq h1 h2 h3 h4 (by omega) (by omega)]
        by_cases hq0 : q = 0
        · subst hq0
          rw [if_pos (by omega)]; omega
        · have hsq1 : s ≤ s * q := by
            have := Int.mul_le_mul_of_nonneg_left (show 1 ≤ q by omega) (show 0 ≤ s by omega)
            omega
          rw [if_neg (by omega), start_eq h1 h2 h3 h4 (by omega) (by omega), if_pos (by omega)]
          have e3 : a + s * q - 1 - a = s * (q - 1) + (s - 1) := by rw [Int.mul_sub]; omega
          rw [e3, mod_shift (q - 1) s (s - 1) h1 (by omega) (by omega)]; omega
  · rw [if_neg hta] at eS
    have h00 : sStart 0 s a = 0 := by rw [start_eq h1 h2 h3 h4 (by omega) (by omega), if_neg (by omega)]
    have he : sEnd 0 s a = a := by rw [end_eq h1 h2 h3 h4 (by omega) (by omega), if_pos (by omega)]
    rw [eS, h00, he]
    refine ⟨by omega, by omega, by omega, rfl, ?_, ?_, .inl rfl⟩
    · rw [end_eq h1 h2 h3 h4 h5 (by omega), if_pos (by omega)]
    · refine .inr ?_
      rw [start_eq h1 h2 h3 h4 (by omega) (by omega), if_pos (by omega)]
      simp
end Go.Proofs.Ytaejmcgcfopmkaa
