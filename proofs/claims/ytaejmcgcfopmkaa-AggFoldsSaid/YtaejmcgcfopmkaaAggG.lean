/- The reference's times, as known functions. -/
import Derived.Test.YtaejmcgcfopmkaaAggF
namespace Go.Proofs.Ytaejmcgcfopmkaa
open Go Go.RowKit
set_option maxRecDepth 100000 in
theorem n_rright : NatP 36 (nat2b sCan) := nat2b_ok (d := 1) evP_ok fun s a H n κ hk => by
  repeat' (conv => whnf
           first | refine Fork.dec (fun _ => ?_) (fun _ => ?_) | refine Fork.ndec (fun _ => ?_) (fun _ => ?_) | refine leafB hk ?_)
  all_goals simp [sCan, *]
noncomputable def FE : FuncId → EP := withS 36 (nat2b sCan) FD
theorem FE_ok : TabP FE := withS_ok FD_ok n_rright sing2b
set_option maxRecDepth 100000 in
theorem n_rstart : NatP 18 (nat3 sStart) := nat3_ok (d := 2) FE_ok fun t s a H n κ hk => by
  repeat' (conv => whnf
           first | refine Fork.dec (fun _ => ?_) (fun _ => ?_) | refine Fork.ndec (fun _ => ?_) (fun _ => ?_) | refine Fork.sb (fun _ => ?_) (fun _ => ?_) | refine Fork.nsb (fun _ => ?_) (fun _ => ?_) | refine And.intro ?_ ?_ | refine leafI hk ?_)
  · rename_i h1
    simp [sStart, sCan, h1]
  · rename_i h2 h1
    unfold sStart
    rw [if_neg (by omega)]
  · rename_i h3 h2 h1
    unfold sStart
    rw [if_neg (by simp only [sTime, decide_eq_true_eq]; omega)]
  · omega
  · rename_i h3 h2 h1
    have hq := Int.ediv_nonneg (show 0 ≤ t - a by omega) (show 0 ≤ s by omega)
    have hm := Int.emod_add_mul_ediv (t - a) s
    have hm1 := Int.emod_nonneg (t - a) (show s ≠ 0 by omega)
    have hm2 := Int.emod_lt_of_pos (t - a) (show 0 < s by omega)
    have hsq := Int.mul_nonneg (show 0 ≤ s by omega) hq
    have hle : (t - a) / s ≤ s * ((t - a) / s) := by
      have := Int.mul_le_mul_of_nonneg_right (show 1 ≤ s by omega) hq
      omega
    rw [wrap_i64_of (x := t - a) (by omega) (by omega), Int.tdiv_eq_ediv_of_nonneg (by omega), Int.mul_comm ((IntKind.i64.wrap ((t - a) / s))) s, wrap_i64_of (x := (t - a) / s) (by omega) (by omega), wrap_i64_of (x := s * ((t - a) / s)) (by omega) (by omega), wrap_i64_of (by omega) (by omega)]
    simp only [sStart, sCan, sTime, decide_eq_true_eq]
    rw [if_pos (by omega)]
    omega
noncomputable def FG : FuncId → EP := withS 18 (nat3 sStart) FE
theorem FG_ok : TabP FG := withS_ok FE_ok n_rstart sing3
set_option maxRecDepth 100000 in
theorem n_rend : NatP 20 (nat3 sEnd) := nat3_ok (d := 2) FG_ok fun b s a H n κ hk => by
  repeat' (conv => whnf
           first | refine Fork.dec (fun _ => ?_) (fun _ => ?_) | refine Fork.ndec (fun _ => ?_) (fun _ => ?_) | refine Fork.sb (fun _ => ?_) (fun _ => ?_) | refine Fork.nsb (fun _ => ?_) (fun _ => ?_) | refine And.intro ?_ ?_ | refine leafI hk ?_)
  all_goals
    have hb := sStart_bounds (t := b) (s := s) (a := a)
    unfold sEnd
    simp only [sCan, sTime, decide_eq_true_eq]
  · rw [if_neg (by omega)]
  · rw [if_neg (by omega)]
  · rw [if_neg (by omega)]
  · rw [if_pos (by omega), if_pos (by omega)]
  · rw [if_pos (by omega), if_neg (by omega), wrap_i64_of (by omega) (by omega)]
end Go.Proofs.Ytaejmcgcfopmkaa
