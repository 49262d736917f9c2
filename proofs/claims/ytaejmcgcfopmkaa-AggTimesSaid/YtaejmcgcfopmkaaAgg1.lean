/- Contracts of package agg's and the reference's small functions. -/
import Derived.Test.YtaejmcgcfopmkaaEngMore
namespace Go.Proofs.Ytaejmcgcfopmkaa
open Go Go.RowKit
def sRight (k : Int) : Bool := decide (1 ≤ k ∧ k ≤ 7)
def sCan (s a : Int) : Bool := decide (1 ≤ s ∧ s ≤ 1099511627776 ∧ 0 ≤ a ∧ a < s)
def sTime (t : Int) : Bool := decide (0 ≤ t ∧ t ≤ 1099511627776)
def sStart (t s a : Int) : Int := if sCan s a = true ∧ sTime t = true ∧ a ≤ t then t - (t - a) % s else 0
def sEnd (b s a : Int) : Int := if sCan s a = true ∧ sTime b = true then (if b < a then a else sStart b s a + s) else 0
theorem c_right (k : Int) (h : Hp) {K : CH} (hk : K.go (.bool (sRight k)) h) : @Go1 _ (CallF Try.prog 14 #[.int .i64 k] h) K := by
  refine go_of tab.mixed Try.func14 rfl Try.ntmps14 Try.results14 tab.ca14 (by kernel_rfl) (Nat.le_of_ble_eq_true rfl) fun hw => ?_
  simp only [go_sem, Nat.reduceBEq, Nat.reduceAdd, Nat.reduceLeDiff, Nat.reduceEqDiff, Nat.reduceMul, Nat.reduceLT, Int.reduceLE, Int.reduceLT, Int.reduceToNat, Int.reduceEq, Int.toNat_natCast, Nat.zero_add, Nat.add_zero, Int.ofNat_lt, Int.ofNat_le, Int.natCast_nonneg, decide_true, decide_false, Bool.false_eq_true]
  exact Two.mk (fun h1 => .here (by simpa [sRight, h1] using hk)) (fun h1 => .here (by simpa [sRight, h1] using hk))
theorem c_can (s a : Int) (h : Hp) {K : CH} (hk : K.go (.bool (sCan s a)) h) : @Go1 _ (CallF Try.prog 34 #[.int .i64 s, .int .i64 a] h) K := by
  refine go_of tab.mixed Try.func34 rfl Try.ntmps34 Try.results34 tab.ca34 (by kernel_rfl) (Nat.le_of_ble_eq_true rfl) fun hw => ?_
  simp only [go_sem, Nat.reduceBEq, Nat.reduceAdd, Nat.reduceLeDiff, Nat.reduceEqDiff, Nat.reduceMul, Nat.reduceLT, Int.reduceLE, Int.reduceLT, Int.reduceToNat, Int.reduceEq, Int.toNat_natCast, Nat.zero_add, Nat.add_zero, Int.ofNat_lt, Int.ofNat_le, Int.natCast_nonneg, decide_true, decide_false, Bool.false_eq_true]
  exact Two.mk (fun h1 => Two.mk (fun h2 => Two.mk (fun h3 => .here (by simpa [sCan, h1, h2, h3] using hk)) (fun h3 => .here (by simpa [sCan, h1, h2, h3] using hk))) (fun h2 => .here (by simpa [sCan, h1, h2] using hk))) (fun h1 => .here (by simpa [sCan, h1] using hk))
theorem c_time (t : Int) (h : Hp) {K : CH} (hk : K.go (.bool (sTime t)) h) : @Go1 _ (CallF Try.prog 35 #[.int .i64 t] h) K := by
  refine go_of tab.mixed Try.func35 rfl Try.ntmps35 Try.results35 tab.ca35 (by kernel_rfl) (Nat.le_of_ble_eq_true rfl) fun hw => ?_
  simp only [go_sem, Nat.reduceBEq, Nat.reduceAdd, Nat.reduceLeDiff, Nat.reduceEqDiff, Nat.reduceMul, Nat.reduceLT, Int.reduceLE, Int.reduceLT, Int.reduceToNat, Int.reduceEq, Int.toNat_natCast, Nat.zero_add, Nat.add_zero, Int.ofNat_lt, Int.ofNat_le, Int.natCast_nonneg, decide_true, decide_false, Bool.false_eq_true]
  exact Two.mk (fun h1 => .here (by simpa [sTime, h1] using hk)) (fun h1 => .here (by simpa [sTime, h1] using hk))
theorem c_start (t s a : Int) (h : Hp) {K : CH} (hk : K.go (.int .i64 (sStart t s a)) h) : @Go1 _ (CallF Try.prog 17 #[.int .i64 t, .int .i64 s, .int .i64 a] h) K := by
  refine go_of tab.mixed Try.func17 rfl Try.ntmps17 Try.results17 tab.ca17 (by kernel_rfl) (Nat.le_of_ble_eq_true rfl) fun hw => ?_
  simp only [go_sem, Nat.reduceBEq, Nat.reduceAdd, Nat.reduceLeDiff, Nat.reduceEqDiff, Nat.reduceMul, Nat.reduceLT, Int.reduceLE, Int.reduceLT, Int.reduceToNat, Int.reduceEq, Int.toNat_natCast, Nat.zero_add, Nat.add_zero, Int.ofNat_lt, Int.ofNat_le, Int.natCast_nonneg, decide_true, decide_false, Bool.false_eq_true]
  refine c_can _ _ _ ?_
  simp only [go_sem, Nat.reduceBEq, Nat.reduceAdd, Nat.reduceLeDiff, Nat.reduceEqDiff, Nat.reduceMul, Nat.reduceLT, Int.reduceLE, Int.reduceLT, Int.reduceToNat, Int.reduceEq, Int.toNat_natCast, Nat.zero_add, Nat.add_zero, Int.ofNat_lt, Int.ofNat_le, Int.natCast_nonneg, decide_true, decide_false, Bool.false_eq_true]
  refine Two.mk (fun h1 => ?_) (fun h1 => ?_)
  · refine c_time _ _ ?_
    simp only [go_sem, Nat.reduceBEq, Nat.reduceAdd, Nat.reduceLeDiff, Nat.reduceEqDiff, Nat.reduceMul, Nat.reduceLT, Int.reduceLE, Int.reduceLT, Int.reduceToNat, Int.reduceEq, Int.toNat_natCast, Nat.zero_add, Nat.add_zero, Int.ofNat_lt, Int.ofNat_le, Int.natCast_nonneg, decide_true, decide_false, Bool.false_eq_true]
    refine Two.mk (fun h2 => Two.mk (fun h3 => .here (by simpa [sStart, h1, h2, Int.not_le.2 h3] using hk)) (fun h3 => ?_)) (fun h2 => .here (by simpa [sStart, h1, h2] using hk))
    simp only [sCan, sTime, decide_eq_true_eq] at h1 h2
    refine ⟨by omega, .here ?_⟩
    rw [wrap_i64_of (x := t - a) (by omega) (by omega), Int.tmod_eq_emod_of_nonneg (by omega)]
    have hm1 := Int.emod_nonneg (t - a) (show s ≠ 0 by omega)
    have hm2 := Int.emod_lt_of_pos (t - a) (show 0 < s by omega)
    rw [wrap_i64_of (by omega) (by omega)]
    have : sStart t s a = t - (t - a) % s := by simp only [sStart, sCan, sTime, decide_eq_true_eq]; rw [if_pos (by omega)]
    rwa [← this]
  · exact .here (by simpa [sStart, h1] using hk)
theorem sStart_bounds {t s a : Int} : 0 ≤ sStart t s a ∧ sStart t s a ≤ 1099511627776 := by
  unfold sStart
  split
  · rename_i h
    simp only [sCan, sTime, decide_eq_true_eq] at h
    have hm1 := Int.emod_nonneg (t - a) (show s ≠ 0 by omega)
    have hm2 := Int.emod_add_mul_ediv (t - a) s
    have hm3 := Int.mul_nonneg (show 0 ≤ s by omega) (Int.ediv_nonneg (show 0 ≤ t - a by omega) (show 0 ≤ s by omega))
    omega
  · omega
theorem c_end (b s a : Int) (h : Hp) {K : CH} (hk : K.go (.int .i64 (sEnd b s a)) h) : @Go1 _ (CallF Try.prog 19 #[.int .i64 b, .int .i64 s, .int .i64 a] h) K := by
  refine go_of tab.mixed Try.func19 rfl Try.ntmps19 Try.results19 tab.ca19 (by kernel_rfl) (Nat.le_of_ble_eq_true rfl) fun hw => ?_
  simp only [go_sem, Nat.reduceBEq, Nat.reduceAdd, Nat.reduceLeDiff, Nat.reduceEqDiff, Nat.reduceMul, Nat.reduceLT, Int.reduceLE, Int.reduceLT, Int.reduceToNat, Int.reduceEq, Int.toNat_natCast, Nat.zero_add, Nat.add_zero, Int.ofNat_lt, Int.ofNat_le, Int.natCast_nonneg, decide_true, decide_false, Bool.false_eq_true]
  refine c_can _ _ _ ?_
  simp only [go_sem, Nat.reduceBEq, Nat.reduceAdd, Nat.reduceLeDiff, Nat.reduceEqDiff, Nat.reduceMul, Nat.reduceLT, Int.reduceLE, Int.reduceLT, Int.reduceToNat, Int.reduceEq, Int.toNat_natCast, Nat.zero_add, Nat.add_zero, Int.ofNat_lt, Int.ofNat_le, Int.natCast_nonneg, decide_true, decide_false, Bool.false_eq_true]
  refine Two.mk (fun h1 => ?_) (fun h1 => .here (by simpa [sEnd, h1] using hk))
  refine c_time _ _ ?_
  simp only [go_sem, Nat.reduceBEq, Nat.reduceAdd, Nat.reduceLeDiff, Nat.reduceEqDiff, Nat.reduceMul, Nat.reduceLT, Int.reduceLE, Int.reduceLT, Int.reduceToNat, Int.reduceEq, Int.toNat_natCast, Nat.zero_add, Nat.add_zero, Int.ofNat_lt, Int.ofNat_le, Int.natCast_nonneg, decide_true, decide_false, Bool.false_eq_true]
  refine Two.mk (fun h2 => Two.mk (fun h3 => .here (by simpa [sEnd, h1, h2, h3] using hk)) (fun h3 => ?_)) (fun h2 => .here (by simpa [sEnd, h1, h2] using hk))
  refine c_start _ _ _ _ ?_
  simp only [go_sem, Nat.reduceBEq, Nat.reduceAdd, Nat.reduceLeDiff, Nat.reduceEqDiff, Nat.reduceMul, Nat.reduceLT, Int.reduceLE, Int.reduceLT, Int.reduceToNat, Int.reduceEq, Int.toNat_natCast, Nat.zero_add, Nat.add_zero, Int.ofNat_lt, Int.ofNat_le, Int.natCast_nonneg, decide_true, decide_false, Bool.false_eq_true]
  have hb := sStart_bounds (t := b) (s := s) (a := a)
  have h1' := h1
  simp only [sCan, decide_eq_true_eq] at h1'
  rw [wrap_i64_of (by omega) (by omega)]
  exact .here (by simpa [sEnd, h1, h2, h3] using hk)

/-! ### policy -/
def sOver (a b : Int) : Bool := decide (0 ≤ b ∧ IntKind.i64.wrap (a + b) < a ∨ b < 0 ∧ a < IntKind.i64.wrap (a + b))
def sCap (a b : Int) : Int := if sOver a b = true then (if 0 < b then 9223372036854775807 else -9223372036854775808) else IntKind.i64.wrap (a + b)
theorem c_padd (a b : Int) (h : Hp) {K : CH} (hk : K.go (.tuple #[.int .i64 (if sOver a b = true then 0 else IntKind.i64.wrap (a + b)), .int .i64 (if sOver a b = true then 9 else 0)]) h) : @Go1 _ (CallF Try.prog 48 #[.int .i64 a, .int .i64 b] h) K := by
  refine go_of tab.mixed Try.func48 rfl Try.ntmps48 Try.results48 tab.ca48 (by kernel_rfl) (Nat.le_of_ble_eq_true rfl) fun hw => ?_
  simp only [go_sem, Nat.reduceBEq, Nat.reduceAdd, Nat.reduceLeDiff, Nat.reduceEqDiff, Nat.reduceMul, Nat.reduceLT, Int.reduceLE, Int.reduceLT, Int.reduceToNat, Int.reduceEq, Int.toNat_natCast, Nat.zero_add, Nat.add_zero, Int.ofNat_lt, Int.ofNat_le, Int.natCast_nonneg, decide_true, decide_false, Bool.false_eq_true]
  repeat' refine Two.mk (fun _ => ?_) (fun _ => ?_)
  all_goals first
    | (have q : sOver a b = true := (by simp only [sOver, decide_eq_true_eq]; omega)
       exact .here (by simpa [q] using hk))
    | (have q : sOver a b = false := (by simp only [sOver, decide_eq_false_iff_not]; omega)
       exact .here (by simpa [q] using hk))
theorem c_cap (a b : Int) (h : Hp) {K : CH} (hk : K.go (.int .i64 (sCap a b)) h) : @Go1 _ (CallF Try.prog 39 #[.int .i64 a, .int .i64 b] h) K := by
  refine go_of tab.mixed Try.func39 rfl Try.ntmps39 Try.results39 tab.ca39 (by kernel_rfl) (Nat.le_of_ble_eq_true rfl) fun hw => ?_
  simp only [go_sem, Nat.reduceBEq, Nat.reduceAdd, Nat.reduceLeDiff, Nat.reduceEqDiff, Nat.reduceMul, Nat.reduceLT, Int.reduceLE, Int.reduceLT, Int.reduceToNat, Int.reduceEq, Int.toNat_natCast, Nat.zero_add, Nat.add_zero, Int.ofNat_lt, Int.ofNat_le, Int.natCast_nonneg, decide_true, decide_false, Bool.false_eq_true]
  refine c_padd _ _ _ ?_
  simp only [go_sem, Nat.reduceBEq, Nat.reduceAdd, Nat.reduceLeDiff, Nat.reduceEqDiff, Nat.reduceMul, Nat.reduceLT, Int.reduceLE, Int.reduceLT, Int.reduceToNat, Int.reduceEq, Int.toNat_natCast, Nat.zero_add, Nat.add_zero, Int.ofNat_lt, Int.ofNat_le, Int.natCast_nonneg, decide_true, decide_false, Bool.false_eq_true]
  cases q : sOver a b <;> simp only [sCap, q, if_true, if_false, Bool.false_eq_true] at hk ⊢
  · exact Two.mk (fun _ => .here hk) (fun k => (k trivial).elim)
  · refine Two.mk (fun k => by cases k) (fun _ => Two.mk (fun k => .here (by simpa [k] using hk)) (fun k => .here (by simpa [k] using hk)))
end Go.Proofs.Ytaejmcgcfopmkaa
