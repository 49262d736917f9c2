/- A state: what its calls do. -/
import Derived.Test.YtaejmcgcfopmkaaAgg1
namespace Go.Proofs.Ytaejmcgcfopmkaa
open Go Go.RowKit
structure St where
  kind : Int
  n : Int
  sum : Int
  least : Int
  great : Int
  first : Int
  last : Int
def stObj (s : St) : Obj := .cells #[.int .i64 s.kind, .int .i64 s.n, .int .i64 s.sum, .int .i64 s.least, .int .i64 s.great, .int .i64 s.first, .int .i64 s.last, .int .i64 0] 54 (0, 0)
def St.new (k : Int) : St := ⟨k, 0, 0, 0, 0, 0, 0⟩
def St.add (s : St) (v : Int) : St :=
  ⟨s.kind, IntKind.i64.wrap (s.n + 1), sCap s.sum v, min (if s.n = 0 then v else s.least) v, max (if s.n = 0 then v else s.great) v, if s.n = 0 then v else s.first, v⟩
def St.wide (s : St) : Int := if IntKind.i64.wrap (s.great - s.least) < 0 then 9223372036854775807 else IntKind.i64.wrap (s.great - s.least)
def St.tell (s : St) : Int := match s.kind with
  | 1 => s.sum
  | 2 => s.least
  | 3 => s.great
  | 4 => s.n
  | 5 => s.first
  | 6 => s.last
  | _ => s.wide
def St.value (s : St) : Int × Bool := if s.n = 0 then (0, false) else (s.tell, true)
theorem c_new (k : Int) (h : Hp) {K : CH} (hk : if sRight k = true then K.go (.tuple #[.pointer (some ⟨h.n, 0, none⟩), .int .i64 0]) ((h.put h.n (stObj (.new k))).to (h.n + 1)) else K.go (.tuple #[.pointer none, .int .i64 1]) h) : @Go1 _ (CallF Try.prog 21 #[.int .i64 k] h) K := by
  refine go_of tab.mixed Try.func21 rfl Try.ntmps21 Try.results21 tab.ca21 (by kernel_rfl) (Nat.le_of_ble_eq_true rfl) fun hw => ?_
  simp only [go_sem, Nat.reduceBEq, Nat.reduceAdd, Nat.reduceLeDiff, Nat.reduceEqDiff, Nat.reduceMul, Nat.reduceLT, Int.reduceLE, Int.reduceLT, Int.reduceToNat, Int.reduceEq, Int.toNat_natCast, Nat.zero_add, Nat.add_zero, Int.ofNat_lt, Int.ofNat_le, Int.natCast_nonneg, decide_true, decide_false, Bool.false_eq_true]
  refine c_right _ _ ?_
  simp only [go_sem, Nat.reduceBEq, Nat.reduceAdd, Nat.reduceLeDiff, Nat.reduceEqDiff, Nat.reduceMul, Nat.reduceLT, Int.reduceLE, Int.reduceLT, Int.reduceToNat, Int.reduceEq, Int.toNat_natCast, Nat.zero_add, Nat.add_zero, Int.ofNat_lt, Int.ofNat_le, Int.natCast_nonneg, decide_true, decide_false, Bool.false_eq_true]
  exact Two.mk (fun h1 => .here (by rw [if_pos h1] at hk; exact hk)) (fun h1 => .here (by rw [if_neg h1] at hk; exact hk))
theorem c_there (b : Nat) (s : St) (h : Hp) (hb : h.f b = some (stObj s)) {K : CH} (hk : K.go (.bool (decide (0 < s.kind))) h) : @Go1 _ (CallF Try.prog 38 #[.pointer (some ⟨b, 0, none⟩)] h) K := by
  refine go_of tab.mixed Try.func38 rfl Try.ntmps38 Try.results38 tab.ca38 (by kernel_rfl) (Nat.le_of_ble_eq_true rfl) fun hw => ?_
  simp only [go_sem, Nat.reduceBEq, Nat.reduceAdd, Nat.reduceLeDiff, Nat.reduceEqDiff, Nat.reduceMul, Nat.reduceLT, Int.reduceLE, Int.reduceLT, Int.reduceToNat, Int.reduceEq, Int.toNat_natCast, Nat.zero_add, Nat.add_zero, Int.ofNat_lt, Int.ofNat_le, Int.natCast_nonneg, decide_true, decide_false, Bool.false_eq_true, hb, stObj]
  exact .here hk
theorem c_thereN (h : Hp) {K : CH} (hk : K.go (.bool false) h) : @Go1 _ (CallF Try.prog 38 #[.pointer none] h) K := by
  refine go_of tab.mixed Try.func38 rfl Try.ntmps38 Try.results38 tab.ca38 (by kernel_rfl) (Nat.le_of_ble_eq_true rfl) fun hw => ?_
  simp only [go_sem, Nat.reduceBEq, Nat.reduceAdd, Nat.reduceLeDiff, Nat.reduceEqDiff, Nat.reduceMul, Nat.reduceLT, Int.reduceLE, Int.reduceLT, Int.reduceToNat, Int.reduceEq, Int.toNat_natCast, Nat.zero_add, Nat.add_zero, Int.ofNat_lt, Int.ofNat_le, Int.natCast_nonneg, decide_true, decide_false, Bool.false_eq_true]
  exact .here hk
theorem c_add (b : Nat) (s : St) (v : Int) (h : Hp) (hb : h.f b = some (stObj s)) (hs : 0 < s.kind) {K : CH} (hk : K.go (.int .i64 0) (h.put b (stObj (s.add v)))) : @Go1 _ (CallF Try.prog 24 #[.pointer (some ⟨b, 0, none⟩), .int .i64 v] h) K := by
  refine go_of tab.mixed Try.func24 rfl Try.ntmps24 Try.results24 tab.ca24 (by kernel_rfl) (Nat.le_of_ble_eq_true rfl) fun hw => ?_
  simp only [go_sem, Nat.reduceBEq, Nat.reduceAdd, Nat.reduceLeDiff, Nat.reduceEqDiff, Nat.reduceMul, Nat.reduceLT, Int.reduceLE, Int.reduceLT, Int.reduceToNat, Int.reduceEq, Int.toNat_natCast, Nat.zero_add, Nat.add_zero, Int.ofNat_lt, Int.ofNat_le, Int.natCast_nonneg, decide_true, decide_false, Bool.false_eq_true]
  refine c_there b s h hb ?_
  simp only [go_sem, Nat.reduceBEq, Nat.reduceAdd, Nat.reduceLeDiff, Nat.reduceEqDiff, Nat.reduceMul, Nat.reduceLT, Int.reduceLE, Int.reduceLT, Int.reduceToNat, Int.reduceEq, Int.toNat_natCast, Nat.zero_add, Nat.add_zero, Int.ofNat_lt, Int.ofNat_le, Int.natCast_nonneg, decide_true, decide_false, Bool.false_eq_true, hs, decide_true, hb, stObj]
  refine Two.mk (fun h1 => ?_) (fun h1 => ?_)
  all_goals
    refine c_cap _ _ _ ?_
    simp only [go_sem, Nat.reduceBEq, Nat.reduceAdd, Nat.reduceLeDiff, Nat.reduceEqDiff, Nat.reduceMul, Nat.reduceLT, Int.reduceLE, Int.reduceLT, Int.reduceToNat, Int.reduceEq, Int.toNat_natCast, Nat.zero_add, Nat.add_zero, Int.ofNat_lt, Int.ofNat_le, Int.natCast_nonneg, decide_true, decide_false, Bool.false_eq_true]
    refine Draw.swap (by kernel_rfl) ?_
    simp only [go_sem, Nat.reduceBEq, Nat.reduceAdd, Nat.reduceLeDiff, Nat.reduceEqDiff, Nat.reduceMul, Nat.reduceLT, Int.reduceLE, Int.reduceLT, Int.reduceToNat, Int.reduceEq, Int.toNat_natCast, Nat.zero_add, Nat.add_zero, Int.ofNat_lt, Int.ofNat_le, Int.natCast_nonneg, decide_true, decide_false, Bool.false_eq_true]
    exact .here (by simpa [St.add, stObj, h1] using hk)
theorem c_wide (b : Nat) (s : St) (h : Hp) (hb : h.f b = some (stObj s)) {K : CH} (hk : K.go (.int .i64 s.wide) h) : @Go1 _ (CallF Try.prog 46 #[.pointer (some ⟨b, 0, none⟩)] h) K := by
  refine go_of tab.mixed Try.func46 rfl Try.ntmps46 Try.results46 tab.ca46 (by kernel_rfl) (Nat.le_of_ble_eq_true rfl) fun hw => ?_
  simp only [go_sem, Nat.reduceBEq, Nat.reduceAdd, Nat.reduceLeDiff, Nat.reduceEqDiff, Nat.reduceMul, Nat.reduceLT, Int.reduceLE, Int.reduceLT, Int.reduceToNat, Int.reduceEq, Int.toNat_natCast, Nat.zero_add, Nat.add_zero, Int.ofNat_lt, Int.ofNat_le, Int.natCast_nonneg, decide_true, decide_false, Bool.false_eq_true]
  refine Draw.swap (by kernel_rfl) ?_
  simp only [go_sem, Nat.reduceBEq, Nat.reduceAdd, Nat.reduceLeDiff, Nat.reduceEqDiff, Nat.reduceMul, Nat.reduceLT, Int.reduceLE, Int.reduceLT, Int.reduceToNat, Int.reduceEq, Int.toNat_natCast, Nat.zero_add, Nat.add_zero, Int.ofNat_lt, Int.ofNat_le, Int.natCast_nonneg, decide_true, decide_false, Bool.false_eq_true, hb, stObj]
  exact Two.mk (fun h1 => .here (by simpa [St.wide, h1] using hk)) (fun h1 => .here (by simpa [St.wide, h1] using hk))
theorem c_len (b : Nat) (s : St) (h : Hp) (hb : h.f b = some (stObj s)) {K : CH} (hk : K.go (.int .i64 s.n) h) : @Go1 _ (CallF Try.prog 26 #[.pointer (some ⟨b, 0, none⟩)] h) K := by
  refine go_of tab.mixed Try.func26 rfl Try.ntmps26 Try.results26 tab.ca26 (by kernel_rfl) (Nat.le_of_ble_eq_true rfl) fun hw => ?_
  simp only [go_sem, Nat.reduceBEq, Nat.reduceAdd, Nat.reduceLeDiff, Nat.reduceEqDiff, Nat.reduceMul, Nat.reduceLT, Int.reduceLE, Int.reduceLT, Int.reduceToNat, Int.reduceEq, Int.toNat_natCast, Nat.zero_add, Nat.add_zero, Int.ofNat_lt, Int.ofNat_le, Int.natCast_nonneg, decide_true, decide_false, Bool.false_eq_true, hb, stObj]
  exact .here hk
theorem c_lenN (h : Hp) {K : CH} (hk : K.go (.int .i64 0) h) : @Go1 _ (CallF Try.prog 26 #[.pointer none] h) K := by
  refine go_of tab.mixed Try.func26 rfl Try.ntmps26 Try.results26 tab.ca26 (by kernel_rfl) (Nat.le_of_ble_eq_true rfl) fun hw => ?_
  simp only [go_sem, Nat.reduceBEq, Nat.reduceAdd, Nat.reduceLeDiff, Nat.reduceEqDiff, Nat.reduceMul, Nat.reduceLT, Int.reduceLE, Int.reduceLT, Int.reduceToNat, Int.reduceEq, Int.toNat_natCast, Nat.zero_add, Nat.add_zero, Int.ofNat_lt, Int.ofNat_le, Int.natCast_nonneg, decide_true, decide_false, Bool.false_eq_true]
  exact .here hk
theorem c_copy (b : Nat) (s : St) (h : Hp) (hb : h.f b = some (stObj s)) (hs : 0 < s.kind) {K : CH} (hk : K.go (.pointer (some ⟨h.n, 0, none⟩)) ((h.put h.n (stObj s)).to (h.n + 1))) : @Go1 _ (CallF Try.prog 30 #[.pointer (some ⟨b, 0, none⟩)] h) K := by
  refine go_of tab.mixed Try.func30 rfl Try.ntmps30 Try.results30 tab.ca30 (by kernel_rfl) (Nat.le_of_ble_eq_true rfl) fun hw => ?_
  simp only [go_sem, Nat.reduceBEq, Nat.reduceAdd, Nat.reduceLeDiff, Nat.reduceEqDiff, Nat.reduceMul, Nat.reduceLT, Int.reduceLE, Int.reduceLT, Int.reduceToNat, Int.reduceEq, Int.toNat_natCast, Nat.zero_add, Nat.add_zero, Int.ofNat_lt, Int.ofNat_le, Int.natCast_nonneg, decide_true, decide_false, Bool.false_eq_true]
  refine c_there b s h hb ?_
  simp only [go_sem, Nat.reduceBEq, Nat.reduceAdd, Nat.reduceLeDiff, Nat.reduceEqDiff, Nat.reduceMul, Nat.reduceLT, Int.reduceLE, Int.reduceLT, Int.reduceToNat, Int.reduceEq, Int.toNat_natCast, Nat.zero_add, Nat.add_zero, Int.ofNat_lt, Int.ofNat_le, Int.natCast_nonneg, decide_true, decide_false, Bool.false_eq_true, hs, decide_true, hb, stObj]
  exact .here hk
theorem c_copyN (h : Hp) {K : CH} (hk : K.go (.pointer none) h) : @Go1 _ (CallF Try.prog 30 #[.pointer none] h) K := by
  refine go_of tab.mixed Try.func30 rfl Try.ntmps30 Try.results30 tab.ca30 (by kernel_rfl) (Nat.le_of_ble_eq_true rfl) fun hw => ?_
  simp only [go_sem, Nat.reduceBEq, Nat.reduceAdd, Nat.reduceLeDiff, Nat.reduceEqDiff, Nat.reduceMul, Nat.reduceLT, Int.reduceLE, Int.reduceLT, Int.reduceToNat, Int.reduceEq, Int.toNat_natCast, Nat.zero_add, Nat.add_zero, Int.ofNat_lt, Int.ofNat_le, Int.natCast_nonneg, decide_true, decide_false, Bool.false_eq_true]
  refine c_thereN h ?_
  simp only [go_sem, Nat.reduceBEq, Nat.reduceAdd, Nat.reduceLeDiff, Nat.reduceEqDiff, Nat.reduceMul, Nat.reduceLT, Int.reduceLE, Int.reduceLT, Int.reduceToNat, Int.reduceEq, Int.toNat_natCast, Nat.zero_add, Nat.add_zero, Int.ofNat_lt, Int.ofNat_le, Int.natCast_nonneg, decide_true, decide_false, Bool.false_eq_true]
  exact .here hk
theorem c_val1 (c b : Nat) (s : St) (h : Hp) (hc : h.f c = some (.cells #[.pointer (some ⟨b, 0, none⟩)] 32 (0, 0))) (hb : h.f b = some (stObj s)) {K : CH} (hk : K.go (.int .i64 s.sum) h) : @Go1 _ (CallF Try.prog 40 #[.pointer (some ⟨c, 0, none⟩)] h) K := by
  refine go_of tab.mixed Try.func40 rfl Try.ntmps40 Try.results40 tab.ca40 (by kernel_rfl) (Nat.le_of_ble_eq_true rfl) fun hw => ?_
  simp only [go_sem, Nat.reduceBEq, Nat.reduceAdd, Nat.reduceLeDiff, Nat.reduceEqDiff, Nat.reduceMul, Nat.reduceLT, Int.reduceLE, Int.reduceLT, Int.reduceToNat, Int.reduceEq, Int.toNat_natCast, Nat.zero_add, Nat.add_zero, Int.ofNat_lt, Int.ofNat_le, Int.natCast_nonneg, decide_true, decide_false, Bool.false_eq_true, hc, hb, stObj]
  exact .here hk
theorem c_val2 (c b : Nat) (s : St) (h : Hp) (hc : h.f c = some (.cells #[.pointer (some ⟨b, 0, none⟩)] 32 (0, 0))) (hb : h.f b = some (stObj s)) {K : CH} (hk : K.go (.int .i64 s.least) h) : @Go1 _ (CallF Try.prog 41 #[.pointer (some ⟨c, 0, none⟩)] h) K := by
  refine go_of tab.mixed Try.func41 rfl Try.ntmps41 Try.results41 tab.ca41 (by kernel_rfl) (Nat.le_of_ble_eq_true rfl) fun hw => ?_
  simp only [go_sem, Nat.reduceBEq, Nat.reduceAdd, Nat.reduceLeDiff, Nat.reduceEqDiff, Nat.reduceMul, Nat.reduceLT, Int.reduceLE, Int.reduceLT, Int.reduceToNat, Int.reduceEq, Int.toNat_natCast, Nat.zero_add, Nat.add_zero, Int.ofNat_lt, Int.ofNat_le, Int.natCast_nonneg, decide_true, decide_false, Bool.false_eq_true, hc, hb, stObj]
  exact .here hk
theorem c_val3 (c b : Nat) (s : St) (h : Hp) (hc : h.f c = some (.cells #[.pointer (some ⟨b, 0, none⟩)] 32 (0, 0))) (hb : h.f b = some (stObj s)) {K : CH} (hk : K.go (.int .i64 s.great) h) : @Go1 _ (CallF Try.prog 42 #[.pointer (some ⟨c, 0, none⟩)] h) K := by
  refine go_of tab.mixed Try.func42 rfl Try.ntmps42 Try.results42 tab.ca42 (by kernel_rfl) (Nat.le_of_ble_eq_true rfl) fun hw => ?_
  simp only [go_sem, Nat.reduceBEq, Nat.reduceAdd, Nat.reduceLeDiff, Nat.reduceEqDiff, Nat.reduceMul, Nat.reduceLT, Int.reduceLE, Int.reduceLT, Int.reduceToNat, Int.reduceEq, Int.toNat_natCast, Nat.zero_add, Nat.add_zero, Int.ofNat_lt, Int.ofNat_le, Int.natCast_nonneg, decide_true, decide_false, Bool.false_eq_true, hc, hb, stObj]
  exact .here hk
theorem c_val4 (c b : Nat) (s : St) (h : Hp) (hc : h.f c = some (.cells #[.pointer (some ⟨b, 0, none⟩)] 32 (0, 0))) (hb : h.f b = some (stObj s)) {K : CH} (hk : K.go (.int .i64 s.n) h) : @Go1 _ (CallF Try.prog 43 #[.pointer (some ⟨c, 0, none⟩)] h) K := by
  refine go_of tab.mixed Try.func43 rfl Try.ntmps43 Try.results43 tab.ca43 (by kernel_rfl) (Nat.le_of_ble_eq_true rfl) fun hw => ?_
  simp only [go_sem, Nat.reduceBEq, Nat.reduceAdd, Nat.reduceLeDiff, Nat.reduceEqDiff, Nat.reduceMul, Nat.reduceLT, Int.reduceLE, Int.reduceLT, Int.reduceToNat, Int.reduceEq, Int.toNat_natCast, Nat.zero_add, Nat.add_zero, Int.ofNat_lt, Int.ofNat_le, Int.natCast_nonneg, decide_true, decide_false, Bool.false_eq_true, hc, hb, stObj]
  exact .here hk
theorem c_val5 (c b : Nat) (s : St) (h : Hp) (hc : h.f c = some (.cells #[.pointer (some ⟨b, 0, none⟩)] 32 (0, 0))) (hb : h.f b = some (stObj s)) {K : CH} (hk : K.go (.int .i64 s.first) h) : @Go1 _ (CallF Try.prog 44 #[.pointer (some ⟨c, 0, none⟩)] h) K := by
  refine go_of tab.mixed Try.func44 rfl Try.ntmps44 Try.results44 tab.ca44 (by kernel_rfl) (Nat.le_of_ble_eq_true rfl) fun hw => ?_
  simp only [go_sem, Nat.reduceBEq, Nat.reduceAdd, Nat.reduceLeDiff, Nat.reduceEqDiff, Nat.reduceMul, Nat.reduceLT, Int.reduceLE, Int.reduceLT, Int.reduceToNat, Int.reduceEq, Int.toNat_natCast, Nat.zero_add, Nat.add_zero, Int.ofNat_lt, Int.ofNat_le, Int.natCast_nonneg, decide_true, decide_false, Bool.false_eq_true, hc, hb, stObj]
  exact .here hk
theorem c_val6 (c b : Nat) (s : St) (h : Hp) (hc : h.f c = some (.cells #[.pointer (some ⟨b, 0, none⟩)] 32 (0, 0))) (hb : h.f b = some (stObj s)) {K : CH} (hk : K.go (.int .i64 s.last) h) : @Go1 _ (CallF Try.prog 45 #[.pointer (some ⟨c, 0, none⟩)] h) K := by
  refine go_of tab.mixed Try.func45 rfl Try.ntmps45 Try.results45 tab.ca45 (by kernel_rfl) (Nat.le_of_ble_eq_true rfl) fun hw => ?_
  simp only [go_sem, Nat.reduceBEq, Nat.reduceAdd, Nat.reduceLeDiff, Nat.reduceEqDiff, Nat.reduceMul, Nat.reduceLT, Int.reduceLE, Int.reduceLT, Int.reduceToNat, Int.reduceEq, Int.toNat_natCast, Nat.zero_add, Nat.add_zero, Int.ofNat_lt, Int.ofNat_le, Int.natCast_nonneg, decide_true, decide_false, Bool.false_eq_true, hc, hb, stObj]
  exact .here hk
theorem c_value0 (b : Nat) (s : St) (h : Hp) (hb : h.f b = some (stObj s)) (hs : s.n = 0) {K : CH} (hk : ∀ k, h.n ≤ k → K.go (.tuple #[.int .i64 0, .bool false]) (h.to k)) : @Go1 _ (CallF Try.prog 25 #[.pointer (some ⟨b, 0, none⟩)] h) K := by
  refine go_of tab.mixed Try.func25 rfl Try.ntmps25 Try.results25 tab.ca25 (by kernel_rfl) (Nat.le_of_ble_eq_true rfl) fun hw => ?_
  have hbn : b < h.n := hw _ _ hb
  simp only [go_sem, Nat.reduceBEq, Nat.reduceAdd, Nat.reduceLeDiff, Nat.reduceEqDiff, Nat.reduceMul, Nat.reduceLT, Int.reduceLE, Int.reduceLT, Int.reduceToNat, Int.reduceEq, Int.toNat_natCast, Nat.zero_add, Nat.add_zero, Int.ofNat_lt, Int.ofNat_le, Int.natCast_nonneg, decide_true, decide_false, Bool.false_eq_true]
  refine c_there b s _ (by simp only [go_sem, hbn]; exact hb) ?_
  simp only [go_sem, Nat.reduceBEq, Nat.reduceAdd, Nat.reduceLeDiff, Nat.reduceEqDiff, Nat.reduceMul, Nat.reduceLT, Int.reduceLE, Int.reduceLT, Int.reduceToNat, Int.reduceEq, Int.toNat_natCast, Nat.zero_add, Nat.add_zero, Int.ofNat_lt, Int.ofNat_le, Int.natCast_nonneg, decide_true, decide_false, Bool.false_eq_true, hbn, hb, stObj]
  refine Two.mk (fun _ => Two.mk (fun _ => ?_) (fun k => (k hs).elim)) (fun _ => ?_)
  all_goals exact .sub ((Sub.refl h).put_new (hw.none (Nat.le_refl _)) _ |>.to _) (hk _ (by omega))
theorem c_value (b : Nat) (s : St) (h : Hp) (hb : h.f b = some (stObj s)) (hs : s.n ≠ 0) (h1 : sRight s.kind = true) {K : CH} (hk : ∀ k, h.n ≤ k → K.go (.tuple #[.int .i64 s.tell, .bool true]) (h.to k)) : @Go1 _ (CallF Try.prog 25 #[.pointer (some ⟨b, 0, none⟩)] h) K := by
  refine go_of tab.mixed Try.func25 rfl Try.ntmps25 Try.results25 tab.ca25 (by kernel_rfl) (Nat.le_of_ble_eq_true rfl) fun hw => ?_
  have hbn : b < h.n := hw _ _ hb
  simp only [go_sem, Nat.reduceBEq, Nat.reduceAdd, Nat.reduceLeDiff, Nat.reduceEqDiff, Nat.reduceMul, Nat.reduceLT, Int.reduceLE, Int.reduceLT, Int.reduceToNat, Int.reduceEq, Int.toNat_natCast, Nat.zero_add, Nat.add_zero, Int.ofNat_lt, Int.ofNat_le, Int.natCast_nonneg, decide_true, decide_false, Bool.false_eq_true]
  refine c_there b s _ (by simp only [go_sem, hbn]; exact hb) ?_
  simp only [go_sem, Nat.reduceBEq, Nat.reduceAdd, Nat.reduceLeDiff, Nat.reduceEqDiff, Nat.reduceMul, Nat.reduceLT, Int.reduceLE, Int.reduceLT, Int.reduceToNat, Int.reduceEq, Int.toNat_natCast, Nat.zero_add, Nat.add_zero, Int.ofNat_lt, Int.ofNat_le, Int.natCast_nonneg, decide_true, decide_false, Bool.false_eq_true, hbn, hb, stObj]
  simp only [sRight, decide_eq_true_eq] at h1
  refine Two.mk (fun _ => Two.mk (fun k => (hs k).elim) (fun _ => ?_)) (fun k => absurd (show 0 < s.kind by omega) k)
  have sub : ∀ o o', Sub (h.to (h.n + 2)) (((h.put h.n o).put (h.n + 1) o').to (h.n + 2)) := fun o o' => (((Sub.refl h).put_new (hw.none (Nat.le_refl _)) _).put_new (hw.none (Nat.le_succ _)) _).to _
  have kinds : s.kind = 1 ∨ s.kind = 2 ∨ s.kind = 3 ∨ s.kind = 4 ∨ s.kind = 5 ∨ s.kind = 6 ∨ s.kind = 7 := by omega
  rcases kinds with q | q | q | q | q | q | q
  · simp only [go_sem, Nat.reduceBEq, Nat.reduceAdd, Nat.reduceLeDiff, Nat.reduceEqDiff, Nat.reduceMul, Nat.reduceLT, Int.reduceLE, Int.reduceLT, Int.reduceToNat, Int.reduceEq, Int.toNat_natCast, Nat.zero_add, Nat.add_zero, Int.ofNat_lt, Int.ofNat_le, Int.natCast_nonneg, decide_true, decide_false, Bool.false_eq_true, q]
    refine c_val1 h.n b s _ ?_ ?_ ?_
    · simp only [go_sem, Nat.reduceBEq, Nat.reduceAdd, Nat.reduceLeDiff, Nat.reduceEqDiff, Nat.reduceMul, Nat.reduceLT, Int.reduceLE, Int.reduceLT, Int.reduceToNat, Int.reduceEq, Int.toNat_natCast, Nat.zero_add, Nat.add_zero, Int.ofNat_lt, Int.ofNat_le, Int.natCast_nonneg, decide_true, decide_false, Bool.false_eq_true]
    · simp only [go_sem, Nat.reduceBEq, Nat.reduceAdd, Nat.reduceLeDiff, Nat.reduceEqDiff, Nat.reduceMul, Nat.reduceLT, Int.reduceLE, Int.reduceLT, Int.reduceToNat, Int.reduceEq, Int.toNat_natCast, Nat.zero_add, Nat.add_zero, Int.ofNat_lt, Int.ofNat_le, Int.natCast_nonneg, decide_true, decide_false, Bool.false_eq_true, hbn, hb]
    · simp only [go_sem, Nat.reduceBEq, Nat.reduceAdd, Nat.reduceLeDiff, Nat.reduceEqDiff, Nat.reduceMul, Nat.reduceLT, Int.reduceLE, Int.reduceLT, Int.reduceToNat, Int.reduceEq, Int.toNat_natCast, Nat.zero_add, Nat.add_zero, Int.ofNat_lt, Int.ofNat_le, Int.natCast_nonneg, decide_true, decide_false, Bool.false_eq_true]
      exact .sub (sub _ _) (by simpa [St.tell, q] using hk _ (by omega))
  · simp only [go_sem, Nat.reduceBEq, Nat.reduceAdd, Nat.reduceLeDiff, Nat.reduceEqDiff, Nat.reduceMul, Nat.reduceLT, Int.reduceLE, Int.reduceLT, Int.reduceToNat, Int.reduceEq, Int.toNat_natCast, Nat.zero_add, Nat.add_zero, Int.ofNat_lt, Int.ofNat_le, Int.natCast_nonneg, decide_true, decide_false, Bool.false_eq_true, q]
    refine c_val2 h.n b s _ ?_ ?_ ?_
    · simp only [go_sem, Nat.reduceBEq, Nat.reduceAdd, Nat.reduceLeDiff, Nat.reduceEqDiff, Nat.reduceMul, Nat.reduceLT, Int.reduceLE, Int.reduceLT, Int.reduceToNat, Int.reduceEq, Int.toNat_natCast, Nat.zero_add, Nat.add_zero, Int.ofNat_lt, Int.ofNat_le, Int.natCast_nonneg, decide_true, decide_false, Bool.false_eq_true]
    · simp only [go_sem, Nat.reduceBEq, Nat.reduceAdd, Nat.reduceLeDiff, Nat.reduceEqDiff, Nat.reduceMul, Nat.reduceLT, Int.reduceLE, Int.reduceLT, Int.reduceToNat, Int.reduceEq, Int.toNat_natCast, Nat.zero_add, Nat.add_zero, Int.ofNat_lt, Int.ofNat_le, Int.natCast_nonneg, decide_true, decide_false, Bool.false_eq_true, hbn, hb]
    · simp only [go_sem, Nat.reduceBEq, Nat.reduceAdd, Nat.reduceLeDiff, Nat.reduceEqDiff, Nat.reduceMul, Nat.reduceLT, Int.reduceLE, Int.reduceLT, Int.reduceToNat, Int.reduceEq, Int.toNat_natCast, Nat.zero_add, Nat.add_zero, Int.ofNat_lt, Int.ofNat_le, Int.natCast_nonneg, decide_true, decide_false, Bool.false_eq_true]
      exact .sub (sub _ _) (by simpa [St.tell, q] using hk _ (by omega))
  · simp only [go_sem, Nat.reduceBEq, Nat.reduceAdd, Nat.reduceLeDiff, Nat.reduceEqDiff, Nat.reduceMul, Nat.reduceLT, Int.reduceLE, Int.reduceLT, Int.reduceToNat, Int.reduceEq, Int.toNat_natCast, Nat.zero_add, Nat.add_zero, Int.ofNat_lt, Int.ofNat_le, Int.natCast_nonneg, decide_true, decide_false, Bool.false_eq_true, q]
    refine c_val3 h.n b s _ ?_ ?_ ?_
    · simp only [go_sem, Nat.reduceBEq, Nat.reduceAdd, Nat.reduceLeDiff, Nat.reduceEqDiff, Nat.reduceMul, Nat.reduceLT, Int.reduceLE, Int.reduceLT, Int.reduceToNat, Int.reduceEq, Int.toNat_natCast, Nat.zero_add, Nat.add_zero, Int.ofNat_lt, Int.ofNat_le, Int.natCast_nonneg, decide_true, decide_false, Bool.false_eq_true]
    · simp only [go_sem, Nat.reduceBEq, Nat.reduceAdd, Nat.reduceLeDiff, Nat.reduceEqDiff, Nat.reduceMul, Nat.reduceLT, Int.reduceLE, Int.reduceLT, Int.reduceToNat, Int.reduceEq, Int.toNat_natCast, Nat.zero_add, Nat.add_zero, Int.ofNat_lt, Int.ofNat_le, Int.natCast_nonneg, decide_true, decide_false, Bool.false_eq_true, hbn, hb]
    · simp only [go_sem, Nat.reduceBEq, Nat.reduceAdd, Nat.reduceLeDiff, Nat.reduceEqDiff, Nat.reduceMul, Nat.reduceLT, Int.reduceLE, Int.reduceLT, Int.reduceToNat, Int.reduceEq, Int.toNat_natCast, Nat.zero_add, Nat.add_zero, Int.ofNat_lt, Int.ofNat_le, Int.natCast_nonneg, decide_true, decide_false, Bool.false_eq_true]
      exact .sub (sub _ _) (by simpa [St.tell, q] using hk _ (by omega))
  · simp only [go_sem, Nat.reduceBEq, Nat.reduceAdd, Nat.reduceLeDiff, Nat.reduceEqDiff, Nat.reduceMul, Nat.reduceLT, Int.reduceLE, Int.reduceLT, Int.reduceToNat, Int.reduceEq, Int.toNat_natCast, Nat.zero_add, Nat.add_zero, Int.ofNat_lt, Int.ofNat_le, Int.natCast_nonneg, decide_true, decide_false, Bool.false_eq_true, q]
    refine c_val4 h.n b s _ ?_ ?_ ?_
    · simp only [go_sem, Nat.reduceBEq, Nat.reduceAdd, Nat.reduceLeDiff, Nat.reduceEqDiff, Nat.reduceMul, Nat.reduceLT, Int.reduceLE, Int.reduceLT, Int.reduceToNat, Int.reduceEq, Int.toNat_natCast, Nat.zero_add, Nat.add_zero, Int.ofNat_lt, Int.ofNat_le, Int.natCast_nonneg, decide_true, decide_false, Bool.false_eq_true]
    · simp only [go_sem, Nat.reduceBEq, Nat.reduceAdd, Nat.reduceLeDiff, Nat.reduceEqDiff, Nat.reduceMul, Nat.reduceLT, Int.reduceLE, Int.reduceLT, Int.reduceToNat, Int.reduceEq, Int.toNat_natCast, Nat.zero_add, Nat.add_zero, Int.ofNat_lt, Int.ofNat_le, Int.natCast_nonneg, decide_true, decide_false, Bool.false_eq_true, hbn, hb]
    · simp only [go_sem, Nat.reduceBEq, Nat.reduceAdd, Nat.reduceLeDiff, Nat.reduceEqDiff, Nat.reduceMul, Nat.reduceLT, Int.reduceLE, Int.reduceLT, Int.reduceToNat, Int.reduceEq, Int.toNat_natCast, Nat.zero_add, Nat.add_zero, Int.ofNat_lt, Int.ofNat_le, Int.natCast_nonneg, decide_true, decide_false, Bool.false_eq_true]
      exact .sub (sub _ _) (by simpa [St.tell, q] using hk _ (by omega))
  · simp only [go_sem, Nat.reduceBEq, Nat.reduceAdd, Nat.reduceLeDiff, Nat.reduceEqDiff, Nat.reduceMul, Nat.reduceLT, Int.reduceLE, Int.reduceLT, Int.reduceToNat, Int.reduceEq, Int.toNat_natCast, Nat.zero_add, Nat.add_zero, Int.ofNat_lt, Int.ofNat_le, Int.natCast_nonneg, decide_true, decide_false, Bool.false_eq_true, q]
    refine c_val5 h.n b s _ ?_ ?_ ?_
    · simp only [go_sem, Nat.reduceBEq, Nat.reduceAdd, Nat.reduceLeDiff, Nat.reduceEqDiff, Nat.reduceMul, Nat.reduceLT, Int.reduceLE, Int.reduceLT, Int.reduceToNat, Int.reduceEq, Int.toNat_natCast, Nat.zero_add, Nat.add_zero, Int.ofNat_lt, Int.ofNat_le, Int.natCast_nonneg, decide_true, decide_false, Bool.false_eq_true]
    · simp only [go_sem, Nat.reduceBEq, Nat.reduceAdd, Nat.reduceLeDiff, Nat.reduceEqDiff, Nat.reduceMul, Nat.reduceLT, Int.reduceLE, Int.reduceLT, Int.reduceToNat, Int.reduceEq, Int.toNat_natCast, Nat.zero_add, Nat.add_zero, Int.ofNat_lt, Int.ofNat_le, Int.natCast_nonneg, decide_true, decide_false, Bool.false_eq_true, hbn, hb]
    · simp only [go_sem, Nat.reduceBEq, Nat.reduceAdd, Nat.reduceLeDiff, Nat.reduceEqDiff, Nat.reduceMul, Nat.reduceLT, Int.reduceLE, Int.reduceLT, Int.reduceToNat, Int.reduceEq, Int.toNat_natCast, Nat.zero_add, Nat.add_zero, Int.ofNat_lt, Int.ofNat_le, Int.natCast_nonneg, decide_true, decide_false, Bool.false_eq_true]
      exact .sub (sub _ _) (by simpa [St.tell, q] using hk _ (by omega))
  · simp only [go_sem, Nat.reduceBEq, Nat.reduceAdd, Nat.reduceLeDiff, Nat.reduceEqDiff, Nat.reduceMul, Nat.reduceLT, Int.reduceLE, Int.reduceLT, Int.reduceToNat, Int.reduceEq, Int.toNat_natCast, Nat.zero_add, Nat.add_zero, Int.ofNat_lt, Int.ofNat_le, Int.natCast_nonneg, decide_true, decide_false, Bool.false_eq_true, q]
    refine c_val6 h.n b s _ ?_ ?_ ?_
    · simp only [go_sem, Nat.reduceBEq, Nat.reduceAdd, Nat.reduceLeDiff, Nat.reduceEqDiff, Nat.reduceMul, Nat.reduceLT, Int.reduceLE, Int.reduceLT, Int.reduceToNat, Int.reduceEq, Int.toNat_natCast, Nat.zero_add, Nat.add_zero, Int.ofNat_lt, Int.ofNat_le, Int.natCast_nonneg, decide_true, decide_false, Bool.false_eq_true]
    · simp only [go_sem, Nat.reduceBEq, Nat.reduceAdd, Nat.reduceLeDiff, Nat.reduceEqDiff, Nat.reduceMul, Nat.reduceLT, Int.reduceLE, Int.reduceLT, Int.reduceToNat, Int.reduceEq, Int.toNat_natCast, Nat.zero_add, Nat.add_zero, Int.ofNat_lt, Int.ofNat_le, Int.natCast_nonneg, decide_true, decide_false, Bool.false_eq_true, hbn, hb]
    · simp only [go_sem, Nat.reduceBEq, Nat.reduceAdd, Nat.reduceLeDiff, Nat.reduceEqDiff, Nat.reduceMul, Nat.reduceLT, Int.reduceLE, Int.reduceLT, Int.reduceToNat, Int.reduceEq, Int.toNat_natCast, Nat.zero_add, Nat.add_zero, Int.ofNat_lt, Int.ofNat_le, Int.natCast_nonneg, decide_true, decide_false, Bool.false_eq_true]
      exact .sub (sub _ _) (by simpa [St.tell, q] using hk _ (by omega))
  · simp only [go_sem, Nat.reduceBEq, Nat.reduceAdd, Nat.reduceLeDiff, Nat.reduceEqDiff, Nat.reduceMul, Nat.reduceLT, Int.reduceLE, Int.reduceLT, Int.reduceToNat, Int.reduceEq, Int.toNat_natCast, Nat.zero_add, Nat.add_zero, Int.ofNat_lt, Int.ofNat_le, Int.natCast_nonneg, decide_true, decide_false, Bool.false_eq_true, q]
    refine c_wide b s _ ?_ ?_
    · simp only [go_sem, Nat.reduceBEq, Nat.reduceAdd, Nat.reduceLeDiff, Nat.reduceEqDiff, Nat.reduceMul, Nat.reduceLT, Int.reduceLE, Int.reduceLT, Int.reduceToNat, Int.reduceEq, Int.toNat_natCast, Nat.zero_add, Nat.add_zero, Int.ofNat_lt, Int.ofNat_le, Int.natCast_nonneg, decide_true, decide_false, Bool.false_eq_true, hbn, hb]
    · simp only [go_sem, Nat.reduceBEq, Nat.reduceAdd, Nat.reduceLeDiff, Nat.reduceEqDiff, Nat.reduceMul, Nat.reduceLT, Int.reduceLE, Int.reduceLT, Int.reduceToNat, Int.reduceEq, Int.toNat_natCast, Nat.zero_add, Nat.add_zero, Int.ofNat_lt, Int.ofNat_le, Int.natCast_nonneg, decide_true, decide_false, Bool.false_eq_true]
      exact .sub (sub _ _) (by simpa [St.tell, q] using hk _ (by omega))
end Go.Proofs.Ytaejmcgcfopmkaa
