/- Rows of samples; what they make at once. -/
import Derived.Test.YtaejmcgcfopmkaaAgg2
namespace Go.Proofs.Ytaejmcgcfopmkaa
open Go Go.RowKit
def sampleCells (c : Array Value) (o : Nat) (l : List (Int × Int)) : Prop := ∀ i (hi : i < l.length), c[o + i * 2]? = some (.int .i64 l[i].1) ∧ c[o + (i * 2 + 1)]? = some (.int .i64 l[i].2)
/-- A value that reads as these samples. -/
def Row (h : Hp) (v : Value) (l : List (Int × Int)) : Prop := ∃ p cap, v = .slice p l.length cap ∧ (l = [] ∨ ∃ b o c t fz, p = some ⟨b, o, none⟩ ∧ h.f b = some (.cells c t fz) ∧ sampleCells c o l)
theorem Row.at {h : Hp} {p : Option Addr} {n cap : Nat} {l : List (Int × Int)} (hr : Row h (.slice p n cap) l) {i : Nat} (hi : i < l.length) : ∃ b o c t fz, p = some ⟨b, o, none⟩ ∧ h.f b = some (.cells c t fz) ∧ c[o + i * 2]? = some (.int .i64 l[i].1) ∧ c[o + (i * 2 + 1)]? = some (.int .i64 l[i].2) := by
  obtain ⟨p', cap', e, k⟩ := hr
  cases e
  rcases k with rfl | ⟨b, o, c, t, fz, h1, h2, h3⟩
  · simp at hi
  · exact ⟨b, o, c, t, fz, h1, h2, (h3 i hi).1, (h3 i hi).2⟩
theorem Row.len {h : Hp} {p : Option Addr} {n cap : Nat} {l : List (Int × Int)} (hr : Row h (.slice p n cap) l) : n = l.length := by
  obtain ⟨p', cap', e, _⟩ := hr
  cases e; rfl
theorem c_addN (v : Int) (h : Hp) {K : CH} (hk : K.go (.int .i64 11) h) : @Go1 _ (CallF Try.prog 24 #[.pointer none, .int .i64 v] h) K := by
  refine go_of tab.mixed Try.func24 rfl Try.ntmps24 Try.results24 tab.ca24 (by kernel_rfl) (Nat.le_of_ble_eq_true rfl) fun hw => ?_
  simp only [go_sem, Nat.reduceBEq, Nat.reduceAdd, Nat.reduceLeDiff, Nat.reduceEqDiff, Nat.reduceMul, Nat.reduceLT, Int.reduceLE, Int.reduceLT, Int.reduceToNat, Int.reduceEq, Int.toNat_natCast, Nat.zero_add, Nat.add_zero, Int.ofNat_lt, Int.ofNat_le, Int.natCast_nonneg, decide_true, decide_false, Bool.false_eq_true]
  refine c_thereN h ?_
  simp only [go_sem, Nat.reduceBEq, Nat.reduceAdd, Nat.reduceLeDiff, Nat.reduceEqDiff, Nat.reduceMul, Nat.reduceLT, Int.reduceLE, Int.reduceLT, Int.reduceToNat, Int.reduceEq, Int.toNat_natCast, Nat.zero_add, Nat.add_zero, Int.ofNat_lt, Int.ofNat_le, Int.natCast_nonneg, decide_true, decide_false, Bool.false_eq_true]
  exact .here hk
theorem c_valueN (h : Hp) {K : CH} (hk : ∀ k, h.n ≤ k → K.go (.tuple #[.int .i64 0, .bool false]) (h.to k)) : @Go1 _ (CallF Try.prog 25 #[.pointer none] h) K := by
  refine go_of tab.mixed Try.func25 rfl Try.ntmps25 Try.results25 tab.ca25 (by kernel_rfl) (Nat.le_of_ble_eq_true rfl) fun hw => ?_
  simp only [go_sem, Nat.reduceBEq, Nat.reduceAdd, Nat.reduceLeDiff, Nat.reduceEqDiff, Nat.reduceMul, Nat.reduceLT, Int.reduceLE, Int.reduceLT, Int.reduceToNat, Int.reduceEq, Int.toNat_natCast, Nat.zero_add, Nat.add_zero, Int.ofNat_lt, Int.ofNat_le, Int.natCast_nonneg, decide_true, decide_false, Bool.false_eq_true]
  refine c_thereN _ ?_
  simp only [go_sem, Nat.reduceBEq, Nat.reduceAdd, Nat.reduceLeDiff, Nat.reduceEqDiff, Nat.reduceMul, Nat.reduceLT, Int.reduceLE, Int.reduceLT, Int.reduceToNat, Int.reduceEq, Int.toNat_natCast, Nat.zero_add, Nat.add_zero, Int.ofNat_lt, Int.ofNat_le, Int.natCast_nonneg, decide_true, decide_false, Bool.false_eq_true]
  exact .sub ((Sub.refl h).put_new (hw.none (Nat.le_refl _)) _ |>.to _) (hk _ (by omega))
def St.adds (s : St) (l : List (Int × Int)) : St := l.foldl (fun s x => s.add x.2) s
def sFold (kind : Int) (l : List (Int × Int)) : Int × Bool := if sRight kind = true then ((St.new kind).adds l).value else (0, false)
theorem St.adds_take (s : St) {l : List (Int × Int)} {i : Nat} (hi : i < l.length) : (s.adds (l.take i)).add l[i].2 = s.adds (l.take (i + 1)) := by
  unfold St.adds
  rw [List.take_succ_eq_append_getElem hi, List.foldl_append]; rfl
theorem St.adds_kind : ∀ (l : List (Int × Int)) (s : St), (s.adds l).kind = s.kind
  | [], _ => rfl
  | x :: l, s => (St.adds_kind l (s.add x.2)).trans rfl
theorem c_fold (kind : Int) (p : Option Addr) (n cap : Nat) (l : List (Int × Int)) (h : Hp) (hr : Row h (.slice p n cap) l) (hl : (l.length : Int) ≤ 9223372036854775807) {K : CH}
    (hk : ∀ k, h.n ≤ k → K.go (.tuple #[.int .i64 (sFold kind l).1, .bool (sFold kind l).2]) (h.to k)) : @Go1 _ (CallF Try.prog 22 #[.int .i64 kind, .slice p n cap] h) K := by
  have hn := hr.len
  subst hn
  refine go_of tab.mixed Try.func22 rfl Try.ntmps22 Try.results22 tab.ca22 (by kernel_rfl) (Nat.le_of_ble_eq_true rfl) fun hw => ?_
  simp only [go_sem, Nat.reduceBEq, Nat.reduceAdd, Nat.reduceLeDiff, Nat.reduceEqDiff, Nat.reduceMul, Nat.reduceLT, Int.reduceLE, Int.reduceLT, Int.reduceToNat, Int.reduceEq, Int.toNat_natCast, Nat.zero_add, Nat.add_zero, Int.ofNat_lt, Int.ofNat_le, Int.natCast_nonneg, decide_true, decide_false, Bool.false_eq_true]
  refine c_new _ _ ?_
  split
  · rename_i hk1
    simp only [go_sem, Nat.reduceBEq, Nat.reduceAdd, Nat.reduceLeDiff, Nat.reduceEqDiff, Nat.reduceMul, Nat.reduceLT, Int.reduceLE, Int.reduceLT, Int.reduceToNat, Int.reduceEq, Int.toNat_natCast, Nat.zero_add, Nat.add_zero, Int.ofNat_lt, Int.ofNat_le, Int.natCast_nonneg, decide_true, decide_false, Bool.false_eq_true]
    refine LoopI.rule [9, 17, 18, 19, 20, 21, 22, 23, 24, 25] (by kernel_rfl) (fun ρ g => ∃ i k, i ≤ l.length ∧ h.n < k ∧ ρ 17 = .int .i64 i ∧ g = (h.put h.n (stObj ((St.new kind).adds (l.take i)))).to k) (fun ρ g => match ρ 17 with | .int _ i => l.length - i.toNat | _ => 0) ?_ ?_
    · exact ⟨0, h.n + 1, by omega, by omega, rfl, by simp [St.adds]⟩
    · rintro ρ g ⟨i, k, hi, hk2, h17, rfl⟩ hw2 fr
      have h16 : ρ 16 = .int .i64 l.length := fr 16 rfl
      have h15 : ρ 15 = .slice p l.length cap := fr 15 rfl
      have h6 : ρ 6 = .pointer (some ⟨h.n, 0, none⟩) := fr 6 rfl
      simp only [go_sem, Nat.reduceBEq, Nat.reduceAdd, Nat.reduceLeDiff, Nat.reduceEqDiff, Nat.reduceMul, Nat.reduceLT, Int.reduceLE, Int.reduceLT, Int.reduceToNat, Int.reduceEq, Int.toNat_natCast, Nat.zero_add, Nat.add_zero, Int.ofNat_lt, Int.ofNat_le, Int.natCast_nonneg, decide_true, decide_false, Bool.false_eq_true, h17, h16]
      refine Two.mk (fun hlt => ?_) (fun hge => ?_)
      · have hlt : i < l.length := by omega
        obtain ⟨b, o, c, t, fz, rfl, hc, hc1, hc2⟩ := hr.at hlt
        have hbn := hw _ _ hc
        simp only [go_sem, Nat.reduceBEq, Nat.reduceAdd, Nat.reduceLeDiff, Nat.reduceEqDiff, Nat.reduceMul, Nat.reduceLT, Int.reduceLE, Int.reduceLT, Int.reduceToNat, Int.reduceEq, Int.toNat_natCast, Nat.zero_add, Nat.add_zero, Int.ofNat_lt, Int.ofNat_le, Int.natCast_nonneg, decide_true, decide_false, Bool.false_eq_true, h17, h16, h15, h6, hbn, hc, hc1, hc2, hlt]
        refine c_add h.n ((St.new kind).adds (l.take i)) _ _ ?_ (by rw [St.adds_kind]; simp only [sRight, decide_eq_true_eq] at hk1; simp only [St.new]; omega) ?_
        · simp only [go_sem, Nat.reduceBEq, Nat.reduceAdd, Nat.reduceLeDiff, Nat.reduceEqDiff, Nat.reduceMul, Nat.reduceLT, Int.reduceLE, Int.reduceLT, Int.reduceToNat, Int.reduceEq, Int.toNat_natCast, Nat.zero_add, Nat.add_zero, Int.ofNat_lt, Int.ofNat_le, Int.natCast_nonneg, decide_true, decide_false, Bool.false_eq_true, hk2]
        · simp only [go_sem, Nat.reduceBEq, Nat.reduceAdd, Nat.reduceLeDiff, Nat.reduceEqDiff, Nat.reduceMul, Nat.reduceLT, Int.reduceLE, Int.reduceLT, Int.reduceToNat, Int.reduceEq, Int.toNat_natCast, Nat.zero_add, Nat.add_zero, Int.ofNat_lt, Int.ofNat_le, Int.natCast_nonneg, decide_true, decide_false, Bool.false_eq_true, h17]
          refine ⟨(h.put h.n (stObj ((St.new kind).adds (l.take (i + 1))))).to (k + 1), ?_, ⟨i + 1, k + 1, by omega, by omega, ?_, rfl⟩, ?_⟩
          · rw [← St.adds_take _ hlt]
            exact ((((Sub.refl h).put_new (hw.none (Nat.le_refl _)) _).put_new (hw.none (Nat.le_of_lt hk2)) _).put _ _).to _
          · rw [wrap_i64_of (by omega) (by omega)]; rfl
          · rw [wrap_i64_of (by omega) (by omega)]; omega
      · have : i = l.length := by omega
        subst this
        simp only [go_sem, Nat.reduceBEq, Nat.reduceAdd, Nat.reduceLeDiff, Nat.reduceEqDiff, Nat.reduceMul, Nat.reduceLT, Int.reduceLE, Int.reduceLT, Int.reduceToNat, Int.reduceEq, Int.toNat_natCast, Nat.zero_add, Nat.add_zero, Int.ofNat_lt, Int.ofNat_le, Int.natCast_nonneg, decide_true, decide_false, Bool.false_eq_true, h6]
        simp only [sFold, hk1, if_true] at hk
        have e : ((St.new kind).adds (l.take l.length)) = (St.new kind).adds l := by simp
        by_cases q : ((St.new kind).adds l).n = 0
        · refine c_value0 h.n ((St.new kind).adds l) _ (by simp only [go_sem, Nat.reduceBEq, Nat.reduceAdd, Nat.reduceLeDiff, Nat.reduceEqDiff, Nat.reduceMul, Nat.reduceLT, Int.reduceLE, Int.reduceLT, Int.reduceToNat, Int.reduceEq, Int.toNat_natCast, Nat.zero_add, Nat.add_zero, Int.ofNat_lt, Int.ofNat_le, Int.natCast_nonneg, decide_true, decide_false, Bool.false_eq_true, e]) q fun k2 hk3 => ?_
          simp only [go_sem, Nat.reduceBEq, Nat.reduceAdd, Nat.reduceLeDiff, Nat.reduceEqDiff, Nat.reduceMul, Nat.reduceLT, Int.reduceLE, Int.reduceLT, Int.reduceToNat, Int.reduceEq, Int.toNat_natCast, Nat.zero_add, Nat.add_zero, Int.ofNat_lt, Int.ofNat_le, Int.natCast_nonneg, decide_true, decide_false, Bool.false_eq_true]
          simp only [St.value, q, if_true] at hk
          exact .sub (((Sub.refl h).put_new (hw.none (Nat.le_refl _)) _).to _) (hk k2 (by have hk3 : k ≤ k2 := hk3; omega))
        · refine c_value h.n ((St.new kind).adds l) _ (by simp only [go_sem, Nat.reduceBEq, Nat.reduceAdd, Nat.reduceLeDiff, Nat.reduceEqDiff, Nat.reduceMul, Nat.reduceLT, Int.reduceLE, Int.reduceLT, Int.reduceToNat, Int.reduceEq, Int.toNat_natCast, Nat.zero_add, Nat.add_zero, Int.ofNat_lt, Int.ofNat_le, Int.natCast_nonneg, decide_true, decide_false, Bool.false_eq_true, e]) q (by rw [St.adds_kind]; exact hk1) fun k2 hk3 => ?_
          simp only [go_sem, Nat.reduceBEq, Nat.reduceAdd, Nat.reduceLeDiff, Nat.reduceEqDiff, Nat.reduceMul, Nat.reduceLT, Int.reduceLE, Int.reduceLT, Int.reduceToNat, Int.reduceEq, Int.toNat_natCast, Nat.zero_add, Nat.add_zero, Int.ofNat_lt, Int.ofNat_le, Int.natCast_nonneg, decide_true, decide_false, Bool.false_eq_true]
          simp only [St.value, q, if_false] at hk
          exact .sub (((Sub.refl h).put_new (hw.none (Nat.le_refl _)) _).to _) (hk k2 (by have hk3 : k ≤ k2 := hk3; omega))
  · rename_i hk1
    simp only [go_sem, Nat.reduceBEq, Nat.reduceAdd, Nat.reduceLeDiff, Nat.reduceEqDiff, Nat.reduceMul, Nat.reduceLT, Int.reduceLE, Int.reduceLT, Int.reduceToNat, Int.reduceEq, Int.toNat_natCast, Nat.zero_add, Nat.add_zero, Int.ofNat_lt, Int.ofNat_le, Int.natCast_nonneg, decide_true, decide_false, Bool.false_eq_true]
    refine LoopI.rule [9, 17, 18, 19, 20, 21, 22, 23, 24, 25] (by kernel_rfl) (fun ρ g => ∃ i k, i ≤ l.length ∧ h.n ≤ k ∧ ρ 17 = .int .i64 i ∧ g = h.to k) (fun ρ g => match ρ 17 with | .int _ i => l.length - i.toNat | _ => 0) ?_ ?_
    · exact ⟨0, h.n, by omega, by omega, rfl, rfl⟩
    · rintro ρ g ⟨i, k, hi, hk2, h17, rfl⟩ hw2 fr
      have h16 : ρ 16 = .int .i64 l.length := fr 16 rfl
      have h15 : ρ 15 = .slice p l.length cap := fr 15 rfl
      have h6 : ρ 6 = .pointer none := fr 6 rfl
      simp only [go_sem, Nat.reduceBEq, Nat.reduceAdd, Nat.reduceLeDiff, Nat.reduceEqDiff, Nat.reduceMul, Nat.reduceLT, Int.reduceLE, Int.reduceLT, Int.reduceToNat, Int.reduceEq, Int.toNat_natCast, Nat.zero_add, Nat.add_zero, Int.ofNat_lt, Int.ofNat_le, Int.natCast_nonneg, decide_true, decide_false, Bool.false_eq_true, h17, h16]
      refine Two.mk (fun hlt => ?_) (fun hge => ?_)
      · obtain ⟨b, o, c, t, fz, rfl, hc, hc1, hc2⟩ := hr.at hlt
        have hbn := hw _ _ hc
        simp only [go_sem, Nat.reduceBEq, Nat.reduceAdd, Nat.reduceLeDiff, Nat.reduceEqDiff, Nat.reduceMul, Nat.reduceLT, Int.reduceLE, Int.reduceLT, Int.reduceToNat, Int.reduceEq, Int.toNat_natCast, Nat.zero_add, Nat.add_zero, Int.ofNat_lt, Int.ofNat_le, Int.natCast_nonneg, decide_true, decide_false, Bool.false_eq_true, h17, h16, h15, h6, hbn, hc, hc1, hc2, hlt]
        refine c_addN _ _ ?_
        simp only [go_sem, Nat.reduceBEq, Nat.reduceAdd, Nat.reduceLeDiff, Nat.reduceEqDiff, Nat.reduceMul, Nat.reduceLT, Int.reduceLE, Int.reduceLT, Int.reduceToNat, Int.reduceEq, Int.toNat_natCast, Nat.zero_add, Nat.add_zero, Int.ofNat_lt, Int.ofNat_le, Int.natCast_nonneg, decide_true, decide_false, Bool.false_eq_true, h17]
        refine ⟨h.to (k + 1), ?_, ⟨i + 1, k + 1, by omega, by omega, ?_, rfl⟩, ?_⟩
        · exact ((Sub.refl h).put_new (hw.none hk2) _).to _
        · rw [wrap_i64_of (by omega) (by omega)]; rfl
        · rw [wrap_i64_of (by omega) (by omega)]; omega
      · simp only [go_sem, Nat.reduceBEq, Nat.reduceAdd, Nat.reduceLeDiff, Nat.reduceEqDiff, Nat.reduceMul, Nat.reduceLT, Int.reduceLE, Int.reduceLT, Int.reduceToNat, Int.reduceEq, Int.toNat_natCast, Nat.zero_add, Nat.add_zero, Int.ofNat_lt, Int.ofNat_le, Int.natCast_nonneg, decide_true, decide_false, Bool.false_eq_true, h6]
        refine c_valueN _ fun k2 hk3 => ?_
        simp only [go_sem, Nat.reduceBEq, Nat.reduceAdd, Nat.reduceLeDiff, Nat.reduceEqDiff, Nat.reduceMul, Nat.reduceLT, Int.reduceLE, Int.reduceLT, Int.reduceToNat, Int.reduceEq, Int.toNat_natCast, Nat.zero_add, Nat.add_zero, Int.ofNat_lt, Int.ofNat_le, Int.natCast_nonneg, decide_true, decide_false, Bool.false_eq_true]
        simp only [sFold, hk1, if_false, Bool.false_eq_true] at hk
        exact .here (hk k2 (by have hk3 : k ≤ k2 := hk3; omega))
end Go.Proofs.Ytaejmcgcfopmkaa
