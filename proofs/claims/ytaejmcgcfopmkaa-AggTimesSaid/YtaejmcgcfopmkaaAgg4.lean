/- Buckets. -/
import Derived.Test.YtaejmcgcfopmkaaAgg3
namespace Go.Proofs.Ytaejmcgcfopmkaa
open Go Go.RowKit
def Ext (h g : Hp) : Prop := h.n ≤ g.n ∧ ∀ b o, h.f b = some o → g.f b = some o
theorem sl31 : SlTy Try.prog 31 39 2 16 (.agg #[.int .i64 0, .int .i64 0]) := ⟨by kernel_rfl, by kernel_rfl, by kernel_rfl, by kernel_rfl, rfl, by omega, by omega⟩
theorem sl60 : SlTy Try.prog 60 3 1 8 (.int .i64 0) := ⟨by kernel_rfl, by kernel_rfl, by kernel_rfl, by kernel_rfl, rfl, by omega, by omega⟩
theorem sl64 : SlTy Try.prog 64 5 1 1 (.int .u8 0) := ⟨by kernel_rfl, by kernel_rfl, by kernel_rfl, by kernel_rfl, rfl, by omega, by omega⟩
def enc (l : List (Int × Int)) : List Value := l.flatMap fun x => [.int .i64 x.1, .int .i64 x.2]
theorem enc_length : ∀ l, (enc l).length = l.length * 2
  | [] => rfl
  | x :: l => by have := enc_length l; simp only [enc, List.flatMap_cons, List.length_append, List.length_cons, List.length_nil] at this ⊢; omega
theorem enc_append (a b : List (Int × Int)) : enc (a ++ b) = enc a ++ enc b := by simp [enc]
theorem enc_at : ∀ (l : List (Int × Int)) (r : List Value), sampleCells (enc l ++ r).toArray 0 l
  | [], _, _, hi => by simp at hi
  | x :: l, r, 0, _ => by simp [enc]
  | x :: l, r, i + 1, hi => by
    have := enc_at l r i (by simpa using hi)
    simp only [Nat.zero_add, List.getElem?_toArray] at this
    simp only [Nat.zero_add, List.getElem?_toArray, List.getElem_cons_succ, enc, List.flatMap_cons, List.cons_append, List.nil_append]
    rw [show (i + 1) * 2 = i * 2 + 1 + 1 from by omega, show i * 2 + 1 + 1 + 1 = (i * 2 + 1) + 1 + 1 from rfl]
    simpa [enc] using this
theorem enc_set (l : List (Int × Int)) (b v w : Int) (rest : List Value) : (enc (l ++ [(b, v)]) ++ rest).toArray.setIfInBounds (l.length * 2 + 1) (.int .i64 w) = (enc (l ++ [(b, w)]) ++ rest).toArray := by
  have e1 : ∀ v, enc (l ++ [(b, v)]) ++ rest = (enc l ++ [.int .i64 b]) ++ (.int .i64 v :: rest) := fun v => by simp [enc]
  have e2 : l.length * 2 + 1 = (enc l ++ [Value.int .i64 b]).length := by simp [enc_length]
  rw [e1, e1, e2]
  simp
theorem enc_setL (l : List (Int × Int)) (b v w : Int) (rest : List Value) : (enc (l ++ [(b, v)]) ++ rest).set (l.length * 2 + 1) (.int .i64 w) = enc (l ++ [(b, w)]) ++ rest := by
  have e1 : ∀ v, enc (l ++ [(b, v)]) ++ rest = (enc l ++ [.int .i64 b]) ++ (.int .i64 v :: rest) := fun v => by simp [enc]
  have e2 : l.length * 2 + 1 = (enc l ++ [Value.int .i64 b]).length := by simp [enc_length]
  rw [e1, e1, e2]
  simp
theorem enc_get (l : List (Int × Int)) (b v : Int) (rest : List Value) : (enc (l ++ [(b, v)]) ++ rest)[l.length * 2]? = some (.int .i64 b) := by
  have := (enc_at (l ++ [(b, v)]) rest l.length (by simp)).1
  simpa using this
theorem c_valueS (b : Nat) (s : St) (h : Hp) (hb : h.f b = some (stObj s)) (h1 : sRight s.kind = true) {K : CH} (hk : ∀ k, h.n ≤ k → K.go (.tuple #[.int .i64 s.value.1, .bool s.value.2]) (h.to k)) : @Go1 _ (CallF Try.prog 25 #[.pointer (some ⟨b, 0, none⟩)] h) K := by
  by_cases q : s.n = 0
  · exact c_value0 b s h hb q (by simpa [St.value, q] using hk)
  · exact c_value b s h hb q h1 (by simpa [St.value, q] using hk)
theorem sRight_pos {k : Int} (h : sRight k = true) : 0 < k := by simp only [sRight, decide_eq_true_eq] at h; omega
structure Bk where
  done : List (Int × Int)
  cur : Option (Int × St)
def Bk.step (kind size align : Int) (a : Bk) (x : Int × Int) : Bk := match a.cur with
  | none => ⟨a.done, some (sStart x.1 size align, (St.new kind).add x.2)⟩
  | some (b, s) => if b = sStart x.1 size align then ⟨a.done, some (b, s.add x.2)⟩ else ⟨a.done ++ [(b, s.value.1)], some (sStart x.1 size align, (St.new kind).add x.2)⟩
def Bk.out (a : Bk) : List (Int × Int) := match a.cur with
  | none => a.done
  | some (b, s) => a.done ++ [(b, s.value.1)]
def sBuckets (kind size align : Int) (l : List (Int × Int)) : List (Int × Int) :=
  if sRight kind = true ∧ sCan size align = true ∧ l.all (fun x => sTime x.1) = true then (l.foldl (Bk.step kind size align) ⟨[], none⟩).out else []
def BkAt (kind : Int) (v9 v10 : Value) (h g : Hp) (k i : Nat) : Bk → Prop
  | ⟨done, none⟩ => done = [] ∧ v9 = .slice none 0 0 ∧ g = h.to k
  | ⟨done, some (b, s)⟩ => s.kind = kind ∧ done.length < i ∧ ∃ sb ob cap rest, h.n ≤ sb ∧ h.n ≤ ob ∧ sb < k ∧ ob < k ∧ sb ≠ ob ∧ done.length + 1 ≤ cap ∧ rest.length = (cap - (done.length + 1)) * 2 ∧ v10 = .pointer (some ⟨sb, 0, none⟩) ∧
      v9 = .slice (some ⟨ob, 0, none⟩) (done.length + 1) cap ∧ g = ((h.put sb (stObj s)).put ob (.cells (enc (done ++ [(b, s.value.1)]) ++ rest).toArray 39 (0, 0))).to k
def BkInv (kind size align : Int) (l : List (Int × Int)) (h : Hp) (v9 v10 v26 : Value) (g : Hp) : Prop :=
  ∃ i k, i ≤ l.length ∧ h.n ≤ k ∧ v26 = .int .i64 i ∧ (l.take i).all (fun x => sTime x.1) = true ∧ BkAt kind v9 v10 h g k i ((l.take i).foldl (Bk.step kind size align) ⟨[], none⟩)
theorem c_buckets (kind size align : Int) (p : Option Addr) (n cap : Nat) (l : List (Int × Int)) (h : Hp) (hr : Row h (.slice p n cap) l) (hl : (l.length : Int) ≤ 4398046511104) {K : CH}
    (hk : ∀ v g, Ext h g → Row g v (sBuckets kind size align l) → K.go v g) : @Go1 _ (CallF Try.prog 28 #[.int .i64 kind, .int .i64 size, .int .i64 align, .slice p n cap] h) K := by
  have hn := hr.len
  subst hn
  have hbad : ∀ i (hi : i < l.length), ¬ sTime l[i].1 = true → sBuckets kind size align l = [] := fun i hi q => by
    unfold sBuckets
    rw [if_neg]
    rintro ⟨_, _, ha⟩
    exact q (List.all_eq_true.1 ha _ (List.getElem_mem hi))
  have hnil : ∀ g, Row g (.slice none 0 0) [] := fun g => ⟨none, 0, rfl, .inl rfl⟩
  have htake : ∀ i (hi : i < l.length), (l.take (i + 1)).foldl (Bk.step kind size align) ⟨[], none⟩ = ((l.take i).foldl (Bk.step kind size align) ⟨[], none⟩).step kind size align l[i] := fun i hi => by
    rw [List.take_succ_eq_append_getElem hi, List.foldl_append]; rfl
  have hallS : ∀ i (hi : i < l.length), (l.take i).all (fun x => sTime x.1) = true → sTime l[i].1 = true → (l.take (i + 1)).all (fun x => sTime x.1) = true := fun i hi q q2 => by
    rw [List.take_succ_eq_append_getElem hi, List.all_append, q]; simp [q2]
  refine go_of tab.mixed Try.func28 rfl Try.ntmps28 Try.results28 tab.ca28 (by kernel_rfl) (Nat.le_of_ble_eq_true rfl) fun hw => ?_
  simp only [go_sem, Nat.reduceBEq, Nat.reduceAdd, Nat.reduceLeDiff, Nat.reduceEqDiff, Nat.reduceMul, Nat.reduceLT, Int.reduceLE, Int.reduceLT, Int.reduceToNat, Int.reduceEq, Int.toNat_natCast, Nat.zero_add, Nat.add_zero, Int.ofNat_lt, Int.ofNat_le, Int.natCast_nonneg, decide_true, decide_false, Bool.false_eq_true]
  refine c_right _ _ ?_
  simp only [go_sem, Nat.reduceBEq, Nat.reduceAdd, Nat.reduceLeDiff, Nat.reduceEqDiff, Nat.reduceMul, Nat.reduceLT, Int.reduceLE, Int.reduceLT, Int.reduceToNat, Int.reduceEq, Int.toNat_natCast, Nat.zero_add, Nat.add_zero, Int.ofNat_lt, Int.ofNat_le, Int.natCast_nonneg, decide_true, decide_false, Bool.false_eq_true]
  refine Two.mk (fun h1 => ?_) (fun h1 => ?_)
  · refine c_can _ _ _ ?_
    simp only [go_sem, Nat.reduceBEq, Nat.reduceAdd, Nat.reduceLeDiff, Nat.reduceEqDiff, Nat.reduceMul, Nat.reduceLT, Int.reduceLE, Int.reduceLT, Int.reduceToNat, Int.reduceEq, Int.toNat_natCast, Nat.zero_add, Nat.add_zero, Int.ofNat_lt, Int.ofNat_le, Int.natCast_nonneg, decide_true, decide_false, Bool.false_eq_true]
    refine Two.mk (fun h2 => ?_) (fun h2 => ?_)
    · refine LoopI.rule [8, 9, 10, 12, 13, 14, 26, 27, 28, 29, 30, 31, 32, 33, 34, 35, 36, 37, 38, 39, 40, 41, 42, 43, 44, 45, 46, 47, 48, 49, 50, 51, 52, 53, 54, 55, 56, 57, 58, 59, 60, 61, 62, 63, 64, 65, 66, 67, 68, 69, 70, 71, 72, 73, 74, 75, 76, 77, 78] (by kernel_rfl)
        (fun ρ g => BkInv kind size align l h (ρ 9) (ρ 10) (ρ 26) g) (fun ρ g => match ρ 26 with | .int _ i => l.length - i.toNat | _ => 0) ?_ ?_
      · exact ⟨0, h.n, by omega, by omega, rfl, rfl, rfl, rfl, rfl⟩
      · rintro ρ g ⟨i, k, hi, hk2, h26, hall, hI⟩ hw2 fr
        have h25 : ρ 25 = .int .i64 l.length := fr 25 rfl
        have h24 : ρ 24 = .slice p l.length cap := fr 24 rfl
        have h0 : ρ 0 = .int .i64 kind := fr 0 rfl
        have h1' : ρ 1 = .int .i64 size := fr 1 rfl
        have h2' : ρ 2 = .int .i64 align := fr 2 rfl
        clear fr
        simp only [go_sem, Nat.reduceBEq, Nat.reduceAdd, Nat.reduceLeDiff, Nat.reduceEqDiff, Nat.reduceMul, Nat.reduceLT, Int.reduceLE, Int.reduceLT, Int.reduceToNat, Int.reduceEq, Int.toNat_natCast, Nat.zero_add, Nat.add_zero, Int.ofNat_lt, Int.ofNat_le, Int.natCast_nonneg, decide_true, decide_false, Bool.false_eq_true, h26, h25]
        refine Two.mk (fun hlt => ?_) (fun hge => ?_)
        · obtain ⟨b, o, c, t, fz, rfl, hc, hc1, hc2⟩ := hr.at hlt
          have hbn := hw _ _ hc
          generalize hbk : (l.take i).foldl (Bk.step kind size align) ⟨[], none⟩ = bk at hI
          obtain ⟨done, cur⟩ := bk
          cases cur with
          | none =>
            obtain ⟨rfl, h9, rfl⟩ := hI
            simp only [go_sem, Nat.reduceBEq, Nat.reduceAdd, Nat.reduceLeDiff, Nat.reduceEqDiff, Nat.reduceMul, Nat.reduceLT, Int.reduceLE, Int.reduceLT, Int.reduceToNat, Int.reduceEq, Int.toNat_natCast, Nat.zero_add, Nat.add_zero, Int.ofNat_lt, Int.ofNat_le, Int.natCast_nonneg, decide_true, decide_false, Bool.false_eq_true, h26, h25, h24, hbn, hc, hc1, hc2, hlt, h9]
            refine c_time _ _ ?_
            simp only [go_sem, Nat.reduceBEq, Nat.reduceAdd, Nat.reduceLeDiff, Nat.reduceEqDiff, Nat.reduceMul, Nat.reduceLT, Int.reduceLE, Int.reduceLT, Int.reduceToNat, Int.reduceEq, Int.toNat_natCast, Nat.zero_add, Nat.add_zero, Int.ofNat_lt, Int.ofNat_le, Int.natCast_nonneg, decide_true, decide_false, Bool.false_eq_true, h26, h25, h24, hbn, hc, hc1, hc2, hlt, h9]
            refine Two.mk (fun h3 => ?_) (fun h3 => ?_)
            · simp only [go_sem, Nat.reduceBEq, Nat.reduceAdd, Nat.reduceLeDiff, Nat.reduceEqDiff, Nat.reduceMul, Nat.reduceLT, Int.reduceLE, Int.reduceLT, Int.reduceToNat, Int.reduceEq, Int.toNat_natCast, Nat.zero_add, Nat.add_zero, Int.ofNat_lt, Int.ofNat_le, Int.natCast_nonneg, decide_true, decide_false, Bool.false_eq_true, h26, h25, h24, hbn, hc, hc1, hc2, hlt, h9, h0, h1', h2']
              refine c_start _ _ _ _ ?_
              simp only [go_sem, Nat.reduceBEq, Nat.reduceAdd, Nat.reduceLeDiff, Nat.reduceEqDiff, Nat.reduceMul, Nat.reduceLT, Int.reduceLE, Int.reduceLT, Int.reduceToNat, Int.reduceEq, Int.toNat_natCast, Nat.zero_add, Nat.add_zero, Int.ofNat_lt, Int.ofNat_le, Int.natCast_nonneg, decide_true, decide_false, Bool.false_eq_true, h26, h25, h24, hbn, hc, hc1, hc2, hlt, h9, h0, h1', h2']
              refine Two.mk (fun _ => ?_) (fun q => absurd rfl q)
              refine append_nil sl31 ⟨_, sl31.un⟩ (m := 1) (new := [.int .i64 (sStart l[i].1 size align), .int .i64 0]) (by simp only [go_sem, Nat.reduceBEq, Nat.reduceAdd, Nat.reduceLeDiff, Nat.reduceEqDiff, Nat.reduceMul, Nat.reduceLT, Int.reduceLE, Int.reduceLT, Int.reduceToNat, Int.reduceEq, Int.toNat_natCast, Nat.zero_add, Nat.add_zero, Int.ofNat_lt, Int.ofNat_le, Int.natCast_nonneg, decide_true, decide_false, Bool.false_eq_true, srcCells]) (by omega) (by omega) fun cap' rest hcap hrest => ?_
              simp only [go_sem, Nat.reduceBEq, Nat.reduceAdd, Nat.reduceLeDiff, Nat.reduceEqDiff, Nat.reduceMul, Nat.reduceLT, Int.reduceLE, Int.reduceLT, Int.reduceToNat, Int.reduceEq, Int.toNat_natCast, Nat.zero_add, Nat.add_zero, Int.ofNat_lt, Int.ofNat_le, Int.natCast_nonneg, decide_true, decide_false, Bool.false_eq_true, h26, h25, h24, hbn, hc, hc1, hc2, hlt, h9, h0, h1', h2']
              refine c_new _ _ ?_
              rw [if_pos h1]
              simp only [go_sem, Nat.reduceBEq, Nat.reduceAdd, Nat.reduceLeDiff, Nat.reduceEqDiff, Nat.reduceMul, Nat.reduceLT, Int.reduceLE, Int.reduceLT, Int.reduceToNat, Int.reduceEq, Int.toNat_natCast, Nat.zero_add, Nat.add_zero, Int.ofNat_lt, Int.ofNat_le, Int.natCast_nonneg, decide_true, decide_false, Bool.false_eq_true, h26, h25, h24, hbn, hc, hc1, hc2, hlt, h9, h0, h1', h2']
              refine c_add (k + 3) (St.new kind) _ _ (by simp only [go_sem, Nat.reduceBEq, Nat.reduceAdd, Nat.reduceLeDiff, Nat.reduceEqDiff, Nat.reduceMul, Nat.reduceLT, Int.reduceLE, Int.reduceLT, Int.reduceToNat, Int.reduceEq, Int.toNat_natCast, Nat.zero_add, Nat.add_zero, Int.ofNat_lt, Int.ofNat_le, Int.natCast_nonneg, decide_true, decide_false, Bool.false_eq_true]) (sRight_pos h1) ?_
              simp only [go_sem, Nat.reduceBEq, Nat.reduceAdd, Nat.reduceLeDiff, Nat.reduceEqDiff, Nat.reduceMul, Nat.reduceLT, Int.reduceLE, Int.reduceLT, Int.reduceToNat, Int.reduceEq, Int.toNat_natCast, Nat.zero_add, Nat.add_zero, Int.ofNat_lt, Int.ofNat_le, Int.natCast_nonneg, decide_true, decide_false, Bool.false_eq_true, h26, h25, h24, hbn, hc, hc1, hc2, hlt, h9, h0, h1', h2']
              refine c_valueS (k + 3) ((St.new kind).add l[i].2) _ (by simp only [go_sem, Nat.reduceBEq, Nat.reduceAdd, Nat.reduceLeDiff, Nat.reduceEqDiff, Nat.reduceMul, Nat.reduceLT, Int.reduceLE, Int.reduceLT, Int.reduceToNat, Int.reduceEq, Int.toNat_natCast, Nat.zero_add, Nat.add_zero, Int.ofNat_lt, Int.ofNat_le, Int.natCast_nonneg, decide_true, decide_false, Bool.false_eq_true]) h1 fun k2 hk3 => ?_
              simp only [go_sem, Nat.reduceBEq, Nat.reduceAdd, Nat.reduceLeDiff, Nat.reduceEqDiff, Nat.reduceMul, Nat.reduceLT, Int.reduceLE, Int.reduceLT, Int.reduceToNat, Int.reduceEq, Int.toNat_natCast, Nat.zero_add, Nat.add_zero, Int.ofNat_lt, Int.ofNat_le, Int.natCast_nonneg, decide_true, decide_false, Bool.false_eq_true, h26, h25, h24, hbn, hc, hc1, hc2, hlt, h9, h0, h1', h2']
              have e0 : IntKind.i64.wrap (((1 : Nat) : Int) - 1) = 0 := by rw [IntKind.wrap_i64]; rfl
              have hk4 : k + 4 ≤ k2 := hk3
              rw [e0, wrap_i64_of (by omega) (by omega)]
              refine ⟨by omega, by omega, by simp, ((h.put (k + 3) (stObj ((St.new kind).add l[i].2))).put (k + 2) (.cells (enc ([] ++ [(sStart l[i].1 size align, ((St.new kind).add l[i].2).value.1)]) ++ rest).toArray 39 (0, 0))).to k2, ?_, ⟨i + 1, k2, by omega, by omega, rfl, hallS i hlt hall h3, ?_⟩, by omega⟩
              · exact (((((Sub.refl h).put_new (hw.none hk2) _).put_new (hw.none (by omega)) _).put_new (hw.none (by omega)) _).put _ _ |>.put _ _).to _
              · rw [htake i hlt, hbk]
                exact ⟨rfl, by simp, k + 3, k + 2, cap', rest, by omega, by omega, by omega, by omega, by omega, by simpa using hcap, by simpa using hrest, rfl, rfl, rfl⟩
            · exact .sub (((Sub.refl h).put_new (hw.none hk2) _).to _) (hk _ _ ⟨Nat.le_succ_of_le hk2, fun _ _ e => e⟩ (by rw [hbad i hlt h3]; exact hnil _))
          | some q =>
            obtain ⟨bs, s⟩ := q
            obtain ⟨hsk, hdl, sb, ob, cap1, rest, hsb, hob, hsk2, hok2, hne, hcap1, hrest, h10, h9, rfl⟩ := hI
            have hbs : b < sb := by omega
            have hbo : b < ob := by omega
            have hbk2 : b < k := by omega
            have hso : ∀ g o, (Hp.put g ob o).f sb = g.f sb := fun g o => put_f_ne _ _ _ _ hne
            have hos : ∀ g o, (Hp.put g sb o).f ob = g.f ob := fun g o => put_f_ne _ _ _ _ (Ne.symm hne)
            simp only [go_sem, Nat.reduceBEq, Nat.reduceAdd, Nat.reduceLeDiff, Nat.reduceEqDiff, Nat.reduceMul, Nat.reduceLT, Int.reduceLE, Int.reduceLT, Int.reduceToNat, Int.reduceEq, Int.toNat_natCast, Nat.zero_add, Nat.add_zero, Int.ofNat_lt, Int.ofNat_le, Int.natCast_nonneg, decide_true, decide_false, Bool.false_eq_true, h26, h25, h24, hbs, hbo, hbk2, hc, hc1, hc2, hlt]
            refine c_time _ _ ?_
            simp only [go_sem, Nat.reduceBEq, Nat.reduceAdd, Nat.reduceLeDiff, Nat.reduceEqDiff, Nat.reduceMul, Nat.reduceLT, Int.reduceLE, Int.reduceLT, Int.reduceToNat, Int.reduceEq, Int.toNat_natCast, Nat.zero_add, Nat.add_zero, Int.ofNat_lt, Int.ofNat_le, Int.natCast_nonneg, decide_true, decide_false, Bool.false_eq_true, h26, h25, h24]
            refine Two.mk (fun h3 => ?_) (fun h3 => ?_)
            · simp only [go_sem, Nat.reduceBEq, Nat.reduceAdd, Nat.reduceLeDiff, Nat.reduceEqDiff, Nat.reduceMul, Nat.reduceLT, Int.reduceLE, Int.reduceLT, Int.reduceToNat, Int.reduceEq, Int.toNat_natCast, Nat.zero_add, Nat.add_zero, Int.ofNat_lt, Int.ofNat_le, Int.natCast_nonneg, decide_true, decide_false, Bool.false_eq_true, h26, h25, h24, h9, h0, h1', h2']
              refine c_start _ _ _ _ ?_
              have hew : IntKind.i64.wrap (((done.length + 1 : Nat) : Int) - 1) = (done.length : Int) := by rw [wrap_i64_of (by omega) (by omega)]; omega
              simp only [go_sem, Nat.reduceBEq, Nat.reduceAdd, Nat.reduceLeDiff, Nat.reduceEqDiff, Nat.reduceMul, Nat.reduceLT, Int.reduceLE, Int.reduceLT, Int.reduceToNat, Int.reduceEq, Int.toNat_natCast, Nat.zero_add, Nat.add_zero, Int.ofNat_lt, Int.ofNat_le, Int.natCast_nonneg, decide_true, decide_false, Bool.false_eq_true, h26, h25, h24, h9, h0, h1', h2', hso, hos, hew, hok2, enc_get, Nat.lt_succ_self]
              refine Two.mk (fun q => by omega) (fun _ => ?_)
              have hkr : sRight s.kind = true := by rw [hsk]; exact h1
              refine Two.mk (fun hb1 => ?_) (fun hb1 => ?_)
              · simp only [go_sem, Nat.reduceBEq, Nat.reduceAdd, Nat.reduceLeDiff, Nat.reduceEqDiff, Nat.reduceMul, Nat.reduceLT, Int.reduceLE, Int.reduceLT, Int.reduceToNat, Int.reduceEq, Int.toNat_natCast, Nat.zero_add, Nat.add_zero, Int.ofNat_lt, Int.ofNat_le, Int.natCast_nonneg, decide_true, decide_false, Bool.false_eq_true, h10]
                refine c_add sb s _ _ (by simp only [go_sem, Nat.reduceBEq, Nat.reduceAdd, Nat.reduceLeDiff, Nat.reduceEqDiff, Nat.reduceMul, Nat.reduceLT, Int.reduceLE, Int.reduceLT, Int.reduceToNat, Int.reduceEq, Int.toNat_natCast, Nat.zero_add, Nat.add_zero, Int.ofNat_lt, Int.ofNat_le, Int.natCast_nonneg, decide_true, decide_false, Bool.false_eq_true, hsk2, hso]) (sRight_pos hkr) ?_
                simp only [go_sem, Nat.reduceBEq, Nat.reduceAdd, Nat.reduceLeDiff, Nat.reduceEqDiff, Nat.reduceMul, Nat.reduceLT, Int.reduceLE, Int.reduceLT, Int.reduceToNat, Int.reduceEq, Int.toNat_natCast, Nat.zero_add, Nat.add_zero, Int.ofNat_lt, Int.ofNat_le, Int.natCast_nonneg, decide_true, decide_false, Bool.false_eq_true, h9, h10, h26]
                refine c_valueS sb (s.add l[i].2) _ (by simp only [go_sem, Nat.reduceBEq, Nat.reduceAdd, Nat.reduceLeDiff, Nat.reduceEqDiff, Nat.reduceMul, Nat.reduceLT, Int.reduceLE, Int.reduceLT, Int.reduceToNat, Int.reduceEq, Int.toNat_natCast, Nat.zero_add, Nat.add_zero, Int.ofNat_lt, Int.ofNat_le, Int.natCast_nonneg, decide_true, decide_false, Bool.false_eq_true]) hkr fun k2 hk3 => ?_
                have hk4 : k + 1 ≤ k2 := hk3
                simp only [go_sem, Nat.reduceBEq, Nat.reduceAdd, Nat.reduceLeDiff, Nat.reduceEqDiff, Nat.reduceMul, Nat.reduceLT, Int.reduceLE, Int.reduceLT, Int.reduceToNat, Int.reduceEq, Int.toNat_natCast, Nat.zero_add, Nat.add_zero, Int.ofNat_lt, Int.ofNat_le, Int.natCast_nonneg, decide_true, decide_false, Bool.false_eq_true, h9, h10, h26, hos, hok2, hew, Nat.lt_succ_self, enc_setL]
                rw [wrap_i64_of (by omega) (by omega)]
                refine ⟨by simp [enc_length]; omega, ((h.put sb (stObj (s.add l[i].2))).put ob (.cells (enc (done ++ [(bs, (s.add l[i].2).value.1)]) ++ rest).toArray 39 (0, 0))).to k2, ?_, ⟨i + 1, k2, by omega, by omega, rfl, hallS i hlt hall h3, ?_⟩, by omega⟩
                · exact (((((Sub.refl h).put_new (hw.none hsb) _).put_new (hw.none hob) _).put_new (hw.none hk2) _).put _ _ |>.put _ _).to _
                · rw [htake i hlt, hbk]
                  simp only [Bk.step, hb1, if_true]
                  exact ⟨hsk, by omega, sb, ob, cap1, rest, hsb, hob, by omega, by omega, hne, hcap1, hrest, rfl, rfl, rfl⟩
              · refine append_own (base := (h.put k (.cells #[.int .i64 l[i].1, .int .i64 l[i].2] 39 (0, 0))).to (k + 2)) (b := ob) (vs := enc (done ++ [(bs, s.value.1)])) (rest := rest) (m := 1) (new := [.int .i64 (sStart l[i].1 size align), .int .i64 0]) sl31 ⟨_, sl31.un⟩ (by simp only [go_sem, Nat.reduceBEq, Nat.reduceAdd, Nat.reduceLeDiff, Nat.reduceEqDiff, Nat.reduceMul, Nat.reduceLT, Int.reduceLE, Int.reduceLT, Int.reduceToNat, Int.reduceEq, Int.toNat_natCast, Nat.zero_add, Nat.add_zero, Int.ofNat_lt, Int.ofNat_le, Int.natCast_nonneg, decide_true, decide_false, Bool.false_eq_true, hok2]) (by simp [enc_length]) hcap1 hrest ?_ (by simp only [go_sem, Nat.reduceBEq, Nat.reduceAdd, Nat.reduceLeDiff, Nat.reduceEqDiff, Nat.reduceMul, Nat.reduceLT, Int.reduceLE, Int.reduceLT, Int.reduceToNat, Int.reduceEq, Int.toNat_natCast, Nat.zero_add, Nat.add_zero, Int.ofNat_lt, Int.ofNat_le, Int.natCast_nonneg, decide_true, decide_false, Bool.false_eq_true, srcCells]) rfl rfl (by omega) ?_
                · exact (((((Sub.refl h).put_new (hw.none hsb) _).put_new (hw.none hob) _).put _ _).put_new (b := k + 1) (by rw [put_f_ne _ _ _ _ (by omega)]; exact hw.none (by omega)) _).to _
                · intro b' n' cap' rest' hbn' hcap' hrest'
                  have hb1' : h.n ≤ b' ∧ b' < n' ∧ b' ≠ k ∧ k < n' := by
                    rcases hbn' with ⟨rfl, rfl⟩ | ⟨rfl, rfl⟩
                    · have : Hp.n (((((h.put sb (stObj s)).put b' (.cells (enc (done ++ [(bs, s.value.1)]) ++ rest).toArray 39 (0, 0))).put k (.cells #[.int .i64 l[i].1, .int .i64 l[i].2] 39 (0, 0))).put (k + 1) (.cells #[.int .i64 (sStart l[i].1 size align), .int .i64 0] 39 (0, 0))).to (k + 2)) = k + 2 := rfl
                      omega
                    · simp only [to_n]; omega
                  have hene : enc (done ++ [(bs, s.value.1)]) ++ [.int .i64 (sStart l[i].1 size align), .int .i64 0] = enc ((done ++ [(bs, s.value.1)]) ++ [(sStart l[i].1 size align, 0)]) := by simp [enc]
                  have hset : ∀ w, (enc ((done ++ [(bs, s.value.1)]) ++ [(sStart l[i].1 size align, 0)]) ++ rest').set ((done.length + 1) * 2 + 1) (.int .i64 w) = enc ((done ++ [(bs, s.value.1)]) ++ [(sStart l[i].1 size align, w)]) ++ rest' := fun w => by
                    have := enc_setL (done ++ [(bs, s.value.1)]) (sStart l[i].1 size align) 0 w rest'
                    rw [List.length_append] at this
                    exact this
                  have hew2 : IntKind.i64.wrap (((done.length + (1 + 1) : Nat) : Int) - 1) = ((done.length + 1 : Nat) : Int) := by rw [wrap_i64_of (by omega) (by omega)]; omega
                  rw [hene]
                  have hkb : ∀ g o, (Hp.put g b' o).f k = g.f k := fun g o => put_f_ne _ _ _ _ (by omega)
                  simp only [go_sem, Nat.reduceBEq, Nat.reduceAdd, Nat.reduceLeDiff, Nat.reduceEqDiff, Nat.reduceMul, Nat.reduceLT, Int.reduceLE, Int.reduceLT, Int.reduceToNat, Int.reduceEq, Int.toNat_natCast, Nat.zero_add, Nat.add_zero, Int.ofNat_lt, Int.ofNat_le, Int.natCast_nonneg, decide_true, decide_false, Bool.false_eq_true, h26, h0]
                  refine c_new _ _ ?_
                  rw [if_pos h1]
                  simp only [go_sem, Nat.reduceBEq, Nat.reduceAdd, Nat.reduceLeDiff, Nat.reduceEqDiff, Nat.reduceMul, Nat.reduceLT, Int.reduceLE, Int.reduceLT, Int.reduceToNat, Int.reduceEq, Int.toNat_natCast, Nat.zero_add, Nat.add_zero, Int.ofNat_lt, Int.ofNat_le, Int.natCast_nonneg, decide_true, decide_false, Bool.false_eq_true, h26, hb1', hkb]
                  refine c_add n' (St.new kind) _ _ (by simp only [go_sem, Nat.reduceBEq, Nat.reduceAdd, Nat.reduceLeDiff, Nat.reduceEqDiff, Nat.reduceMul, Nat.reduceLT, Int.reduceLE, Int.reduceLT, Int.reduceToNat, Int.reduceEq, Int.toNat_natCast, Nat.zero_add, Nat.add_zero, Int.ofNat_lt, Int.ofNat_le, Int.natCast_nonneg, decide_true, decide_false, Bool.false_eq_true]) (sRight_pos h1) ?_
                  simp only [go_sem, Nat.reduceBEq, Nat.reduceAdd, Nat.reduceLeDiff, Nat.reduceEqDiff, Nat.reduceMul, Nat.reduceLT, Int.reduceLE, Int.reduceLT, Int.reduceToNat, Int.reduceEq, Int.toNat_natCast, Nat.zero_add, Nat.add_zero, Int.ofNat_lt, Int.ofNat_le, Int.natCast_nonneg, decide_true, decide_false, Bool.false_eq_true, h26]
                  refine c_valueS n' ((St.new kind).add l[i].2) _ (by simp only [go_sem, Nat.reduceBEq, Nat.reduceAdd, Nat.reduceLeDiff, Nat.reduceEqDiff, Nat.reduceMul, Nat.reduceLT, Int.reduceLE, Int.reduceLT, Int.reduceToNat, Int.reduceEq, Int.toNat_natCast, Nat.zero_add, Nat.add_zero, Int.ofNat_lt, Int.ofNat_le, Int.natCast_nonneg, decide_true, decide_false, Bool.false_eq_true]) h1 fun k2 hk3 => ?_
                  have hk4 : n' + 1 ≤ k2 := hk3
                  simp only [go_sem, Nat.reduceBEq, Nat.reduceAdd, Nat.reduceLeDiff, Nat.reduceEqDiff, Nat.reduceMul, Nat.reduceLT, Int.reduceLE, Int.reduceLT, Int.reduceToNat, Int.reduceEq, Int.toNat_natCast, Nat.zero_add, Nat.add_zero, Int.ofNat_lt, Int.ofNat_le, Int.natCast_nonneg, decide_true, decide_false, Bool.false_eq_true, h26, hb1', hew2, hset, Nat.add_lt_add_iff_left]
                  rw [wrap_i64_of (by omega) (by omega)]
                  refine ⟨by simp [enc_length]; omega, ((h.put n' (stObj ((St.new kind).add l[i].2))).put b' (.cells (enc ((done ++ [(bs, s.value.1)]) ++ [(sStart l[i].1 size align, ((St.new kind).add l[i].2).value.1)]) ++ rest').toArray 39 (0, 0))).to k2, ?_, ⟨i + 1, k2, by omega, by omega, rfl, hallS i hlt hall h3, ?_⟩, by omega⟩
                  · exact ((((Sub.refl h).put_new (hw.none hk2) _).put_new (hw.none hb1'.1) _).put _ _ |>.put _ _).to _
                  · rw [htake i hlt, hbk]
                    simp only [Bk.step, hb1, if_false]
                    refine ⟨rfl, by simp; omega, n', b', cap', rest', by omega, by omega, by omega, by omega, by omega, by simpa using hcap', by simpa using hrest', rfl, by simp, rfl⟩
            · exact .sub ((((Sub.refl h).put_new (hw.none hsb) _).put_new (hw.none hob) _).put_new (hw.none hk2) _ |>.to _) (hk _ _ ⟨Nat.le_succ_of_le hk2, fun _ _ e => e⟩ (by rw [hbad i hlt h3]; exact hnil _))
        · have : i = l.length := by omega
          subst this
          have hout : sBuckets kind size align l = (l.foldl (Bk.step kind size align) ⟨[], none⟩).out := by
            rw [sBuckets, if_pos ⟨h1, h2, by simpa using hall⟩]
          rw [List.take_length] at hI
          generalize l.foldl (Bk.step kind size align) ⟨[], none⟩ = bk at hI hout
          obtain ⟨done, cur⟩ := bk
          cases cur with
          | none =>
            obtain ⟨rfl, h9, rfl⟩ := hI
            rw [h9]
            exact .here (hk _ _ ⟨hk2, fun _ _ e => e⟩ (by rw [hout]; exact hnil _))
          | some q =>
            obtain ⟨bs, s⟩ := q
            obtain ⟨hsk, hdl, sb, ob, cap1, rest, hsb, hob, hsk2, hok2, hne, hcap1, hrest, h10, h9, rfl⟩ := hI
            rw [h9]
            refine .here (hk _ _ ⟨hk2, fun x o e => ?_⟩ (by
              rw [hout]
              exact ⟨some ⟨ob, 0, none⟩, cap1, by simp [Bk.out], .inr ⟨ob, 0, _, _, _, rfl, put_f_same _ _ _, enc_at _ _⟩⟩))
            have := hw _ _ e
            rw [to_f, put_f_ne _ _ _ _ (by omega), put_f_ne _ _ _ _ (by omega)]
            exact e
    · exact .here (hk _ _ ⟨Nat.le_refl _, fun _ _ e => e⟩ (by rw [sBuckets, if_neg (fun q => h2 q.2.1)]; exact hnil _))
  · exact .here (hk _ _ ⟨Nat.le_refl _, fun _ _ e => e⟩ (by rw [sBuckets, if_neg (fun q => h1 q.1)]; exact hnil _))
end Go.Proofs.Ytaejmcgcfopmkaa
