/- Names. -/
import Derived.Test.YtaejmcgcfopmkaaAgg4
namespace Go.Proofs.Ytaejmcgcfopmkaa
open Go Go.RowKit
theorem re_c (P : Program) (ρ : Env) (h : Hp) (K : KH) (t : Nat) (ty : TypeId) : resK P [.cell t ty] [] ρ h K = @Go1 _ (aload P ty (ρ t) h) ⟨fun v => Fin K v h⟩ := id rfl
attribute [go_sem ↓] re_c
def bstr (l : List UInt8) : ByteArray := ⟨l.toArray⟩
def lowB (c : UInt8) : UInt8 := if 65 ≤ c ∧ c ≤ 90 then c + 32 else c
def sLower (s : ByteArray) : ByteArray := ⟨s.data.map lowB⟩
theorem c_names (h : Hp) {K : CH} (hk : ∀ k, h.n ≤ k → K.go (.agg #[.string ⟨#[]⟩, .string ⟨#[115, 117, 109]⟩, .string ⟨#[109, 105, 110]⟩, .string ⟨#[109, 97, 120]⟩, .string ⟨#[99, 111, 117, 110, 116]⟩, .string ⟨#[102, 105, 114, 115, 116]⟩, .string ⟨#[108, 97, 115, 116]⟩, .string ⟨#[114, 97, 110, 103, 101]⟩]) (h.to k)) : @Go1 _ (CallF Try.prog 31 #[] h) K := by
  refine go_of tab.mixed Try.func31 rfl Try.ntmps31 Try.results31 tab.ca31 (by kernel_rfl) (Nat.le_of_ble_eq_true rfl) fun hw => ?_
  simp only [go_sem, Nat.reduceBEq, Nat.reduceAdd, Nat.reduceLeDiff, Nat.reduceEqDiff, Nat.reduceMul, Nat.reduceLT, Int.reduceLE, Int.reduceLT, Int.reduceToNat, Int.reduceEq, Int.toNat_natCast, Nat.zero_add, Nat.add_zero, Int.ofNat_lt, Int.ofNat_le, Int.natCast_nonneg, decide_true, decide_false, Bool.false_eq_true]
  exact .sub (((Sub.refl h).put_new (hw.none (Nat.le_refl _)) _).to _) (hk _ (by omega))
def bv (b : UInt8) : Value := .int .u8 b.toNat
def lowX (L : List UInt8) (z : List Value) (i : Nat) : List Value := (L.take i).map (fun b => bv (lowB b)) ++ ((L.drop i).map bv ++ z)
theorem get_mid (A R : List Value) (x : Value) (i : Nat) (h : A.length = i) : (A ++ x :: R)[i]? = some x := by subst h; simp
theorem set_mid (A R : List Value) (x y : Value) (i : Nat) (h : A.length = i) : (A ++ x :: R).set i y = A ++ y :: R := by subst h; simp
theorem lowX_cut {L : List UInt8} {z : List Value} {i : Nat} (hi : i < L.length) : ∃ A R, A.length = i ∧ lowX L z i = A ++ bv L[i] :: R ∧ lowX L z (i + 1) = A ++ bv (lowB L[i]) :: R :=
  ⟨(L.take i).map (fun b => bv (lowB b)), (L.drop (i + 1)).map bv ++ z, by simp; omega, by unfold lowX; rw [List.drop_eq_getElem_cons hi]; rfl, by unfold lowX; rw [List.take_succ_eq_append_getElem hi, List.map_append, List.append_assoc]; rfl⟩
theorem lowX_get {L : List UInt8} {z : List Value} {i : Nat} (hi : i < L.length) : (lowX L z i)[i]? = some (bv L[i]) := by
  obtain ⟨A, R, hA, e, _⟩ := lowX_cut (z := z) hi
  rw [e]; exact get_mid _ _ _ _ hA
theorem lowX_set {L : List UInt8} {z : List Value} {i : Nat} (hi : i < L.length) : (lowX L z i).set i (bv (lowB L[i])) = lowX L z (i + 1) := by
  obtain ⟨A, R, hA, e, e2⟩ := lowX_cut (z := z) hi
  rw [e, e2]; exact set_mid _ _ _ _ _ hA
theorem lowX_stay {L : List UInt8} {z : List Value} {i : Nat} (hi : i < L.length) (h : lowB L[i] = L[i]) : lowX L z i = lowX L z (i + 1) := by
  obtain ⟨A, R, hA, e, e2⟩ := lowX_cut (z := z) hi
  rw [e, e2, h]
theorem lowX_length {L : List UInt8} {z : List Value} {i : Nat} : (lowX L z i).length = L.length + z.length := by
  unfold lowX; simp; omega
theorem bytesOf_map : ∀ l : List UInt8, bytesOf (l.map bv) = some l
  | [] => rfl
  | b :: l => by
    have := b.toNat_lt
    simp only [List.map_cons, bv, bytesOf]
    rw [if_pos (by omega)]
    rw [bytesOf_map l]
    simp
theorem lowX_end (L : List UInt8) (z : List Value) : (cellsL (lowX L z L.length).toArray 0 L.length).bind bytesOf = some (L.map lowB) := by
  have h1 : lowX L z L.length = (L.map lowB).map bv ++ z := by simp [lowX, Function.comp_def]
  have := cellsL_all ((L.map lowB).map bv) z []
  simp only [List.nil_append, List.length_nil, List.length_map] at this
  rw [h1, this]
  exact bytesOf_map _
theorem lowB_up {c : UInt8} (h1 : (65 : Int) ≤ c.toNat) (h2 : (c.toNat : Int) ≤ 90) : Value.int .u8 (IntKind.u8.wrap ((c.toNat : Int) + 32)) = bv (lowB c) := by
  have h3 : lowB c = c + 32 := by
    unfold lowB
    rw [if_pos ⟨UInt8.le_iff_toNat_le.2 (by show 65 ≤ c.toNat; omega), UInt8.le_iff_toNat_le.2 (by show c.toNat ≤ 90; omega)⟩]
  have h4 : (c + 32).toNat = c.toNat + 32 := by rw [UInt8.toNat_add]; show (c.toNat + 32) % 256 = _; omega
  rw [h3, bv, h4]
  congr 1
  rw [IntKind.wrap_u8]
  omega
theorem lowB_no {c : UInt8} (h : ¬ ((65 : Int) ≤ c.toNat ∧ (c.toNat : Int) ≤ 90)) : lowB c = c := by
  unfold lowB
  rw [if_neg]
  rintro ⟨h1, h2⟩
  have h1 := UInt8.le_iff_toNat_le.1 h1
  have h2 := UInt8.le_iff_toNat_le.1 h2
  exact h ⟨by change 65 ≤ c.toNat at h1; omega, by change c.toNat ≤ 90 at h2; omega⟩
theorem c_lower (s : ByteArray) (h : Hp) (hl : (s.size : Int) ≤ 9223372036854775807) {K : CH} (hk : ∀ k, h.n ≤ k → K.go (.string (sLower s)) (h.to k)) : @Go1 _ (CallF Try.prog 32 #[.string s] h) K := by
  obtain ⟨⟨L⟩⟩ := s
  have hsz : (ByteArray.mk ⟨L⟩).size = L.length := rfl
  have hlow : sLower ⟨⟨L⟩⟩ = ⟨(L.map lowB).toArray⟩ := by simp [sLower]
  rw [hsz] at hl
  rw [hlow] at hk
  refine go_of tab.mixed Try.func32 rfl Try.ntmps32 Try.results32 tab.ca32 (by kernel_rfl) (Nat.le_of_ble_eq_true rfl) fun hw => ?_
  simp only [go_sem, Nat.reduceBEq, Nat.reduceAdd, Nat.reduceLeDiff, Nat.reduceEqDiff, Nat.reduceMul, Nat.reduceLT, Int.reduceLE, Int.reduceLT, Int.reduceToNat, Int.reduceEq, Int.toNat_natCast, Nat.zero_add, Nat.add_zero, Int.ofNat_lt, Int.ofNat_le, Int.natCast_nonneg, decide_true, decide_false, Bool.false_eq_true, hsz]
  intro cap hcap
  refine LoopI.rule [4, 5, 10, 11, 12, 13, 14, 15, 16, 17, 18, 19, 20, 21, 22, 23, 24, 25, 26] (by kernel_rfl) (fun ρ g => ∃ i : Nat, i ≤ L.length ∧ ρ 10 = .int .i64 i ∧ g = (h.put h.n (.cells (lowX L (List.replicate (cap - L.length) (Value.int .u8 0)) i).toArray 5 (cap, cap + 1))).to (h.n + 1)) (fun ρ g => match ρ 10 with | .int _ i => L.length - i.toNat | _ => 0) ?_ ?_
  · refine ⟨0, by omega, rfl, ?_⟩
    have e0 : byteVals ⟨⟨L⟩⟩ ++ Array.replicate (cap - L.length) (Value.int .u8 0) = (lowX L (List.replicate (cap - L.length) (Value.int .u8 0)) 0).toArray := by
      apply Array.ext'
      simp [lowX, byteVals]
      exact fun a _ => rfl
    rw [e0]
  · rintro ρ g ⟨i, hi, h10, rfl⟩ hw2 fr
    have h9 : ρ 9 = .int .i64 L.length := fr 9 rfl
    have h8 : ρ 8 = .slice (some ⟨h.n, 0, none⟩) L.length cap := fr 8 rfl
    have h3 : ρ 3 = .slice (some ⟨h.n, 0, none⟩) L.length cap := fr 3 rfl
    clear fr
    simp only [go_sem, Nat.reduceBEq, Nat.reduceAdd, Nat.reduceLeDiff, Nat.reduceEqDiff, Nat.reduceMul, Nat.reduceLT, Int.reduceLE, Int.reduceLT, Int.reduceToNat, Int.reduceEq, Int.toNat_natCast, Nat.zero_add, Nat.add_zero, Int.ofNat_lt, Int.ofNat_le, Int.natCast_nonneg, decide_true, decide_false, Bool.false_eq_true, h10, h9]
    refine Two.mk (fun hlt => ?_) (fun hge => ?_)
    · simp only [go_sem, Nat.reduceBEq, Nat.reduceAdd, Nat.reduceLeDiff, Nat.reduceEqDiff, Nat.reduceMul, Nat.reduceLT, Int.reduceLE, Int.reduceLT, Int.reduceToNat, Int.reduceEq, Int.toNat_natCast, Nat.zero_add, Nat.add_zero, Int.ofNat_lt, Int.ofNat_le, Int.natCast_nonneg, decide_true, decide_false, Bool.false_eq_true, h10, h9, h8, h3, hlt, Nat.mul_one, lowX_get hlt, bv]
      have fin_ : ∃ g, Sub g ((h.put h.n (.cells (lowX L (List.replicate (cap - L.length) (Value.int .u8 0)) (i + 1)).toArray 5 (cap, cap + 1))).to (h.n + 1)) ∧
          (∃ i_1 : Nat, i_1 ≤ L.length ∧ Value.int IntKind.i64 (IntKind.i64.wrap ((i : Int) + 1)) = Value.int IntKind.i64 (i_1 : Int) ∧ g = (h.put h.n (.cells (lowX L (List.replicate (cap - L.length) (Value.int .u8 0)) i_1).toArray 5 (cap, cap + 1))).to (h.n + 1)) ∧
          L.length - (IntKind.i64.wrap ((i : Int) + 1)).toNat < L.length - i := by
        rw [wrap_i64_of (by omega) (by omega)]
        exact ⟨_, Sub.refl _, ⟨i + 1, by omega, rfl, rfl⟩, by omega⟩
      refine Two.mk (fun h1 => Two.mk (fun h2 => ?_) (fun h2 => ?_)) (fun h1 => ?_)
      · refine ⟨by rw [lowX_length]; omega, by omega, ?_⟩
        rw [lowB_up h1 h2, lowX_set hlt]
        exact fin_
      · rw [lowX_stay hlt (lowB_no (fun q => h2 q.2))]; exact fin_
      · rw [lowX_stay hlt (lowB_no (fun q => h1 q.1))]; exact fin_
    · have : i = L.length := by omega
      subst this
      simp only [go_sem, Nat.reduceBEq, Nat.reduceAdd, Nat.reduceLeDiff, Nat.reduceEqDiff, Nat.reduceMul, Nat.reduceLT, Int.reduceLE, Int.reduceLT, Int.reduceToNat, Int.reduceEq, Int.toNat_natCast, Nat.zero_add, Nat.add_zero, Int.ofNat_lt, Int.ofNat_le, Int.natCast_nonneg, decide_true, decide_false, Bool.false_eq_true, h10, h9, h8, h3, lowX_end]
      exact .sub (((Sub.refl h).put_new (hw.none (Nat.le_refl _)) _).to _) (hk _ (by omega))
def aggNames : List ByteArray := [⟨#[]⟩, ⟨#[115, 117, 109]⟩, ⟨#[109, 105, 110]⟩, ⟨#[109, 97, 120]⟩, ⟨#[99, 111, 117, 110, 116]⟩, ⟨#[102, 105, 114, 115, 116]⟩, ⟨#[108, 97, 115, 116]⟩, ⟨#[114, 97, 110, 103, 101]⟩]
def sName (k : Int) : ByteArray := if sRight k = true then aggNames.getD k.toNat ⟨#[]⟩ else ⟨#[]⟩
theorem c_name (kind : Int) (h : Hp) {K : CH} (hk : ∀ k, h.n ≤ k → K.go (.string (sName kind)) (h.to k)) : @Go1 _ (CallF Try.prog 16 #[.int .i64 kind] h) K := by
  refine go_of tab.mixed Try.func16 rfl Try.ntmps16 Try.results16 tab.ca16 (by kernel_rfl) (Nat.le_of_ble_eq_true rfl) fun hw => ?_
  simp only [go_sem, Nat.reduceBEq, Nat.reduceAdd, Nat.reduceLeDiff, Nat.reduceEqDiff, Nat.reduceMul, Nat.reduceLT, Int.reduceLE, Int.reduceLT, Int.reduceToNat, Int.reduceEq, Int.toNat_natCast, Nat.zero_add, Nat.add_zero, Int.ofNat_lt, Int.ofNat_le, Int.natCast_nonneg, decide_true, decide_false, Bool.false_eq_true]
  refine c_right _ _ ?_
  simp only [go_sem, Nat.reduceBEq, Nat.reduceAdd, Nat.reduceLeDiff, Nat.reduceEqDiff, Nat.reduceMul, Nat.reduceLT, Int.reduceLE, Int.reduceLT, Int.reduceToNat, Int.reduceEq, Int.toNat_natCast, Nat.zero_add, Nat.add_zero, Int.ofNat_lt, Int.ofNat_le, Int.natCast_nonneg, decide_true, decide_false, Bool.false_eq_true]
  refine Two.mk (fun h1 => ?_) (fun h1 => ?_)
  · refine c_names _ fun k hk2 => ?_
    simp only [sName, h1, if_true] at hk
    simp only [sRight, decide_eq_true_eq] at h1
    have kinds : kind = 1 ∨ kind = 2 ∨ kind = 3 ∨ kind = 4 ∨ kind = 5 ∨ kind = 6 ∨ kind = 7 := by omega
    rcases kinds with rfl | rfl | rfl | rfl | rfl | rfl | rfl
    all_goals
      simp only [go_sem, Nat.reduceBEq, Nat.reduceAdd, Nat.reduceLeDiff, Nat.reduceEqDiff, Nat.reduceMul, Nat.reduceLT, Int.reduceLE, Int.reduceLT, Int.reduceToNat, Int.reduceEq, Int.toNat_natCast, Nat.zero_add, Nat.add_zero, Int.ofNat_lt, Int.ofNat_le, Int.natCast_nonneg, decide_true, decide_false, Bool.false_eq_true]
      exact ⟨by decide, .here (hk _ hk2)⟩
  · simp only [sName, h1, if_false, Bool.false_eq_true] at hk
    exact .here (hk h.n (Nat.le_refl _))
def sParse (s : ByteArray) : Int × Int :=
  if (sLower s).data.toList = [115, 117, 109] then (1, 0) else if (sLower s).data.toList = [109, 105, 110] then (2, 0) else if (sLower s).data.toList = [109, 97, 120] then (3, 0) else if (sLower s).data.toList = [99, 111, 117, 110, 116] then (4, 0)
  else if (sLower s).data.toList = [102, 105, 114, 115, 116] then (5, 0) else if (sLower s).data.toList = [108, 97, 115, 116] then (6, 0) else if (sLower s).data.toList = [114, 97, 110, 103, 101] then (7, 0) else (0, 17)
theorem bext {a : ByteArray} {l : List UInt8} (e : a.data.toList = l) : a = ⟨l.toArray⟩ := by
  obtain ⟨⟨x⟩⟩ := a
  cases e; rfl
theorem c_parse (s : ByteArray) (h : Hp) (hl : (s.size : Int) ≤ 9223372036854775807) {K : CH} (hk : ∀ k, h.n ≤ k → K.go (.tuple #[.int .i64 (sParse s).1, .int .i64 (sParse s).2]) (h.to k)) : @Go1 _ (CallF Try.prog 12 #[.string s] h) K := by
  refine go_of tab.mixed Try.func12 rfl Try.ntmps12 Try.results12 tab.ca12 (by kernel_rfl) (Nat.le_of_ble_eq_true rfl) fun hw => ?_
  simp only [go_sem, Nat.reduceBEq, Nat.reduceAdd, Nat.reduceLeDiff, Nat.reduceEqDiff, Nat.reduceMul, Nat.reduceLT, Int.reduceLE, Int.reduceLT, Int.reduceToNat, Int.reduceEq, Int.toNat_natCast, Nat.zero_add, Nat.add_zero, Int.ofNat_lt, Int.ofNat_le, Int.natCast_nonneg, decide_true, decide_false, Bool.false_eq_true]
  refine c_names _ fun k hk2 => ?_
  simp only [go_sem, Nat.reduceBEq, Nat.reduceAdd, Nat.reduceLeDiff, Nat.reduceEqDiff, Nat.reduceMul, Nat.reduceLT, Int.reduceLE, Int.reduceLT, Int.reduceToNat, Int.reduceEq, Int.toNat_natCast, Nat.zero_add, Nat.add_zero, Int.ofNat_lt, Int.ofNat_le, Int.natCast_nonneg, decide_true, decide_false, Bool.false_eq_true]
  refine LoopI.rule [2, 3, 4, 5, 7, 8, 9, 10, 11, 12, 13, 14, 15, 16, 17, 18, 19, 20] (by kernel_rfl) (fun ρ g => ∃ i k : Nat, i ≤ 8 ∧ h.n ≤ k ∧ ρ 7 = .int .i64 i ∧ g = h.to k ∧ ∀ j, 1 ≤ j → j < i → sLower s ≠ aggNames.getD j ⟨#[]⟩) (fun ρ g => match ρ 7 with | .int _ i => 8 - i.toNat | _ => 0) ?_ ?_
  · exact ⟨0, k, by omega, hk2, rfl, rfl, fun j h1 h2 => by omega⟩
  · rintro ρ g ⟨i, k, hi, hk2, h7, rfl, hno⟩ hw2 fr
    have h6 : ρ 6 = .agg #[.string ⟨#[]⟩, .string ⟨#[115, 117, 109]⟩, .string ⟨#[109, 105, 110]⟩, .string ⟨#[109, 97, 120]⟩, .string ⟨#[99, 111, 117, 110, 116]⟩, .string ⟨#[102, 105, 114, 115, 116]⟩, .string ⟨#[108, 97, 115, 116]⟩, .string ⟨#[114, 97, 110, 103, 101]⟩] := fr 6 rfl
    have h0 : ρ 0 = .string s := fr 0 rfl
    clear fr
    have step : ∀ j : Nat, j = i → j < 8 → (1 ≤ j → sLower s ≠ aggNames.getD j ⟨#[]⟩) → ∀ k', h.n ≤ k' → ∃ g, Sub g (h.to k') ∧ (∃ i k : Nat, i ≤ 8 ∧ h.n ≤ k ∧ Value.int IntKind.i64 (IntKind.i64.wrap ((j : Int) + 1)) = Value.int IntKind.i64 (i : Int) ∧ g = h.to k ∧ ∀ j, 1 ≤ j → j < i → sLower s ≠ aggNames.getD j ⟨#[]⟩) ∧ 8 - (IntKind.i64.wrap ((j : Int) + 1)).toNat < 8 - j := fun j hj hj8 hn k' hk' => by
      subst hj
      rw [wrap_i64_of (by omega) (by omega)]
      refine ⟨_, Sub.refl _, ⟨j + 1, k', by omega, hk', rfl, rfl, fun m h1 h2 => ?_⟩, by omega⟩
      by_cases e : m = j
      · exact e ▸ hn (by omega)
      · exact hno m h1 (by omega)
    have cases8 : i = 0 ∨ i = 1 ∨ i = 2 ∨ i = 3 ∨ i = 4 ∨ i = 5 ∨ i = 6 ∨ i = 7 ∨ i = 8 := by omega
    rcases cases8 with rfl | rfl | rfl | rfl | rfl | rfl | rfl | rfl | rfl
    · have h7 : ρ 7 = .int .i64 0 := h7
      simp only [go_sem, Nat.reduceBEq, Nat.reduceAdd, Nat.reduceLeDiff, Nat.reduceEqDiff, Nat.reduceMul, Nat.reduceLT, Int.reduceLE, Int.reduceLT, Int.reduceToNat, Int.reduceEq, Int.toNat_natCast, Nat.zero_add, Nat.add_zero, Int.ofNat_lt, Int.ofNat_le, Int.natCast_nonneg, decide_true, decide_false, Bool.false_eq_true, h7, h6, h0]
      refine ⟨by decide, c_right _ _ ?_⟩
      simp only [go_sem, Nat.reduceBEq, Nat.reduceAdd, Nat.reduceLeDiff, Nat.reduceEqDiff, Nat.reduceMul, Nat.reduceLT, Int.reduceLE, Int.reduceLT, Int.reduceToNat, Int.reduceEq, Int.toNat_natCast, Nat.zero_add, Nat.add_zero, Int.ofNat_lt, Int.ofNat_le, Int.natCast_nonneg, decide_true, decide_false, Bool.false_eq_true, h7, h6, h0, show sRight 0 = false from rfl]
      exact step 0 rfl (by omega) (fun q => by omega) k hk2
    · have h7 : ρ 7 = .int .i64 1 := h7
      simp only [go_sem, Nat.reduceBEq, Nat.reduceAdd, Nat.reduceLeDiff, Nat.reduceEqDiff, Nat.reduceMul, Nat.reduceLT, Int.reduceLE, Int.reduceLT, Int.reduceToNat, Int.reduceEq, Int.toNat_natCast, Nat.zero_add, Nat.add_zero, Int.ofNat_lt, Int.ofNat_le, Int.natCast_nonneg, decide_true, decide_false, Bool.false_eq_true, h7, h6, h0]
      refine ⟨by decide, c_right _ _ ?_⟩
      simp only [go_sem, Nat.reduceBEq, Nat.reduceAdd, Nat.reduceLeDiff, Nat.reduceEqDiff, Nat.reduceMul, Nat.reduceLT, Int.reduceLE, Int.reduceLT, Int.reduceToNat, Int.reduceEq, Int.toNat_natCast, Nat.zero_add, Nat.add_zero, Int.ofNat_lt, Int.ofNat_le, Int.natCast_nonneg, decide_true, decide_false, Bool.false_eq_true, h7, h6, h0, show sRight 1 = true from rfl]
      refine c_lower s _ hl fun k2 hk3 => ?_
      simp only [go_sem, Nat.reduceBEq, Nat.reduceAdd, Nat.reduceLeDiff, Nat.reduceEqDiff, Nat.reduceMul, Nat.reduceLT, Int.reduceLE, Int.reduceLT, Int.reduceToNat, Int.reduceEq, Int.toNat_natCast, Nat.zero_add, Nat.add_zero, Int.ofNat_lt, Int.ofNat_le, Int.natCast_nonneg, decide_true, decide_false, Bool.false_eq_true, h7, h6, h0]
      refine Two.mk (fun q => .here ?_) (fun q => step 1 rfl (by omega) (fun _ e => q e.symm) k2 (Nat.le_trans hk2 hk3))
      have hp : sParse s = (1, 0) := by
        unfold sParse
        rw [← q]
        rfl
      rw [hp] at hk
      exact hk k2 (Nat.le_trans hk2 hk3)
    · have h7 : ρ 7 = .int .i64 2 := h7
      simp only [go_sem, Nat.reduceBEq, Nat.reduceAdd, Nat.reduceLeDiff, Nat.reduceEqDiff, Nat.reduceMul, Nat.reduceLT, Int.reduceLE, Int.reduceLT, Int.reduceToNat, Int.reduceEq, Int.toNat_natCast, Nat.zero_add, Nat.add_zero, Int.ofNat_lt, Int.ofNat_le, Int.natCast_nonneg, decide_true, decide_false, Bool.false_eq_true, h7, h6, h0]
      refine ⟨by decide, c_right _ _ ?_⟩
      simp only [go_sem, Nat.reduceBEq, Nat.reduceAdd, Nat.reduceLeDiff, Nat.reduceEqDiff, Nat.reduceMul, Nat.reduceLT, Int.reduceLE, Int.reduceLT, Int.reduceToNat, Int.reduceEq, Int.toNat_natCast, Nat.zero_add, Nat.add_zero, Int.ofNat_lt, Int.ofNat_le, Int.natCast_nonneg, decide_true, decide_false, Bool.false_eq_true, h7, h6, h0, show sRight 2 = true from rfl]
      refine c_lower s _ hl fun k2 hk3 => ?_
      simp only [go_sem, Nat.reduceBEq, Nat.reduceAdd, Nat.reduceLeDiff, Nat.reduceEqDiff, Nat.reduceMul, Nat.reduceLT, Int.reduceLE, Int.reduceLT, Int.reduceToNat, Int.reduceEq, Int.toNat_natCast, Nat.zero_add, Nat.add_zero, Int.ofNat_lt, Int.ofNat_le, Int.natCast_nonneg, decide_true, decide_false, Bool.false_eq_true, h7, h6, h0]
      refine Two.mk (fun q => .here ?_) (fun q => step 2 rfl (by omega) (fun _ e => q e.symm) k2 (Nat.le_trans hk2 hk3))
      have hp : sParse s = (2, 0) := by
        unfold sParse
        rw [← q]
        rfl
      rw [hp] at hk
      exact hk k2 (Nat.le_trans hk2 hk3)
    · have h7 : ρ 7 = .int .i64 3 := h7
      simp only [go_sem, Nat.reduceBEq, Nat.reduceAdd, Nat.reduceLeDiff, Nat.reduceEqDiff, Nat.reduceMul, Nat.reduceLT, Int.reduceLE, Int.reduceLT, Int.reduceToNat, Int.reduceEq, Int.toNat_natCast, Nat.zero_add, Nat.add_zero, Int.ofNat_lt, Int.ofNat_le, Int.natCast_nonneg, decide_true, decide_false, Bool.false_eq_true, h7, h6, h0]
      refine ⟨by decide, c_right _ _ ?_⟩
      simp only [go_sem, Nat.reduceBEq, Nat.reduceAdd, Nat.reduceLeDiff, Nat.reduceEqDiff, Nat.reduceMul, Nat.reduceLT, Int.reduceLE, Int.reduceLT, Int.reduceToNat, Int.reduceEq, Int.toNat_natCast, Nat.zero_add, Nat.add_zero, Int.ofNat_lt, Int.ofNat_le, Int.natCast_nonneg, decide_true, decide_false, Bool.false_eq_true, h7, h6, h0, show sRight 3 = true from rfl]
      refine c_lower s _ hl fun k2 hk3 => ?_
      simp only [go_sem, Nat.reduceBEq, Nat.reduceAdd, Nat.reduceLeDiff, Nat.reduceEqDiff, Nat.reduceMul, Nat.reduceLT, Int.reduceLE, Int.reduceLT, Int.reduceToNat, Int.reduceEq, Int.toNat_natCast, Nat.zero_add, Nat.add_zero, Int.ofNat_lt, Int.ofNat_le, Int.natCast_nonneg, decide_true, decide_false, Bool.false_eq_true, h7, h6, h0]
      refine Two.mk (fun q => .here ?_) (fun q => step 3 rfl (by omega) (fun _ e => q e.symm) k2 (Nat.le_trans hk2 hk3))
      have hp : sParse s = (3, 0) := by
        unfold sParse
        rw [← q]
        rfl
      rw [hp] at hk
      exact hk k2 (Nat.le_trans hk2 hk3)
    · have h7 : ρ 7 = .int .i64 4 := h7
      simp only [go_sem, Nat.reduceBEq, Nat.reduceAdd, Nat.reduceLeDiff, Nat.reduceEqDiff, Nat.reduceMul, Nat.reduceLT, Int.reduceLE, Int.reduceLT, Int.reduceToNat, Int.reduceEq, Int.toNat_natCast, Nat.zero_add, Nat.add_zero, Int.ofNat_lt, Int.ofNat_le, Int.natCast_nonneg, decide_true, decide_false, Bool.false_eq_true, h7, h6, h0]
      refine ⟨by decide, c_right _ _ ?_⟩
      simp only [go_sem, Nat.reduceBEq, Nat.reduceAdd, Nat.reduceLeDiff, Nat.reduceEqDiff, Nat.reduceMul, Nat.reduceLT, Int.reduceLE, Int.reduceLT, Int.reduceToNat, Int.reduceEq, Int.toNat_natCast, Nat.zero_add, Nat.add_zero, Int.ofNat_lt, Int.ofNat_le, Int.natCast_nonneg, decide_true, decide_false, Bool.false_eq_true, h7, h6, h0, show sRight 4 = true from rfl]
      refine c_lower s _ hl fun k2 hk3 => ?_
      simp only [go_sem, Nat.reduceBEq, Nat.reduceAdd, Nat.reduceLeDiff, Nat.reduceEqDiff, Nat.reduceMul, Nat.reduceLT, Int.reduceLE, Int.reduceLT, Int.reduceToNat, Int.reduceEq, Int.toNat_natCast, Nat.zero_add, Nat.add_zero, Int.ofNat_lt, Int.ofNat_le, Int.natCast_nonneg, decide_true, decide_false, Bool.false_eq_true, h7, h6, h0]
      refine Two.mk (fun q => .here ?_) (fun q => step 4 rfl (by omega) (fun _ e => q e.symm) k2 (Nat.le_trans hk2 hk3))
      have hp : sParse s = (4, 0) := by
        unfold sParse
        rw [← q]
        rfl
      rw [hp] at hk
      exact hk k2 (Nat.le_trans hk2 hk3)
    · have h7 : ρ 7 = .int .i64 5 := h7
      simp only [go_sem, Nat.reduceBEq, Nat.reduceAdd, Nat.reduceLeDiff, Nat.reduceEqDiff, Nat.reduceMul, Nat.reduceLT, Int.reduceLE, Int.reduceLT, Int.reduceToNat, Int.reduceEq, Int.toNat_natCast, Nat.zero_add, Nat.add_zero, Int.ofNat_lt, Int.ofNat_le, Int.natCast_nonneg, decide_true, decide_false, Bool.false_eq_true, h7, h6, h0]
      refine ⟨by decide, c_right _ _ ?_⟩
      simp only [go_sem, Nat.reduceBEq, Nat.reduceAdd, Nat.reduceLeDiff, Nat.reduceEqDiff, Nat.reduceMul, Nat.reduceLT, Int.reduceLE, Int.reduceLT, Int.reduceToNat, Int.reduceEq, Int.toNat_natCast, Nat.zero_add, Nat.add_zero, Int.ofNat_lt, Int.ofNat_le, Int.natCast_nonneg, decide_true, decide_false, Bool.false_eq_true, h7, h6, h0, show sRight 5 = true from rfl]
      refine c_lower s _ hl fun k2 hk3 => ?_
      simp only [go_sem, Nat.reduceBEq, Nat.reduceAdd, Nat.reduceLeDiff, Nat.reduceEqDiff, Nat.reduceMul, Nat.reduceLT, Int.reduceLE, Int.reduceLT, Int.reduceToNat, Int.reduceEq, Int.toNat_natCast, Nat.zero_add, Nat.add_zero, Int.ofNat_lt, Int.ofNat_le, Int.natCast_nonneg, decide_true, decide_false, Bool.false_eq_true, h7, h6, h0]
      refine Two.mk (fun q => .here ?_) (fun q => step 5 rfl (by omega) (fun _ e => q e.symm) k2 (Nat.le_trans hk2 hk3))
      have hp : sParse s = (5, 0) := by
        unfold sParse
        rw [← q]
        rfl
      rw [hp] at hk
      exact hk k2 (Nat.le_trans hk2 hk3)
    · have h7 : ρ 7 = .int .i64 6 := h7
      simp only [go_sem, Nat.reduceBEq, Nat.reduceAdd, Nat.reduceLeDiff, Nat.reduceEqDiff, Nat.reduceMul, Nat.reduceLT, Int.reduceLE, Int.reduceLT, Int.reduceToNat, Int.reduceEq, Int.toNat_natCast, Nat.zero_add, Nat.add_zero, Int.ofNat_lt, Int.ofNat_le, Int.natCast_nonneg, decide_true, decide_false, Bool.false_eq_true, h7, h6, h0]
      refine ⟨by decide, c_right _ _ ?_⟩
      simp only [go_sem, Nat.reduceBEq, Nat.reduceAdd, Nat.reduceLeDiff, Nat.reduceEqDiff, Nat.reduceMul, Nat.reduceLT, Int.reduceLE, Int.reduceLT, Int.reduceToNat, Int.reduceEq, Int.toNat_natCast, Nat.zero_add, Nat.add_zero, Int.ofNat_lt, Int.ofNat_le, Int.natCast_nonneg, decide_true, decide_false, Bool.false_eq_true, h7, h6, h0, show sRight 6 = true from rfl]
      refine c_lower s _ hl fun k2 hk3 => ?_
      simp only [go_sem, Nat.reduceBEq, Nat.reduceAdd, Nat.reduceLeDiff, Nat.reduceEqDiff, Nat.reduceMul, Nat.reduceLT, Int.reduceLE, Int.reduceLT, Int.reduceToNat, Int.reduceEq, Int.toNat_natCast, Nat.zero_add, Nat.add_zero, Int.ofNat_lt, Int.ofNat_le, Int.natCast_nonneg, decide_true, decide_false, Bool.false_eq_true, h7, h6, h0]
      refine Two.mk (fun q => .here ?_) (fun q => step 6 rfl (by omega) (fun _ e => q e.symm) k2 (Nat.le_trans hk2 hk3))
      have hp : sParse s = (6, 0) := by
        unfold sParse
        rw [← q]
        rfl
      rw [hp] at hk
      exact hk k2 (Nat.le_trans hk2 hk3)
    · have h7 : ρ 7 = .int .i64 7 := h7
      simp only [go_sem, Nat.reduceBEq, Nat.reduceAdd, Nat.reduceLeDiff, Nat.reduceEqDiff, Nat.reduceMul, Nat.reduceLT, Int.reduceLE, Int.reduceLT, Int.reduceToNat, Int.reduceEq, Int.toNat_natCast, Nat.zero_add, Nat.add_zero, Int.ofNat_lt, Int.ofNat_le, Int.natCast_nonneg, decide_true, decide_false, Bool.false_eq_true, h7, h6, h0]
      refine ⟨by decide, c_right _ _ ?_⟩
      simp only [go_sem, Nat.reduceBEq, Nat.reduceAdd, Nat.reduceLeDiff, Nat.reduceEqDiff, Nat.reduceMul, Nat.reduceLT, Int.reduceLE, Int.reduceLT, Int.reduceToNat, Int.reduceEq, Int.toNat_natCast, Nat.zero_add, Nat.add_zero, Int.ofNat_lt, Int.ofNat_le, Int.natCast_nonneg, decide_true, decide_false, Bool.false_eq_true, h7, h6, h0, show sRight 7 = true from rfl]
      refine c_lower s _ hl fun k2 hk3 => ?_
      simp only [go_sem, Nat.reduceBEq, Nat.reduceAdd, Nat.reduceLeDiff, Nat.reduceEqDiff, Nat.reduceMul, Nat.reduceLT, Int.reduceLE, Int.reduceLT, Int.reduceToNat, Int.reduceEq, Int.toNat_natCast, Nat.zero_add, Nat.add_zero, Int.ofNat_lt, Int.ofNat_le, Int.natCast_nonneg, decide_true, decide_false, Bool.false_eq_true, h7, h6, h0]
      refine Two.mk (fun q => .here ?_) (fun q => step 7 rfl (by omega) (fun _ e => q e.symm) k2 (Nat.le_trans hk2 hk3))
      have hp : sParse s = (7, 0) := by
        unfold sParse
        rw [← q]
        rfl
      rw [hp] at hk
      exact hk k2 (Nat.le_trans hk2 hk3)
    · have h7 : ρ 7 = .int .i64 8 := h7
      simp only [go_sem, Nat.reduceBEq, Nat.reduceAdd, Nat.reduceLeDiff, Nat.reduceEqDiff, Nat.reduceMul, Nat.reduceLT, Int.reduceLE, Int.reduceLT, Int.reduceToNat, Int.reduceEq, Int.toNat_natCast, Nat.zero_add, Nat.add_zero, Int.ofNat_lt, Int.ofNat_le, Int.natCast_nonneg, decide_true, decide_false, Bool.false_eq_true, h7, h6, h0]
      have hp : sParse s = (0, 17) := by
        unfold sParse
        rw [if_neg (show ¬ (sLower s).data.toList = [115, 117, 109] from fun e => hno 1 (by omega) (by omega) (bext e)), if_neg (show ¬ (sLower s).data.toList = [109, 105, 110] from fun e => hno 2 (by omega) (by omega) (bext e)), if_neg (show ¬ (sLower s).data.toList = [109, 97, 120] from fun e => hno 3 (by omega) (by omega) (bext e)), if_neg (show ¬ (sLower s).data.toList = [99, 111, 117, 110, 116] from fun e => hno 4 (by omega) (by omega) (bext e)), if_neg (show ¬ (sLower s).data.toList = [102, 105, 114, 115, 116] from fun e => hno 5 (by omega) (by omega) (bext e)), if_neg (show ¬ (sLower s).data.toList = [108, 97, 115, 116] from fun e => hno 6 (by omega) (by omega) (bext e)), if_neg (show ¬ (sLower s).data.toList = [114, 97, 110, 103, 101] from fun e => hno 7 (by omega) (by omega) (bext e))]
      rw [hp] at hk
      exact .here (hk k hk2)
end Go.Proofs.Ytaejmcgcfopmkaa
