/- Texts of our own, joined: the engine, the machine that runs code, and what is known of the functions. -/
import Derived.Test.YtkhfdjhohfebgaaJh
import Derived.Test.YtkhfdjhohfebgaaJg
set_option linter.unusedSimpArgs false
set_option linter.unusedVariables false
namespace Go.Proofs.Ytkhfdjhohfebgaa
open Go Go.RowKit
noncomputable def GZc : FuncId → EP := withD 7 [] GY
theorem GZc_ok (hG : NatP 39 natGa) (hK : NatP 15 natKn) : TabP GZc := withD_ok (GY_ok hG hK) (by kernel_rfl) (by kernel_rfl)
theorem rNum4 (V : List Int) : rNum 4 V = (V.length : Int) := by
  unfold rNum
  rw [if_pos (by decide : sRight 4 = true)]
  cases V with
  | nil => rfl
  | cons x r => simp [rVal]
def cntF (X : List Smp) (t : Int) : Nat := (X.flatten.filter fun x => x.1 == t).length
theorem rr4 (X : List Smp) : rreduceF 4 X = (tRef X.flatten).map fun t => (t, (cntF X t : Int)) := by
  unfold rreduceF
  rw [if_pos (by decide : sRight 4 = true)]
  refine List.map_congr_left fun t _ => ?_
  unfold rOne cntF
  rw [rNum4]; unfold vals; rw [List.length_map]
theorem sumN_snoc (l : List Nat) (a : Nat) : sumN (l ++ [a]) = sumN l + a := by
  induction l with
  | nil => simp [sumN]
  | cons b l ih => simp only [List.cons_append, sumN, ih]; omega
noncomputable def ca0 (X : List Smp) (i : Nat) : AE × AH := (mkE [(0, .fr X.length 1 (rowsC X)), (3, .si .i64 (((X.take i).flatten.length : Nat))), (4, .si .i64 (i))], mkH [])
theorem ca0_cov {X : List Smp} {i : Nat} {p n : Nat} {σ : AE} {H : AH} (hp : p ≤ 0) (e0 : getq (pa 0) σ = .fr X.length 1 (rowsC X)) (e3 : mk (getq (pa 3) σ) = .si .i64 (((X.take i).flatten.length : Nat))) (e4 : mk (getq (pa 4) σ) = .si .i64 (i)) : Cov p σ H n ((ca0 X i).1, (ca0 X i).2, 0) := by
  refine Cov.ofR (fun b => b) (by omega) (fun b hb => rfl) ?_ ?_ ?_
  · intro x hx
    simp only [List.mem_cons, List.not_mem_nil, or_false] at hx
    rcases hx with rfl | rfl | rfl
    · exact SubV.frE e0
    · exact .int e3
    · exact .int e4
  · intro x hx
    cases hx
  · intro x hx y hy
    cases hx
noncomputable def cb0 (X : List Smp) (R : Smp) (s : Nat) (j : Nat) : AE × AH := (mkE [(3, .si .i64 ((X.flatten.length : Nat))), (5, .si .i64 (s)), (6, .fr R.length 2 (smp R)), (7, .si .i64 (j))], mkH [])
theorem cb0_cov {X : List Smp} {R : Smp} {s : Nat} {j : Nat} {p n : Nat} {σ : AE} {H : AH} (hp : p ≤ 0) (e3 : mk (getq (pa 3) σ) = .si .i64 ((X.flatten.length : Nat))) (e5 : mk (getq (pa 5) σ) = .si .i64 (s)) (e6 : getq (pa 6) σ = .fr R.length 2 (smp R)) (e7 : mk (getq (pa 7) σ) = .si .i64 (j)) : Cov p σ H n ((cb0 X R s j).1, (cb0 X R s j).2, 0) := by
  refine Cov.ofR (fun b => b) (by omega) (fun b hb => rfl) ?_ ?_ ?_
  · intro x hx
    simp only [List.mem_cons, List.not_mem_nil, or_false] at hx
    rcases hx with rfl | rfl | rfl | rfl
    · exact .int e3
    · exact .int e5
    · exact SubV.frE e6
    · exact .int e7
  · intro x hx
    cases hx
  · intro x hx y hy
    cases hx
set_option maxHeartbeats 8000000 in
set_option maxRecDepth 100000 in
theorem w_groupCounts (X : List Smp) (hX : ∀ L ∈ X, ∀ x ∈ L, In64 x.1 ∧ In64 x.2) (hl : X.length ≤ 8796093022208) : callT GZc 3 7 [.fr X.length 1 (rowsC X)] .nil 0 fun u _ _ => u = .bool true ∨ u = .sb true := by
  conv => whnf
  refine ⟨X, rfl, hl, ?_⟩
  conv => whnf
  refine Fork.dec (fun h1 => ?_) (fun h1 => ?_)
  · conv => whnf
    exact .inr rfl
  · have hs := light_small h1
    have hR := (reduce_eq (k := 4) hX (Nat.le_trans hs.2 (by decide))).trans (rr4 X)
    have hTl : (tRef X.flatten).length ≤ 80 := Nat.le_trans (tRef_len _) hs.2
    have hall : sumN ((tRef X.flatten).map (cntF X)) = X.flatten.length := by have := counts_sum X; rw [times_eq] at this; exact this
    conv => whnf
    refine LoopP.mk { i : Nat // i ≤ X.length } 0 (fun i => ca0 X i.val) (fun i => X.length - i.val) ⟨0, Nat.zero_le _⟩ ?_ ?_
    · exact ca0_cov (i := 0) (Nat.le_refl 0) rfl rfl rfl
    · intro ⟨i, hi⟩
      conv => whnf
      refine Fork.dec (fun h3 => ?_) (fun h3 => ?_)
      · have h4 : i < X.length := Int.ofNat_lt.1 h3
        have hlt : X.length - (i + 1) < X.length - i := by omega
        have hw : IntKind.i64.wrap ((i : Int) + 1) = ((i + 1 : Nat) : Int) := by rw [wrap_i64_of (by omega) (by omega)]; omega
        have hfl := flat_take_len X (i + 1)
        have hsn := congrArg List.length (flat_take_succ h4)
        rw [List.length_append] at hsn
        have hw2 : IntKind.i64.wrap (((X.take i).flatten.length : Int) + (X[i].length : Int)) = ((X.take (i + 1)).flatten.length : Nat) := by rw [hsn, wrap_i64_of (by omega) (by omega)]; omega
        conv => whnf
        refine Idx.mk i rfl h4 ?_
        conv => whnf
        refine optP_of (rowsC_nth h4 (Nat.mul_one _)) ?_
        conv => whnf
        exact ⟨⟨i + 1, h4⟩, hlt, ca0_cov (Nat.le_refl 0) rfl (congrArg (AV.si .i64) hw2) (congrArg (AV.si .i64) hw)⟩
      · have h4 : i = X.length := by have : ¬ (i : Int) < (X.length : Int) := h3; omega
        have h5 : (X.take i).flatten.length = X.flatten.length := by rw [h4, List.take_length]
        conv => whnf
        refine ⟨X, .inl rfl, by omega, ?_⟩
        conv => whnf
        refine LoopP.mk { j : Nat // j ≤ (tRef X.flatten).length } 0 (fun j => cb0 X ((tRef X.flatten).map fun t => (t, (cntF X t : Int))) (sumN (((tRef X.flatten).take j.val).map (cntF X))) j.val) (fun j => (tRef X.flatten).length - j.val) ⟨0, Nat.zero_le _⟩ ?_ ?_
        · exact cb0_cov (s := 0) (j := 0) (Nat.le_refl 0) (congrArg (fun n : Nat => AV.si .i64 (n : Int)) h5) rfl (fr_eq (by rw [hR]) (by rw [hR])) rfl
        · intro ⟨j, hj⟩
          have hRl : ((tRef X.flatten).map fun t => (t, (cntF X t : Int))).length = (tRef X.flatten).length := List.length_map _
          conv => whnf
          refine Fork.dec (fun h6 => ?_) (fun h6 => ?_)
          · have h7 : j < ((tRef X.flatten).map fun t => (t, (cntF X t : Int))).length := Int.ofNat_lt.1 h6
            have h8 : j < (tRef X.flatten).length := by omega
            have hlt : (tRef X.flatten).length - (j + 1) < (tRef X.flatten).length - j := by omega
            have hw : IntKind.i64.wrap ((j : Int) + 1) = ((j + 1 : Nat) : Int) := by rw [wrap_i64_of (by omega) (by omega)]; omega
            have hsn : sumN (((tRef X.flatten).take (j + 1)).map (cntF X)) = sumN (((tRef X.flatten).take j).map (cntF X)) + cntF X (tRef X.flatten)[j] := by
              rw [List.take_succ_eq_append_getElem h8, List.map_append]; exact sumN_snoc _ _
            have hb : sumN (((tRef X.flatten).take (j + 1)).map (cntF X)) ≤ 80 := by
              have hsp : ∀ a b : List Nat, sumN a ≤ sumN (a ++ b) := fun a b => by
                induction a with
                | nil => exact Nat.zero_le _
                | cons x a ih => simp only [List.cons_append, sumN]; omega
              have := hsp (((tRef X.flatten).take (j + 1)).map (cntF X)) (((tRef X.flatten).drop (j + 1)).map (cntF X))
              rw [← List.map_append, List.take_append_drop, hall] at this
              omega
            have hv : ((tRef X.flatten).map fun t => (t, (cntF X t : Int)))[j].2 = (cntF X (tRef X.flatten)[j] : Int) := by simp
            have hw2 : IntKind.i64.wrap ((sumN (((tRef X.flatten).take j).map (cntF X)) : Int) + ((tRef X.flatten).map fun t => (t, (cntF X t : Int)))[j].2) = (sumN (((tRef X.flatten).take (j + 1)).map (cntF X)) : Nat) := by
              rw [hv, hsn, wrap_i64_of (by omega) (by omega)]; omega
            conv => whnf
            refine Idx.mk j rfl h7 ?_
            conv => whnf
            refine optP_of (smp_nth1 h7 rfl) ?_
            conv => whnf
            exact ⟨⟨j + 1, h8⟩, hlt, cb0_cov (Nat.le_refl 0) rfl (congrArg (AV.si .i64) hw2) rfl (congrArg (AV.si .i64) hw)⟩
          · have h7 : j = (tRef X.flatten).length := by have : ¬ (j : Int) < (((tRef X.flatten).map fun t => (t, (cntF X t : Int))).length : Int) := h6; omega
            have h8 : (sumN (((tRef X.flatten).take j).map (cntF X)) : Int) = (X.flatten.length : Nat) := by rw [h7, List.take_length, hall]
            conv => whnf
            refine Fork.dec (fun _ => ?_) (fun h => absurd h8 h)
            conv => whnf
            exact .inr rfl
end Go.Proofs.Ytkhfdjhohfebgaa
namespace Go.Proofs.Ytkhfdjhohfebgaa
open Go Go.RowKit
theorem foldl_op {op : Int → Int → Int} (ha : ∀ a b c, op (op a b) c = op a (op b c)) : ∀ (s : List Int) (c y : Int), s.foldl op (op c y) = op c (s.foldl op y)
  | [], c, y => rfl
  | z :: s, c, y => by
    simp only [List.foldl_cons]
    rw [ha, foldl_op ha s]
def opK (k : Int) : Int → Int → Int := if k = 2 then min else max
theorem opK_assoc (k a b c : Int) : opK k (opK k a b) c = opK k a (opK k b c) := by
  unfold opK; split <;> omega
theorem rNum_op {k : Int} (hk : k = 2 ∨ k = 3) (x : Int) (r : List Int) : rNum k (x :: r) = r.foldl (opK k) x := by
  rcases hk with rfl | rfl
  · show (if sRight 2 = true then rVal 2 x r else 0) = _
    rw [if_pos (by decide)]; rfl
  · show (if sRight 3 = true then rVal 3 x r else 0) = _
    rw [if_pos (by decide)]; rfl
theorem rNum_app {k : Int} (hk : k = 2 ∨ k = 3) {V W : List Int} (hV : V ≠ []) (hW : W ≠ []) : rNum k (V ++ W) = rNum k [rNum k V, rNum k W] := by
  cases V with
  | nil => exact absurd rfl hV
  | cons x r =>
    cases W with
    | nil => exact absurd rfl hW
    | cons y s =>
      rw [List.cons_append, rNum_op hk, rNum_op hk, rNum_op hk, rNum_op hk]
      rw [List.foldl_append, List.foldl_cons, foldl_op (opK_assoc k)]; rfl
theorem rNum_one {k : Int} (hk : k = 2 ∨ k = 3) (a : Int) : rNum k [a] = a := by rw [rNum_op hk]; rfl
/-- What is made for a time, among what is made. -/
theorem made_at {f : Int → Int} : ∀ (T : List Int), T.Nodup → ∀ t, ((T.map fun s => (s, f s)).filter fun x => x.1 == t) = if t ∈ T then [(t, f t)] else []
  | [], _, t => by simp
  | s :: T, hn, t => by
    obtain ⟨h1, h2⟩ := List.nodup_cons.1 hn
    have ih := made_at (f := f) T h2 t
    rw [List.map_cons, List.filter_cons]
    by_cases e : s = t
    · subst e
      rw [if_pos (by simp), if_pos List.mem_cons_self, ih, if_neg h1]
    · rw [if_neg (by simpa using e), ih]
      by_cases q : t ∈ T
      · rw [if_pos q, if_pos (List.mem_cons_of_mem _ q)]
      · rw [if_neg q, if_neg (fun h => (List.mem_cons.1 h).elim (fun h => e h.symm) q)]
theorem strict_nodup {T : List Int} (h : T.Pairwise (· < ·)) : T.Nodup := h.imp fun h => by omega
theorem tRef_at (L : Smp) : (tRef L).Pairwise (· < ·) ∧ ∀ t, t ∈ tRef L ↔ ∃ x ∈ L, x.1 = t := by
  obtain ⟨h1, h2⟩ := tRef_spec L [] .nil
  exact ⟨h1, fun t => (h2 t).trans (by simp)⟩
theorem tRef_same {L M : Smp} (h : ∀ t, (∃ x ∈ L, x.1 = t) ↔ ∃ x ∈ M, x.1 = t) : tRef L = tRef M := by
  obtain ⟨h1, h2⟩ := tRef_at L
  obtain ⟨h3, h4⟩ := tRef_at M
  refine sorted_eq ((List.perm_ext_iff_of_nodup (strict_nodup h1) (strict_nodup h3)).2 fun t => ?_) (h1.imp fun h => by omega) (h3.imp fun h => by omega)
  rw [h2, h4]; exact h t
theorem vals_ne {L : Smp} {t : Int} (h : t ∈ tRef L) : vals (L.filter fun x => x.1 == t) ≠ [] := fun e => by
  obtain ⟨x, h1, h2⟩ := ((tRef_at L).2 t).1 h
  have : x ∈ L.filter fun x => x.1 == t := List.mem_filter.2 ⟨h1, by simpa using h2⟩
  unfold vals at e
  rw [List.map_eq_nil_iff.1 e] at this
  cases this
theorem vals_no {L : Smp} {t : Int} (h : t ∉ tRef L) : L.filter (fun x => x.1 == t) = [] := by
  rw [List.filter_eq_nil_iff]
  intro x hx e
  exact h (((tRef_at L).2 t).2 ⟨x, hx, by simpa using e⟩)
theorem split_law {k : Int} (hk : k = 2 ∨ k = 3) (A B : List Smp) : rreduceF k [rreduceF k A, rreduceF k B] = rreduceF k (A ++ B) := by
  have hr : sRight k = true := by rcases hk with rfl | rfl <;> rfl
  have hF : ∀ X, rreduceF k X = (tRef X.flatten).map (rOne k X) := fun X => if_pos hr
  have hA := tRef_at A.flatten
  have hB := tRef_at B.flatten
  have mA : ∀ t, (∃ x ∈ rreduceF k A, x.1 = t) ↔ t ∈ tRef A.flatten := fun t => by
    rw [hF]
    constructor
    · rintro ⟨x, h1, h2⟩
      obtain ⟨s, h3, rfl⟩ := List.mem_map.1 h1
      rw [← h2]; exact h3
    · intro h; exact ⟨_, List.mem_map.2 ⟨t, h, rfl⟩, rfl⟩
  have mB : ∀ t, (∃ x ∈ rreduceF k B, x.1 = t) ↔ t ∈ tRef B.flatten := fun t => by
    rw [hF]
    constructor
    · rintro ⟨x, h1, h2⟩
      obtain ⟨s, h3, rfl⟩ := List.mem_map.1 h1
      rw [← h2]; exact h3
    · intro h; exact ⟨_, List.mem_map.2 ⟨t, h, rfl⟩, rfl⟩
  have hf2 : ([rreduceF k A, rreduceF k B] : List Smp).flatten = rreduceF k A ++ rreduceF k B := by simp
  have ht : tRef (rreduceF k A ++ rreduceF k B) = tRef (A.flatten ++ B.flatten) := tRef_same fun t => by
    constructor
    · rintro ⟨x, h1, h2⟩
      rcases List.mem_append.1 h1 with h1 | h1
      · obtain ⟨y, h3, h4⟩ := (hA.2 t).1 ((mA t).1 ⟨x, h1, h2⟩)
        exact ⟨y, List.mem_append_left _ h3, h4⟩
      · obtain ⟨y, h3, h4⟩ := (hB.2 t).1 ((mB t).1 ⟨x, h1, h2⟩)
        exact ⟨y, List.mem_append_right _ h3, h4⟩
    · rintro ⟨x, h1, h2⟩
      rcases List.mem_append.1 h1 with h1 | h1
      · obtain ⟨y, h3, h4⟩ := (mA t).2 ((hA.2 t).2 ⟨x, h1, h2⟩)
        exact ⟨y, List.mem_append_left _ h3, h4⟩
      · obtain ⟨y, h3, h4⟩ := (mB t).2 ((hB.2 t).2 ⟨x, h1, h2⟩)
        exact ⟨y, List.mem_append_right _ h3, h4⟩
  rw [hF [rreduceF k A, rreduceF k B], hF (A ++ B), hf2, List.flatten_append, ht]
  refine List.map_congr_left fun t hm => ?_
  unfold rOne
  rw [hf2, List.flatten_append, List.filter_append, List.filter_append]
  have eA : (rreduceF k A).filter (fun x => x.1 == t) = if t ∈ tRef A.flatten then [rOne k A t] else [] := by rw [hF]; exact made_at _ (strict_nodup hA.1) t
  have eB : (rreduceF k B).filter (fun x => x.1 == t) = if t ∈ tRef B.flatten then [rOne k B t] else [] := by rw [hF]; exact made_at _ (strict_nodup hB.1) t
  rw [eA, eB]
  have va : ∀ L M : Smp, vals (L ++ M) = vals L ++ vals M := fun L M => by simp [vals]
  congr 1
  rw [va, va]
  by_cases h1 : t ∈ tRef A.flatten <;> by_cases h2 : t ∈ tRef B.flatten
  · rw [if_pos h1, if_pos h2, rNum_app hk (vals_ne h1) (vals_ne h2)]; rfl
  · rw [if_pos h1, if_neg h2, vals_no h2]
    show rNum k [rNum k _] = rNum k (vals _ ++ [])
    rw [rNum_one hk, List.append_nil]
  · rw [if_neg h1, if_pos h2, vals_no h1]
    show rNum k [rNum k _] = rNum k ([] ++ vals _)
    rw [rNum_one hk, List.nil_append]
  · exfalso
    obtain ⟨x, h3, h4⟩ := ((tRef_at (A.flatten ++ B.flatten)).2 t).1 hm
    rcases List.mem_append.1 h3 with h3 | h3
    · exact h1 ((hA.2 t).2 ⟨x, h3, h4⟩)
    · exact h2 ((hB.2 t).2 ⟨x, h3, h4⟩)
end Go.Proofs.Ytkhfdjhohfebgaa
namespace Go.Proofs.Ytkhfdjhohfebgaa
open Go Go.RowKit
noncomputable def GZs : FuncId → EP := withD 6 [] GY
theorem GZs_ok (hG : NatP 39 natGa) (hK : NatP 15 natKn) : TabP GZs := withD_ok (GY_ok hG hK) (by kernel_rfl) (by kernel_rfl)
theorem tyX : RTy 22 22 1 24 := ⟨_, _, _, rfl, rfl, (fun q h => by cases h), rfl, rfl, rfl, rfl, by decide, by decide⟩
theorem rowsC_app (A B : List Smp) : rowsC A ++ rowsC B = rowsC (A ++ B) := by simp [rowsC]
theorem rowsC_one (A : List Smp) : (rowsC A).all one1 = true := by simp [rowsC, one1]
theorem reduce_len {k : Int} {X : List Smp} : (reduceF k X).length ≤ X.flatten.length := by
  unfold reduceF
  split
  · rw [List.length_map, times_eq]; exact tRef_len _
  · exact Nat.zero_le _
theorem fold_in {k : Int} (hk : k = 2 ∨ k = 3) : ∀ (r : List Int) (x : Int), In64 x → (∀ y ∈ r, In64 y) → In64 (r.foldl (opK k) x)
  | [], x, hx, _ => hx
  | y :: r, x, hx, hr => fold_in hk r (opK k x y) (by
      have hy := hr y List.mem_cons_self
      unfold opK In64 at *
      split <;> omega) fun z hz => hr z (List.mem_cons_of_mem _ hz)
theorem reduce_in {k : Int} (hk : k = 2 ∨ k = 3) {X : List Smp} (hX : ∀ L ∈ X, ∀ x ∈ L, In64 x.1 ∧ In64 x.2) (hl : X.flatten.length ≤ 900) : ∀ x ∈ reduceF k X, In64 x.1 ∧ In64 x.2 := fun x hx => by
  have hfl : ∀ x ∈ X.flatten, In64 x.1 ∧ In64 x.2 := fun x hx => by
    obtain ⟨L, h1, h2⟩ := List.mem_flatten.1 hx
    exact hX L h1 x h2
  rw [reduce_eq hX (by omega)] at hx
  have hr : sRight k = true := by rcases hk with rfl | rfl <;> rfl
  rw [show rreduceF k X = (tRef X.flatten).map (rOne k X) from if_pos hr] at hx
  obtain ⟨t, h1, rfl⟩ := List.mem_map.1 hx
  have hne := vals_ne h1
  obtain ⟨y, h2, h3⟩ := ((tRef_at X.flatten).2 t).1 h1
  refine ⟨by rw [show (rOne k X t).1 = y.1 from h3.symm]; exact (hfl y h2).1, ?_⟩
  show In64 (rNum k (vals (X.flatten.filter fun x => x.1 == t)))
  have hv : ∀ v ∈ vals (X.flatten.filter fun x => x.1 == t), In64 v := fun v hv => by
    simp only [vals, List.mem_map] at hv
    obtain ⟨z, h4, rfl⟩ := hv
    exact (hfl z (List.mem_filter.1 h4).1).2
  generalize vals (X.flatten.filter fun x => x.1 == t) = V at hne hv
  cases V with
  | nil => exact absurd rfl hne
  | cons a r => rw [rNum_op hk]; exact fold_in hk r a (hv a List.mem_cons_self) fun z hz => hv z (List.mem_cons_of_mem _ hz)
theorem lightS_flat9 (X : List Smp) (h : lightS X ≤ 900) : X.flatten.length ≤ 900 := by
  have key : ∀ (X : List Smp) (a : Nat), (X.map fun L => min L.length 1000).foldl (· + ·) a ≤ 900 → a + X.flatten.length ≤ 900 := fun X => by
    induction X with
    | nil => intro a h; simpa using h
    | cons L X ih =>
      intro a h
      have h1 := ih (a + min L.length 1000) (by simpa using h)
      simp only [List.flatten_cons, List.length_append]; omega
  simpa using key X 0 (by simpa [lightS] using h)
set_option maxHeartbeats 8000000 in
set_option maxRecDepth 100000 in
theorem w_groupSplit (g : Bool) (A B : List Smp) (hA : ∀ L ∈ A, ∀ x ∈ L, In64 x.1 ∧ In64 x.2) (lA : A.length ≤ 8796093022208) (hB : ∀ L ∈ B, ∀ x ∈ L, In64 x.1 ∧ In64 x.2) (lB : B.length ≤ 8796093022208) :
    callT GZs 3 6 [.sb g, .fr A.length 1 (rowsC A), .fr B.length 1 (rowsC B)] .nil 0 fun u _ _ => u = .bool true ∨ u = .sb true := by
  conv => whnf
  refine ⟨A, rfl, lA, ?_⟩
  conv => whnf
  refine ⟨B, rfl, lB, ?_⟩
  conv => whnf
  refine Fork.dec (fun h1 => ?_) (fun h1 => ?_)
  · conv => whnf
    exact .inr rfl
  · have bA := lightS_le A
    have bB := lightS_le B
    have h2 : ¬ (100 : Int) < lightF A + lightF B := by
      have h1 : ¬ (100 : Int) < IntKind.i64.wrap (lightF A + lightF B) := h1
      rwa [wrap_i64_of (by unfold lightF; omega) (by unfold lightF; omega)] at h1
    unfold lightF at h2
    have fA := lightS_flat9 A (by omega)
    have fB := lightS_flat9 B (by omega)
    have hA1 : (rowsC A).length = A.length * 1 := by rw [rowsC_length, Nat.mul_one]
    have hB1 : (rowsC B).length = B.length * 1 := by rw [rowsC_length, Nat.mul_one]
    have hbA : (0 + A.length) * 24 ≤ 140737488355328 := by omega
    have hbB : (0 + A.length + B.length) * 24 ≤ 140737488355328 := by omega
    have hAO : subL ([] ++ rowsC A) 0 ((0 + A.length) * 1) = some ([] ++ rowsC A) := subL_all (by rw [List.nil_append, rowsC_length]; omega)
    have hlAB : 0 + A.length + B.length = (A ++ B).length := by rw [List.length_append]; omega
    have hAB : subL ([] ++ rowsC A ++ rowsC B) 0 ((A ++ B).length * 1) = some (rowsC (A ++ B)) := by rw [List.nil_append, rowsC_app]; exact subL_all (by rw [rowsC_length, Nat.mul_one])
    have key : ∀ k : Int, k = 2 ∨ k = 3 → (reduceF k A).length ≤ 900 ∧ (reduceF k B).length ≤ 900 ∧ (reduceF k [reduceF k A, reduceF k B]).length ≤ 1000000 ∧ reduceF k [reduceF k A, reduceF k B] = reduceF k (A ++ B) := fun k hk => by
      have r1 : (reduceF k A).length ≤ 900 := Nat.le_trans reduce_len fA
      have r2 : (reduceF k B).length ≤ 900 := Nat.le_trans reduce_len fB
      have hf : ([reduceF k A, reduceF k B] : List Smp).flatten.length ≤ 1800 := by simp only [List.flatten_cons, List.flatten_nil, List.length_append, List.length_nil]; omega
      refine ⟨r1, r2, Nat.le_trans reduce_len (by omega), ?_⟩
      have eA := reduce_eq (k := k) hA (by omega)
      have eB := reduce_eq (k := k) hB (by omega)
      have inA : ∀ L ∈ ([reduceF k A, reduceF k B] : List Smp), ∀ x ∈ L, In64 x.1 ∧ In64 x.2 := fun L hL x hx => by
        simp only [List.mem_cons, List.not_mem_nil, or_false] at hL
        rcases hL with rfl | rfl
        · exact reduce_in hk hA fA x hx
        · exact reduce_in hk hB fB x hx
      rw [reduce_eq inA (by omega), eA, eB, reduce_eq (X := A ++ B) (fun L hL => (List.mem_append.1 hL).elim (hA L) (hB L)) (by rw [List.flatten_append, List.length_append]; omega), split_law hk]
    conv => whnf
    refine Fork.sb (fun hg => ?_) (fun hg => ?_)
    · obtain ⟨r1, r2, hRl, hE⟩ := key 3 (.inr rfl)
      conv => whnf
      refine RApp.grow 1 24 _ _ _ _ _ _ tyX .fr hA1 (rowsC_one _) (.sl rfl rfl (Nat.le_refl _) (by decide)) hbA ?_
      conv => whnf
      refine RApp.grow 1 24 _ _ _ _ _ _ tyX .fr hB1 (rowsC_one _) (.rw rfl hAO) hbB ?_
      conv => whnf
      refine ⟨A, .inl rfl, by omega, ?_⟩
      conv => whnf
      refine ⟨B, .inl rfl, by omega, ?_⟩
      conv => whnf
      refine ⟨[reduceF 3 A, reduceF 3 B], .inr (.inr ⟨_, 0, 2, 0, _, rfl, .inr ⟨_, rfl⟩, rfl, Nat.le_refl 2⟩), by simp only [List.flatten_cons, List.flatten_nil, List.length_append, List.length_cons, List.length_nil]; omega, ?_⟩
      conv => whnf
      refine ⟨A ++ B, .inr (.inl ⟨_, 0, 0, _, ⟨(congrArg (fun n => AV.rw _ 0 n 1 0) (hlAB : _ = (A ++ B).length)), by decide⟩, .inr ⟨_, rfl⟩, hAB⟩), by rw [List.length_append, List.flatten_append, List.length_append]; omega, ?_⟩
      conv => whnf
      refine ⟨reduceF 3 [reduceF 3 A, reduceF 3 B], reduceF 3 (A ++ B), rfl, rfl, hRl, ?_⟩
      conv => whnf
      refine Fork.dec (fun _ => ?_) (fun h => absurd hE h)
      conv => whnf
      first | exact .inr rfl | exact .inl rfl
    · obtain ⟨r1, r2, hRl, hE⟩ := key 2 (.inl rfl)
      conv => whnf
      refine RApp.grow 1 24 _ _ _ _ _ _ tyX .fr hA1 (rowsC_one _) (.sl rfl rfl (Nat.le_refl _) (by decide)) hbA ?_
      conv => whnf
      refine RApp.grow 1 24 _ _ _ _ _ _ tyX .fr hB1 (rowsC_one _) (.rw rfl hAO) hbB ?_
      conv => whnf
      refine ⟨A, .inl rfl, by omega, ?_⟩
      conv => whnf
      refine ⟨B, .inl rfl, by omega, ?_⟩
      conv => whnf
      refine ⟨[reduceF 2 A, reduceF 2 B], .inr (.inr ⟨_, 0, 2, 0, _, rfl, .inr ⟨_, rfl⟩, rfl, Nat.le_refl 2⟩), by simp only [List.flatten_cons, List.flatten_nil, List.length_append, List.length_cons, List.length_nil]; omega, ?_⟩
      conv => whnf
      refine ⟨A ++ B, .inr (.inl ⟨_, 0, 0, _, ⟨(congrArg (fun n => AV.rw _ 0 n 1 0) (hlAB : _ = (A ++ B).length)), by decide⟩, .inr ⟨_, rfl⟩, hAB⟩), by rw [List.length_append, List.flatten_append, List.length_append]; omega, ?_⟩
      conv => whnf
      refine ⟨reduceF 2 [reduceF 2 A, reduceF 2 B], reduceF 2 (A ++ B), rfl, rfl, hRl, ?_⟩
      conv => whnf
      refine Fork.dec (fun _ => ?_) (fun h => absurd hE h)
      conv => whnf
      first | exact .inr rfl | exact .inl rfl
end Go.Proofs.Ytkhfdjhohfebgaa
namespace Go.Proofs.Ytkhfdjhohfebgaa
open Go Go.RowKit
def strs (V : List (List Nat)) : List AV := V.map fun s => .ss s
theorem strs_flat (V : List (List Nat)) : (strs V).all flat.flat1 = true := by simp [strs, flat.flat1]
theorem strs_map (V : List (List Nat)) : (strs V).map mk = strs V := by simp [strs, mk, Function.comp_def]
theorem strs_length (V : List (List Nat)) : (strs V).length = V.length := by simp [strs]
theorem strs_nth {V : List (List Nat)} {i o : Nat} (h : i < V.length) (ho : o = i) : nth (strs V) o = some (.ss V[i]) := by
  subst ho
  rw [nth_eq, strs, List.getElem?_map, List.getElem?_eq_getElem h]; rfl
/-- Each one is above the one ahead. -/
def risesTo (V : List (List Nat)) (i : Nat) : Prop := ∀ j, j + 1 < i → ∀ h : j + 1 < V.length, ltL (V[j]'(by omega)) V[j + 1] = true
noncomputable instance (V : List (List Nat)) (i : Nat) : Decidable (risesTo V i) := Classical.propDecidable _
noncomputable def risesS (V : List (List Nat)) : Bool := decide (risesTo V V.length)
def natRs (args : List AV) (H : AH) (n : Nat) (κ : PK) : Prop := match args with
  | [x] => ∃ V, x = .fr V.length 1 (strs V) ∧ V.length ≤ 1000000 ∧ κ (.sb (risesS V)) H n
  | _ => False
theorem singRs : SingG natRs := .pure fun args H n κ hs => by
  unfold natRs at *
  split at hs
  · obtain ⟨V, h1, h2, h3⟩ := hs
    exact ⟨_, h3, fun κ' h => ⟨V, h1, h2, h⟩⟩
  · exact hs.elim
noncomputable def rs0 (V : List (List Nat)) (i : Nat) : AE × AH := (mkE [(0, .fr V.length 1 (strs V)), (3, .si .i64 (i))], mkH [])
theorem rs0_cov {V : List (List Nat)} {i : Nat} {p n : Nat} {σ : AE} {H : AH} (hp : p ≤ 0) (e0 : getq (pa 0) σ = .fr V.length 1 (strs V)) (e3 : mk (getq (pa 3) σ) = .si .i64 (i)) : Cov p σ H n ((rs0 V i).1, (rs0 V i).2, 0) := by
  refine Cov.ofR (fun b => b) (by omega) (fun b hb => rfl) ?_ ?_ ?_
  · intro x hx
    simp only [List.mem_cons, List.not_mem_nil, or_false] at hx
    rcases hx with rfl | rfl
    · exact SubV.frE e0
    · exact .int e3
  · intro x hx
    cases hx
  · intro x hx y hy
    cases hx
noncomputable def GS : FuncId → EP := withD 76 [] evP
theorem GS_ok : TabP GS := withD_ok evP_ok (by kernel_rfl) (by kernel_rfl)
set_option maxHeartbeats 4000000 in
set_option maxRecDepth 100000 in
theorem rising_run (V : List (List Nat)) (hV : V.length ≤ 1000000) : callT GS 3 76 [.fr V.length 1 (strs V)] .nil 0 fun u _ _ => mkT u = mkT (.bool (risesS V)) := by
  conv => whnf
  refine LoopP.mk { i : Nat // 1 ≤ i ∧ (i = 1 ∨ i ≤ V.length) ∧ risesTo V i } 0 (fun i => rs0 V i.val) (fun i => V.length - i.val) ⟨1, Nat.le_refl _, .inl rfl, fun j h => by omega⟩ ?_ ?_
  · exact rs0_cov (i := 1) (Nat.le_refl 0) rfl rfl
  · intro ⟨i, h0, hi, hr⟩
    conv => whnf
    refine Fork.dec (fun h1 => ?_) (fun h1 => ?_)
    · have h2 : i < V.length := Int.ofNat_lt.1 h1
      have h3 : i - 1 < V.length := by omega
      have hlt : V.length - (i + 1) < V.length - i := by omega
      have hw : IntKind.i64.wrap ((i : Int) + 1) = ((i + 1 : Nat) : Int) := by rw [wrap_i64_of (by omega) (by omega)]; omega
      have hwm : IntKind.i64.wrap ((i : Int) - 1) = ((i - 1 : Nat) : Int) := by rw [wrap_i64_of (by omega) (by omega)]; omega
      have hj : ∀ q : ltL V[i - 1] V[i] = true, risesTo V (i + 1) := fun q j h h' => by
        by_cases e : j + 1 = i
        · have e2 : j = i - 1 := by omega
          subst e2
          have e3 : i - 1 + 1 = i := by omega
          simp only [e3]; exact q
        · exact hr j (by omega) h'
      have hno : ltL V[i - 1] V[i] = false → risesS V = false := fun q => decide_eq_false fun h => by
        have h5 : i - 1 + 1 = i := by omega
        have := h (i - 1) (by omega) (by omega)
        simp only [h5] at this
        rw [q] at this; cases this
      conv => whnf
      refine Idx.mk (i - 1) hwm h3 ?_
      conv => whnf
      refine optP_of (strs_nth h3 (Nat.mul_one _)) ?_
      conv => whnf
      refine Idx.mk i rfl h2 ?_
      conv => whnf
      refine optP_of (strs_nth h2 (Nat.mul_one _)) ?_
      conv => whnf
      refine Fork.nsb (fun h6 => ?_) (fun h6 => ?_)
      · conv => whnf
        exact same_is (hno h6).symm
      · conv => whnf
        exact ⟨⟨i + 1, by omega, .inr h2, hj h6⟩, hlt, rs0_cov (Nat.le_refl 0) rfl (congrArg (AV.si .i64) hw)⟩
    · have h2 : V.length ≤ i := by have : ¬ (i : Int) < (V.length : Int) := h1; omega
      have h3 : risesS V = true := decide_eq_true fun j h h' => hr j (by omega) h'
      conv => whnf
      exact same_is h3.symm
end Go.Proofs.Ytkhfdjhohfebgaa
namespace Go.Proofs.Ytkhfdjhohfebgaa
open Go Go.RowKit
theorem SubV.fn0 {H : AH} {m : Nat} {r : Nat → Nat} {a : AV} {f : Nat} (e : a = .fn f [] []) : SubV H m r a (.fn f [] []) := fun φ ψ v _ _ hv => by
  subst e
  obtain ⟨xs, cs, rfl, h1, h2⟩ := hv.fn_inv
  exact .fn (by rw [h1.nil_inv]; exact .nil) (by rw [h2.nil_inv]; exact .nil)
theorem strs_one (V : List (List Nat)) : (strs V).all one1 = true := by simp [strs, one1]
theorem strs_drop (V : List (List Nat)) (i : Nat) : (strs V).drop i = strs (V.drop i) := by simp [strs, List.map_drop]
theorem strs_take (V : List (List Nat)) (i : Nat) : (strs V).take i = strs (V.take i) := by simp [strs, List.map_take]
theorem strs_snoc (W : List (List Nat)) (v : List Nat) : (strs W ++ [AV.ss v]).map mk = strs (W ++ [v]) := by simp [strs, mk, Function.comp_def]
theorem tyT : RTy 32 32 1 16 := ⟨_, _, _, rfl, rfl, (fun q h => by cases h), rfl, rfl, rfl, rfl, by decide, by decide⟩
noncomputable def leS (a b : List Nat) : Bool := ltL a b || beqL a b
theorem leS_total : ∀ (a b : List Nat), leS a b = false → leS b a = true
  | [], [], h => by cases h
  | [], _ :: _, h => by cases h
  | _ :: _, [], _ => rfl
  | a :: x, b :: y, h => by
    unfold leS ltL beqL at h ⊢
    by_cases e : a = b
    · subst e
      rw [Nat.beq_refl] at h ⊢
      exact leS_total x y h
    · have e1 : Nat.beq a b = false := by cases q : Nat.beq a b; rfl; exact absurd (Nat.eq_of_beq_eq_true q) e
      have e2 : Nat.beq b a = false := by cases q : Nat.beq b a; rfl; exact absurd (Nat.eq_of_beq_eq_true q).symm e
      rw [e1] at h
      rw [e2]
      simp only [Bool.or_false] at h ⊢
      have h3 : ¬ a < b := fun q => by rw [(Nat.blt_eq (x := a) (y := b)).mpr q] at h; cases h
      exact (Nat.blt_eq (x := b) (y := a)).mpr (by omega)
/-- Both in one go: what is in both is taken once. -/
noncomputable def mergeS : List (List Nat) → List (List Nat) → List (List Nat)
  | [], B => B
  | a :: A, [] => a :: A
  | a :: A, b :: B => if leS a b = true then (if leS b a = true then b :: mergeS A B else a :: mergeS A (b :: B)) else b :: mergeS (a :: A) B
termination_by A B => A.length + B.length
decreasing_by all_goals (simp only [List.length_cons]; omega)
theorem mergeS_nil (B : List (List Nat)) : mergeS [] B = B := by rw [mergeS]
theorem mergeS_nilr (A : List (List Nat)) : mergeS A [] = A := by cases A <;> rw [mergeS]
theorem mergeS_le {a b : List Nat} (A B : List (List Nat)) (h : leS a b = true) (k : ¬ leS b a = true) : mergeS (a :: A) (b :: B) = a :: mergeS A (b :: B) := by rw [mergeS, if_pos h, if_neg k]
theorem mergeS_eq {a b : List Nat} (A B : List (List Nat)) (h : leS a b = true) (k : leS b a = true) : mergeS (a :: A) (b :: B) = b :: mergeS A B := by rw [mergeS, if_pos h, if_pos k]
theorem mergeS_gt {a b : List Nat} (A B : List (List Nat)) (h : ¬ leS a b = true) : mergeS (a :: A) (b :: B) = b :: mergeS (a :: A) B := by rw [mergeS, if_neg h]
noncomputable def ms0 (A : List (List Nat)) (B : List (List Nat)) (O : List (List Nat)) : AE × AH := (mkE [(0, .fr A.length 1 (strs A)), (1, .fr B.length 1 (strs B)), (2, AV.fn 78 [] []), (7, .rw 0 0 O.length 1 0)], mkH [(0, .cells (strs (O)) true)])
theorem ms0_cov {A : List (List Nat)} {B : List (List Nat)} {O : List (List Nat)} {p n : Nat} {σ : AE} {H : AH} (j0 : Nat) (hp : p ≤ 0) (e0 : getq (pa 0) σ = .fr A.length 1 (strs A)) (e1 : getq (pa 1) σ = .fr B.length 1 (strs B)) (e2 : SubV H 1 (fun b => if b = 0 then j0 else b) (getq (pa 2) σ) (AV.fn 78 [] [])) (e7 : SubV H 1 (fun b => if b = 0 then j0 else b) (getq (pa 7) σ) (.rw 0 0 O.length 1 0)) (h0 : (∃ l, H.get j0 = some (.cells l true) ∧ l.map mk = strs (O)) ∨ ((O) = [] ∧ n ≤ j0)) : Cov p σ H n ((ms0 A B O).1, (ms0 A B O).2, 1) := by
  refine Cov.ofR (fun b => if b = 0 then j0 else b) (by omega) (fun b hb => by repeat' rw [if_neg (by omega)]) ?_ ?_ ?_
  · intro x hx
    simp only [List.mem_cons, List.not_mem_nil, or_false] at hx
    rcases hx with rfl | rfl | rfl | rfl
    · exact SubV.frE e0
    · exact SubV.frE e1
    · exact e2
    · exact e7
  · intro x hx
    simp only [List.mem_cons, List.not_mem_nil, or_false] at hx
    subst hx
    exact ⟨by simp, h0.elim (fun ⟨l, h, g⟩ => .inl ⟨_, h, SubO.cells_mk (strs_flat _) (by rw [g, strs_map]) (fun q => q)⟩) (fun h => .inr ⟨by rw [h.1]; rfl, h.2⟩)⟩
  · intro x hx y hy
    simp only [List.mem_cons, List.not_mem_nil, or_false] at hx hy
    subst hx hy
    exact fun q => rfl
end Go.Proofs.Ytkhfdjhohfebgaa
namespace Go.Proofs.Ytkhfdjhohfebgaa
open Go Go.RowKit
noncomputable def GMs : FuncId → EP := withD 77 [] (withD 78 [] evP)
theorem GMs_ok : TabP GMs := withD_ok (withD_ok evP_ok (by kernel_rfl) (by kernel_rfl)) (by kernel_rfl) (by kernel_rfl)
set_option maxHeartbeats 8000000 in
set_option maxRecDepth 100000 in
theorem mergeS_run (V W : List (List Nat)) (hL : V.length + W.length ≤ 1000000) : callT GMs 3 77 [.fr V.length 1 (strs V), .fr W.length 1 (strs W), .fn 78 [] []] .nil 0 fun u H' _ => FrG (mergeS V W).length 1 (strs (mergeS V W)) u H' := by
  conv => whnf
  refine LoopP.mk { t : List (List Nat) × List (List Nat) × List (List Nat) // t.1.length + t.2.1.length + t.2.2.length ≤ V.length + W.length ∧ t.2.2 ++ mergeS t.1 t.2.1 = mergeS V W } 1 (fun t => ms0 t.val.1 t.val.2.1 t.val.2.2) (fun t => t.val.1.length + t.val.2.1.length) ⟨(V, W, []), by simp, rfl⟩ ?_ ?_
  · exact ms0_cov (O := []) 0 (Nat.le_refl 0) rfl rfl (.fn0 rfl) (.nslRw rfl) (.inr ⟨rfl, Nat.le_refl _⟩)
  · intro ⟨(A, B, O), hl, he⟩
    dsimp only at hl he
    have hO : subL (strs O) 0 (O.length * 1) = some (strs O) := subL_all (by rw [strs_length, Nat.mul_one])
    cases A with
    | nil =>
      cases B with
      | nil =>
        conv => whnf
        refine Fork.dec (fun h1 => absurd (show (0 : Int) < IntKind.i64.wrap (((0 : Nat) : Int) + ((0 : Nat) : Int)) from h1) (by decide)) (fun _ => ?_)
        have he2 : O = mergeS V W := by rw [← he, mergeS_nil, List.append_nil]
        conv => whnf
        exact frG_row rfl (congrArg List.length he2) rfl (congrArg (fun z => (strs z).map mk) he2) (by rw [strs_length, Nat.mul_one])
      | cons b B =>
        have hw : (0 : Int) < IntKind.i64.wrap (((0 : Nat) : Int) + ((B.length + 1 : Nat) : Int)) := by simp only [List.length_cons, List.length_nil] at hl; rw [wrap_i64_of (by omega) (by omega)]; omega
        have hbig : (O.length + 1) * 16 ≤ 140737488355328 := by simp only [List.length_cons, List.length_nil] at hl; omega
        conv => whnf
        refine Fork.dec (fun _ => ?_) (fun h1 => absurd hw h1)
        conv => whnf
        refine Fork.dec (fun h1 => absurd (show ((0 : Nat) : Int) > 0 from h1) (by decide)) (fun _ => ?_)
        conv => whnf
        refine Fork.dec (fun _ => ?_) (fun h1 => absurd (show (0 : Int) < ((B.length + 1 : Nat) : Int) by omega) h1)
        conv => whnf
        refine Fork.dec (fun _ => ?_) (fun h1 => absurd rfl h1)
        conv => whnf
        refine Idx.mk 0 rfl (Nat.succ_pos _) ?_
        conv => whnf
        refine RSl.mk 1 (B.length + 1) rfl rfl (.inl rfl) (Nat.succ_le_succ (Nat.zero_le _)) (Nat.le_refl _) ?_
        conv => whnf
        refine RApp.grow 1 16 _ _ _ _ _ _ tyT (.old rfl) rfl rfl (.rw rfl hO) hbig ?_
        conv => whnf
        refine ⟨⟨([], B, O ++ [b]), ?_, ?_⟩, ?_, ms0_cov 2 (Nat.zero_le _) rfl rfl (.fn0 rfl) (SubV.rw (by decide) rfl) (.inl ⟨_, rfl, strs_snoc O b⟩)⟩
        · simp only [List.length_cons, List.length_append, List.length_nil] at hl ⊢; omega
        · show (O ++ [b]) ++ mergeS [] B = _
          rw [← he, mergeS_nil, mergeS_nil]; simp
        · show 0 + B.length < 0 + (B.length + 1)
          omega
    | cons a A =>
      have hbig : (O.length + 1) * 16 ≤ 140737488355328 := by simp only [List.length_cons] at hl; omega
      cases B with
      | nil =>
        have hw : (0 : Int) < IntKind.i64.wrap (((A.length + 1 : Nat) : Int) + ((0 : Nat) : Int)) := by simp only [List.length_cons, List.length_nil] at hl; rw [wrap_i64_of (by omega) (by omega)]; omega
        conv => whnf
        refine Fork.dec (fun _ => ?_) (fun h1 => absurd hw h1)
        conv => whnf
        refine Fork.dec (fun _ => ?_) (fun h1 => absurd (show (0 : Int) < ((A.length + 1 : Nat) : Int) by omega) h1)
        conv => whnf
        refine Fork.dec (fun _ => ?_) (fun h1 => absurd rfl h1)
        conv => whnf
        refine Fork.dec (fun h1 => absurd (show ((0 : Nat) : Int) > 0 from h1) (by decide)) (fun _ => ?_)
        conv => whnf
        refine Idx.mk 0 rfl (Nat.succ_pos _) ?_
        conv => whnf
        refine RSl.mk 1 (A.length + 1) rfl rfl (.inl rfl) (Nat.succ_le_succ (Nat.zero_le _)) (Nat.le_refl _) ?_
        conv => whnf
        refine RApp.grow 1 16 _ _ _ _ _ _ tyT (.old rfl) rfl rfl (.rw rfl hO) hbig ?_
        conv => whnf
        refine ⟨⟨(A, [], O ++ [a]), ?_, ?_⟩, ?_, ms0_cov 2 (Nat.zero_le _) rfl rfl (.fn0 rfl) (SubV.rw (by decide) rfl) (.inl ⟨_, rfl, strs_snoc O a⟩)⟩
        · simp only [List.length_cons, List.length_append, List.length_nil] at hl ⊢; omega
        · show (O ++ [a]) ++ mergeS A [] = _
          rw [← he, mergeS_nilr, mergeS_nilr]; simp
        · show A.length + 0 < (A.length + 1) + 0
          omega
      | cons b B =>
        have hw : (0 : Int) < IntKind.i64.wrap (((A.length + 1 : Nat) : Int) + ((B.length + 1 : Nat) : Int)) := by simp only [List.length_cons] at hl; rw [wrap_i64_of (by omega) (by omega)]; omega
        conv => whnf
        refine Fork.dec (fun _ => ?_) (fun h1 => absurd hw h1)
        conv => whnf
        refine Fork.dec (fun _ => ?_) (fun h1 => absurd (show (0 : Int) < ((A.length + 1 : Nat) : Int) by omega) h1)
        conv => whnf
        refine Fork.dec (fun h1 => absurd (show ((B.length + 1 : Nat) : Int) = 0 from h1) (by omega)) (fun _ => ?_)
        conv => whnf
        refine Idx.mk 0 rfl (Nat.succ_pos _) ?_
        conv => whnf
        refine Idx.mk 0 rfl (Nat.succ_pos _) ?_
        conv => whnf
        refine Fork.dec (fun _ => ?_) (fun h1 => absurd (show (0 : Int) < ((B.length + 1 : Nat) : Int) by omega) h1)
        conv => whnf
        refine Fork.dec (fun h1 => absurd (show ((A.length + 1 : Nat) : Int) = 0 from h1) (by omega)) (fun _ => ?_)
        conv => whnf
        refine Idx.mk 0 rfl (Nat.succ_pos _) ?_
        conv => whnf
        refine Idx.mk 0 rfl (Nat.succ_pos _) ?_
        conv => whnf
        refine Fork.sb (fun h1 => ?_) (fun h1 => ?_)
        · have k1 : leS a b = true := h1
          conv => whnf
          refine Idx.mk 0 rfl (Nat.succ_pos _) ?_
          conv => whnf
          refine RSl.mk 1 (A.length + 1) rfl rfl (.inl rfl) (Nat.succ_le_succ (Nat.zero_le _)) (Nat.le_refl _) ?_
          conv => whnf
          refine Fork.sb (fun h2 => ?_) (fun h2 => ?_)
          · have k2 : leS b a = true := h2
            conv => whnf
            refine Idx.mk 0 rfl (Nat.succ_pos _) ?_
            conv => whnf
            refine RSl.mk 1 (B.length + 1) rfl rfl (.inl rfl) (Nat.succ_le_succ (Nat.zero_le _)) (Nat.le_refl _) ?_
            conv => whnf
            refine RApp.grow 1 16 _ _ _ _ _ _ tyT (.old rfl) rfl rfl (.rw rfl hO) hbig ?_
            conv => whnf
            refine ⟨⟨(A, B, O ++ [b]), ?_, ?_⟩, ?_, ms0_cov 2 (Nat.zero_le _) rfl rfl (.fn0 rfl) (SubV.rw (by decide) rfl) (.inl ⟨_, rfl, strs_snoc O b⟩)⟩
            · simp only [List.length_cons, List.length_append, List.length_nil] at hl ⊢; omega
            · show (O ++ [b]) ++ _ = _
              rw [← he, mergeS_eq A B k1 k2]; simp
            · show A.length + B.length < (A.length + 1) + (B.length + 1)
              omega
          · have k2 : ¬ leS b a = true := by rw [show leS b a = false from h2]; decide
            conv => whnf
            refine RApp.grow 1 16 _ _ _ _ _ _ tyT (.old rfl) rfl rfl (.rw rfl hO) hbig ?_
            conv => whnf
            refine ⟨⟨(A, b :: B, O ++ [a]), ?_, ?_⟩, ?_, ms0_cov 2 (Nat.zero_le _) rfl rfl (.fn0 rfl) (SubV.rw (by decide) rfl) (.inl ⟨_, rfl, strs_snoc O a⟩)⟩
            · simp only [List.length_cons, List.length_append, List.length_nil] at hl ⊢; omega
            · show (O ++ [a]) ++ _ = _
              rw [← he, mergeS_le A B k1 k2]; simp
            · show A.length + (B.length + 1) < (A.length + 1) + (B.length + 1)
              omega
        · have k1 : ¬ leS a b = true := by rw [show leS a b = false from h1]; decide
          have k2 := leS_total a b h1
          conv => whnf
          refine Fork.sb (fun _ => ?_) (fun h2 => absurd (k2.symm.trans h2) (by decide))
          conv => whnf
          refine Idx.mk 0 rfl (Nat.succ_pos _) ?_
          conv => whnf
          refine RSl.mk 1 (B.length + 1) rfl rfl (.inl rfl) (Nat.succ_le_succ (Nat.zero_le _)) (Nat.le_refl _) ?_
          conv => whnf
          refine RApp.grow 1 16 _ _ _ _ _ _ tyT (.old rfl) rfl rfl (.rw rfl hO) hbig ?_
          conv => whnf
          refine ⟨⟨(a :: A, B, O ++ [b]), ?_, ?_⟩, ?_, ms0_cov 2 (Nat.zero_le _) rfl rfl (.fn0 rfl) (SubV.rw (by decide) rfl) (.inl ⟨_, rfl, strs_snoc O b⟩)⟩
          · simp only [List.length_cons, List.length_append, List.length_nil] at hl ⊢; omega
          · show (O ++ [b]) ++ _ = _
            rw [← he, mergeS_gt A B k1]; simp
          · show (A.length + 1) + B.length < (A.length + 1) + (B.length + 1)
            omega
end Go.Proofs.Ytkhfdjhohfebgaa
namespace Go.Proofs.Ytkhfdjhohfebgaa
open Go Go.RowKit
set_option maxRecDepth 20000
/-! ### names changed -/
mutual
def ren (r : Nat → Nat) : AV → AV
  | .int k n => .int k n
  | .str s => .str s
  | .bool b => .bool b
  | .nil => .nil
  | .ptr b o => .ptr (r b) o
  | .nsl => .nsl
  | .sl b o n c k => .sl (r b) o n c k
  | .esl b => .esl (r b)
  | .agg l => .agg (renL r l)
  | .tup l => .tup (renL r l)
  | .fn f a c => .fn f (renL r a) (renL r c)
  | .map b => .map (r b)
  | .any v => .any v
  | .bad => .bad
  | .si k n => .si k n
  | .sb b => .sb b
  | .ss s => .ss s
  | .sy b o n c k => .sy (r b) o n c k
  | .rw b o n k x => .rw (r b) o n k x
  | .fr n k l => .fr n k l
  | .fa l o => .fa l o
def renL (r : Nat → Nat) : List AV → List AV
  | [] => []
  | a :: l => ren r a :: renL r l
end
mutual
def ltV (m : Nat) : AV → Bool
  | .int _ _ => true
  | .str _ => true
  | .bool _ => true
  | .nil => true
  | .ptr b _ => Nat.blt b m
  | .nsl => true
  | .sl b _ _ _ _ => Nat.blt b m
  | .esl b => Nat.blt b m
  | .agg l => ltL_ m l
  | .tup l => ltL_ m l
  | .fn _ a c => ltL_ m a && ltL_ m c
  | .map b => Nat.blt b m
  | .any _ => true
  | .bad => true
  | .si _ _ => true
  | .sb _ => true
  | .ss _ => true
  | .sy b _ _ _ _ => Nat.blt b m
  | .rw b _ _ _ _ => Nat.blt b m
  | .fr _ _ _ => true
  | .fa _ _ => true
def ltL_ (m : Nat) : List AV → Bool
  | [] => true
  | a :: l => ltV m a && ltL_ m l
end
def Ph.pull (χ : Ph) (r : Nat → Nat) : Ph := ⟨fun b => χ (r b), χ.z, χ.y⟩
section
variable {χ ψ : Ph} {r : Nat → Nat} {m : Nat}
mutual
theorem VR.pull : ∀ (a : AV) (v : Value), VR χ (ren r a) v ↔ VR (χ.pull r) a v
  | .int k n, v => by simp only [ren, VR]
  | .str s, v => by simp only [ren, VR]
  | .bool b, v => by simp only [ren, VR]
  | .nil, v => by simp only [ren, VR]
  | .ptr b o, v => by simp only [ren, VR, Ph.pull]
  | .nsl, v => by simp only [ren, VR]
  | .sl b o n c k, v => by simp only [ren, VR, Ph.pull]
  | .esl b, v => by simp only [ren, VR, Ph.pull]
  | .agg l, v => by simp only [ren, VR, VRs.pull l]
  | .tup l, v => by simp only [ren, VR, VRs.pull l]
  | .fn f a c, v => by simp only [ren, VR, VRs.pull a, VRs.pull c]
  | .map b, v => by simp only [ren, VR, Ph.pull]
  | .any u, v => by simp only [ren, VR]
  | .bad, v => by simp only [ren, VR]
  | .si k n, v => by simp only [ren, VR]
  | .sb b, v => by simp only [ren, VR]
  | .ss s, v => by simp only [ren, VR]
  | .sy b o n c k, v => by simp only [ren, VR, Ph.pull]
  | .rw b o n k x, v => by simp only [ren, VR, Ph.pull]
  | .fr n k l, v => by simp only [ren, VR, Ph.pull]
  | .fa l o, v => by simp only [ren, VR, Ph.pull]
theorem VRs.pull : ∀ (l : List AV) (vs : List Value), VRs χ (renL r l) vs ↔ VRs (χ.pull r) l vs
  | [], vs => by simp only [renL, VRs]
  | a :: l, vs => by simp only [renL, VRs, VR.pull a, VRs.pull l]
end
mutual
theorem VR.below (he : ∀ b p, b < m → ψ b = some p → χ b = some p) (hz : ∀ q, ψ.z q → χ.z q) : ∀ (a : AV) (v : Value), ltV m a = true → VR ψ a v → VR χ a v
  | .int k n, v, _, h => by simp only [VR] at h ⊢; exact h
  | .str s, v, _, h => by simp only [VR] at h ⊢; exact h
  | .bool b, v, _, h => by simp only [VR] at h ⊢; exact h
  | .nil, v, _, h => by simp only [VR] at h ⊢; exact h
  | .ptr b o, v, hl, h => by
    simp only [ltV, Nat.blt_eq] at hl
    simp only [VR] at h ⊢
    obtain ⟨p, h1, h2⟩ := h
    exact ⟨p, he _ _ hl h1, h2⟩
  | .nsl, v, _, h => by simp only [VR] at h ⊢; exact h
  | .sl b o n c k, v, hl, h => by
    simp only [ltV, Nat.blt_eq] at hl
    simp only [VR] at h ⊢
    obtain ⟨p, C, h1, h2⟩ := h
    exact ⟨p, C, he _ _ hl h1, h2⟩
  | .esl b, v, hl, h => by
    simp only [ltV, Nat.blt_eq] at hl
    simp only [VR] at h ⊢
    obtain ⟨p, x, C, h1, h2⟩ := h
    exact ⟨p, x, C, he _ _ hl h1, h2⟩
  | .agg l, v, hl, h => by
    simp only [ltV] at hl
    simp only [VR] at h ⊢
    obtain ⟨cs, h1, h2⟩ := h
    exact ⟨cs, h1, VRs.below he hz l _ hl h2⟩
  | .tup l, v, hl, h => by
    simp only [ltV] at hl
    simp only [VR] at h ⊢
    obtain ⟨cs, h1, h2⟩ := h
    exact ⟨cs, h1, VRs.below he hz l _ hl h2⟩
  | .fn f a c, v, hl, h => by
    simp only [ltV, Bool.and_eq_true] at hl
    simp only [VR] at h ⊢
    obtain ⟨xs, cs, h1, h2, h3⟩ := h
    exact ⟨xs, cs, h1, VRs.below he hz a _ hl.1 h2, VRs.below he hz c _ hl.2 h3⟩
  | .map b, v, hl, h => by
    simp only [ltV, Nat.blt_eq] at hl
    simp only [VR] at h ⊢
    obtain ⟨p, h1, h2⟩ := h
    exact ⟨p, he _ _ hl h1, h2⟩
  | .any u, v, _, h => by simp only [VR] at h ⊢; exact h
  | .bad, v, _, h => by simp only [VR]
  | .si k n, v, _, h => by simp only [VR] at h ⊢; exact h
  | .sb b, v, _, h => by simp only [VR] at h ⊢; exact h
  | .ss s, v, _, h => by simp only [VR] at h ⊢; exact h
  | .sy b o n c k, v, hl, h => by
    simp only [ltV, Nat.blt_eq] at hl
    simp only [VR] at h ⊢
    obtain ⟨p, C, h1, h2⟩ := h
    exact ⟨p, C, he _ _ hl h1, h2⟩
  | .rw b o n k x, v, hl, h => by
    simp only [ltV, Nat.blt_eq] at hl
    simp only [VR] at h ⊢
    rcases h with h | ⟨p, a, C, h1, h2⟩
    · exact .inl h
    · exact .inr ⟨p, a, C, he _ _ hl h1, h2⟩
  | .fr n k l, v, _, h => by
    simp only [VR] at h ⊢
    rcases h with h | ⟨q, o, C, h1, h2⟩
    · exact .inl h
    · exact .inr ⟨q, o, C, hz _ h1, h2⟩
  | .fa l o, v, _, h => by
    simp only [VR] at h ⊢
    obtain ⟨q, x, h1, h2⟩ := h
    exact ⟨q, x, hz _ h1, h2⟩
theorem VRs.below (he : ∀ b p, b < m → ψ b = some p → χ b = some p) (hz : ∀ q, ψ.z q → χ.z q) : ∀ (l : List AV) (vs : List Value), ltL_ m l = true → VRs ψ l vs → VRs χ l vs
  | [], vs, _, h => by simp only [VRs] at h ⊢; exact h
  | a :: l, vs, hl, h => by
    simp only [ltL_, Bool.and_eq_true] at hl
    simp only [VRs] at h ⊢
    obtain ⟨v, us, h1, h2, h3⟩ := h
    exact ⟨v, us, h1, VR.below he hz a v hl.1 h2, VRs.below he hz l us hl.2 h3⟩
end
end
def renE (r : Nat → Nat) : List (AV × AV) → List (AV × AV)
  | [] => []
  | e :: es => (ren r e.1, ren r e.2) :: renE r es
def renO (r : Nat → Nat) : AO → AO
  | .cells l z => .cells (renL r l) z
  | .map es => .map (renE r es)
  | .ro l => .ro (renL r l)
  | .iter b m seen => .iter (r b) m seen
def ltE (m : Nat) : List (AV × AV) → Bool
  | [] => true
  | e :: es => ltV m e.1 && (ltV m e.2 && ltE m es)
def ltO (m : Nat) : AO → Bool
  | .cells l _ => ltL_ m l
  | .map es => ltE m es
  | .ro l => ltL_ m l
  | .iter b _ _ => Nat.blt b m
section
variable {χ ψ : Ph} {r : Nat → Nat} {m : Nat}
theorem renL_length : ∀ l : List AV, (renL r l).length = l.length
  | [] => rfl
  | a :: l => by simp [renL, renL_length l]
theorem renL_at : ∀ (l : List AV) (i : Nat), (renL r l)[i]? = (l[i]?).map (ren r)
  | [], i => by simp [renL]
  | a :: l, 0 => by simp [renL]
  | a :: l, i + 1 => by simp [renL, renL_at l i]
theorem ltL_at : ∀ {l : List AV}, ltL_ m l = true → ∀ {i : Nat} {a : AV}, l[i]? = some a → ltV m a = true
  | [], _, i, a, h => by simp at h
  | b :: l, hl, i, a, h => by
    simp only [ltL_, Bool.and_eq_true] at hl
    cases i with
    | zero => simp only [List.getElem?_cons_zero, Option.some.injEq] at h; subst h; exact hl.1
    | succ i => exact ltL_at hl.2 (by simpa using h)
theorem CR.pull {c : Array Value} {s : Nat} {l : List AV} : CR χ c s (renL r l) ↔ CR (χ.pull r) c s l := by
  constructor
  · intro h i a e
    obtain ⟨v, h1, h2⟩ := h i (ren r a) (by rw [renL_at, e]; rfl)
    exact ⟨v, h1, (VR.pull _ _).1 h2⟩
  · intro h i a e
    rw [renL_at, Option.map_eq_some_iff] at e
    obtain ⟨a', e1, rfl⟩ := e
    obtain ⟨v, h1, h2⟩ := h i a' e1
    exact ⟨v, h1, (VR.pull _ _).2 h2⟩
theorem CR.below (he : ∀ b p, b < m → ψ b = some p → χ b = some p) (hz : ∀ q, ψ.z q → χ.z q) {c : Array Value} {s : Nat} {l : List AV} (hl : ltL_ m l = true) (h : CR ψ c s l) : CR χ c s l := fun i a e => by
  obtain ⟨v, h1, h2⟩ := h i a e
  exact ⟨v, h1, VR.below he hz a v (ltL_at hl e) h2⟩
theorem MR.pull : ∀ {es : List (AV × AV)} {ms : List MapEntry}, MR χ (renE r es) ms ↔ MR (χ.pull r) es ms
  | [], ms => Iff.rfl
  | e :: es, ms => by
    show (∃ m us, _ ∧ _ ∧ _ ∧ MR χ (renE r es) us) ↔ ∃ m us, _ ∧ _ ∧ _ ∧ MR (χ.pull r) es us
    simp only [MR.pull (es := es), VR.pull]
theorem MR.below (he : ∀ b p, b < m → ψ b = some p → χ b = some p) (hz : ∀ q, ψ.z q → χ.z q) : ∀ {es : List (AV × AV)} {ms : List MapEntry}, ltE m es = true → MR ψ es ms → MR χ es ms
  | [], ms, _, h => h
  | e :: es, ms, hl, ⟨x, us, h1, h2, h3, h4⟩ => by
    simp only [ltE, Bool.and_eq_true] at hl
    exact ⟨x, us, h1, VR.below he hz _ _ hl.1 h2, VR.below he hz _ _ hl.2.1 h3, MR.below he hz hl.2.2 h4⟩
theorem OR.pull {p : Pl} {o : AO} {ob : Obj} : OR χ p (renO r o) ob ↔ OR (χ.pull r) p o ob := by
  cases o with
  | cells l z => simp only [renO, OR, renL_length, CR.pull]
  | map es => simp only [renO, OR, MR.pull]
  | iter b k seen => exact Iff.rfl
  | ro l => simp only [renO, OR, renL_length, CR.pull]
theorem OR.below (he : ∀ b p, b < m → ψ b = some p → χ b = some p) (hz : ∀ q, ψ.z q → χ.z q) {p : Pl} {o : AO} {ob : Obj} (hl : ltO m o = true) (h : OR ψ p o ob) : OR χ p o ob := by
  cases o with
  | cells l z => obtain ⟨c, t, fz, h1, h2, h3, h4, h5, h6⟩ := h; exact ⟨c, t, fz, h1, h2, h3, h4, h5, h6.below he hz hl⟩
  | map es => obtain ⟨ms, cl, h1, h2, h3⟩ := h; exact ⟨ms, cl, h1, MR.below he hz hl h2, h3⟩
  | iter b k seen =>
    obtain ⟨h0, q, h1, h2⟩ := h
    simp only [ltO, Nat.blt_eq] at hl
    exact ⟨h0, q, he _ _ hl h1, h2⟩
  | ro l => obtain ⟨c, t, fz, h1, h2, h3, h4⟩ := h; exact ⟨c, t, fz, h1, h2, h3, h4.below he hz hl⟩
theorem renO_own (o : AO) : (renO r o).own = o.own := by cases o <;> rfl
theorem renO_void (o : AO) : (renO r o).void = o.void := by
  cases o with
  | cells l z => cases l <;> rfl
  | map es => rfl
  | iter b k seen => rfl
  | ro l => cases l <;> rfl
theorem renO_under (o : AO) (ob : Obj) : (renO r o).under ob = o.under ob := by cases o <;> rfl
end
/-! ### the run and its caller -/
/-- A callee's names as its caller's: those that it was given, and new ones. -/
def nmOf (S : List Nat) (n b : Nat) : Nat := match S[b]? with
  | some s => s
  | none => n + (b - S.length)
def memO (O : List AO) : Nat → List (Nat × AO)
  | k => match O with
    | [] => []
    | o :: O => (k, o) :: memO O (k + 1)
theorem memO_mem : ∀ {O : List AO} {k b : Nat} {o : AO}, (b, o) ∈ memO O k → ∃ i, b = k + i ∧ O[i]? = some o
  | [], k, b, o, h => by cases h
  | x :: O, k, b, o, h => by
    rcases List.mem_cons.1 (show (b, o) ∈ (k, x) :: memO O (k + 1) from h) with h | h
    · injection h with h1 h2; subst h1 h2; exact ⟨0, rfl, rfl⟩
    · obtain ⟨i, h1, h2⟩ := memO_mem h
      exact ⟨i + 1, by omega, h2⟩
theorem nodup_at : ∀ {S : List Nat}, S.Nodup → ∀ {i j a : Nat}, S[i]? = some a → S[j]? = some a → i = j
  | [], _, i, j, a, h, _ => by simp at h
  | x :: S, hn, i, j, a, h, k => by
    obtain ⟨h1, h2⟩ := List.nodup_cons.1 hn
    cases i with
    | zero =>
      cases j with
      | zero => rfl
      | succ j =>
        simp only [List.getElem?_cons_zero, Option.some.injEq, List.getElem?_cons_succ] at h k
        subst h
        exact absurd (List.mem_of_getElem? k) h1
    | succ i =>
      cases j with
      | zero =>
        simp only [List.getElem?_cons_zero, Option.some.injEq, List.getElem?_cons_succ] at h k
        subst k
        exact absurd (List.mem_of_getElem? h) h1
      | succ j =>
        simp only [List.getElem?_cons_succ] at h k
        rw [nodup_at h2 h k]
section
variable {φ ψ : Ph} {H H' H2 : AH} {n n' m : Nat} {h0 hp g : Hp} {S : List Nat} {O : List AO}
/-- The caller's blocks that are handed on: they are there, and no row that may be without a place. -/
def Hands (H : AH) (n : Nat) (S : List Nat) (O : List AO) : Prop := S.Nodup ∧ S.length = O.length ∧ ∀ (i : Nat) s o, S[i]? = some s → O[i]? = some o → s < n ∧ H.get s = some (renO (nmOf S n) o) ∧ (o.void = false ∨ o.own = true)
theorem nmOf_lt {i s : Nat} (h : S[i]? = some s) : nmOf S n i = s := by unfold nmOf; rw [h]
theorem nmOf_ge {b : Nat} (h : S.length ≤ b) : nmOf S n b = n + (b - S.length) := by unfold nmOf; rw [List.getElem?_eq_none h]
/-- The blocks that are written by the callee. -/
def Gone (φ : Ph) (S : List Nat) (O : List AO) (B : Nat) : Prop := ∃ (i : Nat) (s : Nat) (o : AO) (p : Pl), S[i]? = some s ∧ O[i]? = some o ∧ o.own = true ∧ φ s = some p ∧ p.B = B
open Classical in
noncomputable def cutHp (φ : Ph) (S : List Nat) (O : List AO) (hp : Hp) : Hp := ⟨fun B => if Gone φ S O B then none else hp.f B, hp.n⟩
theorem less_some {B : Nat} {o : Obj} (h : (cutHp φ S O hp).f B = some o) : hp.f B = some o ∧ ¬ Gone φ S O B := by
  unfold cutHp at h
  dsimp only at h
  split at h
  · cases h
  · rename_i q; exact ⟨h, q⟩
theorem less_of {B : Nat} (h : ¬ Gone φ S O B) : (cutHp φ S O hp).f B = hp.f B := by
  unfold cutHp
  dsimp only
  rw [if_neg h]
theorem less_none {B : Nat} (h : (cutHp φ S O hp).f B = none) : Gone φ S O B ∨ hp.f B = none := by
  unfold cutHp at h
  dsimp only at h
  split at h
  · rename_i q; exact .inl q
  · exact .inr h
theorem Hands.at (hh : Hands H n S O) {i s : Nat} (hs : S[i]? = some s) : ∃ o, O[i]? = some o ∧ s < n ∧ H.get s = some (renO (nmOf S n) o) ∧ (o.void = false ∨ o.own = true) := by
  have hlt : i < O.length := by rw [← hh.2.1]; exact (List.getElem?_eq_some_iff.1 hs).1
  exact ⟨O[i], List.getElem?_eq_getElem hlt, hh.2.2 i s O[i] hs (List.getElem?_eq_getElem hlt)⟩
theorem Gone.base (hr : HR φ H n h0 hp) (hh : Hands H n S O) {B : Nat} (h : Gone φ S O B) : h0.f B = none := by
  obtain ⟨i, s, o, p, h1, h2, h3, h4, rfl⟩ := h
  obtain ⟨_, h5, _⟩ := hh.2.2 i s o h1 h2
  obtain ⟨ob, h6, _⟩ := hr.of h5 h4
  rw [renO_under, AO.under_own h3] at h6
  exact h6
theorem HR.small (hr : HR φ H n h0 hp) (hh : Hands H n S O) (hw : Wf hp) : HR ⟨fun b => φ (nmOf S n b), φ.z, φ.z⟩ (mkH (memO O 0)) S.length (cutHp φ S O hp) hp := by
  have nlt : ∀ b p, φ (nmOf S n b) = some p → ∃ s, S[b]? = some s ∧ φ s = some p := fun b p e => by
    cases hb : S[b]? with
    | some s => rw [nmOf_lt hb] at e; exact ⟨s, rfl, e⟩
    | none =>
      have hl := List.getElem?_eq_none_iff.1 hb
      rw [nmOf_ge hl] at e
      have := (hr.dom _ _ e).1; omega
  have get : ∀ {b o}, (mkH (memO O 0)).get b = some o → O[b]? = some o := fun {b o} e => by
    obtain ⟨i, h1, h2⟩ := memO_mem (mkH_get e)
    rw [show b = i by omega]; exact h2
  have ofO : ∀ {b o}, O[b]? = some o → ∃ s, S[b]? = some s := fun {b o} e => by
    have := (List.getElem?_eq_some_iff.1 e).1
    rw [← hh.2.1] at this
    exact ⟨S[b], List.getElem?_eq_getElem this⟩
  refine ⟨fun b p e => ?_, fun b o e => ?_, fun b b' o o' p p' e e' ho ho' hp1 hp2 hB => ?_, fun b o e => ?_, Nat.le_refl _, fun q hq => ⟨⟨FzR.mono (φ := φ) (ψ := ⟨fun b => φ (nmOf S n b), φ.z, φ.z⟩) (fun _ h => h) (hr.frz q hq).1.1, .inl hq⟩, fun b o p e ho hp1 => ?_⟩⟩
  · obtain ⟨s, h1, h2⟩ := nlt b p e
    exact ⟨(List.getElem?_eq_some_iff.1 h1).1, (hr.dom s p h2).2⟩
  · have h1 := get e
    obtain ⟨s, h2⟩ := ofO h1
    obtain ⟨_, h4, h5⟩ := hh.2.2 b s o h2 h1
    rcases hr.live s _ h4 with ⟨hφ, hv⟩ | ⟨p, ob, h6, h7, h8, h9⟩
    · exact .inl ⟨by show φ (nmOf S n b) = _; rw [nmOf_lt h2]; exact hφ, by rw [renO_void] at hv; exact hv⟩
    · refine .inr ⟨p, ob, by show φ (nmOf S n b) = _; rw [nmOf_lt h2]; exact h6, ?_, h8, ?_⟩
      · rw [renO_under] at h7
        by_cases ho : o.own = true
        · rw [AO.under_own ho]
          unfold cutHp
          dsimp only
          rw [if_pos ⟨b, s, o, p, h2, h1, ho, h6, rfl⟩]
        · rw [less_of (fun hg => ?_), h8]
          · cases o <;> first | (exact absurd rfl ho; done) | rfl
          · have := hg.base hr hh
            rw [this] at h7
            cases o <;> first | (exact absurd rfl ho; done) | cases h7
      · have := (OR.pull (χ := φ) (r := nmOf S n)).1 h9
        exact OR.smono (φ := φ.pull (nmOf S n)) (ψ := ⟨fun b => φ (nmOf S n b), φ.z, φ.z⟩) ⟨fun _ _ h => h, fun _ h => h⟩ this
  · have h1 := get e
    have h1' := get e'
    obtain ⟨s, h2⟩ := ofO h1
    obtain ⟨s', h2'⟩ := ofO h1'
    have hp1 : φ (nmOf S n b) = some p := hp1
    have hp2 : φ (nmOf S n b') = some p' := hp2
    rw [nmOf_lt h2] at hp1
    rw [nmOf_lt h2'] at hp2
    have := hr.inj s s' _ _ p p' (hh.2.2 b s o h2 h1).2.1 (hh.2.2 b' s' o' h2' h1').2.1 (by rw [renO_own]; exact ho) (by rw [renO_own]; exact ho') hp1 hp2 hB
    subst this
    exact nodup_at hh.1 h2 h2'
  · obtain ⟨h1, _⟩ := less_some e
    exact ⟨hw _ _ h1, h1⟩
  · have h1 := get e
    obtain ⟨s, h2⟩ := ofO h1
    have hp1 : φ (nmOf S n b) = some p := hp1
    rw [nmOf_lt h2] at hp1
    exact (hr.frz q hq).2 s _ p (hh.2.2 b s o h2 h1).2.1 (by rw [renO_own]; exact ho) hp1
/-- The caller's memory behind the call: what the callee left of the blocks it was given, and of its own. -/
def After (S : List Nat) (n m : Nat) (H H' H2 : AH) : Prop := ∀ b o, H2.get b = some o → (∃ c o', c < m ∧ b = nmOf S n c ∧ H'.get c = some o' ∧ o'.own = true ∧ ltO m o' = true ∧ o = renO (nmOf S n) o') ∨ ((b < n ∨ n + (m - S.length) ≤ b) ∧ H.get b = some o ∧ (b ∈ S → o.own = false))
open Classical in
/-- Where the caller's blocks lie then. -/
noncomputable def phA (φ ψ : Ph) (S : List Nat) (n m : Nat) : Ph := ⟨fun b => if h : ∃ c, c < m ∧ nmOf S n c = b then ψ h.choose else if b < n then φ b else none, fun q => φ.z q ∨ ψ.z q, φ.y⟩
theorem nmOf_inj (hh : Hands H n S O) {c d : Nat} (h : nmOf S n c = nmOf S n d) : c = d := by
  have lt : ∀ {i s}, S[i]? = some s → s < n := fun {i s} hs => by
    obtain ⟨_, _, h, _⟩ := hh.at hs; exact h
  cases hc : S[c]? with
  | some s =>
    cases hd : S[d]? with
    | some t =>
      rw [nmOf_lt hc, nmOf_lt hd] at h
      subst h
      exact nodup_at hh.1 hc hd
    | none =>
      rw [nmOf_lt hc, nmOf_ge (List.getElem?_eq_none_iff.1 hd)] at h
      have := lt hc; omega
  | none =>
    have l1 := List.getElem?_eq_none_iff.1 hc
    cases hd : S[d]? with
    | some t =>
      rw [nmOf_lt hd, nmOf_ge l1] at h
      have := lt hd; omega
    | none =>
      have l2 := List.getElem?_eq_none_iff.1 hd
      rw [nmOf_ge l1, nmOf_ge l2] at h
      omega
theorem phA_of (hh : Hands H n S O) {c : Nat} (hc : c < m) : phA φ ψ S n m (nmOf S n c) = ψ c := by
  have h : ∃ d, d < m ∧ nmOf S n d = nmOf S n c := ⟨c, hc, rfl⟩
  show (if h : ∃ d, d < m ∧ nmOf S n d = nmOf S n c then ψ h.choose else _) = _
  rw [dif_pos h, nmOf_inj hh h.choose_spec.2]
theorem phA_old {b : Nat} (hb : b < n) (hS : b ∉ S) : phA φ ψ S n m b = φ b := by
  have h : ¬ ∃ d, d < m ∧ nmOf S n d = b := fun ⟨d, _, e⟩ => by
    cases hd : S[d]? with
    | some s => rw [nmOf_lt hd] at e; subst e; exact hS (List.mem_of_getElem? hd)
    | none => rw [nmOf_ge (List.getElem?_eq_none_iff.1 hd)] at e; omega
  show (if h : ∃ d, d < m ∧ nmOf S n d = b then ψ h.choose else _) = _
  rw [dif_neg h, if_pos hb]
theorem phA_past (hr : HR φ H n h0 hp) (hh : Hands H n S O) {b : Nat} (hb : b < n ∨ n + (m - S.length) ≤ b) (hS : b ∉ S) : phA φ ψ S n m b = φ b := by
  rcases hb with hb | hb
  · exact phA_old hb hS
  · have h : ¬ ∃ d, d < m ∧ nmOf S n d = b := fun ⟨d, h1, e⟩ => by
      cases hd : S[d]? with
      | some s => rw [nmOf_lt hd] at e; subst e; exact hS (List.mem_of_getElem? hd)
      | none =>
        have := List.getElem?_eq_none_iff.1 hd
        rw [nmOf_ge this] at e; omega
    show (if h : ∃ d, d < m ∧ nmOf S n d = b then ψ h.choose else if b < n then φ b else none) = _
    rw [dif_neg h, if_neg (by omega)]
    cases e : φ b with
    | none => rfl
    | some p => have := (hr.dom b p e).1; omega
theorem phA_le (hr : HR φ H n h0 hp) (hh : Hands H n S O) (hm : S.length ≤ m) (hle : PLe ⟨fun b => φ (nmOf S n b), φ.z, φ.z⟩ ψ) : PLe φ (phA φ ψ S n m) := by
  refine ⟨fun b p e => ?_, fun _ h => .inl h, fun _ h => h⟩
  have hb := (hr.dom b p e).1
  by_cases hS : b ∈ S
  · obtain ⟨i, hi, rfl⟩ := List.mem_iff_getElem.1 hS
    have hi2 : S[i]? = some S[i] := List.getElem?_eq_getElem hi
    have := phA_of (φ := φ) (ψ := ψ) (m := m) hh (c := i) (by omega)
    rw [nmOf_lt hi2] at this
    rw [this]
    exact hle.b i p (by show φ (nmOf S n i) = _; rw [nmOf_lt hi2]; exact e)
  · rw [phA_old hb hS]; exact e
theorem HR.after (hr : HR φ H n h0 hp) (hh : Hands H n S O) (hm : S.length ≤ m) (hle : PLe ⟨fun b => φ (nmOf S n b), φ.z, φ.z⟩ ψ) (hg : HR ψ H' n' (cutHp φ S O hp) g) (ha : After S n m H H' H2) : HR (phA φ ψ S n m) H2 (n + (m - S.length)) h0 g := by
  have hple := phA_le (m := m) hr hh hm hle
  have pull : ∀ b p, b < m → ψ b = some p → (phA φ ψ S n m).pull (nmOf S n) b = some p := fun b p hb e => by
    show phA φ ψ S n m (nmOf S n b) = _
    rw [phA_of hh hb]; exact e
  have hn0 : ∀ B, (cutHp φ S O hp).f B = none → h0.f B = none := fun B e => by
    rcases less_none e with h | h
    · exact h.base hr hh
    · cases q : h0.f B with
      | none => rfl
      | some o => have := (hr.base B o q).2; rw [h] at this; cases this
  -- what an old block's place holds
  have old : ∀ {b o p}, (b < n ∨ n + (m - S.length) ≤ b) → H.get b = some o → (b ∈ S → o.own = false) → φ b = some p → ∃ ob, h0.f p.B = o.under ob ∧ hp.f p.B = some ob ∧ ¬ Gone φ S O p.B ∧ OR φ p o ob := fun {b o p} hb e hS hp1 => by
    obtain ⟨ob, h1, h2, h3⟩ := hr.of e hp1
    refine ⟨ob, h1, h2, fun hgn => ?_, h3⟩
    by_cases ho : o.own = true
    · obtain ⟨i, s, o', p', g1, g2, g3, g4, g5⟩ := hgn
      have := hr.inj s b _ o p' p (hh.2.2 i s o' g1 g2).2.1 e (by rw [renO_own]; exact g3) ho g4 hp1 g5
      subst this
      have := hS (List.mem_of_getElem? g1)
      rw [this] at ho; cases ho
    · have := hgn.base hr hh
      rw [this] at h1
      cases o <;> first | (exact absurd rfl ho; done) | cases h1
  have oldP : ∀ {b o}, (b < n ∨ n + (m - S.length) ≤ b) → H.get b = some o → (b ∈ S → o.own = false) → ∀ p, phA φ ψ S n m b = some p → o.own = true ∨ φ b ≠ none → φ b = some p := fun {b o} hb e hS p hp1 hq => by
    by_cases hbS : b ∈ S
    · have hf := hS hbS
      rcases hq with hq | hq
      · rw [hf] at hq; cases hq
      · cases hφ : φ b with
        | none => exact absurd hφ hq
        | some q =>
          have := hple.b b q hφ
          rw [hp1] at this; rw [this]
    · rw [phA_past hr hh hb hbS] at hp1; exact hp1
  refine ⟨fun b p e => ?_, fun b o e => ?_, fun b b' o o' p p' e e' ho ho' hp1 hp2 hB => ?_, fun b o e => ?_, Nat.le_trans hr.size hg.size, fun q hq => ?_⟩
  · have e : (if h : ∃ c, c < m ∧ nmOf S n c = b then ψ h.choose else if b < n then φ b else none) = some p := e
    split at e
    · rename_i h
      obtain ⟨h1, h2⟩ := h.choose_spec
      refine ⟨?_, (hg.dom _ _ e).2⟩
      generalize h.choose = c at h1 h2
      cases hc : S[c]? with
      | some s => rw [nmOf_lt hc] at h2; obtain ⟨_, _, h3, _⟩ := hh.at hc; omega
      | none =>
        have := List.getElem?_eq_none_iff.1 hc
        rw [nmOf_ge this] at h2; omega
    · split at e
      · have := hr.dom b p e
        have hsz : hp.n ≤ g.n := hg.size
        omega
      · cases e
  · rcases ha b o e with ⟨c, o', hc, rfl, h1, h2, h3, rfl⟩ | ⟨hb, h1, h2⟩
    · rcases hg.live c o' h1 with ⟨h4, h5⟩ | ⟨p, ob, h4, h5, h6, h7⟩
      · exact .inl ⟨by rw [phA_of hh hc]; exact h4, by rw [renO_void]; exact h5⟩
      · refine .inr ⟨p, ob, by rw [phA_of hh hc]; exact h4, ?_, h6, ?_⟩
        · rw [renO_under, AO.under_own h2]
          rw [AO.under_own h2] at h5
          exact hn0 _ h5
        · exact (OR.pull (χ := phA φ ψ S n m)).2 (h7.below (m := m) pull (fun _ h => .inr h) h3)
    · rcases hr.live b o h1 with ⟨h3, h4⟩ | ⟨p, ob, h3, _⟩
      · by_cases hbS : b ∈ S
        · obtain ⟨i, hi, rfl⟩ := List.mem_iff_getElem.1 hbS
          obtain ⟨o', g1, _, g2, g3⟩ := hh.at (List.getElem?_eq_getElem hi)
          rw [h1] at g2; injection g2 with g2
          rcases g3 with g3 | g3
          · rw [g2, renO_void, g3] at h4; cases h4
          · have := h2 hbS
            rw [g2, renO_own, g3] at this; cases this
        · exact .inl ⟨by rw [phA_past hr hh hb hbS]; exact h3, h4⟩
      · obtain ⟨ob, h4, h5, h6, h7⟩ := old hb h1 h2 h3
        exact .inr ⟨p, ob, hple.b b p h3, h4, (hg.base _ _ (by rw [less_of h6]; exact h5)).2, h7.mono hple⟩
  · rcases ha b o e with ⟨c, x, hc, rfl, h1, h2, h3, rfl⟩ | ⟨hb, h1, h2⟩ <;> rcases ha b' o' e' with ⟨d, y, hd, rfl, k1, k2, k3, rfl⟩ | ⟨hb', k1, k2⟩
    · rw [phA_of hh hc] at hp1
      rw [phA_of hh hd] at hp2
      rw [hg.inj c d x y p p' h1 k1 h2 k2 hp1 hp2 hB]
    · exfalso
      rw [phA_of hh hc] at hp1
      have hp2' := oldP hb' k1 k2 p' hp2 (.inl ho')
      obtain ⟨ob, g1, g2, g3, _⟩ := old hb' k1 k2 hp2'
      obtain ⟨ob', g4, _⟩ := hg.of h1 hp1
      rw [AO.under_own h2, hB, less_of g3, g2] at g4; cases g4
    · exfalso
      rw [phA_of hh hd] at hp2
      have hp1' := oldP hb h1 h2 p hp1 (.inl ho)
      obtain ⟨ob, g1, g2, g3, _⟩ := old hb h1 h2 hp1'
      obtain ⟨ob', g4, _⟩ := hg.of k1 hp2
      rw [AO.under_own k2, ← hB, less_of g3, g2] at g4; cases g4
    · exact hr.inj b b' o o' p p' h1 k1 ho ho' (oldP hb h1 h2 p hp1 (.inl ho)) (oldP hb' k1 k2 p' hp2 (.inl ho')) hB
  · obtain ⟨_, h1⟩ := hr.base b o e
    have h2 : ¬ Gone φ S O b := fun hgn => by rw [hgn.base hr hh] at e; cases e
    exact hg.base b o (by rw [less_of h2]; exact h1)
  · rcases hq with hq | hq
    · obtain ⟨⟨h1, h2⟩, h3⟩ := hr.frz q hq
      have hψ : ψ.z q := hle.z q hq
      obtain ⟨⟨k1, k2⟩, k3⟩ := hg.frz q hψ
      refine ⟨⟨FzR.mono (φ := ψ) (ψ := phA φ ψ S n m) (fun _ h => Or.inr h) k1, h2⟩, fun b o p e ho hp1 => ?_⟩
      rcases ha b o e with ⟨c, x, hc, rfl, g1, g2, g3, rfl⟩ | ⟨hb, g1, g2⟩
      · rw [phA_of hh hc] at hp1
        exact k3 c x p g1 g2 hp1
      · exact h3 b o p g1 ho (oldP hb g1 g2 p hp1 (.inl ho))
    · obtain ⟨⟨k1, k2⟩, k3⟩ := hg.frz q hq
      refine ⟨⟨FzR.mono (φ := ψ) (ψ := phA φ ψ S n m) (fun _ h => Or.inr h) k1, ?_⟩, fun b o p e ho hp1 => ?_⟩
      · rcases k2 with k2 | k2
        · exact (hr.frz q (hle.y q k2)).1.2
        · exact .inr (hn0 _ k2)
      · rcases ha b o e with ⟨c, x, hc, rfl, g1, g2, g3, rfl⟩ | ⟨hb, g1, g2⟩
        · rw [phA_of hh hc] at hp1
          exact k3 c x p g1 g2 hp1
        · have hp1' := oldP hb g1 g2 p hp1 (.inl ho)
          obtain ⟨ob, j1, j2, j3, _⟩ := old hb g1 g2 hp1'
          rcases k2 with k2 | k2
          · exact (hr.frz q (hle.y q k2)).2 b o p g1 ho hp1'
          · intro hB
            rw [← hB, less_of j3, j2] at k2; cases k2
end
/-- The caller's memory, the callee's blocks put into it (none: it is gone). -/
noncomputable def putH (S : List Nat) (n : Nat) (H : AH) : List (Nat × Option AO) → AH
  | [] => H
  | x :: l => (putH S n H l).set (x.2.map (renO (nmOf S n))) depthH (nmOf S n x.1)
theorem putH_get {S : List Nat} {n : Nat} {H : AH} : ∀ {l : List (Nat × Option AO)} {b : Nat} {o : AO}, (putH S n H l).get b = some o → (∃ x ∈ l, ∃ o', b = nmOf S n x.1 ∧ x.2 = some o' ∧ o = renO (nmOf S n) o') ∨ (H.get b = some o ∧ ∀ x ∈ l, b ≠ nmOf S n x.1)
  | [], b, o, h => .inr ⟨h, fun x hx => by cases hx⟩
  | x :: l, b, o, h => by
    rcases PM.get_set depthH _ _ b o (show ((putH S n H l).set (x.2.map (renO (nmOf S n))) depthH (nmOf S n x.1)).get b = some o from h) with ⟨h1, h2⟩ | ⟨h1, h2⟩
    · rw [Option.map_eq_some_iff] at h2
      obtain ⟨o', h3, h4⟩ := h2
      exact .inl ⟨x, List.mem_cons_self, o', h1, h3, h4.symm⟩
    · rcases putH_get h2 with ⟨y, h3, h4⟩ | ⟨h3, h4⟩
      · exact .inl ⟨y, List.mem_cons_of_mem _ h3, h4⟩
      · refine .inr ⟨h3, fun y hy => ?_⟩
        rcases List.mem_cons.1 hy with rfl | hy
        · exact h1
        · exact h4 y hy
theorem After.put {S : List Nat} {n m : Nat} {H H' : AH} {l : List (Nat × Option AO)} (hm : S.length ≤ m) (hl : l.map (·.1) = List.range m) (h : ∀ x ∈ l, ∀ o, x.2 = some o → H'.get x.1 = some o ∧ o.own = true ∧ ltO m o = true) : After S n m H H' (putH S n H l) := fun b o e => by
  rcases putH_get e with ⟨x, h1, o', h2, h3, h4⟩ | ⟨h1, h2⟩
  · obtain ⟨k1, k2, k3⟩ := h x h1 o' h3
    have : x.1 ∈ List.range m := hl ▸ List.mem_map.2 ⟨x, h1, rfl⟩
    exact .inl ⟨x.1, o', List.mem_range.1 this, h2, k1, k2, k3, h4⟩
  · have key : ∀ c, c < m → b ≠ nmOf S n c := fun c hc => by
      have : c ∈ l.map (·.1) := hl ▸ List.mem_range.2 hc
      obtain ⟨x, h3, rfl⟩ := List.mem_map.1 this
      exact h2 x h3
    refine .inr ⟨?_, h1, fun hS => ?_⟩
    · by_cases q : b < n
      · exact .inl q
      · refine .inr ?_
        rcases Nat.lt_or_ge b (n + (m - S.length)) with q2 | q2
        · exfalso
          refine key (S.length + (b - n)) (by omega) ?_
          rw [nmOf_ge (by omega)]; omega
        · exact q2
    · obtain ⟨i, hi, rfl⟩ := List.mem_iff_getElem.1 hS
      exact absurd (nmOf_lt (n := n) (List.getElem?_eq_getElem hi)).symm (key i (by omega))
/-- Nothing but what was there, if it is as it was. -/
theorem After.same {S : List Nat} {n : Nat} {H H' : AH} (h : ∀ (i s : Nat) o, S[i]? = some s → H.get s = some o → o.own = true → ∃ o', H'.get i = some o' ∧ o'.own = true ∧ ltO S.length o' = true ∧ o = renO (nmOf S n) o') : After S n S.length H H' H := fun b o e => by
  by_cases hb : b ∈ S
  · obtain ⟨i, hi, rfl⟩ := List.mem_iff_getElem.1 hb
    by_cases ho : o.own = true
    · obtain ⟨o', h1, h2, h3, h4⟩ := h i S[i] o (List.getElem?_eq_getElem hi) e ho
      exact .inl ⟨i, o', hi, (nmOf_lt (List.getElem?_eq_getElem hi)).symm, h1, h2, h3, h4⟩
    · exact .inr ⟨by omega, e, fun _ => by simpa using ho⟩
  · exact .inr ⟨by omega, e, fun h => absurd h hb⟩
/-- A function that is known by a run on the blocks it is given. -/
theorem framed {f : FuncId} {run : List AV → AH → Nat → PK → Prop} (hrun : NatP f run) {φ : Ph} {H : AH} {n : Nat} {h0 hp : Hp} {S : List Nat} {O : List AO} {args0 : List AV} {κ : PK} {K : KH} {vs : Array Value} (hic : isCall Try.prog f = true)
    (hr : HR φ H n h0 hp) (hh : Hands H n S O) (hargs : VRs φ (renL (nmOf S n) args0) vs.toList) (hk : ThenP φ h0 κ K)
    {Q : PK} (h : run args0 (mkH (memO O 0)) S.length Q) (hQ : ∀ u H' n', Q u H' n' → ∃ m H2, S.length ≤ m ∧ After S n m H H' H2 ∧ ltV m u = true ∧ κ (ren (nmOf S n) u) H2 (n + (m - S.length))) : CallF Try.prog f vs hp K := by
  have key : Wf hp → CallF Try.prog f vs hp K := fun hw => hrun args0 _ _ _ h ⟨fun b => φ (nmOf S n b), φ.z, φ.z⟩ (cutHp φ S O hp) hp vs K (hr.small hh hw) (VRs.smono (φ := φ.pull (nmOf S n)) (ψ := ⟨fun b => φ (nmOf S n b), φ.z, φ.z⟩) ⟨fun _ _ h => h, fun _ h => h⟩ _ _ ((VRs.pull (χ := φ) (r := nmOf S n) args0 vs.toList).1 hargs)) fun ψ u H' n' w g hle hg hu hq => by
    obtain ⟨m, H2, hm, ha, hl, hκ⟩ := hQ u H' n' hq
    exact hk _ _ _ _ w g (phA_le hr hh hm hle) (hr.after hh hm hle hg ha) ((VR.pull (χ := phA φ ψ S n m) u w).2 (VR.below (ψ := ψ) (m := m) (fun b p hb e => by
      show phA φ ψ S n m (nmOf S n b) = _
      rw [phA_of hh hb]; exact e) (fun _ h => Or.inr h) u w hl hu)) hκ
  exact ⟨hic, fun w hi => (key hi.wf).2 w hi⟩
/-- A block told in another way. -/
theorem HR.reobj {φ : Ph} {H : AH} {n : Nat} {h0 h : Hp} (hr : HR φ H n h0 h) {b : Nat} {o o' : AO} (hb : H.get b = some o) (hown : o.own = true) (hown' : o'.own = true) (hv : o.void = true → o'.void = true) (ho : ∀ p ob, φ b = some p → h.f p.B = some ob → OR φ p o ob → OR φ p o' ob) : HR φ (H.set (some o') depthH b) n h0 h := by
  have back : ∀ z r, (H.set (some o') depthH b).get z = some r → r.own = true → ∃ r', H.get z = some r' ∧ r'.own = true := fun z r hz hw2 => by
    rcases PM.get_set depthH H b z r hz with ⟨rfl, _⟩ | ⟨_, h2⟩
    · exact ⟨o, hb, hown⟩
    · exact ⟨r, h2, hw2⟩
  refine ⟨hr.dom, fun x q hx => ?_, fun x y q q' px py hx hy hwx hwy hpx hpy e => ?_, hr.base, hr.size, fun q hq => ⟨(hr.frz q hq).1, fun y oy py hy hwy hpy => ?_⟩⟩
  · rcases PM.get_set depthH H b x q hx with ⟨rfl, h2⟩ | ⟨h1, h2⟩
    · injection h2 with h2
      subst h2
      rcases hr.live x o hb with ⟨h3, h4⟩ | ⟨p, ob, h3, h4, h5, h6⟩
      · exact .inl ⟨h3, hv h4⟩
      · exact .inr ⟨p, ob, h3, by rw [AO.under_own hown']; rw [AO.under_own hown] at h4; exact h4, h5, ho p ob h3 h5 h6⟩
    · exact hr.live x q h2
  · obtain ⟨r, hr1, hr3⟩ := back x q hx hwx
    obtain ⟨r', hr2, hr4⟩ := back y q' hy hwy
    exact hr.inj x y r r' px py hr1 hr2 hr3 hr4 hpx hpy e
  · obtain ⟨r, hr1, hr3⟩ := back y oy hy hwy
    exact (hr.frz q hq).2 y r py hr1 hr3 hpy
/-- Cells told in another way. -/
theorem HR.recell {φ : Ph} {H : AH} {n : Nat} {h0 h : Hp} (hr : HR φ H n h0 h) {b : Nat} {l l' : List AV} {z : Bool} (hb : H.get b = some (.cells l z)) (hl : l'.length = l.length) (hc : ∀ (i : Nat) (a' : AV), l'[i]? = some a' → ∃ a, l[i]? = some a ∧ ∀ v, VR φ a v → VR φ a' v) : HR φ (H.set (some (.cells l' z)) depthH b) n h0 h :=
  hr.reobj hb rfl rfl (fun q => by cases l with
    | nil => cases l' with
      | nil => rfl
      | cons _ _ => simp at hl
    | cons _ _ => cases q) fun p ob _ _ ⟨c, t, fz, h1, h2, h3, h4, h5, h6⟩ => ⟨c, t, fz, h1, by rw [hl]; exact h2, h3, h4, h5, fun i a' hi => by
      obtain ⟨a, h7, h8⟩ := hc i a' hi
      obtain ⟨v, h9, h10⟩ := h6 i a h7
      exact ⟨v, h9, h8 v h10⟩⟩
end Go.Proofs.Ytkhfdjhohfebgaa
namespace Go.Proofs.Ytkhfdjhohfebgaa
open Go Go.RowKit
theorem mergeS_len : ∀ (A B : List (List Nat)), (mergeS A B).length ≤ A.length + B.length
  | [], B => by rw [mergeS_nil]; simp
  | a :: A, [] => by rw [mergeS_nilr]; simp
  | a :: A, b :: B => by
    by_cases h : leS a b = true
    · by_cases k : leS b a = true
      · have := mergeS_len A B
        rw [mergeS_eq A B h k]; simp only [List.length_cons]; omega
      · have := mergeS_len A (b :: B)
        rw [mergeS_le A B h k]; simp only [List.length_cons] at this ⊢; omega
    · have := mergeS_len (a :: A) B
      rw [mergeS_gt A B h]; simp only [List.length_cons] at this ⊢; omega
termination_by A B => A.length + B.length
theorem n_rising : NatP 76 natRs := fun args H n κ hs φ h0' hp vs K hr hargs hk => by
  unfold natRs at hs
  split at hs
  · obtain ⟨x, rfl, e1⟩ := vs1 hargs
    obtain ⟨V, rfl, hV, hs⟩ := hs
    exact smallN GS_ok (v := .bool (risesS V)) rfl (rising_run V hV) hs hr hk (by kernel_rfl) (φ0 := ⟨fun _ => none, φ.z, φ.z⟩) (fun hw => hr.withz (start_none hw) (fun _ _ h => by cases h) (fun _ h => h)) (.cons (stab_VR (φ := φ) (ψ := ⟨fun _ => none, φ.z, φ.z⟩) (fun _ h => h) rfl e1) .nil)
  · exact hs.elim
def natMgS (args : List AV) (H : AH) (n : Nat) (κ : PK) : Prop := match args with
  | [x, y, f] => ∃ V W, x = .fr V.length 1 (strs V) ∧ y = .fr W.length 1 (strs W) ∧ f = .fn 78 [] [] ∧ V.length + W.length ≤ 1000000 ∧ κ (.fr (mergeS V W).length 1 (strs (mergeS V W))) H n
  | _ => False
theorem singMgS : SingG natMgS := .pure fun args H n κ hs => by
  unfold natMgS at *
  split at hs
  · obtain ⟨V, W, h1, h2, h3, h4, h5⟩ := hs
    exact ⟨_, h5, fun κ' h => ⟨V, W, h1, h2, h3, h4, h⟩⟩
  · exact hs.elim
theorem fn0_VR {φ ψ : Ph} {f : Nat} {v : Value} (h : VR φ (.fn f [] []) v) : VR ψ (.fn f [] []) v := by
  obtain ⟨xs, cs, rfl, h1, h2⟩ := h.fn_inv
  exact .fn (by rw [h1.nil_inv]; exact .nil) (by rw [h2.nil_inv]; exact .nil)
theorem n_mergeS : NatP 77 natMgS := fun args H n κ hs φ h0' hp vs K hr hargs hk => by
  unfold natMgS at hs
  split at hs
  · obtain ⟨x, y, f, rfl, e1, e2, e3⟩ := vs3 hargs
    obtain ⟨V, W, rfl, rfl, rfl, hL, hs⟩ := hs
    exact smallFr GMs_ok (strs_flat _) (by rw [strs_length, Nat.mul_one]) (mergeS_run V W hL) hs hr hk (by kernel_rfl) (φ0 := ⟨fun _ => none, φ.z, φ.z⟩) (fun hw => hr.withz (start_none hw) (fun _ _ h => by cases h) (fun _ h => h)) rfl
      (.cons (stab_VR (ψ := ⟨fun _ => none, φ.z, φ.z⟩) (fun _ h => h) rfl e1) (.cons (stab_VR (ψ := ⟨fun _ => none, φ.z, φ.z⟩) (fun _ h => h) rfl e2) (.cons (fn0_VR e3) .nil)))
  · exact hs.elim
theorem rises_small {V : List (List Nat)} (h : V.length < 2) : risesS V = true := decide_eq_true fun j _ h' => by omega
noncomputable def sortS (V : List (List Nat)) : List (List Nat) := if h : risesS V = true then V else mergeS (sortS (V.take (V.length / 2))) (sortS (V.drop (V.length / 2)))
termination_by V.length
decreasing_by
  · have : ¬ V.length < 2 := fun q => h (rises_small q)
    simp; omega
  · have : ¬ V.length < 2 := fun q => h (rises_small q)
    simp; omega
theorem sortS_up {V : List (List Nat)} (h : risesS V = true) : sortS V = V := by rw [sortS, dif_pos h]
theorem sortS_no {V : List (List Nat)} (h : ¬ risesS V = true) : sortS V = mergeS (sortS (V.take (V.length / 2))) (sortS (V.drop (V.length / 2))) := by rw [sortS, dif_neg h]
theorem sortS_lenN : ∀ (N : Nat) (V : List (List Nat)), V.length ≤ N → (sortS V).length ≤ V.length
  | 0, V, h => by rw [sortS_up (rises_small (by omega))]; exact Nat.le_refl _
  | N + 1, V, h => by
    by_cases q : risesS V = true
    · rw [sortS_up q]; exact Nat.le_refl _
    · have h2 : ¬ V.length < 2 := fun k => q (rises_small k)
      have t1 : (V.take (V.length / 2)).length = V.length / 2 := by rw [List.length_take]; omega
      have t2 : (V.drop (V.length / 2)).length = V.length - V.length / 2 := List.length_drop
      have h3 := sortS_lenN N (V.take (V.length / 2)) (by omega)
      have h4 := sortS_lenN N (V.drop (V.length / 2)) (by omega)
      have h5 := mergeS_len (sortS (V.take (V.length / 2))) (sortS (V.drop (V.length / 2)))
      rw [sortS_no q]; omega
theorem sortS_len (V : List (List Nat)) : (sortS V).length ≤ V.length := sortS_lenN _ V (Nat.le_refl _)
def natSo (N : Nat) (args : List AV) (H : AH) (n : Nat) (κ : PK) : Prop := match args with
  | [x] => ∃ V, x = .fr V.length 1 (strs V) ∧ V.length ≤ N ∧ V.length ≤ 1000000 ∧ κ (.fr (sortS V).length 1 (strs (sortS V))) H n
  | _ => False
theorem singSo {N : Nat} : SingG (natSo N) := .pure fun args H n κ hs => by
  unfold natSo at *
  split at hs
  · obtain ⟨V, h1, h2, h3, h4⟩ := hs
    exact ⟨_, h4, fun κ' h => ⟨V, h1, h2, h3, h⟩⟩
  · exact hs.elim
def d_setssortedstring : DT := [(4, [(some 0, [0]), (some 0, [3]), (some 0, [11, 12]), (none, [13]), (some 1, [0]), (some 2, [3]), (some 3, [15, 16]), (none, [17]), (none, [14, 18]), (some 0, [19])])]
noncomputable def GSm : FuncId → EP := withS 76 natRs (withS 77 natMgS evP)
theorem GSm_ok : TabP GSm := withS_ok (withS_ok evP_ok n_mergeS singMgS) n_rising singRs
noncomputable def GSo (N : Nat) : FuncId → EP := withS 60 (natSo N) GSm
theorem GSo_ok {N : Nat} (h : NatP 60 (natSo N)) : TabP (GSo N) := withS_ok GSm_ok h singSo
set_option maxHeartbeats 4000000 in
set_option maxRecDepth 100000 in
theorem sorted_run (N : Nat) (V : List (List Nat)) (hN : V.length ≤ N + 1) (hL : V.length ≤ 1000000) : recT (GSo N) 3 d_setssortedstring 60 [.fr V.length 1 (strs V)] .nil 0 fun u H' _ => FrG (sortS V).length 1 (strs (sortS V)) u H' := by
  have hlen : (strs (sortS V)).length = (sortS V).length * 1 := by rw [strs_length, Nat.mul_one]
  have hV1 : (strs V).length = V.length * 1 := by rw [strs_length, Nat.mul_one]
  have hbig : (0 + V.length) * 16 ≤ 140737488355328 := by omega
  conv => whnf
  refine ⟨V, rfl, hL, ?_⟩
  conv => whnf
  refine Fork.sb (fun h1 => ?_) (fun h1 => ?_)
  · have he := sortS_up h1
    conv => whnf
    refine RApp.grow 1 16 _ _ _ _ _ _ tyT .fr hV1 (strs_one _) .nsl hbig ?_
    conv => whnf
    exact frG_row rfl (by rw [he, Nat.zero_add]) rfl (by rw [he]; rfl) hlen
  · have h2 : ¬ V.length < 2 := fun k => by rw [rises_small k] at h1; cases h1
    have he := sortS_no (V := V) (by rw [h1]; decide)
    have hw := wrap_half (l := V.length) (by omega)
    have t1 : (V.take (V.length / 2)).length = V.length / 2 := by rw [List.length_take]; omega
    have t2 : (V.drop (V.length / 2)).length = V.length - V.length / 2 := List.length_drop
    have hs : (sortS (V.take (V.length / 2))).length + (sortS (V.drop (V.length / 2))).length ≤ 1000000 := by
      have := sortS_len (V.take (V.length / 2))
      have := sortS_len (V.drop (V.length / 2))
      omega
    conv => whnf
    refine RSl.mk 0 (V.length / 2) rfl (ebnd_is hw) (.inl rfl) (Nat.zero_le _) (by omega) ?_
    conv => whnf
    refine ⟨V.take (V.length / 2), fr_eq t1.symm ((congrArg ((strs V).take ·) (Nat.mul_one _)).trans (strs_take _ _)), by omega, by omega, ?_⟩
    conv => whnf
    refine RSl.mk (V.length / 2) V.length (ebnd_is hw) rfl (.inl rfl) (by omega) (Nat.le_refl _) ?_
    conv => whnf
    refine ⟨V.drop (V.length / 2), fr_eq t2.symm ((congrArg ((strs V).drop ·) (Nat.mul_one _)).trans (strs_drop _ _)), by omega, by omega, ?_⟩
    conv => whnf
    refine ⟨sortS (V.take (V.length / 2)), sortS (V.drop (V.length / 2)), rfl, rfl, rfl, hs, ?_⟩
    conv => whnf
    exact .inr (.inl ⟨fr_eq (by rw [← he]) (by rw [← he]), hlen⟩)
set_option maxHeartbeats 4000000 in
set_option maxRecDepth 100000 in
theorem sorted_run0 (V : List (List Nat)) (hN : V.length ≤ 0) : recT GSm 3 d_setssortedstring 60 [.fr V.length 1 (strs V)] .nil 0 fun u H' _ => FrG (sortS V).length 1 (strs (sortS V)) u H' := by
  have hlen : (strs (sortS V)).length = (sortS V).length * 1 := by rw [strs_length, Nat.mul_one]
  have hV1 : (strs V).length = V.length * 1 := by rw [strs_length, Nat.mul_one]
  have hbig : (0 + V.length) * 16 ≤ 140737488355328 := by omega
  conv => whnf
  refine ⟨V, rfl, by omega, ?_⟩
  conv => whnf
  refine Fork.sb (fun h1 => ?_) (fun h1 => absurd (rises_small (V := V) (by omega)) (by rw [h1]; decide))
  have he := sortS_up h1
  conv => whnf
  refine RApp.grow 1 16 _ _ _ _ _ _ tyT .fr hV1 (strs_one _) .nsl hbig ?_
  conv => whnf
  exact frG_row rfl (by rw [he, Nat.zero_add]) rfl (by rw [he]; rfl) hlen
theorem n_sortedN : ∀ N, NatP 60 (natSo N)
  | 0 => fun args H n κ hs φ h0' hp vs K hr hargs hk => by
    unfold natSo at hs
    split at hs
    · obtain ⟨x, rfl, e1⟩ := vs1 hargs
      obtain ⟨V, rfl, hN, hL, hs⟩ := hs
      exact smallFrR (recT_ok GSm_ok 3 (by kernel_rfl) (by kernel_rfl)) (strs_flat _) (by rw [strs_length, Nat.mul_one]) (sorted_run0 V hN) hs hr hk (by kernel_rfl) (φ0 := ⟨fun _ => none, φ.z, φ.z⟩) (fun hw => hr.withz (start_none hw) (fun _ _ h => by cases h) (fun _ h => h)) rfl
        (.cons (stab_VR (ψ := ⟨fun _ => none, φ.z, φ.z⟩) (fun _ h => h) rfl e1) .nil)
    · exact hs.elim
  | N + 1 => fun args H n κ hs φ h0' hp vs K hr hargs hk => by
    unfold natSo at hs
    split at hs
    · obtain ⟨x, rfl, e1⟩ := vs1 hargs
      obtain ⟨V, rfl, hN, hL, hs⟩ := hs
      exact smallFrR (recT_ok (GSo_ok (n_sortedN N)) 3 (by kernel_rfl) (by kernel_rfl)) (strs_flat _) (by rw [strs_length, Nat.mul_one]) (sorted_run N V hN hL) hs hr hk (by kernel_rfl) (φ0 := ⟨fun _ => none, φ.z, φ.z⟩) (fun hw => hr.withz (start_none hw) (fun _ _ h => by cases h) (fun _ h => h)) rfl
        (.cons (stab_VR (ψ := ⟨fun _ => none, φ.z, φ.z⟩) (fun _ h => h) rfl e1) .nil)
    · exact hs.elim
theorem n_sorted : NatP 60 (natSo 1000000) := n_sortedN _
/-! ### Names -/
def natNm (args : List AV) (H : AH) (n : Nat) (κ : PK) : Prop := match args with
  | [x] => ∃ V, x = .fr V.length 1 (strs V) ∧ V.length ≤ 1000000 ∧ κ (.fr (sortS V).length 1 (strs (sortS V))) H n
  | _ => False
theorem singNm : SingG natNm := .pure fun args H n κ hs => by
  unfold natNm at *
  split at hs
  · obtain ⟨V, h1, h2, h3⟩ := hs
    exact ⟨_, h3, fun κ' h => ⟨V, h1, h2, h⟩⟩
  · exact hs.elim
noncomputable def GNm : FuncId → EP := withD 22 [] (withD 44 [] (withS 60 (natSo 1000000) evP))
theorem GNm_ok : TabP GNm := withD_ok (withD_ok (withS_ok evP_ok n_sorted singSo) (by kernel_rfl) (by kernel_rfl)) (by kernel_rfl) (by kernel_rfl)
set_option maxRecDepth 100000 in
theorem names_run (V : List (List Nat)) (hL : V.length ≤ 1000000) : callT GNm 4 22 [.fr V.length 1 (strs V)] .nil 0 fun u H' _ => FrG (sortS V).length 1 (strs (sortS V)) u H' := by
  conv => whnf
  refine ⟨V, rfl, hL, hL, ?_⟩
  conv => whnf
  exact .inr (.inl ⟨rfl, by rw [strs_length, Nat.mul_one]⟩)
theorem n_names : NatP 22 natNm := fun args H n κ hs φ h0' hp vs K hr hargs hk => by
  unfold natNm at hs
  split at hs
  · obtain ⟨x, rfl, e1⟩ := vs1 hargs
    obtain ⟨V, rfl, hL, hs⟩ := hs
    exact smallFr GNm_ok (strs_flat _) (by rw [strs_length, Nat.mul_one]) (names_run V hL) hs hr hk (by kernel_rfl) (φ0 := ⟨fun _ => none, φ.z, φ.z⟩) (fun hw => hr.withz (start_none hw) (fun _ _ h => by cases h) (fun _ h => h)) rfl (.cons (stab_VR (ψ := ⟨fun _ => none, φ.z, φ.z⟩) (fun _ h => h) rfl e1) .nil)
  · exact hs.elim
end Go.Proofs.Ytkhfdjhohfebgaa
namespace Go.Proofs.Ytkhfdjhohfebgaa
open Go Go.RowKit
/-- An entry: its key, its samples, the block they lie in, and what is behind them. -/
structure GEnt where
  t : Int
  xs : Smp
  b : Nat
  cap : Nat
  rest : List Value
def encS (L : Smp) : List Value := L.flatMap fun x => [.int .i64 x.1, .int .i64 x.2]
theorem encS_length (L : Smp) : (encS L).length = L.length * 2 := by
  induction L with
  | nil => rfl
  | cons x L ih => simp only [encS, List.flatMap_cons, List.length_append, List.length_cons, List.length_nil] at ih ⊢; omega
theorem encS_snoc (L : Smp) (x : Int × Int) : encS (L ++ [x]) = encS L ++ [.int .i64 x.1, .int .i64 x.2] := by simp [encS]
theorem encS_vr (φ : Ph) (L : Smp) : VRs φ (smp L) (encS L) := by
  induction L with
  | nil => exact .nil
  | cons x L ih => exact .cons (.si _ _) (.cons (.si _ _) ih)
abbrev tyS : TypeId := 38
def smpOb (L : Smp) (rest : List Value) : Obj := .cells (encS L ++ rest).toArray tyS (0, 0)
def GEnt.val (e : GEnt) : Value := .slice (some ⟨e.b, 0, none⟩) e.xs.length e.cap
def mEnts : List GEnt → Nat → List MapEntry
  | [], _ => []
  | e :: es, i => { key := .int .i64 e.t, val := e.val, born := i } :: mEnts es (i + 1)
def idxG (T : Int) : List GEnt → Nat → Option (Nat × Value)
  | [], _ => none
  | e :: es, j => if T = e.t then some (j, e.val) else idxG T es (j + 1)
/-- What was there for a time. -/
def oldG (T : Int) : List GEnt → Option GEnt
  | [] => none
  | e :: es => if T = e.t then some e else oldG T es
def valO : Option GEnt → Value
  | none => .slice none 0 0
  | some e => e.val
def xsO : Option GEnt → Smp
  | none => []
  | some e => e.xs
def upG (x : Int × Int) (b cap : Nat) (rest : List Value) : List GEnt → List GEnt
  | [] => [⟨x.1, [x], b, cap, rest⟩]
  | e :: es => if x.1 = e.t then ⟨e.t, e.xs ++ [x], b, cap, rest⟩ :: es else e :: upG x b cap rest es
def gOf (es : List GEnt) : Grp := es.map fun e => (e.t, e.xs)
theorem upG_gOf (x : Int × Int) (b cap : Nat) (rest : List Value) : ∀ es, gOf (upG x b cap rest es) = gIns (gOf es) x
  | [] => rfl
  | e :: es => by
    unfold upG
    by_cases h : x.1 = e.t
    · rw [if_pos h]
      show (e.t, e.xs ++ [x]) :: gOf es = gIns ((e.t, e.xs) :: gOf es) x
      rw [gIns, if_pos h.symm]
    · rw [if_neg h]
      show (e.t, e.xs) :: gOf (upG x b cap rest es) = gIns ((e.t, e.xs) :: gOf es) x
      rw [gIns, if_neg (fun q => h q.symm), upG_gOf]
theorem upG_t (x : Int × Int) (b cap : Nat) (rest : List Value) : ∀ es, (upG x b cap rest es).map (·.t) = if x.1 ∈ es.map (·.t) then es.map (·.t) else es.map (·.t) ++ [x.1]
  | [] => by simp [upG]
  | e :: es => by
    have ih := upG_t x b cap rest es
    unfold upG
    by_cases h : x.1 = e.t
    · rw [if_pos h, if_pos (by simp [h])]; rfl
    · rw [if_neg h]
      show e.t :: (upG x b cap rest es).map (·.t) = _
      rw [ih]
      by_cases q : x.1 ∈ es.map (·.t)
      · rw [if_pos q, if_pos (by simp only [List.map_cons, List.mem_cons]; exact .inr q)]; rfl
      · rw [if_neg q, if_neg (by simp only [List.map_cons, List.mem_cons]; exact fun k => k.elim h q)]; rfl
theorem upG_mem (x : Int × Int) (b cap : Nat) (rest : List Value) : ∀ es : List GEnt, (es.map (·.t)).Nodup → ∀ e ∈ upG x b cap rest es, (e ∈ es ∧ e.t ≠ x.1) ∨ (e.b = b ∧ e.cap = cap ∧ e.rest = rest ∧ e.t = x.1 ∧ e.xs = xsO (oldG x.1 es) ++ [x])
  | [], _, e, he => by
    simp only [upG, List.mem_singleton] at he
    subst he
    exact .inr ⟨rfl, rfl, rfl, rfl, rfl⟩
  | f :: es, hn, e, he => by
    obtain ⟨hn1, hn2⟩ := List.nodup_cons.1 (show (f.t :: es.map (·.t)).Nodup from hn)
    unfold upG at he
    by_cases h : x.1 = f.t
    · rw [if_pos h] at he
      rcases List.mem_cons.1 he with rfl | he
      · refine .inr ⟨rfl, rfl, rfl, h.symm, ?_⟩
        simp only [oldG, if_pos h, xsO]
      · refine .inl ⟨List.mem_cons_of_mem _ he, fun q => hn1 ?_⟩
        rw [← h, ← q]
        exact List.mem_map.2 ⟨e, he, rfl⟩
    · rw [if_neg h] at he
      rcases List.mem_cons.1 he with rfl | he
      · exact .inl ⟨List.mem_cons_self, fun q => h q.symm⟩
      · rcases upG_mem x b cap rest es hn2 e he with ⟨h1, h2⟩ | h1
        · exact .inl ⟨List.mem_cons_of_mem _ h1, h2⟩
        · refine .inr ?_
          simp only [oldG, if_neg h]
          exact h1
theorem upG_nodup (x : Int × Int) (b cap : Nat) (rest : List Value) : ∀ es : List GEnt, (es.map (·.b)).Nodup → (∀ e ∈ es, e.t ≠ x.1 → e.b ≠ b) → (es.map (·.t)).Nodup → ((upG x b cap rest es).map (·.b)).Nodup
  | [], _, _, _ => by simp [upG]
  | f :: es, hn, hb, ht => by
    obtain ⟨hn1, hn2⟩ := List.nodup_cons.1 (show (f.b :: es.map (·.b)).Nodup from hn)
    obtain ⟨ht1, ht2⟩ := List.nodup_cons.1 (show (f.t :: es.map (·.t)).Nodup from ht)
    unfold upG
    by_cases h : x.1 = f.t
    · rw [if_pos h]
      refine List.nodup_cons.2 ⟨fun k => ?_, hn2⟩
      obtain ⟨e, h1, h2⟩ := List.mem_map.1 k
      refine hb e (List.mem_cons_of_mem _ h1) (fun q => ht1 ?_) h2
      rw [← h, ← q]
      exact List.mem_map.2 ⟨e, h1, rfl⟩
    · rw [if_neg h]
      refine List.nodup_cons.2 ⟨fun k => ?_, upG_nodup x b cap rest es hn2 (fun e he => hb e (List.mem_cons_of_mem _ he)) ht2⟩
      obtain ⟨e, h1, h2⟩ := List.mem_map.1 k
      rcases upG_mem x b cap rest es ht2 e h1 with ⟨h3, _⟩ | ⟨h3, _⟩
      · exact hn1 (List.mem_map.2 ⟨e, h3, h2⟩)
      · exact hb f List.mem_cons_self (fun q => h q.symm) (h2.symm.trans h3)
theorem upG_put (x : Int × Int) (b cap : Nat) (rest : List Value) : ∀ (es : List GEnt) (i : Nat), idxG x.1 es i = none → (upG x b cap rest es) = es ++ [⟨x.1, [x], b, cap, rest⟩]
  | [], i, _ => rfl
  | e :: es, i, h => by
    unfold idxG at h
    unfold upG
    split at h
    · cases h
    · rename_i q
      rw [if_neg q, upG_put x b cap rest es (i + 1) h]; rfl
theorem mEnts_app (e : GEnt) : ∀ (es : List GEnt) (i : Nat), mEnts (es ++ [e]) i = mEnts es i ++ [{ key := .int .i64 e.t, val := e.val, born := i + es.length }]
  | [], i => rfl
  | f :: es, i => by
    show _ :: mEnts (es ++ [e]) (i + 1) = _
    rw [mEnts_app e es (i + 1)]
    simp only [List.length_cons, mEnts, List.cons_append]
    rw [show i + 1 + es.length = i + (es.length + 1) from by omega]
theorem idxG_old (T : Int) : ∀ (es : List GEnt) (i : Nat), (idxG T es i = none ∧ oldG T es = none) ∨ ∃ j e, idxG T es i = some (i + j, e.val) ∧ oldG T es = some e
  | [], i => .inl ⟨rfl, rfl⟩
  | e :: es, i => by
    unfold idxG oldG
    by_cases h : T = e.t
    · rw [if_pos h, if_pos h]; exact .inr ⟨0, e, rfl, rfl⟩
    · rw [if_neg h, if_neg h]
      rcases idxG_old T es (i + 1) with h1 | ⟨j, f, h1, h2⟩
      · exact .inl h1
      · exact .inr ⟨j + 1, f, by rw [h1, show i + 1 + j = i + (j + 1) from by omega], h2⟩
theorem upG_chg (x : Int × Int) (b cap : Nat) (rest : List Value) : ∀ (es : List GEnt) (i k j : Nat) (e : GEnt), idxG x.1 es i = some (i + j, e.val) → oldG x.1 es = some e →
    mEnts (upG x b cap rest es) k = chg (.int .i64 x.1) (.slice (some ⟨b, 0, none⟩) (e.xs.length + 1) cap) (mEnts es k) j ∧ (upG x b cap rest es).length = es.length
  | [], i, k, j, e, h, _ => by cases h
  | f :: es, i, k, j, e, h, ho => by
    unfold idxG at h
    unfold oldG at ho
    unfold upG
    by_cases q : x.1 = f.t
    · rw [if_pos q] at h ho ⊢
      injection ho with ho
      subst ho
      injection h with h
      injection h with h _
      obtain rfl : j = 0 := by omega
      refine ⟨?_, rfl⟩
      show _ :: mEnts es (k + 1) = _ :: mEnts es (k + 1)
      simp [GEnt.val, q]
    · rw [if_neg q] at h ho ⊢
      cases j with
      | zero =>
        exfalso
        rcases idxG_old x.1 es (i + 1) with ⟨h1, _⟩ | ⟨j, g, h1, _⟩
        · rw [h1] at h; cases h
        · rw [h1] at h; injection h with h; injection h with h _; omega
      | succ j =>
        obtain ⟨h1, h2⟩ := upG_chg x b cap rest es (i + 1) (k + 1) j e (by rw [h, show i + 1 + j = i + (j + 1) from by omega]) ho
        refine ⟨?_, by simp [h2]⟩
        show _ :: mEnts (upG x b cap rest es) (k + 1) = _ :: chg _ _ (mEnts es (k + 1)) j
        rw [h1]
theorem putEs_up (x : Int × Int) (b cap : Nat) (rest : List Value) (es : List GEnt) :
    putEs (.int .i64 x.1) (.slice (some ⟨b, 0, none⟩) ((xsO (oldG x.1 es)).length + 1) cap) (mEnts es 0) es.length (idxG x.1 es 0) = .map (mEnts (upG x b cap rest es) 0).toArray (upG x b cap rest es).length := by
  rcases idxG_old x.1 es 0 with ⟨h1, h2⟩ | ⟨j, e, h1, h2⟩
  · rw [h1, h2, upG_put x b cap rest es 0 h1, mEnts_app]
    simp [putEs, xsO, GEnt.val]
  · obtain ⟨h3, h4⟩ := upG_chg x b cap rest es 0 0 j e h1 h2
    rw [h1, h2, h3, h4]
    simp only [putEs, xsO, Nat.zero_add]
theorem mfindG (T : Int) : ∀ (es : List GEnt) (k j : Nat), mfind (.int .i64) (.int .i64 T) (mEnts es k) j = some (idxG T es j)
  | [], _, _ => rfl
  | e :: es, k, j => by
    simp only [mEnts, mfind_cons, same_int, idxG]
    by_cases h : T = e.t
    · simp [h, pickF]
    · simp [h, pickF, mfindG T es (k + 1) (j + 1)]
abbrev tyMp : TypeId := 63
theorem kindG : mapKind Try.prog tyMp = some (3, .int .i64, 26) := rfl
theorem lookG {h : Hp} {M n : Nat} {es : List GEnt} (hm : h.f M = some (.map (mEnts es 0).toArray n)) (T : Int) : lookupR Try.prog tyMp (.map (some M)) (.int .i64 T) false h = some (valO (oldG T es)) := by
  unfold lookupR
  rw [kindG]
  simp only [Option.bind_some, mapRow, hm, mfindG]
  rcases idxG_old T es 0 with ⟨h1, h2⟩ | ⟨j, e, h1, h2⟩
  · rw [h1, h2]; rfl
  · rw [h1, h2]; rfl
theorem updG {h : Hp} {M n : Nat} {es : List GEnt} (hm : h.f M = some (.map (mEnts es 0).toArray n)) (T : Int) (v : Value) : mapUpdR Try.prog tyMp (.map (some M)) (.int .i64 T) v h = some (h.put M (putEs (.int .i64 T) v (mEnts es 0) n (idxG T es 0))) := by
  unfold mapUpdR
  simp only [hm, kindG, Option.bind_some, mfindG, Option.map_some]
/-! ### what memory holds -/
structure EntOk (h : Hp) (M : Nat) (e : GEnt) : Prop where
  ob : h.f e.b = some (smpOb e.xs e.rest)
  lo : M < e.b
  cp : e.xs.length ≤ e.cap
  re : e.rest.length = (e.cap - e.xs.length) * 2
structure GStE (hp h : Hp) (es : List GEnt) : Prop where
  nb : (es.map (·.b)).Nodup
  nt : (es.map (·.t)).Nodup
  ok : ∀ e ∈ es, EntOk h hp.n e
  mp : h.f hp.n = some (.map (mEnts es 0).toArray es.length)
  base : ∀ b o, hp.f b = some o → h.f b = some o
  sz : hp.n < h.n
theorem GStE.start {hp : Hp} (hw : Wf hp) : GStE hp ((hp.put hp.n (.map #[] 0)).to (hp.n + 1)) [] :=
  ⟨by simp, by simp, fun e he => (by cases he), by rw [to_f, put_f_same]; rfl, fun b o e => by rw [to_f, put_f_ne _ _ _ _ (fun q => by have := hw b o e; omega)]; exact e, by rw [to_n]; omega⟩
/-- A block more. -/
theorem GStE.new {hp h : Hp} {es : List GEnt} (hg : GStE hp h es) (hw : Wf h) (o : Obj) : GStE hp ((h.put h.n o).to (h.n + 1)) es := by
  have old : ∀ b o', h.f b = some o' → ((h.put h.n o).to (h.n + 1)).f b = some o' := fun b o' e => by
    rw [to_f, put_f_ne _ _ _ _ (fun q => by have := hw b o' e; omega)]; exact e
  exact ⟨hg.nb, hg.nt, fun e he => ⟨old _ _ (hg.ok e he).ob, (hg.ok e he).lo, (hg.ok e he).cp, (hg.ok e he).re⟩, old _ _ hg.mp, fun b o' e => old _ _ (hg.base b o' e), by rw [to_n]; have := hg.sz; omega⟩
theorem GStE.sub {hp h g : Hp} {es : List GEnt} (hg : GStE hp h es) (hs : ∀ b o, h.f b = some o → g.f b = some o) (hn : h.n ≤ g.n) : GStE hp g es :=
  ⟨hg.nb, hg.nt, fun e he => ⟨hs _ _ (hg.ok e he).ob, (hg.ok e he).lo, (hg.ok e he).cp, (hg.ok e he).re⟩, hs _ _ hg.mp, fun b o e => hs _ _ (hg.base b o e), Nat.lt_of_lt_of_le hg.sz hn⟩
/-- Behind the append: the samples lie in a block, the map is as it was. -/
structure MidG (hp h : Hp) (es : List GEnt) (x : Int × Int) (b cap : Nat) (rest : List Value) : Prop where
  base : ∀ b o, hp.f b = some o → h.f b = some o
  mp : h.f hp.n = some (.map (mEnts es 0).toArray es.length)
  ob : h.f b = some (smpOb (xsO (oldG x.1 es) ++ [x]) rest)
  lo : hp.n < b
  cp : (xsO (oldG x.1 es)).length + 1 ≤ cap
  re : rest.length = (cap - ((xsO (oldG x.1 es)).length + 1)) * 2
  ok : ∀ e ∈ es, e.t ≠ x.1 → e.b ≠ b ∧ EntOk h hp.n e
  sz : hp.n < h.n
theorem MidG.done {hp h : Hp} {es : List GEnt} {x : Int × Int} {b cap : Nat} {rest : List Value} (hm : MidG hp h es x b cap rest) (hg : (es.map (·.b)).Nodup) (ht : (es.map (·.t)).Nodup) (hw : Wf hp) :
    GStE hp (h.put hp.n (putEs (.int .i64 x.1) (.slice (some ⟨b, 0, none⟩) ((xsO (oldG x.1 es)).length + 1) cap) (mEnts es 0) es.length (idxG x.1 es 0))) (upG x b cap rest es) := by
  rw [putEs_up x b cap rest es]
  refine ⟨upG_nodup x b cap rest es hg (fun e he q => (hm.ok e he q).1) ht, ?_, fun e he => ?_, put_f_same _ _ _, fun b' o e => ?_, hm.sz⟩
  · rw [upG_t]
    split
    · exact ht
    · rename_i q
      rw [List.nodup_append]
      exact ⟨ht, by simp, fun a ha b hb e => by simp at hb; subst hb e; exact q ha⟩
  · rcases upG_mem x b cap rest es ht e he with ⟨h1, h2⟩ | ⟨h1, h2, h3, h4, h5⟩
    · obtain ⟨_, k⟩ := hm.ok e h1 h2
      exact ⟨by rw [put_f_ne _ _ _ _ (fun q => by have := k.lo; omega)]; exact k.ob, k.lo, k.cp, k.re⟩
    · refine ⟨?_, by rw [h1]; exact hm.lo, by rw [h2, h5]; simpa using hm.cp, by rw [h2, h3, h5]; simpa using hm.re⟩
      rw [h1, h3, h5, put_f_ne _ _ _ _ (fun q => by have := hm.lo; omega)]
      exact hm.ob
  · rw [put_f_ne _ _ _ _ (fun q => by have := hw b' o e; omega)]
    exact hm.base b' o e
end Go.Proofs.Ytkhfdjhohfebgaa
namespace Go.Proofs.Ytkhfdjhohfebgaa
open Go Go.RowKit
/-- What the region's first nine operations yield. -/
def wantG (hp hs : Hp) (es : List GEnt) (x : Int × Int) (xB : Nat) : Nat → Value
  | 0 => .map (some hp.n)
  | 1 => .pointer (some ⟨xB, 0, none⟩)
  | 2 => .int .i64 x.1
  | 3 => .map (some hp.n)
  | 4 => .pointer (some ⟨xB, 0, none⟩)
  | 5 => .int .i64 x.1
  | 6 => valO (oldG x.1 es)
  | 7 => .agg #[.int .i64 x.1, .int .i64 x.2]
  | _ => .slice (some ⟨hs.n, 0, none⟩) 1 1
def Hp.one (hs : Hp) (x : Int × Int) : Hp := (hs.put hs.n (smpOb [x] [])).to (hs.n + 1)
structure GI (hp hs : Hp) (es : List GEnt) (x : Int × Int) (xB : Nat) (ρ0 : Env) (L : Nat → Bool) (ρ : Env) (h : Hp) : Prop where
  fr : ∀ t, (t < 21 ∨ 30 < t) → ρ t = ρ0 t
  sl : ∀ k, k ≤ 8 → L k = true → ρ (21 + k) = wantG hp hs es x xB k
  h8 : L 9 = false → h = if L 8 = true then hs.one x else hs
  h9 : L 9 = true → L 10 = false → ∃ b cap rest, ρ 30 = .slice (some ⟨b, 0, none⟩) ((xsO (oldG x.1 es)).length + 1) cap ∧ MidG hp h es x b cap rest ∧ h.f xB = some (smpOb [x] [])
  h10 : L 10 = true → ∃ es', GStE hp h es' ∧ gOf es' = gIns (gOf es) x
def setL1 (L : Nat → Bool) (i : Nat) : Nat → Bool := fun k => if k = i then true else L k
section
variable {hp hs : Hp} {es : List GEnt} {x : Int × Int} {xB : Nat} {ρ0 ρ : Env} {L : Nat → Bool} {h : Hp}
theorem GI.set (hI : GI hp hs es x xB ρ0 L ρ h) (hL : L 10 = false) {i : Nat} (hi : i ≤ 7) {v : Value} (hv : v = wantG hp hs es x xB i) : GI hp hs es x xB ρ0 (setL1 L i) (ρ.upd (21 + i) v) h := by
  have e8 : setL1 L i 8 = L 8 := by unfold setL1; rw [if_neg (by omega)]
  have e9 : setL1 L i 9 = L 9 := by unfold setL1; rw [if_neg (by omega)]
  have e10 : setL1 L i 10 = L 10 := by unfold setL1; rw [if_neg (by omega)]
  refine ⟨fun t ht => ?_, fun k hk hl => ?_, fun q => ?_, fun q r => ?_, fun q => ?_⟩
  · rw [upd_ne _ _ _ _ (by omega)]; exact hI.fr t ht
  · by_cases e : k = i
    · subst e; rw [upd_same]; exact hv
    · unfold setL1 at hl
      rw [if_neg e] at hl
      rw [upd_ne _ _ _ _ (by omega)]; exact hI.sl k hk hl
  · rw [e8]; rw [e9] at q; exact hI.h8 q
  · rw [e9] at q; rw [e10] at r
    rw [upd_ne _ _ _ _ (by omega)]; exact hI.h9 q r
  · rw [e10, hL] at q; cases q
theorem GI.xb (hI : GI hp hs es x xB ρ0 L ρ h) (hL : L 10 = false) (hx : hs.f xB = some (smpOb [x] [])) (hw : Wf hs) : h.f xB = some (smpOb [x] []) := by
  cases q : L 9 with
  | false =>
    have := hI.h8 q
    rw [this]
    split
    · unfold Hp.one
      rw [to_f, put_f_ne _ _ _ _ (fun e => by have := hw _ _ hx; omega)]; exact hx
    · exact hx
  | true =>
    obtain ⟨b, cap, rest, _, _, h3⟩ := hI.h9 q hL
    exact h3
theorem GI.mp (hI : GI hp hs es x xB ρ0 L ρ h) (hL : L 9 = false) (hg : GStE hp hs es) : h.f hp.n = some (.map (mEnts es 0).toArray es.length) := by
  have := hI.h8 hL
  rw [this]
  split
  · unfold Hp.one
    rw [to_f, put_f_ne _ _ _ _ (by have := hg.sz; omega)]; exact hg.mp
  · exact hg.mp
/-- The sample in a row of its own. -/
theorem GI.slice (hI : GI hp hs es x xB ρ0 L ρ h) (h8 : L 8 = false) (h9 : L 9 = false) (h10 : L 10 = false) : h = hs ∧ GI hp hs es x xB ρ0 (setL1 L 8) (ρ.upd 29 (.slice (some ⟨hs.n, 0, none⟩) 1 1)) (hs.one x) := by
  refine ⟨by rw [hI.h8 h9, h8]; rfl, fun t ht => ?_, fun k hk hl => ?_, fun _ => rfl, fun q => ?_, fun q => ?_⟩
  · rw [upd_ne _ _ _ _ (by omega)]; exact hI.fr t ht
  · by_cases e : k = 8
    · subst e; rw [upd_same]; rfl
    · unfold setL1 at hl
      rw [if_neg e] at hl
      rw [upd_ne _ _ _ _ (by omega)]; exact hI.sl k hk hl
  · have q : L 9 = true := q
    rw [h9] at q; cases q
  · have q : L 10 = true := q
    rw [h10] at q; cases q
/-- The append, there or in a new block. -/
theorem GI.app (hI : GI hp hs es x xB ρ0 L ρ h) (h8 : L 8 = true) (h9 : L 9 = false) (h10 : L 10 = false) {b cap : Nat} {rest : List Value} {g : Hp} (hm : MidG hp g es x b cap rest) (hx : g.f xB = some (smpOb [x] [])) : GI hp hs es x xB ρ0 (setL1 L 9) (ρ.upd 30 (.slice (some ⟨b, 0, none⟩) ((xsO (oldG x.1 es)).length + 1) cap)) g := by
  refine ⟨fun t ht => ?_, fun k hk hl => ?_, fun q => (by cases q), fun _ _ => ⟨b, cap, rest, by rw [upd_same], hm, hx⟩, fun q => ?_⟩
  · rw [upd_ne _ _ _ _ (by omega)]; exact hI.fr t ht
  · unfold setL1 at hl
    rw [if_neg (by omega)] at hl
    rw [upd_ne _ _ _ _ (by omega)]; exact hI.sl k hk hl
  · have q : L 10 = true := q
    rw [h10] at q; cases q
theorem oldG_mem {T : Int} {e : GEnt} : ∀ {es : List GEnt}, oldG T es = some e → e ∈ es ∧ e.t = T
  | f :: es, h => by
    unfold oldG at h
    split at h
    · rename_i q
      injection h with h
      subst h
      exact ⟨List.mem_cons_self, q.symm⟩
    · obtain ⟨h1, h2⟩ := oldG_mem h
      exact ⟨List.mem_cons_of_mem _ h1, h2⟩
theorem nodup_b : ∀ {es : List GEnt}, (es.map (·.b)).Nodup → ∀ {e f : GEnt}, e ∈ es → f ∈ es → e.b = f.b → e = f
  | g :: es, hn, e, f, he, hf, q => by
    obtain ⟨hn1, hn2⟩ := List.nodup_cons.1 (show (g.b :: es.map (·.b)).Nodup from hn)
    rcases List.mem_cons.1 he with e1 | e1 <;> rcases List.mem_cons.1 hf with f1 | f1
    · rw [e1, f1]
    · exact absurd (List.mem_map.2 ⟨f, f1, by rw [← q, e1]⟩) hn1
    · exact absurd (List.mem_map.2 ⟨e, e1, by rw [q, f1]⟩) hn1
    · exact nodup_b hn2 e1 f1 q
theorem midG {g : Hp} {b cap n' : Nat} {rest : List Value} (hg : GStE hp g es) (hw : Wf hp) (hwg : Wf g) (hb : (∃ e, oldG x.1 es = some e ∧ b = e.b) ∨ b = g.n) (hn : g.n ≤ n')
    (cp : (xsO (oldG x.1 es)).length + 1 ≤ cap) (re : rest.length = (cap - ((xsO (oldG x.1 es)).length + 1)) * 2) : MidG hp ((g.put b (smpOb (xsO (oldG x.1 es) ++ [x]) rest)).to n') es x b cap rest := by
  have hlo : hp.n < b := by
    rcases hb with ⟨e, h1, rfl⟩ | rfl
    · exact (hg.ok e (oldG_mem h1).1).lo
    · exact hg.sz
  have hne : ∀ e ∈ es, e.t ≠ x.1 → e.b ≠ b := fun e he ht q => by
    rcases hb with ⟨f, h1, h2⟩ | h2
    · obtain ⟨h3, h4⟩ := oldG_mem h1
      have := nodup_b hg.nb he h3 (q.trans h2)
      subst this
      exact ht h4
    · have := hwg _ _ (hg.ok e he).ob; omega
  refine ⟨fun b' o e => ?_, ?_, by rw [to_f, put_f_same], hlo, cp, re, fun e he ht => ⟨hne e he ht, ⟨?_, (hg.ok e he).lo, (hg.ok e he).cp, (hg.ok e he).re⟩⟩, by rw [to_n]; have := hg.sz; omega⟩
  · rw [to_f, put_f_ne _ _ _ _ (fun q => by have := hw _ _ e; omega)]; exact hg.base _ _ e
  · rw [to_f, put_f_ne _ _ _ _ (by omega)]; exact hg.mp
  · rw [to_f, put_f_ne _ _ _ _ (hne e he ht)]; exact (hg.ok e he).ob
/-- The entry put into the map. -/
theorem GI.put {h : Hp} (hI : GI hp hs es x xB ρ0 L ρ h) (h9 : L 9 = true) (hg : GStE hp hs es) (hw : Wf hp) {b cap : Nat} {rest : List Value} (hm : MidG hp h es x b cap rest) : GI hp hs es x xB ρ0 (setL1 L 10) ρ
    (h.put hp.n (putEs (.int .i64 x.1) (.slice (some ⟨b, 0, none⟩) ((xsO (oldG x.1 es)).length + 1) cap) (mEnts es 0) es.length (idxG x.1 es 0))) := by
  refine ⟨hI.fr, fun k hk hl => ?_, fun q => ?_, fun _ r => (by cases r), fun _ => ⟨_, hm.done hg.nb hg.nt hw, upG_gOf _ _ _ _ _⟩⟩
  · unfold setL1 at hl
    rw [if_neg (by omega)] at hl
    exact hI.sl k hk hl
  · have q : L 9 = false := q
    rw [h9] at q; cases q
end
end Go.Proofs.Ytkhfdjhohfebgaa
namespace Go.Proofs.Ytkhfdjhohfebgaa
open Go Go.RowKit
/-- A row of samples in memory; a row of such. -/
def SmpC (h : Hp) (v : Value) (L : Smp) : Prop := ∃ p C, v = .slice p L.length C ∧ ∀ j (hj : j < L.length), ∃ b o c t fz, p = some ⟨b, o, none⟩ ∧ h.f b = some (.cells c t fz) ∧ c[o + j * 2]? = some (.int .i64 L[j].1) ∧ c[o + (j * 2 + 1)]? = some (.int .i64 L[j].2)
def RowsCc (h : Hp) (p : Option Addr) (X : List Smp) : Prop := ∀ i (hi : i < X.length), ∃ b o c t fz u, p = some ⟨b, o, none⟩ ∧ h.f b = some (.cells c t fz) ∧ c[o + i]? = some u ∧ SmpC h u X[i]
theorem slTyS : SlTy Try.prog 26 tyS 2 16 (.agg #[.int .i64 0, .int .i64 0]) := ⟨rfl, rfl, rfl, rfl, rfl, by decide, by decide⟩
theorem AnyI.go {P : Program} {ops : Array Oper} {ρ : Env} {h : Hp} {N : Env → Hp → Prop} (k : ∀ ρ' h', ρ' = ρ → h' = h → AnyI P ops ρ' h' N) : AnyI P ops ρ h N := k ρ h rfl rfl
theorem gstep_plain {P : Program} {ops : Array Oper} {o : Oper} {ρ : Env} {h : Hp} {K : Env → Hp → Prop} (hg : o.guard = none) : gstep P ops o ρ h K = astep P o.op ρ h fun v h' => K (ρ.put o.dst v) h' := by
  unfold gstep; rw [hg]
theorem len_flat {L : Smp} : ∀ {X : List Smp}, L ∈ X → L.length ≤ X.flatten.length
  | M :: X, h => by
    rw [List.flatten_cons, List.length_append]
    rcases List.mem_cons.1 h with rfl | h
    · omega
    · have := len_flat h; omega
theorem gather_snoc {X : List Smp} {i : Nat} (h : i < X.length) : gatherF (X.take (i + 1)) = X[i].foldl gIns (gatherF (X.take i)) := by
  unfold gatherF
  rw [List.take_succ_eq_append_getElem h, List.flatten_append, List.foldl_append]
  simp
theorem len_old {Y : List Smp} {M : Smp} {es : List GEnt} (hes : gOf es = M.foldl gIns (gatherF Y)) (h1 : Y.flatten.length ≤ 1000000) (h2 : M.length ≤ 1000000) (T : Int) : (xsO (oldG T es)).length ≤ 2000000 := by
  cases ho : oldG T es with
  | none => exact Nat.zero_le _
  | some e =>
    obtain ⟨h3, _⟩ := oldG_mem ho
    have hg := isGrp_fold M Y.flatten (gatherF Y) (gather_is Y)
    rw [← hes] at hg
    have h4 := hg.all e.t e.xs (List.mem_map.2 ⟨e, h3, rfl⟩)
    show e.xs.length ≤ _
    rw [h4]
    refine Nat.le_trans (List.length_filter_le _ _) ?_
    rw [List.length_append]; omega
theorem take_flat (X : List Smp) (i : Nat) : (X.take i).flatten.length ≤ X.flatten.length := by
  have := congrArg (fun l : List Smp => l.flatten.length) (List.take_append_drop i X)
  simp only [List.flatten_append, List.length_append] at this
  omega
set_option maxRecDepth 10000 in
set_option maxHeartbeats 2000000 in
theorem c_gather {hp : Hp} {p : Option Addr} {C : Nat} {X : List Smp} (hrows : RowsCc hp p X) (hX : X.length + X.flatten.length ≤ 1000000) {K : CH} (hk : ∀ es g, GStE hp g es → gOf es = gatherF X → Wf g → K.go (.map (some hp.n)) g) : @Go1 _ (CallF Try.prog 39 #[.slice p X.length C] hp) K := by
  refine go_of tab.mixed Try.func39 rfl Try.ntmps39 Try.results39 tab.ca39 (by kernel_rfl) (Nat.le_of_ble_eq_true rfl) fun hw => ?_
  simp only [go_sem, Nat.reduceBEq, Nat.reduceAdd, Nat.reduceLeDiff, Nat.reduceEqDiff, Nat.reduceMul, Nat.reduceLT, Int.reduceLE, Int.reduceLT, Int.reduceToNat, Int.reduceEq, Int.toNat_natCast, Nat.zero_add, Nat.add_zero, Int.ofNat_lt, Int.ofNat_le, Int.natCast_nonneg, decide_true, decide_false, Bool.false_eq_true]
  refine LoopI.rule [12, 13, 14, 5, 15, 16, 17, 18, 19, 20, 7, 21, 22, 23, 24, 25, 26, 27, 28, 29, 30, 31, 32, 11] (by kernel_rfl) (fun ρ g => ∃ (i : Nat) (es : List GEnt), i ≤ X.length ∧ ρ 11 = .int .i64 i ∧ GStE hp g es ∧ gOf es = gatherF (X.take i)) (fun ρ g => match ρ 11 with | .int _ i => X.length - i.toNat | _ => 0) ?_ ?_
  · exact ⟨0, [], Nat.zero_le _, rfl, .start hw, rfl⟩
  · rintro ρ g ⟨i, es, hi, h11, hg, hes⟩ hwg fr
    have h9 : ρ 9 = .slice p X.length C := fr 9 rfl
    have h10 : ρ 10 = .int .i64 X.length := fr 10 rfl
    have h3 : ρ 3 = .map (some hp.n) := fr 3 rfl
    simp only [go_sem, Nat.reduceBEq, Nat.reduceAdd, Nat.reduceLeDiff, Nat.reduceEqDiff, Nat.reduceMul, Nat.reduceLT, Int.reduceLE, Int.reduceLT, Int.reduceToNat, Int.reduceEq, Int.toNat_natCast, Nat.zero_add, Nat.add_zero, Int.ofNat_lt, Int.ofNat_le, Int.natCast_nonneg, decide_true, decide_false, Bool.false_eq_true, h11, h10, h9]
    refine Two.mk (fun hlt => ?_) (fun hge => ?_)
    · obtain ⟨b, o, c, t, fz, u, rfl, hc, hcu, p2, C2, rfl, hcells⟩ := hrows i hlt
      have hgc := hg.base _ _ hc
      have hLl : X[i].length ≤ X.flatten.length := len_flat (List.getElem_mem hlt)
      simp only [go_sem, Nat.reduceBEq, Nat.reduceAdd, Nat.reduceLeDiff, Nat.reduceEqDiff, Nat.reduceMul, Nat.reduceLT, Int.reduceLE, Int.reduceLT, Int.reduceToNat, Int.reduceEq, Int.toNat_natCast, Nat.zero_add, Nat.add_zero, Int.ofNat_lt, Int.ofNat_le, Int.natCast_nonneg, decide_true, decide_false, Bool.false_eq_true, hlt, hgc, hcu, Nat.mul_one]
      refine LoopI.rule [18, 19, 20, 7, 21, 22, 23, 24, 25, 26, 27, 28, 29, 30, 31, 17] (by kernel_rfl) (fun ρ' g => ∃ (j : Nat) (es : List GEnt), j ≤ X[i].length ∧ ρ' 17 = .int .i64 j ∧ GStE hp g es ∧ gOf es = (X[i].take j).foldl gIns (gatherF (X.take i))) (fun ρ' g => match ρ' 17 with | .int _ j => X[i].length - j.toNat | _ => 0) ?_ ?_
      · exact ⟨0, es, Nat.zero_le _, rfl, hg, hes⟩
      · clear hg hes hgc
        rintro ρ2 g2 ⟨j, es2, hj, h17, hg, hes⟩ hwg2 fr2
        have h15 : ρ2 15 = .slice p2 X[i].length C2 := fr2 15 rfl
        have h16 : ρ2 16 = .int .i64 X[i].length := fr2 16 rfl
        have k3 : ρ2 3 = .map (some hp.n) := (fr2 3 rfl).trans h3
        have k11 : ρ2 11 = .int .i64 i := (fr2 11 rfl).trans h11
        simp only [go_sem, Nat.reduceBEq, Nat.reduceAdd, Nat.reduceLeDiff, Nat.reduceEqDiff, Nat.reduceMul, Nat.reduceLT, Int.reduceLE, Int.reduceLT, Int.reduceToNat, Int.reduceEq, Int.toNat_natCast, Nat.zero_add, Nat.add_zero, Int.ofNat_lt, Int.ofNat_le, Int.natCast_nonneg, decide_true, decide_false, Bool.false_eq_true, h17, h16, h15]
        refine Two.mk (fun hlt2 => ?_) (fun hge2 => ?_)
        · obtain ⟨b2, o2, c2, t2, fz2, rfl, hc2, hcx, hcy⟩ := hcells j hlt2
          have hgc2 := hg.base _ _ hc2
          simp only [go_sem, Nat.reduceBEq, Nat.reduceAdd, Nat.reduceLeDiff, Nat.reduceEqDiff, Nat.reduceMul, Nat.reduceLT, Int.reduceLE, Int.reduceLT, Int.reduceToNat, Int.reduceEq, Int.toNat_natCast, Nat.zero_add, Nat.add_zero, Int.ofNat_lt, Int.ofNat_le, Int.natCast_nonneg, decide_true, decide_false, Bool.false_eq_true, hlt2, hgc2, hcx, hcy, h17, h15]
          refine Draw.any ?_
          dsimp only
          refine AnyI.go fun ρS gS hS hH => ?_
          have s3 : ρS 3 = .map (some hp.n) := by rw [hS]; simp only [put_some, put_none, upd_same, upd_lit, Nat.reduceBEq, k3]
          have s7 : ρS 7 = .pointer (some ⟨g2.n, 0, none⟩) := by rw [hS]; simp only [put_some, put_none, upd_same, upd_lit, Nat.reduceBEq]
          have s17 : ρS 17 = .int .i64 j := by rw [hS]; simp only [put_some, put_none, upd_same, upd_lit, Nat.reduceBEq, h17]
          clear hS
          have hgS : gS = (g2.put g2.n (smpOb [X[i][j]] [])).to (g2.n + 1) := by rw [hH, to_put, put_put]; rfl
          clear hH
          have hGs : GStE hp gS es2 := by rw [hgS]; exact hg.new hwg2 _
          have hws : Wf gS := by
            rw [hgS]
            intro b' o' e
            rw [to_f] at e
            rw [to_n]
            by_cases q : b' = g2.n
            · omega
            · rw [put_f_ne _ _ _ _ q] at e
              have := hwg2 b' o' e; omega
          have hxs : gS.f g2.n = some (smpOb [X[i][j]] []) := by rw [hgS, to_f, put_f_same]
          have hxe : ∀ e ∈ es2, e.b ≠ g2.n := fun e he q => by have := hwg2 _ _ (hg.ok e he).ob; omega
          refine ⟨by kernel_rfl, fun listed ρ' h' => GI hp gS es2 X[i][j] g2.n ρS (fun k => listed.getD k false) ρ' h', ?_, ?_, ?_⟩
          · refine ⟨fun _ _ => rfl, fun k hk hl => ?_, fun _ => rfl, fun q => ?_, fun q => ?_⟩
            · have h2 : (Array.replicate 11 false).getD k false = true := hl
              have h3 : (Array.replicate 11 false).getD k false = false := by simp [Array.getD]
              rw [h3] at h2; cases h2
            · cases q
            · cases q
          · intro listed i1 o1 ρ1 g1 hsz hdn hio hli hed hI _
            have hi1 : i1 < 11 := (Array.getElem?_eq_some_iff.1 hio).1
            have hsz : listed.size = 11 := hsz
            have hset : (fun k => (listed.setIfInBounds i1 true).getD k false) = setL1 (fun k => listed.getD k false) i1 := funext fun k => getD_set (by rw [hsz]; exact hi1)
            dsimp only
            rw [hset]
            have D10 : listed.getD 10 false = true → ∀ k, k < 10 → listed.getD k false = true := fun h10 k hk => by
              match k, hk with
              | 0, _ => exact hdn 10 _ rfl h10 ⟨0, .phase⟩ (by simp) rfl
              | 1, _ => exact hdn 10 _ rfl h10 ⟨1, .phase⟩ (by simp) rfl
              | 2, _ => exact hdn 10 _ rfl h10 ⟨2, .phase⟩ (by simp) rfl
              | 3, _ => exact hdn 10 _ rfl h10 ⟨3, .phase⟩ (by simp) rfl
              | 4, _ => exact hdn 10 _ rfl h10 ⟨4, .phase⟩ (by simp) rfl
              | 5, _ => exact hdn 10 _ rfl h10 ⟨5, .phase⟩ (by simp) rfl
              | 6, _ => exact hdn 10 _ rfl h10 ⟨6, .phase⟩ (by simp) rfl
              | 7, _ => exact hdn 10 _ rfl h10 ⟨7, .phase⟩ (by simp) rfl
              | 8, _ => exact hdn 10 _ rfl h10 ⟨8, .phase⟩ (by simp) rfl
              | 9, _ => exact hdn 10 _ rfl h10 ⟨9, .phase⟩ (by simp) rfl
            have D9 : listed.getD 9 false = true → listed.getD 6 false = true ∧ listed.getD 8 false = true := fun h9 => ⟨hdn 9 _ rfl h9 ⟨6, .data⟩ (by simp) rfl, hdn 9 _ rfl h9 ⟨8, .data⟩ (by simp) rfl⟩
            have n10 : i1 < 10 → listed.getD 10 false = false := fun q => by
              cases e : listed.getD 10 false with
              | false => rfl
              | true => rw [D10 e i1 q] at hli; cases hli
            have n9 : i1 = 6 ∨ i1 = 8 → listed.getD 9 false = false := fun q => by
              cases e : listed.getD 9 false with
              | false => rfl
              | true =>
                obtain ⟨q1, q2⟩ := D9 e
                rcases q with rfl | rfl
                · rw [q1] at hli; cases hli
                · rw [q2] at hli; cases hli
            have sI := hI.sl
            have r3 : ρ1 3 = .map (some hp.n) := (hI.fr 3 (by omega)).trans s3
            have r7 : ρ1 7 = .pointer (some ⟨g2.n, 0, none⟩) := (hI.fr 7 (by omega)).trans s7
            match i1, hi1, hio, hli, hed with
            | 0, _, hio, hli, hed =>
              simp only [List.getElem?_toArray, List.getElem?_cons_zero, List.getElem?_cons_succ, Option.some.injEq] at hio
              subst hio
              rw [gstep_plain rfl]
              dsimp only
              simp only [go_sem, Nat.reduceBEq, Nat.reduceAdd, Nat.reduceLeDiff, Nat.reduceEqDiff, Nat.reduceMul, Nat.reduceLT, Int.reduceLE, Int.reduceLT, Int.reduceToNat, Int.reduceEq, Int.toNat_natCast, Nat.zero_add, Nat.add_zero, Int.ofNat_lt, Int.ofNat_le, Int.natCast_nonneg, decide_true, decide_false, Bool.false_eq_true, r3]
              exact hI.set (n10 (by decide)) (i := 0) (by decide) rfl
            | 1, _, hio, hli, hed =>
              simp only [List.getElem?_toArray, List.getElem?_cons_zero, List.getElem?_cons_succ, Option.some.injEq] at hio
              subst hio
              rw [gstep_plain rfl]
              dsimp only
              simp only [go_sem, Nat.reduceBEq, Nat.reduceAdd, Nat.reduceLeDiff, Nat.reduceEqDiff, Nat.reduceMul, Nat.reduceLT, Int.reduceLE, Int.reduceLT, Int.reduceToNat, Int.reduceEq, Int.toNat_natCast, Nat.zero_add, Nat.add_zero, Int.ofNat_lt, Int.ofNat_le, Int.natCast_nonneg, decide_true, decide_false, Bool.false_eq_true, r7]
              exact hI.set (n10 (by decide)) (i := 1) (by decide) rfl
            | 2, _, hio, hli, hed =>
              simp only [List.getElem?_toArray, List.getElem?_cons_zero, List.getElem?_cons_succ, Option.some.injEq] at hio
              subst hio
              rw [gstep_plain rfl]
              dsimp only
              have hxb : g1.f g2.n = some (.cells #[.int .i64 X[i][j].1, .int .i64 X[i][j].2] tyS (0, 0)) := hI.xb (n10 (by decide)) hxs hws
              have r : ρ1 22 = .pointer (some ⟨g2.n, 0, none⟩) := sI 1 (by decide) (hed ⟨1, .data⟩ (by simp) rfl)
              simp only [go_sem, Nat.reduceBEq, Nat.reduceAdd, Nat.reduceLeDiff, Nat.reduceEqDiff, Nat.reduceMul, Nat.reduceLT, Int.reduceLE, Int.reduceLT, Int.reduceToNat, Int.reduceEq, Int.toNat_natCast, Nat.zero_add, Nat.add_zero, Int.ofNat_lt, Int.ofNat_le, Int.natCast_nonneg, decide_true, decide_false, Bool.false_eq_true, r, hxb]
              exact hI.set (n10 (by decide)) (i := 2) (by decide) rfl
            | 3, _, hio, hli, hed =>
              simp only [List.getElem?_toArray, List.getElem?_cons_zero, List.getElem?_cons_succ, Option.some.injEq] at hio
              subst hio
              rw [gstep_plain rfl]
              dsimp only
              simp only [go_sem, Nat.reduceBEq, Nat.reduceAdd, Nat.reduceLeDiff, Nat.reduceEqDiff, Nat.reduceMul, Nat.reduceLT, Int.reduceLE, Int.reduceLT, Int.reduceToNat, Int.reduceEq, Int.toNat_natCast, Nat.zero_add, Nat.add_zero, Int.ofNat_lt, Int.ofNat_le, Int.natCast_nonneg, decide_true, decide_false, Bool.false_eq_true, r3]
              exact hI.set (n10 (by decide)) (i := 3) (by decide) rfl
            | 4, _, hio, hli, hed =>
              simp only [List.getElem?_toArray, List.getElem?_cons_zero, List.getElem?_cons_succ, Option.some.injEq] at hio
              subst hio
              rw [gstep_plain rfl]
              dsimp only
              simp only [go_sem, Nat.reduceBEq, Nat.reduceAdd, Nat.reduceLeDiff, Nat.reduceEqDiff, Nat.reduceMul, Nat.reduceLT, Int.reduceLE, Int.reduceLT, Int.reduceToNat, Int.reduceEq, Int.toNat_natCast, Nat.zero_add, Nat.add_zero, Int.ofNat_lt, Int.ofNat_le, Int.natCast_nonneg, decide_true, decide_false, Bool.false_eq_true, r7]
              exact hI.set (n10 (by decide)) (i := 4) (by decide) rfl
            | 5, _, hio, hli, hed =>
              simp only [List.getElem?_toArray, List.getElem?_cons_zero, List.getElem?_cons_succ, Option.some.injEq] at hio
              subst hio
              rw [gstep_plain rfl]
              dsimp only
              have hxb : g1.f g2.n = some (.cells #[.int .i64 X[i][j].1, .int .i64 X[i][j].2] tyS (0, 0)) := hI.xb (n10 (by decide)) hxs hws
              have r : ρ1 25 = .pointer (some ⟨g2.n, 0, none⟩) := sI 4 (by decide) (hed ⟨4, .data⟩ (by simp) rfl)
              simp only [go_sem, Nat.reduceBEq, Nat.reduceAdd, Nat.reduceLeDiff, Nat.reduceEqDiff, Nat.reduceMul, Nat.reduceLT, Int.reduceLE, Int.reduceLT, Int.reduceToNat, Int.reduceEq, Int.toNat_natCast, Nat.zero_add, Nat.add_zero, Int.ofNat_lt, Int.ofNat_le, Int.natCast_nonneg, decide_true, decide_false, Bool.false_eq_true, r, hxb]
              exact hI.set (n10 (by decide)) (i := 5) (by decide) rfl
            | 6, _, hio, hli, hed =>
              simp only [List.getElem?_toArray, List.getElem?_cons_zero, List.getElem?_cons_succ, Option.some.injEq] at hio
              subst hio
              rw [gstep_plain rfl]
              dsimp only
              have r24 : ρ1 24 = .map (some hp.n) := sI 3 (by decide) (hed ⟨3, .data⟩ (by simp) rfl)
              have r26 : ρ1 26 = .int .i64 X[i][j].1 := sI 5 (by decide) (hed ⟨5, .data⟩ (by simp) rfl)
              rw [st_lookup, ev_tmp, ev_tmp, r24, r26]
              rw [show (63 : Nat) = tyMp from rfl, lookG (hI.mp (n9 (.inl rfl)) hGs)]
              exact hI.set (n10 (by decide)) (i := 6) (by decide) rfl
            | 7, _, hio, hli, hed =>
              simp only [List.getElem?_toArray, List.getElem?_cons_zero, List.getElem?_cons_succ, Option.some.injEq] at hio
              subst hio
              rw [gstep_plain rfl]
              dsimp only
              have hxb : g1.f g2.n = some (.cells #[.int .i64 X[i][j].1, .int .i64 X[i][j].2] tyS (0, 0)) := hI.xb (n10 (by decide)) hxs hws
              simp only [go_sem, Nat.reduceBEq, Nat.reduceAdd, Nat.reduceLeDiff, Nat.reduceEqDiff, Nat.reduceMul, Nat.reduceLT, Int.reduceLE, Int.reduceLT, Int.reduceToNat, Int.reduceEq, Int.toNat_natCast, Nat.zero_add, Nat.add_zero, Int.ofNat_lt, Int.ofNat_le, Int.natCast_nonneg, decide_true, decide_false, Bool.false_eq_true, r7, hxb]
              exact hI.set (n10 (by decide)) (i := 7) (by decide) rfl
            | 8, _, hio, hli, hed =>
              simp only [List.getElem?_toArray, List.getElem?_cons_zero, List.getElem?_cons_succ, Option.some.injEq] at hio
              subst hio
              rw [gstep_plain rfl]
              dsimp only
              have r28 : ρ1 28 = .agg #[.int .i64 X[i][j].1, .int .i64 X[i][j].2] := sI 7 (by decide) (hed ⟨7, .data⟩ (by simp) rfl)
              obtain ⟨rfl, hn⟩ := hI.slice hli (n9 (.inr rfl)) (n10 (by decide))
              simp only [go_sem, Nat.reduceBEq, Nat.reduceAdd, Nat.reduceLeDiff, Nat.reduceEqDiff, Nat.reduceMul, Nat.reduceLT, Int.reduceLE, Int.reduceLT, Int.reduceToNat, Int.reduceEq, Int.toNat_natCast, Nat.zero_add, Nat.add_zero, Int.ofNat_lt, Int.ofNat_le, Int.natCast_nonneg, decide_true, decide_false, Bool.false_eq_true, r28]
              exact hn
            | 9, _, hio, hli, hed =>
              simp only [List.getElem?_toArray, List.getElem?_cons_zero, List.getElem?_cons_succ, Option.some.injEq] at hio
              subst hio
              rw [gstep_plain rfl]
              dsimp only
              have q8 : listed.getD 8 false = true := (hed ⟨8, .data⟩ (by simp) rfl)
              have r27 : ρ1 27 = valO (oldG X[i][j].1 es2) := sI 6 (by decide) (hed ⟨6, .data⟩ (by simp) rfl)
              have r29 : ρ1 29 = .slice (some ⟨gS.n, 0, none⟩) 1 1 := sI 8 (by decide) q8
              have hg1 : g1 = gS.one X[i][j] := by rw [hI.h8 hli, if_pos q8]
              have hG1 : GStE hp g1 es2 := by rw [hg1]; exact hGs.new hws _
              have hw1 : Wf g1 := by
                rw [hg1]
                intro b' o' e
                unfold Hp.one at e ⊢
                rw [to_f] at e
                rw [to_n]
                by_cases q : b' = gS.n
                · omega
                · rw [put_f_ne _ _ _ _ q] at e
                  have := hws b' o' e; omega
              have hx1 : g1.f g2.n = some (smpOb [X[i][j]] []) := hI.xb (n10 (by decide)) hxs hws
              have hb1 : g1.f gS.n = some (.cells #[.int .i64 X[i][j].1, .int .i64 X[i][j].2] tyS (0, 0)) := by rw [hg1]; unfold Hp.one; rw [to_f, put_f_same]; rfl
              have hsrc : srcCells g1 2 (.slice (some ⟨gS.n, 0, none⟩) 1 1) = some (1, [.int .i64 X[i][j].1, .int .i64 X[i][j].2]) := by simp only [srcCells, hb1]; rfl
              have hxl := len_old hes (Nat.le_trans (take_flat X i) (by omega)) (by rw [List.length_take]; omega) X[i][j].1
              rw [st_append, ev_tmp, ev_tmp, r27, r29]
              cases ho : oldG X[i][j].1 es2 with
              | none =>
                rw [ho] at hxl
                refine append_nil (P := Try.prog) (t := 26) (u := 26) slTyS ⟨_, rfl⟩ hsrc (by decide) (by decide) fun cap rest h1 h2 => ?_
                have hmg := midG (x := X[i][j]) (b := g1.n) (cap := cap) (n' := g1.n + 1) (rest := rest) hG1 hw hw1 (.inr rfl) (Nat.le_succ _) (by rw [ho]; exact h1) (by rw [ho]; exact h2)
                have key := hI.app q8 hli (n10 (by decide)) (b := g1.n) (cap := cap) (rest := rest) hmg (by rw [to_f, put_f_ne _ _ _ _ (fun e => by have := hw1 _ _ hx1; omega)]; exact hx1)
                rw [show xsO (oldG X[i][j].1 es2) = [] from by rw [ho]; rfl] at key
                exact key
              | some e =>
                rw [ho] at hxl
                have hxl : e.xs.length ≤ 2000000 := hxl
                obtain ⟨he, _⟩ := oldG_mem ho
                have hok := hG1.ok e he
                refine append_own (P := Try.prog) (t := 26) (u := 26) (b := e.b) (n := e.xs.length) (cap := e.cap) (vs := encS e.xs) (rest := e.rest) slTyS ⟨_, rfl⟩ hok.ob (encS_length _) hok.cp hok.re (Sub.refl _) hsrc rfl rfl (by omega) fun b' n' cap rest h0 h1 h2 => ?_
                have hmg := midG (x := X[i][j]) (b := b') (cap := cap) (n' := n') (rest := rest) hG1 hw hw1 (h0.imp (fun q => ⟨e, ho, q.1⟩) (fun q => q.1)) (by rcases h0 with ⟨_, q⟩ | ⟨_, q⟩ <;> omega) (by rw [ho]; exact h1) (by rw [ho]; exact h2)
                have hob : smpOb (xsO (oldG X[i][j].1 es2) ++ [X[i][j]]) rest = .cells (encS e.xs ++ [Value.int .i64 X[i][j].1, Value.int .i64 X[i][j].2] ++ rest).toArray tyS (0, 0) := by rw [ho]; unfold smpOb; rw [encS_snoc]; rfl
                rw [hob] at hmg
                have key := hI.app q8 hli (n10 (by decide)) (b := b') (cap := cap) (rest := rest) hmg (by
                  rw [to_f, put_f_ne _ _ _ _ (fun q => by
                    rcases h0 with ⟨rfl, _⟩ | ⟨rfl, _⟩
                    · exact hxe e he q.symm
                    · have := hw1 _ _ hx1; omega)]; exact hx1)
                rw [show xsO (oldG X[i][j].1 es2) = e.xs from by rw [ho]; rfl] at key
                exact key
            | 10, _, hio, hli, hed =>
              simp only [List.getElem?_toArray, List.getElem?_cons_zero, List.getElem?_cons_succ, Option.some.injEq] at hio
              subst hio
              rw [gstep_plain rfl]
              dsimp only
              have r21 : ρ1 21 = .map (some hp.n) := sI 0 (by decide) (hed ⟨0, .data⟩ (by simp) rfl)
              have r23 : ρ1 23 = .int .i64 X[i][j].1 := sI 2 (by decide) (hed ⟨2, .data⟩ (by simp) rfl)
              have q9 : listed.getD 9 false = true := (hed ⟨9, .data⟩ (by simp) rfl)
              obtain ⟨b', cap', rest', r30, hm, _⟩ := hI.h9 q9 hli
              rw [st_mapUpd, ev_tmp, ev_tmp, ev_tmp, r21, r23, r30]
              rw [show (63 : Nat) = tyMp from rfl, updG hm.mp]
              exact hI.put q9 hGs hw hm
          · intro listed ρ1 g1 hsz hall hI
            have r17 : ρ1 17 = .int .i64 j := (hI.fr 17 (by omega)).trans s17
            obtain ⟨es3, hg3, he3⟩ := hI.h10 (hall 10 (by decide))
            simp only [go_sem, Nat.reduceBEq, Nat.reduceAdd, Nat.reduceLeDiff, Nat.reduceEqDiff, Nat.reduceMul, Nat.reduceLT, Int.reduceLE, Int.reduceLT, Int.reduceToNat, Int.reduceEq, Int.toNat_natCast, Nat.zero_add, Nat.add_zero, Int.ofNat_lt, Int.ofNat_le, Int.natCast_nonneg, decide_true, decide_false, Bool.false_eq_true, r17]
            refine ⟨g1, Sub.refl _, ⟨j + 1, es3, by omega, ?_, hg3, ?_⟩, ?_⟩
            · rw [wrap_i64_of (by omega) (by omega)]; rfl
            · rw [he3, hes, List.take_succ_eq_append_getElem hlt2, List.foldl_append]; rfl
            · rw [wrap_i64_of (by omega) (by omega)]; omega
        · simp only [go_sem, Nat.reduceBEq, Nat.reduceAdd, Nat.reduceLeDiff, Nat.reduceEqDiff, Nat.reduceMul, Nat.reduceLT, Int.reduceLE, Int.reduceLT, Int.reduceToNat, Int.reduceEq, Int.toNat_natCast, Nat.zero_add, Nat.add_zero, Int.ofNat_lt, Int.ofNat_le, Int.natCast_nonneg, decide_true, decide_false, Bool.false_eq_true, k11]
          have : j = X[i].length := by omega
          subst this
          rw [List.take_length] at hes
          refine ⟨g2, Sub.refl _, ⟨i + 1, es2, by omega, ?_, hg, ?_⟩, ?_⟩
          · rw [wrap_i64_of (by omega) (by omega)]; rfl
          · rw [hes, gather_snoc hlt]
          · rw [wrap_i64_of (by omega) (by omega)]; omega
    · have : i = X.length := by omega
      subst this
      rw [List.take_length] at hes
      rw [h3]
      exact .here (hk es g hg hes hwg)
end Go.Proofs.Ytkhfdjhohfebgaa
namespace Go.Proofs.Ytkhfdjhohfebgaa
open Go Go.RowKit
section
variable {φ : Ph} {H : AH} {n : Nat} {h0 h hp : Hp}
/-- A block that is there already takes a name. -/
theorem HR.adopt (hr : HR φ H n h0 h) {B : Nat} {o : AO} {ob : Obj} (hB0 : h0.f B = none) (hBn : B < h.n) (hB : h.f B = some ob) (ho : OR (PNew φ n ⟨B, 0, 0⟩) ⟨B, 0, 0⟩ o ob) (hno : ∀ b p, φ b = some p → p.B ≠ B) (hz : ∀ q, φ.z q → q.B ≠ B) (d : Nat) (hw : o.own = true := by rfl) :
    HR (PNew φ n ⟨B, 0, 0⟩) (H.set (some o) d n) (n + 1) h0 h := by
  refine ⟨fun x q hx => ?_, fun x q hx => ?_, fun x y q q' px py hx hy hwx hwy hpx hpy e => ?_, hr.base, hr.size, fun q hq => ?_⟩
  · simp only [PNew] at hx
    split at hx
    · injection hx with hx; subst hx; exact ⟨by omega, hBn⟩
    · have := hr.dom x q hx; omega
  · rcases PM.get_set d H n x q hx with ⟨rfl, h2⟩ | ⟨h1, h2⟩
    · injection h2 with h2
      subst h2
      exact .inr ⟨_, ob, PNew_same _ _ _, by rw [AO.under_own hw]; exact hB0, hB, ho⟩
    · rcases hr.live x q h2 with ⟨hv, hv2⟩ | ⟨px, obx, h3, h4, h5, h6⟩
      · exact .inl ⟨by simp only [PNew, if_neg h1]; exact hv, hv2⟩
      · exact .inr ⟨px, obx, hr.ple _ _ _ h3, h4, h5, h6.mono (hr.ple _)⟩
  · have cs : ∀ z r pz, (H.set (some o) d n).get z = some r → PNew φ n ⟨B, 0, 0⟩ z = some pz → (z = n ∧ pz.B = B) ∨ (z ≠ n ∧ H.get z = some r ∧ φ z = some pz ∧ pz.B ≠ B) := fun z r pz hz hpz => by
      rcases PM.get_set d H n z r hz with ⟨rfl, _⟩ | ⟨h1, h2⟩
      · rw [PNew_same] at hpz; injection hpz with hpz; subst hpz; exact .inl ⟨rfl, rfl⟩
      · simp only [PNew, if_neg h1] at hpz
        exact .inr ⟨h1, h2, hpz, hno _ _ hpz⟩
    rcases cs x q px hx hpx with ⟨a1, a2⟩ | ⟨a1, a2, a3, a4⟩ <;> rcases cs y q' py hy hpy with ⟨b1, b2⟩ | ⟨b1, b2, b3, b4⟩
    · omega
    · exact absurd (e.symm.trans a2) b4
    · exact absurd (e.trans b2) a4
    · exact hr.inj x y q q' px py a2 b2 hwx hwy a3 b3 e
  · obtain ⟨⟨h1, h9⟩, h2⟩ := hr.frz q hq
    refine ⟨⟨FzR.mono (hr.ple _).z h1, h9⟩, fun y oy py hy hwy hpy => ?_⟩
    rcases PM.get_set d H n y oy hy with ⟨rfl, _⟩ | ⟨h3, h4⟩
    · rw [PNew_same] at hpy; injection hpy with hpy; subst hpy; exact fun e => hz q hq e.symm
    · simp only [PNew, if_neg h3] at hpy
      exact h2 y oy py h4 hwy hpy
theorem smpC_ro {p : Pl} {L : Smp} {C : Nat} {a : Nat} (hro : RoAt hp p (smp L)) (ha : L.length ≠ 0 → a = p.s) : SmpC hp (.slice (some ⟨p.B, a, none⟩) L.length C) L := by
  obtain ⟨c, t, fz, h1, h2, h3, h4⟩ := hro
  refine ⟨_, _, rfl, fun j hj => ?_⟩
  have := ha (by omega)
  subst this
  have e0 := smp_nth0 hj (rfl : j * 2 = j * 2)
  have e1 := smp_nth1 hj (rfl : j * 2 + 1 = j * 2 + 1)
  rw [nth_eq] at e0 e1
  obtain ⟨v0, g1, g2⟩ := h4 Ph.no _ _ e0
  obtain ⟨v1, g3, g4⟩ := h4 Ph.no _ _ e1
  rw [g2.si_inv] at g1
  rw [g4.si_inv] at g3
  exact ⟨p.B, p.s, c, t, fz, rfl, h1, g1, g3⟩
theorem smpC_of (hr : HR φ H n h0 hp) {a : AV} {L : Smp} {v : Value} (hS : cellAt H a L) (hv : VR φ a v) : SmpC hp v L := by
  rcases hS with hS | rfl
  · obtain ⟨po, h1, h2⟩ := hS.openR hr hv
    rcases (h2 ⟨fun _ => po, fun _ => False, fun _ => False⟩ 0 rfl).rw_inv with ⟨h3, h4⟩ | ⟨p, y, C, h3, rfl, h4, _⟩
    · rw [h4.nil (by decide)]
      exact ⟨none, 0, by rw [h3], fun j hj => by omega⟩
    · have h3 : po = some p := h3
      subst h3
      exact smpC_ro h1 (fun q => h4 q)
  · by_cases hL : L.length = 0
    · obtain ⟨a, C, rfl⟩ := hv.fr_is
      exact ⟨a, C, rfl, fun j hj => by omega⟩
    · obtain ⟨p, C, _, hro, _, rfl⟩ := fz_open hr hL hv (s := smp L) rfl (smp_flat L)
      exact smpC_ro hro fun _ => rfl
theorem Cells2.at {r : List AV} {X : List Smp} (h : Cells2 H r X) : ∀ (i : Nat) (hi : i < X.length), ∃ a, r[i]? = some a ∧ cellAt H a X[i] := by
  induction h with
  | nil => intro i hi; simp at hi
  | cons h t ih =>
    intro i hi
    cases i with
    | zero => exact ⟨_, rfl, h⟩
    | succ i => exact ih i (by simpa using hi)
theorem rowsCc_of (hr : HR φ H n h0 hp) {B o : Nat} {c : Array Value} {t : TypeId} {fz : Nat × Nat} {r : List AV} {X : List Smp} (hb : hp.f B = some (.cells c t fz)) (hc : CR φ c o r) (hX : Cells2 H r X) : RowsCc hp (some ⟨B, o, none⟩) X := fun i hi => by
  obtain ⟨a, h1, h2⟩ := hX.at i hi
  obtain ⟨u, h3, h4⟩ := hc i a h1
  exact ⟨B, o, c, t, fz, u, rfl, hb, h3, smpC_of hr h2 h4⟩
theorem rowsC_open (hr : HR φ H n h0 hp) {a : AV} {X : List Smp} {v : Value} (hS : RowsAt H a X) (hv : VR φ a v) : ∃ p C, v = .slice p X.length C ∧ RowsCc hp p X := by
  have cells : ∀ {b o m : Nat} {l r : List AV} {p : Pl}, (H.get b = some (.ro l) ∨ ∃ z, H.get b = some (.cells l z)) → φ b = some p → subL l o m = some r → ∃ c t fz, hp.f p.B = some (.cells c t fz) ∧ CR φ c (p.s + o) r := fun hb hpb hs => by
    obtain ⟨g1, g2⟩ := subL_spec hs
    rcases hb with hb | ⟨z, hb⟩
    · obtain ⟨ob, _, h2, c, t, fz, rfl, h3, h4, h5⟩ := hr.of hb hpb
      exact ⟨c, t, fz, h2, by rw [g2]; exact CR.drop h5⟩
    · obtain ⟨ob, _, h2, c, t, fz, rfl, h3, h4, _, _, h5⟩ := hr.of hb hpb
      exact ⟨c, t, fz, h2, by rw [g2]; exact CR.drop h5⟩
  rcases hS with ⟨h1, rfl⟩ | ⟨r, rfl, hX⟩ | ⟨b, o, x, l, r, ⟨rfl, hx⟩, hb, hs, hX⟩ | ⟨b, o, c, k, l, r, e, hb, hs, hX, hc⟩
  · have := hv.hd
    rw [h1] at this
    exact ⟨none, 0, this.nsl_inv, fun i hi => by simp at hi⟩
  · rcases hv.fr_inv with ⟨h1, _, a, C, rfl, _⟩ | ⟨q, o, C, hq, rfl, hC, hl⟩
    · exact ⟨a, C, by rw [h1], fun i hi => by omega⟩
    · obtain ⟨⟨⟨_, c, t, fz, hc, hsz, hcr⟩, _⟩, _⟩ := hr.frz q hq
      obtain ⟨g1, g2⟩ := subL_spec hl
      exact ⟨_, C, rfl, rowsCc_of hr hc (by rw [g2]; exact CR.drop hcr) hX⟩
  · rcases hv.rw_inv with ⟨h1, hem⟩ | ⟨p, y, C, hpb, rfl, h2, h3, h4, h5, _, _⟩
    · exact ⟨none, 0, by rw [hem.nil hx, h1], fun i hi => by omega⟩
    · refine ⟨_, C, rfl, fun i hi => ?_⟩
      have := h2 (by omega)
      subst this
      obtain ⟨c, t, fz, g1, g2⟩ := cells hb hpb hs
      exact rowsCc_of hr g1 g2 hX i hi
  · have e6 := hv.hd
    rw [e] at e6
    obtain ⟨p, C, hpb, rfl, _, _⟩ := e6.sl_inv
    obtain ⟨c, t, fz, g1, g2⟩ := cells hb hpb hs
    exact ⟨_, C, rfl, rowsCc_of hr g1 g2 hX⟩
theorem mEnts_MR {ψ : Ph} : ∀ (es : List GEnt) (k : Nat), (∀ e ∈ es, ψ.z ⟨e.b, 0, smp e.xs⟩ ∧ e.xs.length ≤ e.cap) → MR ψ (entG (gOf es)) (mEnts es k)
  | [], _, _ => rfl
  | e :: es, k, hz => by
    obtain ⟨h1, h2⟩ := hz e List.mem_cons_self
    refine ⟨_, _, rfl, .int _ _, ?_, mEnts_MR es (k + 1) fun f hf => hz f (List.mem_cons_of_mem _ hf)⟩
    have : VR ψ (.fr e.xs.length 2 (smp e.xs)) (.slice (some ⟨(⟨e.b, 0, smp e.xs⟩ : Fz).B, (⟨e.b, 0, smp e.xs⟩ : Fz).s + 0, none⟩) e.xs.length e.cap) := .fr (q := ⟨e.b, 0, smp e.xs⟩) (o := 0) h1 h2 (subL_all (smp_length _))
    exact this
theorem mEnts_born : ∀ (es : List GEnt) (k i : Nat) (e : MapEntry), (mEnts es k)[i]? = some e → e.born = k + i
  | [], _, i, e, h => by simp [mEnts] at h
  | f :: es, k, 0, e, h => by
    simp only [mEnts, List.getElem?_cons_zero, Option.some.injEq] at h
    rw [← h]; rfl
  | f :: es, k, i + 1, e, h => by
    simp only [mEnts, List.getElem?_cons_succ] at h
    rw [mEnts_born es (k + 1) i e h]; omega
theorem mEnts_length : ∀ (es : List GEnt) (k : Nat), (mEnts es k).length = es.length
  | [], _ => rfl
  | _ :: es, k => by simp [mEnts, mEnts_length es (k + 1)]
end
theorem n_gather : NatP 39 natGa := fun args H n κ hs φ h0' hp vs K hr hargs hk => by
  unfold natGa at hs
  split at hs
  · obtain ⟨x, rfl, e1⟩ := vs1 hargs
    obtain ⟨X, hS, hL, hs⟩ := hs
    obtain ⟨p, C, rfl, hrows⟩ := rowsC_open hr hS e1
    refine c_gather (K := ⟨K⟩) hrows hL fun es g hg he hwg => ?_
    have hle : hp.n ≤ g.n := by have := hg.sz; omega
    have hg1 := hr.grow hg.base hle
    have none0 : ∀ B, hp.n ≤ B → h0'.f B = none := fun B q => by
      cases e : h0'.f B with
      | none => rfl
      | some o => have := (hr.base B o e).1; omega
    have hz : ∀ e ∈ es, (∃ e' ∈ es, (⟨e.b, 0, smp e.xs⟩ : Fz) = ⟨e'.b, 0, smp e'.xs⟩) := fun e h => ⟨e, h, rfl⟩
    have hg2 : HR (φ.more fun q => ∃ e ∈ es, q = ⟨e.b, 0, smp e.xs⟩) H n h0' g := hg1.more fun q ⟨e, h1, h2⟩ => by
      subst h2
      have ok := hg.ok e h1
      have hlo := ok.lo
      refine ⟨⟨⟨hwg _ _ ok.ob, ?_⟩, _, _, _, ok.ob, ?_, ?_⟩, none0 _ (by show hp.n ≤ e.b; omega), fun b o p h3 _ h5 h6 => ?_⟩
      · rw [List.all_eq_true]
        intro y hy
        have := List.all_eq_true.1 (smp_flat e.xs) y hy
        cases y <;> first | rfl | cases this
      · simp only [List.size_toArray, List.length_append, encS_length, smp_length]; omega
      · exact CR.of (encS_vr _ _) _
      · have := (hr.dom _ _ h5).2
        simp only at h6; omega
    have hg3 := hg2.adopt (B := hp.n) (o := .map (entG (gatherF X))) (none0 _ (Nat.le_refl _)) hg.sz hg.mp ⟨_, _, rfl, by
        rw [← he]
        exact mEnts_MR es 0 fun e h => ⟨.inr ⟨e, h, rfl⟩, (hg.ok e h).cp⟩, by rw [mEnts_length], fun i e h => by
        rw [mEnts_born es 0 i e (by simpa using h)]; omega⟩
      (fun b p h => by have := (hr.dom _ _ h).2; omega) (fun q h => by
        rcases h with h | ⟨e, h1, rfl⟩
        · have := (hr.frz q h).1.1.1.1; omega
        · have := (hg.ok e h1).lo
          show e.b ≠ hp.n; omega) depthH
    exact hk _ (.map n) _ _ _ _ ((φ.more_le _).trans (hg2.ple _)) hg3 (.map (p := ⟨hp.n, 0, 0⟩) (PNew_same _ _ _)) hs
  · exact hs.elim
end Go.Proofs.Ytkhfdjhohfebgaa
