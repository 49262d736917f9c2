/- What samples make is the same by both. -/
import Derived.Test.YtaejmcgcfopmkaaAggM
import Derived.Test.YtaejmcgcfopmkaaEvZ
namespace Go.Proofs.Ytaejmcgcfopmkaa
open Go Go.RowKit

theorem wrap_lt {x : Int} (h1 : -18446744073709551616 ≤ x) (h2 : x < -9223372036854775808) : IntKind.i64.wrap x = x + 18446744073709551616 := by
  rw [IntKind.wrap_i64]; omega
theorem wrap_gt {x : Int} (h1 : x ≤ 18446744073709551615) (h2 : 9223372036854775807 < x) : IntKind.i64.wrap x = x - 18446744073709551616 := by
  rw [IntKind.wrap_i64]; omega
theorem sum_cases {x : Int} (h1 : -18446744073709551616 ≤ x) (h2 : x ≤ 18446744073709551615) : (In64 x ∧ IntKind.i64.wrap x = x) ∨ (x < -9223372036854775808 ∧ IntKind.i64.wrap x = x + 18446744073709551616) ∨ (9223372036854775807 < x ∧ IntKind.i64.wrap x = x - 18446744073709551616) := by
  unfold In64
  by_cases a : x < -9223372036854775808
  · exact .inr (.inl ⟨a, wrap_lt h1 a⟩)
  · by_cases b : 9223372036854775807 < x
    · exact .inr (.inr ⟨b, wrap_gt h2 b⟩)
    · exact .inl ⟨by omega, wrap_i64_of (by omega) (by omega)⟩
theorem cap_eq {a b : Int} (ha : In64 a) (hb : In64 b) : pCap a b = rCap a b ∧ In64 (rCap a b) := by
  unfold In64 at *
  have h := sum_cases (x := a + b) (by omega) (by omega)
  have h2 := sum_cases (x := 9223372036854775807 - b) (by omega) (by omega)
  have h3 := sum_cases (x := -9223372036854775808 - b) (by omega) (by omega)
  unfold In64 at h h2 h3
  simp only [pCap, sCap, rCap, sOver, rOver, decide_eq_true_eq]
  generalize IntKind.i64.wrap (a + b) = w at *
  generalize IntKind.i64.wrap (9223372036854775807 - b) = w2 at *
  generalize IntKind.i64.wrap (-9223372036854775808 - b) = w3 at *
  refine ⟨?_, ?_⟩
  · split <;> split <;> first | rfl | omega | (split <;> omega)
  · split
    · split <;> omega
    · omega
theorem cap_0 {x : Int} (h : In64 x) : pCap 0 x = x := by
  unfold In64 at h
  simp only [pCap, sCap, sOver, decide_eq_true_eq]
  rw [wrap_i64_of (x := 0 + x) (by omega) (by omega), if_neg (by omega)]
  omega
/-- The state behind some numbers. -/
def ssOf (x : Int) (r : List Int) : SS := ⟨(r.length : Int) + 1, r.foldl rCap x, r.foldl min x, r.foldl max x, x, (x :: r)[r.length]'(by simp)⟩
def aNums (V : List Int) : SS := V.foldl aAdd ss0
theorem aAll_vals (L : Smp) : aAll L = aNums (vals L) := by
  unfold aAll aNums vals
  rw [List.foldl_map]
theorem in_fold {x : Int} (hx : In64 x) : ∀ {r : List Int}, (∀ y ∈ r, In64 y) → In64 (r.foldl rCap x)
  | [], _ => hx
  | y :: r, h => in_fold (x := rCap x y) (cap_eq hx (h y List.mem_cons_self)).2 fun z hz => h z (List.mem_cons_of_mem _ hz)
theorem ssOf_step {x v : Int} {r : List Int} (hx : In64 x) (hr : ∀ y ∈ r, In64 y) (hv : In64 v) (hl : r.length < 4611686018427387904) : aAdd (ssOf x r) v = ssOf x (r ++ [v]) := by
  unfold aAdd
  rw [if_neg (by simp only [ssOf]; omega)]
  simp only [ssOf, List.foldl_append, List.foldl_cons, List.foldl_nil, List.length_append, List.length_cons, List.length_nil]
  rw [(cap_eq (in_fold hx hr) hv).1, wrap_i64_of (by omega) (by omega)]
  congr 1 <;> first | (simp; done) | omega
theorem aNums_of {x : Int} (hx : In64 x) : ∀ (n : Nat) (r : List Int), r.length = n → (∀ y ∈ r, In64 y) → r.length < 4611686018427387904 → aNums (x :: r) = ssOf x r
  | 0, r, hn, _, _ => by
    have : r = [] := List.eq_nil_of_length_eq_zero hn
    subst this
    show aAdd ss0 x = _
    unfold aAdd
    rw [if_pos (show ss0.n = 0 from rfl)]
    simp only [ss0, ssOf]
    rw [cap_0 hx, wrap_i64_of (by omega) (by omega)]
    simp
  | n + 1, r, hn, hr, hl => by
    obtain ⟨s, v, rfl⟩ : ∃ s v, r = s ++ [v] := ⟨r.dropLast, r.getLast (by intro q; subst q; simp at hn), (List.dropLast_concat_getLast _).symm⟩
    simp only [List.length_append, List.length_cons, List.length_nil] at hn hl
    have ih := aNums_of hx n s (by omega) (fun y hy => hr y (by simp [hy])) (by omega)
    rw [← ssOf_step hx (fun y hy => hr y (by simp [hy])) (hr v (by simp)) (by omega), ← ih]
    unfold aNums
    rw [← List.cons_append, List.foldl_append]; rfl
theorem min_le {x : Int} : ∀ (r : List Int), (∀ y ∈ r, In64 y) → In64 x → r.foldl min x ≤ r.foldl max x ∧ In64 (r.foldl min x) ∧ In64 (r.foldl max x) := by
  have key : ∀ (r : List Int) (a b : Int), a ≤ b → In64 a → In64 b → (∀ y ∈ r, In64 y) → r.foldl min a ≤ r.foldl max b ∧ In64 (r.foldl min a) ∧ In64 (r.foldl max b) := by
    intro r
    induction r with
    | nil => exact fun a b h h1 h2 _ => ⟨h, h1, h2⟩
    | cons y r ih =>
      intro a b h h1 h2 hr
      have hy := hr y List.mem_cons_self
      unfold In64 at h1 h2 hy
      exact ih (min a y) (max b y) (by omega) (by unfold In64; omega) (by unfold In64; omega) fun z hz => hr z (List.mem_cons_of_mem _ hz)
  exact fun r hr hx => key r x x (Int.le_refl _) hx hx hr
theorem wide_eq {l g : Int} (h : l ≤ g) (hl : In64 l) (hg : In64 g) : (if IntKind.i64.wrap (g - l) < 0 then 9223372036854775807 else IntKind.i64.wrap (g - l)) = rWide l g := by
  unfold rWide
  unfold In64 at *
  have h1 := sum_cases (x := g - l) (by omega) (by omega)
  have h2 := sum_cases (x := 9223372036854775807 + l) (by omega) (by omega)
  unfold In64 at h1 h2
  generalize IntKind.i64.wrap (g - l) = w at *
  generalize IntKind.i64.wrap (9223372036854775807 + l) = w2 at *
  split <;> split <;> omega
theorem num_eq {k : Int} {L : Smp} (hL : ∀ x ∈ L, In64 x.2) (hl : L.length < 4611686018427387904) : aNum k L = rNum k (vals L) ∧ aHas k L = rHas k (vals L) ∧ (aAll L).n = (L.length : Int) := by
  have hv : ∀ y ∈ vals L, In64 y := fun y hy => by
    simp only [vals, List.mem_map] at hy
    obtain ⟨x, hx, rfl⟩ := hy
    exact hL x hx
  have hlen : (vals L).length = L.length := by simp [vals]
  simp only [aNum, aHas, rNum, rHas, aAll_vals]
  rw [← hlen] at hl ⊢
  generalize vals L = V at *
  cases V with
  | nil => simp [aNums, ss0]
  | cons x r =>
    simp only [List.length_cons] at hl
    have hx := hv x List.mem_cons_self
    have hr : ∀ y ∈ r, In64 y := fun y hy => hv y (List.mem_cons_of_mem _ hy)
    rw [aNums_of hx r.length r rfl hr (by omega)]
    have hn : ¬ (ssOf x r).n = 0 := by simp only [ssOf]; omega
    have hm := min_le r hr hx
    have hw := wide_eq hm.1 hm.2.1 hm.2.2
    refine ⟨?_, by simp [hn], by simp [ssOf]⟩
    by_cases hk : sRight k = true
    · rw [if_pos hk, if_pos hk, if_neg hn]
      show aVal k (ssOf x r) = rVal k x r
      have hw2 : aWide (ssOf x r) = rWide (r.foldl min x) (r.foldl max x) := hw
      unfold aVal rVal
      rw [hw2]; rfl
    · rw [if_neg hk, if_neg hk]
end Go.Proofs.Ytaejmcgcfopmkaa
