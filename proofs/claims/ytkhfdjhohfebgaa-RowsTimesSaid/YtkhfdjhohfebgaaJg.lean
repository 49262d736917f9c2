/- Texts of our own, joined: the engine, the machine that runs code, and what is known of the functions. -/
import Derived.Test.YtkhfdjhohfebgaaJf
import Derived.Deep.SlicePairs
import Derived.SizedLaws
namespace Go.Proofs.Ytkhfdjhohfebgaa
open Go Go.RowKit Go.ChangeShapes Go.WideShapes
def In64 (x : Int) : Prop := -9223372036854775808 ≤ x ∧ x ≤ 9223372036854775807
theorem rowAt_le {P : Program} {fits : TypeId → Bool} : ∀ (d : Nat) (e : TypeId) (count off n : Nat), rowAt P fits d e count off n = true → off ≤ count * P.cellsOf e
  | 0, e, count, off, n, h => by simp [rowAt] at h
  | d + 1, e, count, off, n, h => by
    unfold rowAt at h
    simp only at h
    split at h
    · cases h
    · rename_i hs
      have h0 := Nat.div_add_mod off (P.cellsOf e)
      have h1 := Nat.mod_lt off (Nat.pos_of_ne_zero hs)
      generalize off / P.cellsOf e = q at *
      generalize off % P.cellsOf e = m at *
      simp only [Bool.or_eq_true, Bool.and_eq_true, beq_iff_eq, decide_eq_true_eq] at h
      rcases h with ⟨⟨h2, h3⟩, _⟩ | ⟨h2, _⟩
      · have : P.cellsOf e * q ≤ P.cellsOf e * count := Nat.mul_le_mul_left _ (by omega)
        rw [Nat.mul_comm count]; omega
      · have : P.cellsOf e * (q + 1) ≤ P.cellsOf e * count := Nat.mul_le_mul_left _ (by omega)
        rw [Nat.mul_add, Nat.mul_one] at this
        rw [Nat.mul_comm count]; omega
theorem liesAt_le {P : Program} : ∀ (d : Nat) (e : TypeId) (count off : Nat) (u : TypeId) (n : Nat), liesAt P d e count off u n = true → off ≤ count * P.cellsOf e
  | 0, e, count, off, u, n, h => by simp [liesAt] at h
  | d + 1, e, count, off, u, n, h => by
    unfold liesAt at h
    simp only [Bool.or_eq_true] at h
    rcases h with h | h
    · exact rowAt_le _ _ _ _ _ h
    · split at h
      · exact liesAt_le d _ _ _ _ _ h
      · cases h
section
variable {H : Type} {enc : TypeId × Value → H} {P : Program} {W : World} {sp : Nat → Bool} {held : Bool}
theorem okWide_slice_at {r : Reach} {b0 : Nat} {t e : TypeId} {v : Value} (ht : P.underlying t = some (.slice e)) (hval : Value.okWide P W r b0 t v) : v = .slice none 0 0 ∨ ∃ b off len cap c u fz, v = .slice (some ⟨b, off, none⟩) len cap ∧ W.heap[b]? = some (.cells c u fz) ∧ off ≤ c.size := by
  simp only [Value.okWide, ht, Cell.okWide, Cell.ok] at hval
  split at hval
  all_goals first | (rename_i h _; cases h; done) | (rename_i h; cases h; done) | skip
  · exact .inl rfl
  · rename_i a len cap _
    obtain ⟨b, off, spot⟩ := a
    obtain ⟨_, _, _, h2, row, cells, h3, h4⟩ := hval
    change spot = none at h2
    change W.shape? b = _ at h3
    change liesAt _ _ _ _ off _ _ = true at h4
    subst h2
    unfold World.shape? at h3
    split at h3
    · rename_i c u fz hb
      injection h3 with h3
      injection h3 with h5 h6
      subst h5 h6
      refine .inr ⟨b, off, len, cap, c, _, fz, rfl, hb, ?_⟩
      exact Nat.le_trans (liesAt_le _ _ _ _ _ _ h4) (Nat.div_mul_le_self _ _)
    · cases h3
  · exact hval.elim
theorem cell_at {b off : Nat} {c : Array Value} {u : TypeId} {fz : Nat × Nat} (hb : W.heap[b]? = some (.cells c u fz)) {i : Nat} {v : Value} (h : W.cell? ((⟨b, off, none⟩ : Addr).add i) = some v) : c[off + i]? = some v := by
  have e : (⟨b, off, none⟩ : Addr).add i = ⟨b, off + i, none⟩ := by
    unfold Addr.add
    split
    · rename_i h0; subst h0; rfl
    · rfl
  rw [e] at h
  unfold World.cell? at h
  simp only [hb] at h
  simpa using h
/-- A slice of samples: two numbers each. -/
theorem open_samples {b0 : Nat} {t e : TypeId} {f0 f1 : Field} {v : Value} {d : DataW H} {ps : List MemPlace} (ht : P.underlying t = some (.slice e)) (he : P.underlying e = some (.struct #[f0, f1]))
    (ce : P.cellsOf e = 2) (o0 : f0.offset = 0) (o1 : f1.offset = 1) (c0 : P.cellsOf f0.type = 1) (c1 : P.cellsOf f1.type = 1) (hf0 : P.underlying f0.type = some (.int .i64)) (hf1 : P.underlying f1.type = some (.int .i64))
    (hval : Value.okWide P W .any b0 t v) (hd : DataW.Trod enc P W 0 (fun _ => true) held t v d ps) :
    (v = .slice none 0 0) ∨ ∃ (b off cap : Nat) (L : Smp) (D0 D1 : Nat → DataW H) (E : List (DataW H)), v = .slice (some ⟨b, off, none⟩) L.length cap ∧ L.length ≤ cap ∧ cap ≤ 9223372036854775807 ∧ RoAt (wholeHp W) ⟨b, off, L.length * 2⟩ (smp L) ∧ (∀ x ∈ L, In64 x.1 ∧ In64 x.2) ∧
      d = .slice ((List.range L.length).map fun i => .agg [D0 i, D1 i]) E := by
  obtain ⟨fuel, hf⟩ := hd
  rcases okWide_slice_at ht hval with rfl | ⟨b, off, len, cap, c, u, fz, rfl, hb, hoff⟩
  · exact .inl rfl
  right
  rcases Go.Deep.open_slice_pairs ht he ce o0 o1 c0 c1 hf with ⟨h0, _⟩ | ⟨a, len', cap', m, n, V0, V1, D0, D1, P0, P1, h1, h2, h3, h4, h5, h6, h7⟩
  · simp [Value.cells] at h0
  simp only [Value.cells, List.cons.injEq, Value.slice.injEq, Option.some.injEq, and_true] at h1
  obtain ⟨rfl, rfl, rfl⟩ := h1
  have h5 : m = cap := by simpa using h5
  subst h5
  let L : Smp := (List.range len).map fun i => (intOf (V0 i), intOf (V1 i))
  have hlen : L.length = len := by simp [L]
  have hat : ∀ i (h : i < L.length), L[i] = (intOf (V0 i), intOf (V1 i)) := fun i h => by simp [L]
  have hint : ∀ i, i < len → ∃ x y, V0 i = .int .i64 x ∧ V1 i = .int .i64 y ∧ In64 x ∧ In64 y := fun i hi => by
    obtain ⟨_, _, g3, g4⟩ := h7 i (by omega)
    obtain ⟨x, hx, _, wx⟩ := DataW.trod_int hf0 g3
    obtain ⟨y, hy, _, wy⟩ := DataW.trod_int hf1 g4
    simp only [List.cons.injEq, and_true] at hx hy
    refine ⟨x, y, hx, hy, ?_, ?_⟩
    · simp [Lit.wf, IntKind.min, IntKind.max, IntKind.signed, IntKind.bits] at wx; unfold In64; omega
    · simp [Lit.wf, IntKind.min, IntKind.max, IntKind.signed, IntKind.bits] at wy; unfold In64; omega
  refine ⟨b, off, m, L, D0, D1, (List.range (m - len)).map fun j => .agg [D0 (len + j), D1 (len + j)], by rw [hlen], by omega, by unfold maxLen at h4; omega, ?_, ?_, ?_⟩
  · refine ⟨c, u, fz, hb, Nat.le_of_eq (smp_length L), ?_, ?_⟩
    · simp only [hlen]
      cases hl : len with
      | zero => omega
      | succ k =>
        obtain ⟨_, g2, _, _⟩ := h7 k (by omega)
        have := cell_at hb g2
        have := (Array.getElem?_eq_some_iff.1 this).1
        omega
    · intro ψ i a hi
      have hi2 := (List.getElem?_eq_some_iff.1 hi).1
      rw [smp_length, hlen] at hi2
      obtain ⟨j, q, hj, hq⟩ : ∃ j q, i = j * 2 + q ∧ q < 2 := ⟨i / 2, i % 2, by omega, by omega⟩
      have hjl : j < len := by omega
      have hjL : j < L.length := by omega
      obtain ⟨x, y, hx, hy, _, _⟩ := hint j hjl
      obtain ⟨g1, g2, _, _⟩ := h7 j (by omega)
      rcases (show q = 0 ∨ q = 1 by omega) with rfl | rfl
      · have e1 := smp_nth0 hjL (o := i) (by omega)
        rw [nth_eq, hi] at e1
        injection e1 with e1
        subst e1
        refine ⟨V0 j, ?_, ?_⟩
        · have := cell_at hb g1
          rw [hj]; exact this
        · rw [hat j hjL, hx]; exact .si _ _
      · have e1 := smp_nth1 hjL (o := i) (by omega)
        rw [nth_eq, hi] at e1
        injection e1 with e1
        subst e1
        refine ⟨V1 j, ?_, ?_⟩
        · have := cell_at hb g2
          rw [hj]; exact this
        · rw [hat j hjL, hy]; exact .si _ _
  · intro x hx
    simp only [L, List.mem_map, List.mem_range] at hx
    obtain ⟨i, hi, rfl⟩ := hx
    obtain ⟨x, y, hx, hy, g1, g2⟩ := hint i hi
    rw [hx, hy]
    exact ⟨g1, g2⟩
  · simp only [Prod.mk.injEq] at h6
    rw [h6.1, hlen]
end
theorem sized_len {H : Type} {P : Program} {ts : List TypeId} {ds : List (DataW H)} (h : (DataW.weightsEach P ts ds).all (· ≤ reachBytes) = true) {j n : Nat} {t e : TypeId} {F : Nat → DataW H} {E : List (DataW H)} (ht : ts[j]? = some t) (hd : ds[j]? = some (.slice ((List.range n).map F) E)) (hu : P.underlying t = some (.slice e)) (hb : P.bytesOf e = 16) : n ≤ 8796093022208 := by
  have := sized_slice h ht hd hu
  rw [hb, List.length_map, List.length_range] at this
  unfold reachBytes at this
  omega
/-- A law that the machine finds true, its arguments in memory. -/
theorem evP_callsM {F : FuncId → EP} (hF : TabP F) {d : Nat} {f : FuncId} {args : List AV} {H0 : AH} {n0 : Nat} {φ0 : Ph} {vs : Array Value} (he : callT F d f args H0 n0 fun v _ _ => v = .bool true ∨ v = .sb true) (w : World)
    (hr0 : HR φ0 H0 n0 (wholeHp w) (wholeHp w)) (hargs : VRs φ0 args vs.toList) : Calls Try.prog f vs w fun e w' => e = .returned (.bool true) ∧ Below w.heap.size w w' := by
  have hs := callT_sound (by kernel_rfl) hF d f args H0 n0 _ he _ (wholeHp w) (wholeHp w) vs (fun v g => v = .bool true ∧ (wholeHp w).n ≤ g.n ∧ ∀ b o, (wholeHp w).f b = some o → g.f b = some o) hr0 hargs
    (fun ψ v H n u g _ hg hu hv => ⟨by rcases hv with rfl | rfl; exact hu.bool_inv; exact hu.sb_inv, hg.size, fun b o hb => (hg.base b o hb).2⟩)
  refine (hs.2 w (wholeHp_is w)).mono fun e' w' ⟨v, g, h1, h2, h3, h4, h5, h6⟩ => ?_
  subst h1 h4
  refine ⟨rfl, h3.1, h3.2.1, h3.2.2, ?_, fun b hb => ?_⟩
  · rw [h2.1]; exact h5
  · have := h6 b _ (show (wholeHp w).f b = some w.heap[b] from Array.getElem?_eq_getElem hb)
    rw [h2.2 b _ this, Array.getElem?_eq_getElem hb]
end Go.Proofs.Ytkhfdjhohfebgaa
namespace Go.Proofs.Ytkhfdjhohfebgaa
open Go Go.RowKit

theorem wrap_lt {x : Int} (h1 : -18446744073709551616 ≤ x) (h2 : x < -9223372036854775808) : IntKind.i64.wrap x = x + 18446744073709551616 := by
  rw [IntKind.wrap_i64]; omega
theorem wrap_gt {x : Int} (h1 : x ≤ 18446744073709551615) (h2 : 9223372036854775807 < x) : IntKind.i64.wrap x = x - 18446744073709551616 := by
  rw [IntKind.wrap_i64]; omega
theorem sum_cases {x : Int} (h1 : -18446744073709551616 ≤ x) (h2 : x ≤ 18446744073709551615) : (In64 x ∧ IntKind.i64.wrap x = x) ∨ (x < -9223372036854775808 ∧ IntKind.i64.wrap x = x + 18446744073709551616) ∨ (9223372036854775807 < x ∧ IntKind.i64.wrap x = x - 18446744073709551616) := by
  unfold In64
  by_cases a : x < -9223372036854775808
  · exact .inr (.inl ⟨a, wrap_lt h1 a⟩)
  · by_cases b : 9223372036854775807 < x
    · exact .inr (.inr ⟨b, wrap_gt h2 b⟩)
    · exact .inl ⟨by omega, wrap_i64_of (by omega) (by omega)⟩
theorem cap_eq {a b : Int} (ha : In64 a) (hb : In64 b) : pCap a b = rCap a b ∧ In64 (rCap a b) := by
  unfold In64 at *
  have h := sum_cases (x := a + b) (by omega) (by omega)
  have h2 := sum_cases (x := 9223372036854775807 - b) (by omega) (by omega)
  have h3 := sum_cases (x := -9223372036854775808 - b) (by omega) (by omega)
  unfold In64 at h h2 h3
  simp only [pCap, sCap, rCap, sOver, rOver, decide_eq_true_eq]
  generalize IntKind.i64.wrap (a + b) = w at *
  generalize IntKind.i64.wrap (9223372036854775807 - b) = w2 at *
  generalize IntKind.i64.wrap (-9223372036854775808 - b) = w3 at *
  refine ⟨?_, ?_⟩
  · split <;> split <;> first | rfl | omega | (split <;> omega)
  · split
    · split <;> omega
    · omega
theorem cap_0 {x : Int} (h : In64 x) : pCap 0 x = x := by
  unfold In64 at h
  simp only [pCap, sCap, sOver, decide_eq_true_eq]
  rw [wrap_i64_of (x := 0 + x) (by omega) (by omega), if_neg (by omega)]
  omega
/-- The state behind some numbers. -/
def ssOf (x : Int) (r : List Int) : SS := ⟨(r.length : Int) + 1, r.foldl rCap x, r.foldl min x, r.foldl max x, x, (x :: r)[r.length]'(by simp)⟩
def aNums (V : List Int) : SS := V.foldl aAdd ss0
theorem aAll_vals (L : Smp) : aAll L = aNums (vals L) := by
  unfold aAll aNums vals
  rw [List.foldl_map]
theorem in_fold {x : Int} (hx : In64 x) : ∀ {r : List Int}, (∀ y ∈ r, In64 y) → In64 (r.foldl rCap x)
  | [], _ => hx
  | y :: r, h => in_fold (x := rCap x y) (cap_eq hx (h y List.mem_cons_self)).2 fun z hz => h z (List.mem_cons_of_mem _ hz)
theorem ssOf_step {x v : Int} {r : List Int} (hx : In64 x) (hr : ∀ y ∈ r, In64 y) (hv : In64 v) (hl : r.length < 4611686018427387904) : aAdd (ssOf x r) v = ssOf x (r ++ [v]) := by
  unfold aAdd
  rw [if_neg (by simp only [ssOf]; omega)]
  simp only [ssOf, List.foldl_append, List.foldl_cons, List.foldl_nil, List.length_append, List.length_cons, List.length_nil]
  rw [(cap_eq (in_fold hx hr) hv).1, wrap_i64_of (by omega) (by omega)]
  congr 1 <;> first | (simp; done) | omega
theorem aNums_of {x : Int} (hx : In64 x) : ∀ (n : Nat) (r : List Int), r.length = n → (∀ y ∈ r, In64 y) → r.length < 4611686018427387904 → aNums (x :: r) = ssOf x r
  | 0, r, hn, _, _ => by
    have : r = [] := List.eq_nil_of_length_eq_zero hn
    subst this
    show aAdd ss0 x = _
    unfold aAdd
    rw [if_pos (show ss0.n = 0 from rfl)]
    simp only [ss0, ssOf]
    rw [cap_0 hx, wrap_i64_of (by omega) (by omega)]
    simp
  | n + 1, r, hn, hr, hl => by
    obtain ⟨s, v, rfl⟩ : ∃ s v, r = s ++ [v] := ⟨r.dropLast, r.getLast (by intro q; subst q; simp at hn), (List.dropLast_concat_getLast _).symm⟩
    simp only [List.length_append, List.length_cons, List.length_nil] at hn hl
    have ih := aNums_of hx n s (by omega) (fun y hy => hr y (by simp [hy])) (by omega)
    rw [← ssOf_step hx (fun y hy => hr y (by simp [hy])) (hr v (by simp)) (by omega), ← ih]
    unfold aNums
    rw [← List.cons_append, List.foldl_append]; rfl
theorem min_le {x : Int} : ∀ (r : List Int), (∀ y ∈ r, In64 y) → In64 x → r.foldl min x ≤ r.foldl max x ∧ In64 (r.foldl min x) ∧ In64 (r.foldl max x) := by
  have key : ∀ (r : List Int) (a b : Int), a ≤ b → In64 a → In64 b → (∀ y ∈ r, In64 y) → r.foldl min a ≤ r.foldl max b ∧ In64 (r.foldl min a) ∧ In64 (r.foldl max b) := by
    intro r
    induction r with
    | nil => exact fun a b h h1 h2 _ => ⟨h, h1, h2⟩
    | cons y r ih =>
      intro a b h h1 h2 hr
      have hy := hr y List.mem_cons_self
      unfold In64 at h1 h2 hy
      exact ih (min a y) (max b y) (by omega) (by unfold In64; omega) (by unfold In64; omega) fun z hz => hr z (List.mem_cons_of_mem _ hz)
  exact fun r hr hx => key r x x (Int.le_refl _) hx hx hr
theorem wide_eq {l g : Int} (h : l ≤ g) (hl : In64 l) (hg : In64 g) : (if IntKind.i64.wrap (g - l) < 0 then 9223372036854775807 else IntKind.i64.wrap (g - l)) = rWide l g := by
  unfold rWide
  unfold In64 at *
  have h1 := sum_cases (x := g - l) (by omega) (by omega)
  have h2 := sum_cases (x := 9223372036854775807 + l) (by omega) (by omega)
  unfold In64 at h1 h2
  generalize IntKind.i64.wrap (g - l) = w at *
  generalize IntKind.i64.wrap (9223372036854775807 + l) = w2 at *
  split <;> split <;> omega
theorem num_eq {k : Int} {L : Smp} (hL : ∀ x ∈ L, In64 x.2) (hl : L.length < 4611686018427387904) : aNum k L = rNum k (vals L) ∧ aHas k L = rHas k (vals L) ∧ (aAll L).n = (L.length : Int) := by
  have hv : ∀ y ∈ vals L, In64 y := fun y hy => by
    simp only [vals, List.mem_map] at hy
    obtain ⟨x, hx, rfl⟩ := hy
    exact hL x hx
  have hlen : (vals L).length = L.length := by simp [vals]
  simp only [aNum, aHas, rNum, rHas, aAll_vals]
  rw [← hlen] at hl ⊢
  generalize vals L = V at *
  cases V with
  | nil => simp [aNums, ss0]
  | cons x r =>
    simp only [List.length_cons] at hl
    have hx := hv x List.mem_cons_self
    have hr : ∀ y ∈ r, In64 y := fun y hy => hv y (List.mem_cons_of_mem _ hy)
    rw [aNums_of hx r.length r rfl hr (by omega)]
    have hn : ¬ (ssOf x r).n = 0 := by simp only [ssOf]; omega
    have hm := min_le r hr hx
    have hw := wide_eq hm.1 hm.2.1 hm.2.2
    refine ⟨?_, by simp [hn], by simp [ssOf]⟩
    by_cases hk : sRight k = true
    · rw [if_pos hk, if_pos hk, if_neg hn]
      show aVal k (ssOf x r) = rVal k x r
      have hw2 : aWide (ssOf x r) = rWide (r.foldl min x) (r.foldl max x) := hw
      unfold aVal rVal
      rw [hw2]; rfl
    · rw [if_neg hk, if_neg hk]
end Go.Proofs.Ytkhfdjhohfebgaa
namespace Go.Proofs.Ytkhfdjhohfebgaa
open Go Go.RowKit
noncomputable def FN : FuncId → EP := withS 43 (natKS 8796093022208 rFold) FM
theorem FN_ok : TabP FN := withS_ok FM_ok n_rfold singKS
theorem aAdd_0 {s : SS} {v : Int} (h : s.n = 0) : aAdd s v = ⟨IntKind.i64.wrap (s.n + 1), pCap s.sum v, min v v, max v v, v, v⟩ := if_pos h
theorem aAdd_1 {s : SS} {v : Int} (h : ¬ s.n = 0) : aAdd s v = ⟨IntKind.i64.wrap (s.n + 1), pCap s.sum v, min s.least v, max s.great v, s.first, v⟩ := if_neg h
end Go.Proofs.Ytkhfdjhohfebgaa
namespace Go.Proofs.Ytkhfdjhohfebgaa
open Go Go.RowKit
section
variable {φ ψ : Ph} {H : AH} {n : Nat} {h0 h hp : Hp}
/-- A block that another run made, under a name of ours. -/
theorem HR.add (hr : HR φ H n h0 h) {q : Pl} {o : AO} {ob : Obj} (hq0 : h0.f q.B = none) (hqn : q.B < h.n) (hq : h.f q.B = some ob) (ho : OR (PNew φ n q) q o ob) (hw : o.own = true) (hfr : ∀ b o p, H.get b = some o → φ b = some p → o.own = true → p.B ≠ q.B) (d : Nat) : HR (PNew φ n q) (H.set (some o) d n) (n + 1) h0 h := by
  refine ⟨fun x r hx => ?_, fun x r hx => ?_, fun x y r r' px py hx hy hwx hwy hpx hpy e => ?_, hr.base, hr.size⟩
  · simp only [PNew] at hx
    split at hx
    · injection hx with hx; subst hx; exact ⟨by omega, hqn⟩
    · have := hr.dom x r hx; omega
  · rcases PM.get_set d _ n x r hx with ⟨rfl, h2⟩ | ⟨h1, h2⟩
    · injection h2 with h2
      subst h2
      exact .inr ⟨_, ob, PNew_same _ _ _, by rw [AO.under_own hw]; exact hq0, hq, ho⟩
    · rcases hr.live x r h2 with ⟨hv, hv2⟩ | ⟨px, obx, h5, h6, h7, h8⟩
      · exact .inl ⟨by simp only [PNew, if_neg h1]; exact hv, hv2⟩
      exact .inr ⟨px, obx, hr.ple _ _ _ h5, h6, h7, h8.mono (hr.ple _)⟩
  · have cs : ∀ z r pz, (H.set (some o) d n).get z = some r → PNew φ n q z = some pz → (z = n ∧ pz = q) ∨ (z ≠ n ∧ H.get z = some r ∧ φ z = some pz) := fun z r pz hz hpz => by
      rcases PM.get_set d _ n z r hz with ⟨rfl, _⟩ | ⟨h1, h2⟩
      · rw [PNew_same] at hpz; injection hpz with hpz; exact .inl ⟨rfl, hpz.symm⟩
      · simp only [PNew, if_neg h1] at hpz
        exact .inr ⟨h1, h2, hpz⟩
    rcases cs x r px hx hpx with ⟨a1, a2⟩ | ⟨a1, a2, a3⟩ <;> rcases cs y r' py hy hpy with ⟨b1, b2⟩ | ⟨b1, b2, b3⟩
    · omega
    · exact (hfr y r' py b2 b3 hwy (by rw [← e, a2])).elim
    · exact (hfr x r px a2 a3 hwx (by rw [e, b2])).elim
    · exact hr.inj x y r r' px py a2 b2 hwx hwy a3 b3 e
theorem CR.mk_flat {ψ χ : Ph} {c : Array Value} {s : Nat} {l m : List AV} (h : CR ψ c s l) (e : l.map mk = m.map mk) (hf : m.all flat.flat1 = true) : CR χ c s m := fun i a hi => by
  have e2 := congrArg (fun x : List AV => x[i]?) e
  simp only [List.getElem?_map, hi, Option.map_some] at e2
  rw [Option.map_eq_some_iff] at e2
  obtain ⟨a', h1, h2⟩ := e2
  obtain ⟨v, h3, h4⟩ := h i a' h1
  have h14 : flat.flat1 a = true := List.all_eq_true.1 hf a (List.mem_of_getElem? hi)
  have h13 : VR ψ (mk a) v := h2 ▸ h4.mk
  exact ⟨v, h3, flat1_VR h14 (by cases a <;> first | exact h13 | cases h14)⟩
/-- What a run on a small memory yields: no row, or a new one. -/
def NewRow (R : Smp) (u : AV) (H' : AH) : Prop := (R = [] ∧ u = .nsl) ∨ (R ≠ [] ∧ ∃ b c l, u = .sl b 0 R.length c 2 ∧ R.length ≤ c ∧ H'.get b = some (.cells l true) ∧ l.map mk = smp R)
theorem PM.get_set_ne {α : Type} {v : Option α} {x : α} : ∀ (f : Nat) (t : PM α) (n m : Nat), n + 1 < 2 ^ f → m ≠ n → t.get m = some x → (PM.set v f t n).get m = some x
  | 0, t, n, m, h, _, _ => by simp at h
  | f + 1, .nil, n, m, h, hm, e => by cases e
  | f + 1, .node l u r, 0, m, h, hm, e => by
    cases m with
    | zero => exact absurd rfl hm
    | succ m =>
      show (PM.node l v r).get (m + 1) = some x
      rw [PM.get_succ] at e ⊢
      exact e
  | f + 1, .node l u r, n + 1, m, h, hm, e => by
    have hp : (PM.node l u r).set v (f + 1) (n + 1) = (Nat.rec (.node (PM.set v f l (n / 2)) u r) (fun _ _ => .node l u (PM.set v f r (n / 2))) (n % 2) : PM α) := rfl
    have h2 : n / 2 + 1 < 2 ^ f := by rw [Nat.pow_succ] at h; omega
    rcases Nat.mod_two_eq_zero_or_one n with q | q <;> rw [q] at hp
    · have hp : (PM.node l u r).set v (f + 1) (n + 1) = .node (PM.set v f l (n / 2)) u r := hp
      rw [hp]
      cases m with
      | zero => exact e
      | succ m =>
        rw [PM.get_succ] at e ⊢
        split
        · rename_i hq
          rw [if_pos hq] at e
          exact PM.get_set_ne f l (n / 2) (m / 2) h2 (by omega) e
        · rename_i hq
          rw [if_neg hq] at e
          exact e
    · have hp : (PM.node l u r).set v (f + 1) (n + 1) = .node l u (PM.set v f r (n / 2)) := hp
      rw [hp]
      cases m with
      | zero => exact e
      | succ m =>
        rw [PM.get_succ] at e ⊢
        split
        · rename_i hq
          rw [if_pos hq] at e
          exact e
        · rename_i hq
          rw [if_neg hq] at e
          exact PM.get_set_ne f r (n / 2) (m / 2) h2 (by omega) e
/-! ### a new row, wherever it stands in what is yielded -/
def RowPW (W : AV → AV) (R : Smp) (H : AH) (n : Nat) (κ : PK) : Prop := (H.get n = none ∧ n < 1000000) ∧ κ (W (.rw n 0 R.length 2 0)) (H.set (some (.cells (smp R) true)) depthH n) (n + 1)
def NewRowG (R : Smp) (u : AV) (H' : AH) : Prop := (R = [] ∧ hd u = .nsl) ∨ (R ≠ [] ∧ ∃ b c k l, hd u = .sl b 0 R.length c k ∧ R.length ≤ c ∧ H'.get b = some (.cells l true) ∧ R.length * 2 ≤ l.length ∧ (l.take (R.length * 2)).map mk = smp R ∧ (k = 2 ∨ k = 0 ∧ c * 2 ≤ l.length)) ∨ ∃ b o x l r, u = .rw b o R.length 2 x ∧ x < 2 ∧ H'.get b = some (.cells l true) ∧ subL l o (R.length * 2) = some r ∧ r.map mk = smp R
/-- A block without a place. -/
theorem HR.phantom (hr : HR φ H n h0 hp) {o : AO} (ho : o.void = true) : HR φ (H.set (some o) depthH n) (n + 1) h0 hp := by
  have hno : φ n = none := by
    cases hq : φ n with
    | none => rfl
    | some p => exact absurd (hr.dom n p hq).1 (Nat.lt_irrefl _)
  refine ⟨fun b p hb => ⟨Nat.lt_succ_of_lt (hr.dom b p hb).1, (hr.dom b p hb).2⟩, fun b q hb => ?_, fun x y q q' px py hx hy hwx hwy hpx hpy ee => ?_, hr.base, hr.size⟩
  · rcases PM.get_set depthH _ n b q hb with ⟨rfl, h2⟩ | ⟨_, h2⟩
    · injection h2 with h2; subst h2; exact .inl ⟨hno, ho⟩
    · exact hr.live b q h2
  · have old : ∀ z r pz, (H.set (some o) depthH n).get z = some r → φ z = some pz → H.get z = some r := fun z r pz hz hpz => by
      rcases PM.get_set depthH _ n z r hz with ⟨rfl, _⟩ | ⟨_, h2⟩
      · rw [hno] at hpz; cases hpz
      · exact h2
    exact hr.inj x y q q' px py (old x q px hx hpx) (old y q' py hy hpy) hwx hwy hpx hpy ee
theorem newRow_use {H' : AH} {n' : Nat} {g : Hp} {R : Smp} {r : AV} {w : Value} (hr : HR φ H n h0 hp) (hg : HR ψ H' n' hp g) (hu : VR ψ r w) (he : NewRowG R r H') : ∃ χ, PLe φ χ ∧ HR χ (H.set (some (.cells (smp R) true)) depthH n) (n + 1) h0 g ∧ VR χ (.rw n 0 R.length 2 0) w := by
  have hg2 : HR φ H n h0 g := hr.grow (fun b o hb => (hg.base b o hb).2) hg.size
  -- a block of the run, at a place of its own
  have core : ∀ (q : Pl) (l r : List AV) (b o a C : Nat), H'.get b = some (.cells l true) → ψ b = some q → R.length ≤ C → q.s ≤ a → a + C * 2 ≤ q.s + q.T → (R ≠ [] → a = q.s + o ∧ subL l o (R.length * 2) = some r ∧ r.map mk = smp R) → w = .slice (some ⟨q.B, a, none⟩) R.length C → ∃ χ, PLe φ χ ∧ HR χ (H.set (some (.cells (smp R) true)) depthH n) (n + 1) h0 g ∧ VR χ (.rw n 0 R.length 2 0) w := by
    intro q l r b o a C hb hqb hRC ha1 ha2 hsub hw
    subst hw
    obtain ⟨ob, hq0, hq1, hor⟩ := hg.of hb hqb
    have hq0 : hp.f q.B = none := hq0
    have hh0 : h0.f q.B = none := by
      cases hx : h0.f q.B with
      | none => rfl
      | some o => have := (hr.base _ _ hx).2; rw [hq0] at this; cases this
    obtain ⟨cc, t, fz, rfl, o1, o2, o3, o4, o5⟩ := hor
    have hor' : OR (PNew φ n ⟨q.B, a, C * 2⟩) ⟨q.B, a, C * 2⟩ (.cells (smp R) true) (.cells cc t fz) := by
      have hfree : Free fz a (C * 2) := o3.sub (by omega)
      refine ⟨cc, t, fz, rfl, by rw [smp_length]; simp only; omega, (show a + C * 2 ≤ cc.size by omega), hfree, o4, ?_⟩
      by_cases hR : R = []
      · subst hR
        exact fun i a hi => by simp [smp] at hi
      · obtain ⟨rfl, h1, h2⟩ := hsub hR
        obtain ⟨h3, h4⟩ := subL_spec h1
        have o6 : CR ψ cc (q.s + o) r := by subst h4; exact CR.drop o5
        exact CR.mk_flat o6 (by rw [h2, smp_map]) (smp_flat R)
    have hnew := hg2.add (q := ⟨q.B, a, C * 2⟩) hh0 (hg.dom _ _ hqb).2 hq1 hor' rfl (fun b' o' p' e1 e2 _ e3 => by
      obtain ⟨ob2, _, f2, _⟩ := hr.of e1 e2
      rw [e3, hq0] at f2
      cases f2) depthH
    exact ⟨_, hr.ple _, hnew, .rw (p := ⟨q.B, a, C * 2⟩) (PNew_same _ _ _) (fun _ => rfl) (Nat.le_refl _) hRC (Nat.le_refl _)⟩
  have none : R = [] → w = .slice none 0 0 → ∃ χ, PLe φ χ ∧ HR χ (H.set (some (.cells (smp R) true)) depthH n) (n + 1) h0 g ∧ VR χ (.rw n 0 R.length 2 0) w := fun h1 h2 => by
    subst h1 h2
    exact ⟨φ, .refl _, hg2.phantom rfl, .rwn⟩
  rcases he with ⟨h1, e1⟩ | ⟨h1, b, c, k, l, e1, hc, hb, hlen, hl, hk⟩ | ⟨b, o, x, l, r', e1, hx2, hb, hsub, hmk⟩
  · have := hu.hd
    rw [e1] at this
    exact none h1 this.nsl_inv
  · have hu := hu.hd
    rw [e1] at hu
    obtain ⟨q, C, hqb, rfl, hC0, hC⟩ := hu.sl_inv
    have hT : R.length ≤ C ∧ C * 2 ≤ q.T := by
      rcases hk with rfl | ⟨rfl, hk⟩
      · obtain ⟨hC1, hC2⟩ := hC (by decide)
        exact ⟨by omega, by omega⟩
      · have := hC0 rfl
        have := hg.room _ _ _ hb hqb
        simp only [AO.size] at this
        exact ⟨by omega, by omega⟩
    refine core q l (l.take (R.length * 2)) b 0 q.s C hb hqb hT.1 (Nat.le_refl _) (by omega) (fun _ => ⟨rfl, ?_, hl⟩) rfl
    unfold subL
    rw [Nat.zero_add, Nat.ble_eq_true_of_le hlen]
    rfl
  · rw [e1] at hu
    rcases hu.rw_inv with ⟨h1, h2⟩ | ⟨q, a, C, hqb, rfl, h2, h3, h4, _, h5, _⟩
    · exact none (List.eq_nil_of_length_eq_zero h1) (h2.nil (by omega))
    · exact core q l r' b o a C hb hqb h4 h3 (h5 hx2) (fun hR => ⟨h2 (fun q => hR (List.eq_nil_of_length_eq_zero q)), hsub, hmk⟩) rfl
theorem smallNew1 {F : FuncId → EP} (hF : TabP F) {d : Nat} {f : FuncId} {args0 : List AV} {H0 : AH} {n0 : Nat} {R : Smp} {P : AV → AH → Prop} (hP : ∀ u H', P u H' → NewRowG R u H') (hrun : callT F d f args0 H0 n0 fun u H' _ => P u H')
    {vs : Array Value} {κ : PK} {K : KH} (hs : RowPW (fun r => r) R H n κ) (hr : HR φ H n h0 hp) (hk : ThenP φ h0 κ K) (hic : isCall Try.prog f = true) {φ0 : Ph} (hr0 : Wf hp → HR φ0 H0 n0 hp hp) (hargs : VRs φ0 args0 vs.toList) : CallF Try.prog f vs hp K := by
  have key : Wf hp → CallF Try.prog f vs hp K := fun hw => callT_sound (by kernel_rfl) hF d f args0 H0 n0 _ hrun φ0 hp hp vs K (hr0 hw) hargs fun ψ u H' n' w g _ hg hu he => by
    have hg2 : HR φ H n h0 g := hr.grow (fun b o hb => (hg.base b o hb).2) hg.size
    obtain ⟨χ, h3, h4, h5⟩ := newRow_use hr hg hu (hP _ _ he)
    exact hk χ _ _ _ _ g h3 h4 h5 hs.2
  exact ⟨hic, fun w hi => (key hi.wf).2 w hi⟩
theorem RowPW.sing {W : AV → AV} {R : Smp} {κ : PK} (h : RowPW W R H n κ) : ∃ v H' n', κ v H' n' ∧ GrowsA H H' ∧ n ≤ n' ∧ ∀ κ' : PK, κ' v H' n' → RowPW W R H n κ' := by
  obtain ⟨⟨h1, h2⟩, h3⟩ := h
  refine ⟨_, _, _, h3, fun b o hb => ?_, Nat.le_succ _, fun κ' k => ⟨⟨h1, h2⟩, k⟩⟩
  refine PM.get_set_ne _ _ _ _ ?_ (fun q => by rw [q, h1] at hb; cases hb) hb
  have : (1000001 : Nat) < 2 ^ depthH := by show 1000001 < 2 ^ 40; decide
  omega
theorem NewRowG.full {R : Smp} {b c : Nat} {l : List AV} {H' : AH} {u : AV} (hR : R ≠ []) (h1 : hd u = .sl b 0 R.length c 2) (hc : R.length ≤ c) (h2 : H'.get b = some (.cells l true)) (h3 : l.map mk = smp R) : NewRowG R u H' := by
  have hl : l.length = R.length * 2 := by have := congrArg List.length h3; rw [List.length_map, smp_length] at this; exact this
  exact .inr (.inl ⟨hR, b, c, 2, l, h1, hc, h2, by omega, by rw [List.take_of_length_le (by omega)]; exact h3, .inl rfl⟩)
theorem NewRowG.rw {R : Smp} {b o x : Nat} {l r : List AV} {H' : AH} {u : AV} (h1 : u = .rw b o R.length 2 x) (h2 : H'.get b = some (.cells l true)) (h3 : subL l o (R.length * 2) = some r) (h4 : r.map mk = smp R) (hx : x < 2 := by decide) : NewRowG R u H' := .inr (.inr ⟨b, o, x, l, r, h1, hx, h2, h3, h4⟩)
theorem NewRow.g {R : Smp} {u : AV} {H' : AH} (h : NewRow R u H') : NewRowG R u H' := by
  rcases h with ⟨h1, rfl⟩ | ⟨h1, b, c, l, rfl, hc, hb, hl⟩
  · exact .inl ⟨h1, rfl⟩
  · exact NewRowG.full h1 rfl hc hb hl
end
def RowP (R : Smp) (H : AH) (n : Nat) (κ : PK) : Prop := RowPW (fun r => r) R H n κ
theorem RowP.sing {R : Smp} {H : AH} {n : Nat} {κ : PK} (h : RowP R H n κ) : ∃ v H' n', κ v H' n' ∧ GrowsA H H' ∧ n ≤ n' ∧ ∀ κ' : PK, κ' v H' n' → RowP R H n κ' := RowPW.sing h
/-- A function of three numbers and samples that yields samples. -/
def natB (B : Nat) (f : Int → Int → Int → Smp → Smp) (args : List AV) (H : AH) (n : Nat) (κ : PK) : Prop := match args with
  | [x, y, z, l] => asI x fun k => asI y fun s => asI z fun a => ∃ L, SmpAt H l L ∧ L.length ≤ B ∧ RowP (f k s a L) H n κ
  | _ => False
theorem singB {B : Nat} {f : Int → Int → Int → Smp → Smp} : SingG (natB B f) := fun args H n κ hs => by
  unfold natB at *
  split at hs
  · obtain ⟨x, h1, k1⟩ := asI_sing hs
    obtain ⟨y, h2, k2⟩ := asI_sing h1
    obtain ⟨z, ⟨L, h3, h4, h5⟩, k3⟩ := asI_sing h2
    obtain ⟨v, H', n', h6, h7, h8, h9⟩ := h5.sing
    exact ⟨v, H', n', h6, h7, h8, fun κ' k => k1 _ (k2 _ (k3 _ ⟨L, h3, h4, h9 κ' k⟩))⟩
  · exact hs.elim
theorem natB_ok {B : Nat} {F : FuncId → EP} (hF : TabP F) {d : Nat} {f : FuncId} {g : Int → Int → Int → Smp → Smp} (hic : isCall Try.prog f = true) (h0 : ∀ k s a, callT F d f [.si .i64 k, .si .i64 s, .si .i64 a, .nsl] .nil 0 fun u H' _ => NewRow (g k s a []) u H')
    (h1 : ∀ k s a L cap, L.length ≤ B → L.length ≤ cap → callT F d f [.si .i64 k, .si .i64 s, .si .i64 a, .sy 0 0 L.length cap 0] (mkH [(0, .ro (smp L))]) 1 fun u H' _ => NewRow (g k s a L) u H') : NatP f (natB B g) := fun args H n κ hs φ h0' hp vs K hr hargs hk => by
  unfold natB at hs
  split at hs
  · obtain ⟨v1, l1, e1, hv1, t1⟩ := hargs.cons_inv
    obtain ⟨v2, l2, e2, hv2, t2⟩ := t1.cons_inv
    obtain ⟨v3, l3, e3, hv3, t3⟩ := t2.cons_inv
    obtain ⟨v4, l4, e4, hv4, t4⟩ := t3.cons_inv
    have e5 := t4.nil_inv
    subst e5 e4 e3 e2
    obtain ⟨k, hv1, hs⟩ := asI_si hv1 hs
    obtain ⟨s, hv2, hs⟩ := asI_si hv2 hs
    obtain ⟨a, hv3, L, hS, hL, hs2⟩ := asI_si hv3 hs
    have t3 : ∀ (χ : Ph) (x : AV), VR χ x v4 → VRs χ [.si .i64 k, .si .i64 s, .si .i64 a, x] vs.toList := fun χ x hx => by
      rw [e1]
      exact .cons (by rw [hv1.si_inv]; exact .si _ _) (.cons (by rw [hv2.si_inv]; exact .si _ _) (.cons (by rw [hv3.si_inv]; exact .si _ _) (.cons hx .nil)))
    rcases hS.open hr hv4 with ⟨rfl, hv⟩ | ⟨p, C, hC, hro, hv⟩
    · exact smallNew1 hF (fun _ _ h => h.g) (h0 k s a) hs2 hr hk hic HR.ro0 (t3 _ _ (hv _))
    · exact smallNew1 hF (fun _ _ h => h.g) (h1 k s a L C hL hC) hs2 hr hk hic (fun hw => HR.ro1 hw hro) (t3 _ _ (hv _ 0 rfl))
  · exact hs.elim
end Go.Proofs.Ytkhfdjhohfebgaa
namespace Go.Proofs.Ytkhfdjhohfebgaa
open Go Go.RowKit
structure BK where
  pre : Smp
  b : Int
  v : Int
  s : SS
def BK.out (c : BK) : Smp := c.pre ++ [(c.b, c.v)]
def aV (k : Int) (s : SS) : Int := if s.n = 0 then 0 else aVal k s
def bkNew (k : Int) (pre : Smp) (b x : Int) : BK := ⟨pre, b, aV k (aAdd ss0 x), aAdd ss0 x⟩
def bkSame (k : Int) (c : BK) (x : Int) : BK := ⟨c.pre, c.b, aV k (aAdd c.s x), aAdd c.s x⟩
def bkStep (k sz al : Int) (c : BK) (x : Int × Int) : BK := if c.b = sStart x.1 sz al then bkSame k c x.2 else bkNew k c.out (sStart x.1 sz al) x.2
def bkAll (k sz al : Int) (x : Int × Int) (r : Smp) : BK := r.foldl (bkStep k sz al) (bkNew k [] (sStart x.1 sz al) x.2)
def bkOk (L : Smp) : Bool := L.all fun x => sTime x.1
def bkA (k sz al : Int) (L : Smp) : Smp := if sRight k = true ∧ sCan sz al = true ∧ bkOk L = true then (match L with
  | [] => []
  | x :: r => (bkAll k sz al x r).out) else []
theorem bkA_pos {k sz al : Int} {x : Int × Int} {r : Smp} (h1 : sRight k = true) (h2 : sCan sz al = true) (h3 : bkOk (x :: r) = true) : bkA k sz al (x :: r) = (bkAll k sz al x r).out := if_pos ⟨h1, h2, h3⟩
theorem bkA_neg {k sz al : Int} {L : Smp} (h : sRight k = false ∨ sCan sz al = false ∨ bkOk L = false) : bkA k sz al L = [] := if_neg (by rcases h with h | h | h <;> simp [h])
theorem bkA_nil {k sz al : Int} : bkA k sz al [] = [] := by unfold bkA; split <;> rfl
theorem bkOk_no {L : Smp} {i : Nat} (h : i < L.length) (ht : sTime L[i].1 = false) : bkOk L = false := by
  cases hb : bkOk L with
  | false => rfl
  | true =>
    have := List.all_eq_true.1 hb _ (List.getElem_mem h)
    simp only [ht] at this
    cases this
theorem bkAll_take {k sz al : Int} {x : Int × Int} {r : Smp} {i : Nat} (h : i < r.length) : bkAll k sz al x (r.take (i + 1)) = bkStep k sz al (bkAll k sz al x (r.take i)) r[i] := foldl_take h
theorem bkStep_same {k sz al : Int} {c : BK} {x : Int × Int} (h : c.b = sStart x.1 sz al) : bkStep k sz al c x = bkSame k c x.2 := if_pos h
theorem bkStep_new {k sz al : Int} {c : BK} {x : Int × Int} (h : ¬ c.b = sStart x.1 sz al) : bkStep k sz al c x = bkNew k c.out (sStart x.1 sz al) x.2 := if_neg h
theorem bkOk_take {L : Smp} {i : Nat} (h : i < L.length) (h1 : bkOk (L.take i) = true) (h2 : sTime L[i].1 = true) : bkOk (L.take (i + 1)) = true := by
  unfold bkOk at *
  rw [List.take_succ_eq_append_getElem h, List.all_append, h1]
  simp [h2]
theorem bk_fold_len {k sz al : Int} : ∀ (r : Smp) (c : BK), (r.foldl (bkStep k sz al) c).pre.length ≤ c.pre.length + r.length
  | [], _ => Nat.le_refl _
  | y :: r, c => by
    have h1 := bk_fold_len (k := k) (sz := sz) (al := al) r (bkStep k sz al c y)
    have h2 : (bkStep k sz al c y).pre.length ≤ c.pre.length + 1 := by
      unfold bkStep
      split
      · exact Nat.le_succ _
      · simp [bkNew, BK.out]
    simp only [List.foldl_cons, List.length_cons]
    omega
theorem bk_len {k sz al : Int} {x : Int × Int} (r : Smp) : (bkAll k sz al x r).pre.length ≤ r.length := by
  have := bk_fold_len (k := k) (sz := sz) (al := al) r (bkNew k [] (sStart x.1 sz al) x.2)
  simp only [bkNew, List.length_nil, Nat.zero_add] at this
  exact this
/-! ### cells -/
theorem end_nth0 {xs : List AV} {a c : AV} {o : Nat} (h : o = xs.length) : nth (xs ++ [a, c]) o = some a := by
  subst h; rw [nth_eq]; simp
theorem end_set {a c w : AV} : ∀ {xs : List AV} {o : Nat}, o = xs.length + 1 → setL (xs ++ [a, c]) o [w] = some (xs ++ [a, w])
  | [], o, h => by subst h; rfl
  | x :: xs, o, h => by
    obtain ⟨q, rfl⟩ : ∃ q, o = q + 1 := ⟨o - 1, by simp at h; omega⟩
    have := end_set (a := a) (c := c) (w := w) (xs := xs) (o := q) (by simp at h; omega)
    simp only [List.cons_append, setL, this, Option.map_some]
def endC (pre : Smp) (b v : Int) : List AV := smp pre ++ [.si .i64 b, .si .i64 v]
theorem endC_eq (pre : Smp) (b v : Int) : endC pre b v = smp (pre ++ [(b, v)]) := by simp [endC, smp]
theorem endC_flat (pre : Smp) (b v : Int) : (endC pre b v).all flat.flat1 = true := by rw [endC_eq]; exact smp_flat _
theorem endC_map (pre : Smp) (b v : Int) : (endC pre b v).map mk = smp (pre ++ [(b, v)]) := by rw [endC_eq, smp_map]
theorem endC_len (pre : Smp) (b v : Int) : (endC pre b v).length = (pre.length + 1) * 2 := by rw [endC_eq, smp_length]; simp
/-! ### the walk -/
noncomputable def FP : FuncId → EP := FN
theorem FP_ok : TabP FP := FN_ok
noncomputable def bkC (k sz al : Int) (L : Smp) (cap : Nat) (c : BK) (i : Nat) : AE × AH :=
  (mkE [(0, .si .i64 k), (1, .si .i64 sz), (2, .si .i64 al), (9, .sl 1 0 (c.pre.length + 1) (c.pre.length + 1) 2), (10, .ptr 2 0), (24, .sl 0 0 L.length cap 0), (25, .si .i64 L.length), (26, .si .i64 (i + 1 : Nat))],
   mkH [(0, .ro (smp L)), (1, .cells (endC c.pre c.b c.v) true), (2, .cells (stateCells k c.s) true)])
noncomputable abbrev bkSt (k sz al : Int) (x : Int × Int) (r : Smp) (cap : Nat) : Nat → AE × AH
  | 0 => (mkE [(0, .si .i64 k), (1, .si .i64 sz), (2, .si .i64 al), (9, .nsl), (10, .nil), (24, .sl 0 0 (r.length + 1) cap 0), (25, .si .i64 (r.length + 1 : Nat)), (26, .si .i64 0)], mkH [(0, .ro (smp (x :: r)))])
  | i + 1 => bkC k sz al (x :: r) cap (bkAll k sz al x (r.take i)) i
theorem bk_cov {k sz al : Int} {L : Smp} {cap i p n : Nat} {c : BK} {σ : AE} {H : AH} {l s : List AV} (j1 j2 : Nat) (hj : j1 ≠ 0 ∧ j2 ≠ 0 ∧ j1 ≠ j2) (hp : p ≤ 1) (e0 : mk (getq (pa 0) σ) = .si .i64 k) (e1 : mk (getq (pa 1) σ) = .si .i64 sz) (e2 : mk (getq (pa 2) σ) = .si .i64 al)
    (e9 : mk (getq (pa 9) σ) = .sy j1 0 (c.pre.length + 1) (c.pre.length + 1) 2) (e10 : getq (pa 10) σ = .ptr j2 0) (e24 : mk (getq (pa 24) σ) = .sy 0 0 L.length cap 0) (e25 : mk (getq (pa 25) σ) = .si .i64 L.length) (e26 : mk (getq (pa 26) σ) = .si .i64 (i + 1 : Nat))
    (h0 : H.get 0 = some (.ro (smp L))) (h1 : H.get j1 = some (.cells l true)) (hl : l.map mk = smp c.out) (h2 : H.get j2 = some (.cells s true)) (hs : s.map mk = stateCells k c.s) : Cov p σ H n ((bkC k sz al L cap c i).1, (bkC k sz al L cap c i).2, 3) := by
  refine Cov.of (fun b => if b = 0 then 0 else if b = 1 then j1 else j2) (by omega) (fun b hb => by rw [if_pos (by omega)]; omega) ?_ ?_ ?_
  · intro x hx
    simp only [List.mem_cons, List.not_mem_nil, or_false] at hx
    rcases hx with rfl | rfl | rfl | rfl | rfl | rfl | rfl | rfl
    · exact .int e0
    · exact .int e1
    · exact .int e2
    · exact .sl (by decide) e9
    · exact .ptr (by decide) e10
    · exact .sl (by decide) e24
    · exact .int e25
    · exact .int e26
  · intro x hx
    simp only [List.mem_cons, List.not_mem_nil, or_false] at hx
    rcases hx with rfl | rfl | rfl
    · exact ⟨by simp, _, h0, SubO.ro_mk (smp_flat L) rfl⟩
    · exact ⟨by simp, _, h1, SubO.cells_mk (endC_flat _ _ _) (by rw [hl, endC_map]; rfl) (fun q => q)⟩
    · exact ⟨by simp, _, h2, SubO.cells_mk rfl hs (fun q => q)⟩
  · intro x hx y hy
    simp only [List.mem_cons, List.not_mem_nil, or_false] at hx hy
    rcases hx with rfl | rfl | rfl <;> rcases hy with rfl | rfl | rfl <;> simp <;> omega
theorem bk_at {k sz al : Int} {x : Int × Int} {r : Smp} {cap i p n : Nat} {c : BK} {σ : AE} {H : AH} (hc : bkAll k sz al x (r.take (i + 1)) = c) (h : Cov p σ H n ((bkC k sz al (x :: r) cap c (i + 1)).1, (bkC k sz al (x :: r) cap c (i + 1)).2, 3)) :
    Cov p σ H n ((bkSt k sz al x r cap (i + 2)).1, (bkSt k sz al x r cap (i + 2)).2, 3) := by subst hc; exact h
theorem bk_cov0 {k sz al : Int} {x : Int × Int} {r : Smp} {cap p n : Nat} {σ : AE} {H : AH} (hp : p ≤ 1) (e0 : mk (getq (pa 0) σ) = .si .i64 k) (e1 : mk (getq (pa 1) σ) = .si .i64 sz) (e2 : mk (getq (pa 2) σ) = .si .i64 al)
    (e9 : getq (pa 9) σ = .nsl) (e10 : getq (pa 10) σ = .nil) (e24 : mk (getq (pa 24) σ) = .sy 0 0 (r.length + 1) cap 0) (e25 : mk (getq (pa 25) σ) = .si .i64 (r.length + 1 : Nat)) (e26 : mk (getq (pa 26) σ) = .si .i64 0)
    (h0 : H.get 0 = some (.ro (smp (x :: r)))) : Cov p σ H n ((bkSt k sz al x r cap 0).1, (bkSt k sz al x r cap 0).2, 3) := by
  refine Cov.of (fun b => b) (by omega) (fun b hb => rfl) ?_ ?_ ?_
  · intro x hx
    simp only [List.mem_cons, List.not_mem_nil, or_false] at hx
    rcases hx with rfl | rfl | rfl | rfl | rfl | rfl | rfl | rfl
    · exact .int e0
    · exact .int e1
    · exact .int e2
    · exact .flat rfl (congrArg mk e9)
    · exact .flat rfl (congrArg mk e10)
    · exact .sl (by decide) e24
    · exact .int e25
    · exact .int e26
  · intro x hx
    simp only [List.mem_cons, List.not_mem_nil, or_false] at hx
    subst hx
    exact ⟨by simp, _, h0, SubO.ro_mk (smp_flat _) rfl⟩
  · intro x hx y hy
    simp only [List.mem_cons, List.not_mem_nil, or_false] at hx hy
    subst hx hy
    exact fun q => q
theorem aTold_aV {k : Int} {s : SS} : mkT (aTold k s) = .tup [.si .i64 (aV k s), .sb (!decide (s.n = 0))] := rfl
theorem snoc_map (o : Smp) (b v : Int) {l : List AV} (h : l.map mk = smp o) : (l ++ [AV.si .i64 b, AV.si .i64 v]).map mk = smp (o ++ [(b, v)]) := by
  rw [List.map_append, h]; simp [smp, mk]
set_option maxHeartbeats 8000000 in
set_option maxRecDepth 100000 in
theorem bk_run (k sz al : Int) (L : Smp) (cap : Nat) (hL : L.length ≤ 1000000) (_ : L.length ≤ cap) : callT FP 4 46 [.si .i64 k, .si .i64 sz,   .si .i64 al, .sy 0 0 L.length cap 0] (mkH [(0, .ro (smp L))]) 1 fun u H' _ => NewRow (bkA k sz al L) u H' := by
  conv => whnf
  refine Fork.nsb (fun hr => ?_) (fun hr => ?_)
  · conv => whnf
    exact .inl ⟨bkA_neg (.inl hr), rfl⟩
  have hk := right_pos hr
  conv => whnf
  refine Fork.nsb (fun hc => ?_) (fun hc => ?_)
  · conv => whnf
    exact .inl ⟨bkA_neg (.inr (.inl hc)), rfl⟩
  rcases L with _ | ⟨x, r⟩
  · conv => whnf
    refine LoopP.roll 1 ?_
    conv => whnf
    refine Fork.dec (fun h => absurd h (by decide)) (fun _ => ?_)
    conv => whnf
    exact .inl ⟨bkA_nil, rfl⟩
  simp only [List.length_cons] at hL
  conv => whnf
  refine LoopP.mk { i : Nat // i < r.length + 2 ∧ bkOk ((x :: r).take i) = true } 3 (fun a => bkSt k sz al x r cap a.val) (fun a => r.length + 1 - a.val) ⟨0, by omega, rfl⟩ ?_ ?_
  · exact bk_cov0 (Nat.le_refl 1) rfl rfl rfl rfl rfl rfl rfl rfl rfl
  · intro ⟨i, hi, hok⟩
    cases i with
    | zero =>
      conv => whnf
      refine Fork.dec (fun h1 => ?_) (fun h1 => absurd (show (0 : Int) < ((r.length + 1 : Nat) : Int) by omega) h1)
      have hlt : r.length + 1 - 1 < r.length + 1 - 0 := by omega
      have h2 : 0 < (x :: r).length := Nat.succ_pos _
      conv => whnf
      refine Idx.mk 0 rfl (Nat.succ_pos _) ?_
      conv => whnf
      refine Fork.nsb (fun ht => ?_) (fun ht => ?_)
      · conv => whnf
        exact .inl ⟨bkA_neg (.inr (.inr (bkOk_no h2 ht))), rfl⟩
      conv => whnf
      refine Fork.nsb (fun h => absurd h (by rw [hr]; decide)) (fun _ => ?_)
      conv => whnf
      refine Fork.ndec (fun h => absurd (show (0 : Int) < k by omega) h) (fun _ => ?_)
      conv => whnf
      refine .inr ⟨k, aAdd ss0 x.2, 6, rfl, ⟨_, .inr ⟨_, rfl⟩, ?_⟩, hk.1, hk.2, ?_⟩
      · exact Eq.trans rfl (congrArg (stateCells k) (aAdd_0 (s := ss0) (v := x.2) rfl).symm)
      conv => whnf
      refine ⟨⟨1, by omega, bkOk_take h2 hok ht⟩, hlt, bk_cov (i := 0) (c := bkAll k sz al x (r.take 0)) 5 6 (by decide) (Nat.le_refl 1) rfl rfl rfl rfl rfl rfl rfl rfl rfl rfl ?_ rfl ?_⟩
      · exact Eq.trans rfl (show smp [(sStart x.1 sz al, aV k (aAdd ss0 x.2))] = _ from rfl)
      · exact Eq.trans rfl (congrArg (stateCells k) (aAdd_0 (s := ss0) (v := x.2) rfl).symm)
    | succ i =>
      conv => whnf
      refine Fork.dec (fun h1 => ?_) (fun h1 => ?_)
      · have h1 : ((i + 1 : Nat) : Int) < ((r.length + 1 : Nat) : Int) := h1
        have h2 : i + 1 < (x :: r).length := by simp only [List.length_cons]; omega
        have h3 : i < r.length := by omega
        have hlt : r.length + 1 - (i + 2) < r.length + 1 - (i + 1) := by omega
        have hw : IntKind.i64.wrap (((i + 1 : Nat) : Int) + 1) = ((i + 1 + 1 : Nat) : Int) := by rw [wrap_i64_of (x := ((i + 1 : Nat) : Int) + 1) (by omega) (by omega)]; omega
        have hpl : (bkAll k sz al x (r.take i)).pre.length ≤ i := Nat.le_trans (bk_len _) (by rw [List.length_take]; omega)
        have hlw : IntKind.i64.wrap ((((bkAll k sz al x (r.take i)).pre.length + 1 : Nat) : Int) - 1) = ((bkAll k sz al x (r.take i)).pre.length : Int) := by rw [wrap_i64_of (by omega) (by omega)]; omega
        have hlw2 : IntKind.i64.wrap ((((bkAll k sz al x (r.take i)).pre.length + 1 + 1 : Nat) : Int) - 1) = (((bkAll k sz al x (r.take i)).pre.length + 1 : Nat) : Int) := by rw [wrap_i64_of (by omega) (by omega)]; omega
        conv => whnf
        refine Idx.mk (i + 1) rfl h2 ?_
        conv => whnf
        refine optP_of (smp_sub h2 (by show 0 + (i + 1) * 2 = (i + 1) * 2; omega)) ?_
        conv => whnf
        refine Fork.nsb (fun ht => ?_) (fun ht => ?_)
        · conv => whnf
          exact .inl ⟨bkA_neg (.inr (.inr (bkOk_no h2 ht))), rfl⟩
        conv => whnf
        refine optP_of (eix_of rfl hlw (Nat.lt_succ_self _)) ?_
        conv => whnf
        refine optP_of (end_nth0 (by rw [smp_length]; show 0 + _ * 2 + 0 = _; omega)) ?_
        conv => whnf
        refine Fork.ndec (fun h4 => ?_) (fun h4 => ?_)
        · conv => whnf
          refine optP_of (app_grow (k := 1) (by' := 16) (m := 1) (sn := (bkAll k sz al x (r.take i)).pre.length + 1) (c := (bkAll k sz al x (r.take i)).pre.length + 1) rfl rfl rfl rfl rfl rfl rfl rfl (by decide) rfl rfl rfl (by omega) (by omega) (subL_all (endC_len _ _ _))) ?_
          conv => whnf
          refine Fork.nsb (fun h => absurd h (by rw [hr]; decide)) (fun _ => ?_)
          conv => whnf
          refine Fork.ndec (fun h => absurd (show (0 : Int) < k by omega) h) (fun _ => ?_)
          conv => whnf
          refine .inr ⟨k, aAdd ss0 r[i].2, 6, rfl, ⟨_, .inr ⟨_, rfl⟩, ?_⟩, hk.1, hk.2, ?_⟩
          · exact Eq.trans rfl (congrArg (stateCells k) (aAdd_0 (s := ss0) (v := r[i].2) rfl).symm)
          conv => whnf
          refine optP_of (eix_of rfl hlw2 (Nat.lt_succ_self _)) ?_
          conv => whnf
          refine optP_of (end_set (xs := endC (bkAll k sz al x (r.take i)).pre (bkAll k sz al x (r.take i)).b (bkAll k sz al x (r.take i)).v) (by rw [endC_len]; show 0 + (_ + 1) * 2 + 1 = _; omega)) ?_
          conv => whnf
          refine ⟨⟨i + 2, by omega, bkOk_take h2 hok ht⟩, hlt, bk_at ((bkAll_take h3).trans (bkStep_new h4)) (bk_cov (i := i + 1) 5 6 (by decide) (Nat.le_refl 1) rfl rfl rfl ?_ rfl rfl rfl (congrArg (AV.si .i64) hw) rfl rfl (snoc_map _ _ _ (endC_map _ _ _)) rfl ?_)⟩
          · exact (show mk _ = AV.sy 5 0 ((bkAll k sz al x (r.take i)).pre.length + 1 + 1) ((bkAll k sz al x (r.take i)).pre.length + 1 + 1) 2 from rfl).trans (by simp [bkNew, BK.out])
          · exact Eq.trans rfl (congrArg (stateCells k) (aAdd_0 (s := ss0) (v := r[i].2) rfl).symm)
        · refine Fork.ndec (fun h => absurd (show (0 : Int) < k by omega) h) (fun _ => ?_)
          conv => whnf
          refine Fork.dec (fun h5 => ?_) (fun h5 => ?_)
          all_goals
            conv => whnf
            refine .inr ⟨k, aAdd (bkAll k sz al x (r.take i)).s r[i].2, 2, rfl, ⟨_, .inr ⟨_, rfl⟩, ?_⟩, hk.1, hk.2, ?_⟩
            · first | exact Eq.trans rfl (congrArg (stateCells k) (aAdd_0 h5).symm) | exact Eq.trans rfl (congrArg (stateCells k) (aAdd_1 h5).symm)
            conv => whnf
            refine optP_of (eix_of rfl hlw (Nat.lt_succ_self _)) ?_
            conv => whnf
            refine optP_of (end_set (xs := smp (bkAll k sz al x (r.take i)).pre) (by rw [smp_length]; show 0 + _ * 2 + 1 = _; omega)) ?_
            conv => whnf
            refine ⟨⟨i + 2, by omega, bkOk_take h2 hok ht⟩, hlt, bk_at ((bkAll_take h3).trans (bkStep_same h4)) (bk_cov (i := i + 1) 1 2 (by decide) (Nat.le_refl 1) rfl rfl rfl rfl rfl rfl rfl (congrArg (AV.si .i64) hw) rfl rfl (endC_map _ _ _) rfl ?_)⟩
            first | exact Eq.trans rfl (congrArg (stateCells k) (aAdd_0 h5).symm) | exact Eq.trans rfl (congrArg (stateCells k) (aAdd_1 h5).symm)
      · conv => whnf
        have h1 : ¬ ((i + 1 : Nat) : Int) < ((r.length + 1 : Nat) : Int) := h1
        have h3 : i = r.length := by omega
        subst h3
        have e1 : r.take r.length = r := List.take_length
        rw [show (x :: r).take (r.length + 1) = x :: r from by rw [List.take_succ_cons, e1]] at hok
        have e2 : bkA k sz al (x :: r) = (bkAll k sz al x (r.take r.length)).out := by rw [bkA_pos hr hc hok, e1]
        refine .inr ⟨by rw [e2]; simp [BK.out], 1, (bkAll k sz al x (r.take r.length)).pre.length + 1, _, ?_, ?_, rfl, (endC_map _ _ _).trans (congrArg smp e2.symm)⟩
        · exact (show _ = AV.sl 1 0 ((bkAll k sz al x (r.take r.length)).pre.length + 1) ((bkAll k sz al x (r.take r.length)).pre.length + 1) 2 from rfl).trans (by rw [e2]; simp [BK.out])
        · rw [e2]; simp [BK.out]
set_option maxHeartbeats 4000000 in
set_option maxRecDepth 100000 in
theorem bk_nil (k sz al : Int) : callT FP 4 46 [.si .i64 k, .si .i64 sz, .si .i64 al, .nsl] .nil 0 fun u H' _ => NewRow (bkA k sz al []) u H' := by
  conv => whnf
  refine Fork.nsb (fun hr => ?_) (fun hr => ?_)
  · conv => whnf
    exact .inl ⟨bkA_nil, rfl⟩
  conv => whnf
  refine Fork.nsb (fun hc => ?_) (fun hc => ?_)
  · conv => whnf
    exact .inl ⟨bkA_nil, rfl⟩
  conv => whnf
  refine LoopP.roll 1 ?_
  conv => whnf
  exact .inl ⟨bkA_nil, rfl⟩
theorem n_buckets : NatP 46 (natB 1000000 bkA) := natB_ok FP_ok (by kernel_rfl) bk_nil bk_run
end Go.Proofs.Ytkhfdjhohfebgaa
namespace Go.Proofs.Ytkhfdjhohfebgaa
open Go Go.RowKit
noncomputable def FQ : FuncId → EP := withD 16 [] (withS 46 (natB 1000000 bkA) FP)
theorem FQ_ok : TabP FQ := withD_ok (withS_ok FP_ok n_buckets singB) (by kernel_rfl) (by kernel_rfl)
/-- A function of two rows of samples that yields a truth. -/
def natSS (B : Nat) (f : Smp → Smp → Bool) (args : List AV) (H : AH) (n : Nat) (κ : PK) : Prop := match args with
  | [x, y] => ∃ L M, SmpAt H x L ∧ SmpAt H y M ∧ L.length ≤ B ∧ M.length ≤ B ∧ κ (.sb (f L M)) H n
  | _ => False
theorem singSS {B : Nat} {f : Smp → Smp → Bool} : SingG (natSS B f) := .pure fun args H n κ hs => by
  unfold natSS at *
  split at hs
  · obtain ⟨L, M, h1, h2, h3, h4, h5⟩ := hs
    exact ⟨_, h5, fun κ' h => ⟨L, M, h1, h2, h3, h4, h⟩⟩
  · exact hs.elim
theorem natSS_ok {B : Nat} {F : FuncId → EP} (hF : TabP F) {d : Nat} {f : FuncId} {g : Smp → Smp → Bool} (hic : isCall Try.prog f = true) (h00 : callT F d f [.nsl, .nsl] .nil 0 fun u _ _ => mkT u = mkT (.bool (g [] [])))
    (h01 : ∀ M cap, M.length ≤ B → callT F d f [.nsl, .sy 0 0 M.length cap 0] (mkH [(0, .ro (smp M))]) 1 fun u _ _ => mkT u = mkT (.bool (g [] M)))
    (h10 : ∀ L cap, L.length ≤ B → callT F d f [.sy 0 0 L.length cap 0, .nsl] (mkH [(0, .ro (smp L))]) 1 fun u _ _ => mkT u = mkT (.bool (g L [])))
    (h11 : ∀ L M c1 c2, L.length ≤ B → M.length ≤ B → callT F d f [.sy 0 0 L.length c1 0, .sy 1 0 M.length c2 0] (mkH [(0, .ro (smp L)), (1, .ro (smp M))]) 2 fun u _ _ => mkT u = mkT (.bool (g L M))) : NatP f (natSS B g) := fun args H n κ hs φ h0' hp vs K hr hargs hk => by
  unfold natSS at hs
  split at hs
  · obtain ⟨x, y, rfl, e1, e2⟩ := vs2 hargs
    obtain ⟨L, M, hS, hT, hL, hM, hs2⟩ := hs
    rcases hS.open hr e1 with ⟨rfl, hv⟩ | ⟨p, C, _, hro, hv⟩ <;> rcases hT.open hr e2 with ⟨rfl, hw⟩ | ⟨p', C', _, hro', hw⟩
    · exact smallN (v := .bool (g [] [])) hF rfl h00 hs2 hr hk hic HR.ro0 (.cons (hv _) (.cons (hw _) .nil))
    · exact smallN (v := .bool (g [] M)) hF rfl (h01 M C' hM) hs2 hr hk hic (fun hw => HR.ro1 hw hro') (.cons (hv _) (.cons (hw _ 0 rfl) .nil))
    · exact smallN (v := .bool (g L [])) hF rfl (h10 L C hL) hs2 hr hk hic (fun hw => HR.ro1 hw hro) (.cons (hv _ 0 rfl) (.cons (hw _) .nil))
    · exact smallN (v := .bool (g L M)) hF rfl (h11 L M C C' hL hM) hs2 hr hk hic (fun hw => HR.ro2 hw hro hro') (.cons (hv _ 0 rfl) (.cons (hw _ 1 rfl) .nil))
  · exact hs.elim
theorem plan39 : eqPlan Try.prog 38 = some [(0, 0), (0, 1)] := by kernel_rfl
theorem ebin_agg2 {P : Program} {t : TypeId} {H : AH} {a b c d : Int} (hp : eqPlan P t = some [(0, 0), (0, 1)]) : ebin P .neq t (.agg [.int .i64 a, .int .i64 b]) (.agg [.int .i64 c, .int .i64 d]) H = some (.bool (!(decide (a = c) && (decide (b = d) && true)))) := by
  simp [ebin, hp, eplan, nth, qbool]
def sameS (L M : Smp) : Bool := decide (L = M)
noncomputable def sameSt (L M : Smp) (c1 c2 i : Nat) : AE × AH := (mkE [(0, .sy 0 0 L.length c1 0), (1, .sy 1 0 M.length c2 0), (5, .si .i64 i)], mkH [(0, .ro (smp L)), (1, .ro (smp M))])
theorem same_cov {L M : Smp} {c1 c2 i p n : Nat} {σ : AE} {H : AH} (hp : p ≤ 2) (e0 : mk (getq (pa 0) σ) = .sy 0 0 L.length c1 0) (e1 : mk (getq (pa 1) σ) = .sy 1 0 M.length c2 0) (e5 : mk (getq (pa 5) σ) = .si .i64 i)
    (h0 : H.get 0 = some (.ro (smp L))) (h1 : H.get 1 = some (.ro (smp M))) : Cov p σ H n ((sameSt L M c1 c2 i).1, (sameSt L M c1 c2 i).2, 2) := by
  refine Cov.of (fun b => b) hp (fun b hb => rfl) ?_ ?_ ?_
  · intro x hx
    simp only [List.mem_cons, List.not_mem_nil, or_false] at hx
    rcases hx with rfl | rfl | rfl
    · exact .sy (by decide) e0
    · exact .sy (by decide) e1
    · exact .int e5
  · intro x hx
    simp only [List.mem_cons, List.not_mem_nil, or_false] at hx
    rcases hx with rfl | rfl
    · exact ⟨by simp, _, h0, SubO.ro_mk (smp_flat L) rfl⟩
    · exact ⟨by simp, _, h1, SubO.ro_mk (smp_flat M) rfl⟩
  · intro x hx y hy
    simp only [List.mem_cons, List.not_mem_nil, or_false] at hx hy
    rcases hx with rfl | rfl <;> rcases hy with rfl | rfl <;> exact fun q => q
theorem same_no {L M : Smp} (h : L ≠ M) : AV.sb false = mkT (.bool (sameS L M)) := by simp [sameS, h, mkT, mk]
theorem same_yes {L M : Smp} (h : L = M) : AV.sb true = mkT (.bool (sameS L M)) := by simp [sameS, h, mkT, mk]
set_option maxHeartbeats 4000000 in
set_option maxRecDepth 100000 in
theorem same_run (L M : Smp) (c1 c2 : Nat) (hL : L.length ≤ 1000000) (hM : M.length ≤ 1000000) : callT FQ 3 16 [.sy 0 0 L.length c1 0, .sy 1 0 M.length c2 0] (mkH [(0, .ro (smp L)), (1, .ro (smp M))]) 2 fun u _ _ => mkT u = mkT (.bool (sameS L M)) := by
  conv => whnf
  refine Fork.ndec (fun h1 => ?_) (fun h1 => ?_)
  · conv => whnf
    exact (show mkT _ = AV.sb false from rfl).trans (same_no fun e => h1 (by rw [e]))
  have hlen : L.length = M.length := by have : (L.length : Int) = (M.length : Int) := h1; omega
  conv => whnf
  refine LoopP.mk { i : Nat // i < L.length + 1 ∧ L.take i = M.take i } 2 (fun a => sameSt L M c1 c2 a.val) (fun a => L.length - a.val) ⟨0, by omega, rfl⟩ ?_ ?_
  · exact same_cov (i := 0) (Nat.le_refl 2) rfl rfl rfl rfl rfl
  · intro ⟨i, hi, he⟩
    conv => whnf
    refine Fork.dec (fun h2 => ?_) (fun h2 => ?_)
    · have h3 : i < L.length := Int.ofNat_lt.1 h2
      have h4 : i < M.length := by omega
      have hlt : L.length - (i + 1) < L.length - i := by omega
      have hw : IntKind.i64.wrap ((i : Int) + 1) = ((i + 1 : Nat) : Int) := by rw [wrap_i64_of (x := (i : Int) + 1) (by omega) (by omega)]; omega
      conv => whnf
      refine Idx.mk i rfl h3 ?_
      conv => whnf
      refine optP_of (smp_sub h3 (by show 0 + i * 2 = i * 2; omega)) ?_
      conv => whnf
      refine Idx.mk i rfl h4 ?_
      conv => whnf
      refine optP_of (smp_sub h4 (by show 0 + i * 2 = i * 2; omega)) ?_
      conv => whnf
      refine optP_of (ebin_agg2 plan39) ?_
      conv => whnf
      refine Fork.nsb (fun h5 => ?_) (fun h5 => ?_)
      · conv => whnf
        refine (show mkT _ = AV.sb false from rfl).trans (same_no fun e => ?_)
        subst e
        have h5 : (decide (L[i].1 = L[i].1) && (decide (L[i].2 = L[i].2) && true)) = false := h5
        simp at h5
      · conv => whnf
        have h5 : (decide (L[i].1 = M[i].1) && (decide (L[i].2 = M[i].2) && true)) = true := h5
        simp only [Bool.and_true, Bool.and_eq_true, decide_eq_true_eq] at h5
        refine ⟨⟨i + 1, by omega, ?_⟩, hlt, same_cov (Nat.le_refl 2) rfl rfl (congrArg (AV.si .i64) hw) rfl rfl⟩
        rw [List.take_succ_eq_append_getElem h3, List.take_succ_eq_append_getElem h4, he, Prod.ext h5.1 h5.2]
    · conv => whnf
      have h3 : i = L.length := by have : ¬ (i : Int) < (L.length : Int) := h2; omega
      subst h3
      refine (show mkT _ = AV.sb true from rfl).trans (same_yes ?_)
      rw [List.take_length, hlen, List.take_length] at he
      exact he
set_option maxHeartbeats 4000000 in
set_option maxRecDepth 100000 in
theorem same_00 : callT FQ 3 16 [.nsl, .nsl] .nil 0 fun u _ _ => mkT u = mkT (.bool (sameS [] [])) := by
  conv => whnf
  refine LoopP.roll 1 ?_
  conv => whnf
  rfl
set_option maxHeartbeats 4000000 in
set_option maxRecDepth 100000 in
theorem same_01 (M : Smp) (cap : Nat) : callT FQ 3 16 [.nsl, .sy 0 0 M.length cap 0] (mkH [(0, .ro (smp M))]) 1 fun u _ _ => mkT u = mkT (.bool (sameS [] M)) := by
  conv => whnf
  refine Fork.ndec (fun h1 => ?_) (fun h1 => ?_)
  · conv => whnf
    exact (show mkT _ = AV.sb false from rfl).trans (same_no fun e => h1 (by rw [← e]; rfl))
  · conv => whnf
    have h2 : M = [] := List.eq_nil_of_length_eq_zero (by have : (0 : Int) = (M.length : Int) := h1; omega)
    subst h2
    refine LoopP.roll 1 ?_
    conv => whnf
    rfl
set_option maxHeartbeats 4000000 in
set_option maxRecDepth 100000 in
theorem same_10 (L : Smp) (cap : Nat) : callT FQ 3 16 [.sy 0 0 L.length cap 0, .nsl] (mkH [(0, .ro (smp L))]) 1 fun u _ _ => mkT u = mkT (.bool (sameS L [])) := by
  conv => whnf
  refine Fork.ndec (fun h1 => ?_) (fun h1 => ?_)
  · conv => whnf
    exact (show mkT _ = AV.sb false from rfl).trans (same_no fun e => h1 (by rw [e]; rfl))
  · conv => whnf
    have h2 : L = [] := List.eq_nil_of_length_eq_zero (by have : (L.length : Int) = (0 : Int) := h1; omega)
    subst h2
    refine LoopP.roll 1 ?_
    conv => whnf
    refine Fork.dec (fun h => absurd h (by decide)) (fun _ => ?_)
    conv => whnf
    rfl
theorem n_same : NatP 16 (natSS 1000000 sameS) := natSS_ok FQ_ok (by kernel_rfl) same_00 (fun M cap _ => same_01 M cap) (fun L cap _ => same_10 L cap) same_run
end Go.Proofs.Ytkhfdjhohfebgaa
namespace Go.Proofs.Ytkhfdjhohfebgaa
open Go Go.RowKit
noncomputable def FR_ : FuncId → EP := withS 16 (natSS 1000000 sameS) FQ
theorem FR_ok : TabP FR_ := withS_ok FQ_ok n_same singSS
def atS (L : Smp) (i : Nat) : Int × Int := L.getD i (0, 0)
theorem atS_eq {L : Smp} {i : Nat} (h : i < L.length) : L[i] = atS L i := by simp [atS, h]
def cutS (L : Smp) (f h : Nat) : Smp := (L.take h).drop f
def rbStep (k sz al : Int) (L : Smp) (i : Nat) (q : Smp × Nat) : Smp × Nat := if i + 1 = L.length ∨ ¬ sStart (atS L (i + 1)).1 sz al = sStart (atS L i).1 sz al then (q.1 ++ [(sStart (atS L i).1 sz al, rNum k (vals (cutS L q.2 (i + 1))))], i + 1) else q
def rb (k sz al : Int) (L : Smp) : Nat → Smp × Nat
  | 0 => ([], 0)
  | i + 1 => rbStep k sz al L i (rb k sz al L i)
def rbA (k sz al : Int) (L : Smp) : Smp := if sRight k = true ∧ sCan sz al = true ∧ bkOk L = true then (rb k sz al L L.length).1 else []
theorem rbA_neg {k sz al : Int} {L : Smp} (h : sRight k = false ∨ sCan sz al = false ∨ bkOk L = false) : rbA k sz al L = [] := if_neg (by rcases h with h | h | h <;> simp [h])
theorem rbA_nil {k sz al : Int} : rbA k sz al [] = [] := by unfold rbA; split <;> rfl
structure RbI (k sz al : Int) (L : Smp) (out : Smp) (f i : Nat) : Prop where
  hi : i ≤ L.length
  hf : f ≤ i
  ho : out.length ≤ i
  eq : rb k sz al L i = (out, f)
  ok : bkOk (L.take i) = true
theorem RbI.add {k sz al : Int} {L out : Smp} {f i : Nat} (h : RbI k sz al L out f i) (hlt : i < L.length) (ht : sTime L[i].1 = true) (hc : i + 1 = L.length ∨ ¬ sStart (atS L (i + 1)).1 sz al = sStart (atS L i).1 sz al) :
    RbI k sz al L (out ++ [(sStart (atS L i).1 sz al, rNum k (vals (cutS L f (i + 1))))]) (i + 1) (i + 1) := by
  refine ⟨hlt, Nat.le_refl _, by simp; exact h.ho, ?_, bkOk_take hlt h.ok ht⟩
  show rbStep k sz al L i (rb k sz al L i) = _
  rw [h.eq]
  exact if_pos hc
theorem RbI.skip {k sz al : Int} {L out : Smp} {f i : Nat} (h : RbI k sz al L out f i) (hlt : i < L.length) (ht : sTime L[i].1 = true) (hc : ¬ (i + 1 = L.length ∨ ¬ sStart (atS L (i + 1)).1 sz al = sStart (atS L i).1 sz al)) : RbI k sz al L out f (i + 1) := by
  refine ⟨hlt, Nat.le_succ_of_le h.hf, Nat.le_succ_of_le h.ho, ?_, bkOk_take hlt h.ok ht⟩
  show rbStep k sz al L i (rb k sz al L i) = _
  rw [h.eq]
  exact if_neg hc
theorem time_no {t : Int} (h : t < 0 ∨ 1099511627776 < t) : sTime t = false := by simp only [sTime, decide_eq_false_iff_not]; omega
theorem time_yes {t : Int} (h1 : ¬ t < 0) (h2 : ¬ 1099511627776 < t) : sTime t = true := by simp only [sTime, decide_eq_true_eq]; omega
theorem eslice_lh {P : Program} {t e : TypeId} {es b o n c f j : Nat} {i i' : Int} {kk kk' : IntKind} (hu : P.underlying t = some (.slice e)) (hs : tySize P e = some es) (hi : i = (f : Int)) (hi' : i' = (j : Int)) (h1 : f < j) (h2 : j ≤ c) :
    eslice P t (.sl b o n c 0) (some (.int kk i)) (some (.int kk' i')) none = some (.sl b (o + f * es) (j - f) (c - f) 0) := by
  subst hi hi'
  have e1 : ebnd (some (AV.int kk (f : Int))) 0 = some f := rfl
  have e2 : ebnd (some (AV.int kk' (j : Int))) n = some j := rfl
  simp only [eslice, hu, hs, e1, e2]
  simp only [ebnd]
  rw [if_pos ⟨by omega, h2, Nat.le_refl _⟩, if_neg (by omega)]
theorem smp_cut {L : Smp} {f j : Nat} (h1 : f ≤ j) (h2 : j ≤ L.length) : subL (smp L) (0 + f * 2) ((cutS L f j).length * 2) = some (smp (cutS L f j)) ∧ (cutS L f j).length = j - f := by
  have hl : (cutS L f j).length = j - f := by simp [cutS]; omega
  refine ⟨?_, hl⟩
  rw [hl]
  unfold subL
  rw [Nat.ble_eq_true_of_le (by rw [smp_length]; omega), Nat.zero_add, smp_drop]
  rw [show (j - f) * 2 = (j - f) * 2 from rfl, smp_take]
  congr 2
  rw [cutS, List.drop_take]
noncomputable abbrev rbSt (k sz al : Int) (L : Smp) (cap : Nat) (f i : Nat) : Smp → AE × AH
  | [] => (mkE [(0, .si .i64 k), (1, .si .i64 sz), (2, .si .i64 al), (3, .sy 0 0 L.length cap 0), (9, .nsl), (10, .si .i64 f), (11, .si .i64 i)], mkH [(0, .ro (smp L))])
  | y :: o => (mkE [(0, .si .i64 k), (1, .si .i64 sz), (2, .si .i64 al), (3, .sy 0 0 L.length cap 0), (9, .sl 1 0 (o.length + 1) (o.length + 1) 2), (10, .si .i64 f), (11, .si .i64 i)], mkH [(0, .ro (smp L)), (1, .cells (smp (y :: o)) true)])
theorem rb_cov0 {k sz al : Int} {L : Smp} {cap f i p n : Nat} {σ : AE} {H : AH} (hp : p ≤ 1) (e0 : mk (getq (pa 0) σ) = .si .i64 k) (e1 : mk (getq (pa 1) σ) = .si .i64 sz) (e2 : mk (getq (pa 2) σ) = .si .i64 al) (e3 : mk (getq (pa 3) σ) = .sy 0 0 L.length cap 0)
    (e9 : getq (pa 9) σ = .nsl) (e10 : mk (getq (pa 10) σ) = .si .i64 f) (e11 : mk (getq (pa 11) σ) = .si .i64 i) (h0 : H.get 0 = some (.ro (smp L))) : Cov p σ H n ((rbSt k sz al L cap f i []).1, (rbSt k sz al L cap f i []).2, 2) := by
  refine Cov.of (fun b => b) (by omega) (fun b hb => rfl) ?_ ?_ ?_
  · intro x hx
    simp only [List.mem_cons, List.not_mem_nil, or_false] at hx
    rcases hx with rfl | rfl | rfl | rfl | rfl | rfl | rfl
    · exact .int e0
    · exact .int e1
    · exact .int e2
    · exact .sy (by decide) e3
    · exact .flat rfl (congrArg mk e9)
    · exact .int e10
    · exact .int e11
  · intro x hx
    simp only [List.mem_cons, List.not_mem_nil, or_false] at hx
    subst hx
    exact ⟨by simp, _, h0, SubO.ro_mk (smp_flat _) rfl⟩
  · intro x hx y hy
    simp only [List.mem_cons, List.not_mem_nil, or_false] at hx hy
    subst hx hy
    exact fun q => q
theorem rb_cov {k sz al : Int} {L : Smp} {cap f i p n : Nat} {y : Int × Int} {o : Smp} {σ : AE} {H : AH} {l : List AV} (j1 : Nat) (hj : j1 ≠ 0) (hp : p ≤ 1) (e0 : mk (getq (pa 0) σ) = .si .i64 k) (e1 : mk (getq (pa 1) σ) = .si .i64 sz) (e2 : mk (getq (pa 2) σ) = .si .i64 al) (e3 : mk (getq (pa 3) σ) = .sy 0 0 L.length cap 0)
    (e9 : mk (getq (pa 9) σ) = .sy j1 0 (o.length + 1) (o.length + 1) 2) (e10 : mk (getq (pa 10) σ) = .si .i64 f) (e11 : mk (getq (pa 11) σ) = .si .i64 i) (h0 : H.get 0 = some (.ro (smp L))) (h1 : H.get j1 = some (.cells l true)) (hl : l.map mk = smp (y :: o)) : Cov p σ H n ((rbSt k sz al L cap f i (y :: o)).1, (rbSt k sz al L cap f i (y :: o)).2, 2) := by
  refine Cov.of (fun b => if b = 0 then 0 else j1) (by omega) (fun b hb => by rw [if_pos (by omega)]; omega) ?_ ?_ ?_
  · intro x hx
    simp only [List.mem_cons, List.not_mem_nil, or_false] at hx
    rcases hx with rfl | rfl | rfl | rfl | rfl | rfl | rfl
    · exact .int e0
    · exact .int e1
    · exact .int e2
    · exact .sy (by decide) e3
    · exact .sl (by decide) e9
    · exact .int e10
    · exact .int e11
  · intro x hx
    simp only [List.mem_cons, List.not_mem_nil, or_false] at hx
    rcases hx with rfl | rfl
    · exact ⟨by simp, _, h0, SubO.ro_mk (smp_flat L) rfl⟩
    · exact ⟨by simp, _, h1, SubO.cells_mk (smp_flat _) (by rw [hl, smp_map]) (fun q => q)⟩
  · intro x hx y hy
    simp only [List.mem_cons, List.not_mem_nil, or_false] at hx hy
    rcases hx with rfl | rfl <;> rcases hy with rfl | rfl <;> simp <;> omega
set_option maxHeartbeats 8000000 in
set_option maxRecDepth 100000 in
theorem rb_run (k sz al : Int) (L : Smp) (cap : Nat) (hL : L.length ≤ 1000000) (hcap : L.length ≤ cap) : callT FR_ 4 48 [.si .i64 k, .si .i64 sz, .si .i64 al, .sy 0 0 L.length cap 0] (mkH [(0, .ro (smp L))]) 1 fun u H' _ => NewRow (rbA k sz al L) u H' := by
  conv => whnf
  refine Fork.sb (fun hr => ?_) (fun hr => ?_)
  · conv => whnf
    exact .inl ⟨rbA_neg (.inl (name_empty hr)), rfl⟩
  have hr := name_full hr
  conv => whnf
  refine Fork.nsb (fun hc => ?_) (fun hc => ?_)
  · conv => whnf
    exact .inl ⟨rbA_neg (.inr (.inl hc)), rfl⟩
  conv => whnf
  refine LoopP.mk { q : Smp × Nat × Nat // RbI k sz al L q.1 q.2.1 q.2.2 } 2 (fun a => rbSt k sz al L cap a.val.2.1 a.val.2.2 a.val.1) (fun a => L.length - a.val.2.2) ⟨([], 0, 0), ⟨Nat.zero_le _, Nat.le_refl _, Nat.le_refl _, rfl, rfl⟩⟩ ?_ ?_
  · exact rb_cov0 (i := 0) (f := 0) (Nat.le_refl 1) rfl rfl rfl rfl rfl rfl rfl rfl
  · intro ⟨⟨out, f, i⟩, hI⟩
    obtain ⟨hi, hf, ho, heq, hok⟩ := id hI
    dsimp only at hi hf ho heq hok
    cases out with
    | nil =>
      conv => whnf
      refine Fork.dec (fun h1 => ?_) (fun h1 => ?_)
      · have h2 : i < L.length := Int.ofNat_lt.1 h1
        have hlt : L.length - (i + 1) < L.length - i := by omega
        have hw : IntKind.i64.wrap ((i : Int) + 1) = ((i + 1 : Nat) : Int) := by rw [wrap_i64_of (x := (i : Int) + 1) (by omega) (by omega)]; omega
        have hcl := smp_cut (L := L) (f := f) (j := i + 1) (by omega) (by omega)
        conv => whnf
        refine Idx.mk i rfl h2 ?_
        conv => whnf
        refine optP_of (smp_nth0 h2 (by show 0 + i * 2 + 0 = i * 2; omega)) ?_
        conv => whnf
        refine Fork.dec (fun h3 => ?_) (fun h3 => ?_)
        · conv => whnf
          exact .inl ⟨rbA_neg (.inr (.inr (bkOk_no h2 (time_no (.inl h3))))), rfl⟩
        conv => whnf
        refine Idx.mk i rfl h2 ?_
        conv => whnf
        refine optP_of (smp_nth0 h2 (by show 0 + i * 2 + 0 = i * 2; omega)) ?_
        conv => whnf
        refine Fork.dec (fun h4 => ?_) (fun h4 => ?_)
        · conv => whnf
          exact .inl ⟨rbA_neg (.inr (.inr (bkOk_no h2 (time_no (.inr h4))))), rfl⟩
        have ht := time_yes h3 h4
        conv => whnf
        refine Idx.mk i rfl h2 ?_
        conv => whnf
        refine optP_of (smp_nth0 h2 (by show 0 + i * 2 + 0 = i * 2; omega)) ?_
        conv => whnf
        refine Fork.dec (fun h5 => ?_) (fun h5 => ?_)
        rotate_left 1
        have h6 : ¬ i + 1 = L.length := fun q => h5 (hw.trans (by rw [q]))
        have h7 : i + 1 < L.length := by omega
        conv => whnf
        refine Idx.mk (i + 1) hw h7 ?_
        conv => whnf
        refine optP_of (smp_nth0 h7 (by show 0 + (i + 1) * 2 + 0 = (i + 1) * 2; omega)) ?_
        conv => whnf
        refine Fork.ndec (fun h8 => ?_) (fun h8 => ?_)
        rotate_left 1
        · have hno : ¬ (i + 1 = L.length ∨ ¬ sStart (atS L (i + 1)).1 sz al = sStart (atS L i).1 sz al) := by
            rw [← atS_eq h7, ← atS_eq h2]
            exact fun q => q.elim h6 (fun q => q h8)
          conv => whnf
          exact ⟨⟨([], f, i + 1), hI.skip h2 ht hno⟩, hlt, rb_cov0 (Nat.le_refl 1) rfl rfl rfl rfl rfl rfl (congrArg (AV.si .i64) hw) rfl⟩
        all_goals
          have hadd : i + 1 = L.length ∨ ¬ sStart (atS L (i + 1)).1 sz al = sStart (atS L i).1 sz al := by
            first
              | (exact .inr (by rw [← atS_eq h7, ← atS_eq h2]; exact h8))
              | (refine .inl ?_
                 have : ((i + 1 : Nat) : Int) = (L.length : Int) := hw.symm.trans h5
                 omega)
          have hz : (sStart L[i].1 sz al, rNum k (vals (cutS L f (i + 1)))) = (sStart (atS L i).1 sz al, rNum k (vals (cutS L f (i + 1)))) := by rw [atS_eq h2]
          conv => whnf
          refine Ask.mk _ (eslice_lh (f := f) (j := i + 1) (es := 2) rfl rfl rfl hw (by omega) (by omega)) ?_
          conv => whnf
          refine ⟨cutS L f (i + 1), .inr (.inr ⟨0, 0 + f * 2, cap - f, 0, smp L, smp (cutS L f (i + 1)), ?_, .inl rfl, hcl.1, smp_map _, by omega⟩), by omega, ?_⟩
          · exact (show _ = AV.sl 0 (0 + f * 2) (i + 1 - f) (cap - f) 0 from rfl).trans (by rw [hcl.2])
          conv => whnf
          refine ⟨⟨([] ++ [_], i + 1, i + 1), hI.add h2 ht hadd⟩, hlt, rb_cov (o := []) 3 (by decide) (Nat.le_refl 1) rfl rfl rfl rfl rfl (congrArg (AV.si .i64) hw) (congrArg (AV.si .i64) hw) rfl rfl ?_⟩
          exact Eq.trans rfl (show smp [(sStart L[i].1 sz al, rNum k (vals (cutS L f (i + 1))))] = _ from congrArg (fun z => smp [z]) hz)
      · conv => whnf
        have h3 : i = L.length := by have : ¬ (i : Int) < (L.length : Int) := h1; omega
        subst h3
        rw [List.take_length] at hok
        have e2 : rbA k sz al L = [] := by
          unfold rbA
          rw [if_pos ⟨hr, hc, hok⟩, heq]
        exact .inl ⟨e2, rfl⟩
    | cons y o =>
      conv => whnf
      refine Fork.dec (fun h1 => ?_) (fun h1 => ?_)
      · have h2 : i < L.length := Int.ofNat_lt.1 h1
        have hlt : L.length - (i + 1) < L.length - i := by omega
        have hw : IntKind.i64.wrap ((i : Int) + 1) = ((i + 1 : Nat) : Int) := by rw [wrap_i64_of (x := (i : Int) + 1) (by omega) (by omega)]; omega
        have hcl := smp_cut (L := L) (f := f) (j := i + 1) (by omega) (by omega)
        conv => whnf
        refine Idx.mk i rfl h2 ?_
        conv => whnf
        refine optP_of (smp_nth0 h2 (by show 0 + i * 2 + 0 = i * 2; omega)) ?_
        conv => whnf
        refine Fork.dec (fun h3 => ?_) (fun h3 => ?_)
        · conv => whnf
          exact .inl ⟨rbA_neg (.inr (.inr (bkOk_no h2 (time_no (.inl h3))))), rfl⟩
        conv => whnf
        refine Idx.mk i rfl h2 ?_
        conv => whnf
        refine optP_of (smp_nth0 h2 (by show 0 + i * 2 + 0 = i * 2; omega)) ?_
        conv => whnf
        refine Fork.dec (fun h4 => ?_) (fun h4 => ?_)
        · conv => whnf
          exact .inl ⟨rbA_neg (.inr (.inr (bkOk_no h2 (time_no (.inr h4))))), rfl⟩
        have ht := time_yes h3 h4
        conv => whnf
        refine Idx.mk i rfl h2 ?_
        conv => whnf
        refine optP_of (smp_nth0 h2 (by show 0 + i * 2 + 0 = i * 2; omega)) ?_
        conv => whnf
        refine Fork.dec (fun h5 => ?_) (fun h5 => ?_)
        rotate_left 1
        have h6 : ¬ i + 1 = L.length := fun q => h5 (hw.trans (by rw [q]))
        have h7 : i + 1 < L.length := by omega
        conv => whnf
        refine Idx.mk (i + 1) hw h7 ?_
        conv => whnf
        refine optP_of (smp_nth0 h7 (by show 0 + (i + 1) * 2 + 0 = (i + 1) * 2; omega)) ?_
        conv => whnf
        refine Fork.ndec (fun h8 => ?_) (fun h8 => ?_)
        rotate_left 1
        · have hno : ¬ (i + 1 = L.length ∨ ¬ sStart (atS L (i + 1)).1 sz al = sStart (atS L i).1 sz al) := by
            rw [← atS_eq h7, ← atS_eq h2]
            exact fun q => q.elim h6 (fun q => q h8)
          conv => whnf
          exact ⟨⟨(y :: o, f, i + 1), hI.skip h2 ht hno⟩, hlt, rb_cov 1 (by decide) (Nat.le_refl 1) rfl rfl rfl rfl rfl rfl (congrArg (AV.si .i64) hw) rfl rfl (smp_map _)⟩
        all_goals
          have hadd : i + 1 = L.length ∨ ¬ sStart (atS L (i + 1)).1 sz al = sStart (atS L i).1 sz al := by
            first
              | (exact .inr (by rw [← atS_eq h7, ← atS_eq h2]; exact h8))
              | (refine .inl ?_
                 have : ((i + 1 : Nat) : Int) = (L.length : Int) := hw.symm.trans h5
                 omega)
          have hz : (sStart L[i].1 sz al, rNum k (vals (cutS L f (i + 1)))) = (sStart (atS L i).1 sz al, rNum k (vals (cutS L f (i + 1)))) := by rw [atS_eq h2]
          conv => whnf
          refine Ask.mk _ (eslice_lh (f := f) (j := i + 1) (es := 2) rfl rfl rfl hw (by omega) (by omega)) ?_
          conv => whnf
          refine ⟨cutS L f (i + 1), .inr (.inr ⟨0, 0 + f * 2, cap - f, 0, smp L, smp (cutS L f (i + 1)), ?_, .inl rfl, hcl.1, smp_map _, by omega⟩), by omega, ?_⟩
          · exact (show _ = AV.sl 0 (0 + f * 2) (i + 1 - f) (cap - f) 0 from rfl).trans (by rw [hcl.2])
          conv => whnf
          refine optP_of (app_grow (k := 1) (by' := 16) (m := 1) (sn := o.length + 1) (c := o.length + 1) rfl rfl rfl rfl rfl rfl rfl rfl (by decide) rfl rfl rfl (by omega) (by simp only [List.length_cons] at ho; omega) (subL_all (smp_length (y :: o)))) ?_
          conv => whnf
          refine ⟨⟨(y :: (o ++ [(sStart (atS L i).1 sz al, rNum k (vals (cutS L f (i + 1))))]), i + 1, i + 1), hI.add h2 ht hadd⟩, hlt, rb_cov (k := k) (sz := sz) (al := al) (L := L) (cap := cap) (y := y) (o := o ++ [(sStart (atS L i).1 sz al, rNum k (vals (cutS L f (i + 1))))]) (f := i + 1) (i := i + 1) 3 (by decide) (Nat.le_refl 1) rfl rfl rfl rfl ?_ (congrArg (AV.si .i64) hw) (congrArg (AV.si .i64) hw) rfl rfl ?_⟩
          · exact (show mk _ = AV.sy 3 0 (o.length + 1 + 1) (o.length + 1 + 1) 2 from rfl).trans (by simp)
          · exact Eq.trans (snoc_map (y :: o) (sStart L[i].1 sz al) (rNum k (vals (cutS L f (i + 1)))) (smp_map _)) (congrArg (fun z => smp ((y :: o) ++ [z])) hz)
      · conv => whnf
        have h3 : i = L.length := by have : ¬ (i : Int) < (L.length : Int) := h1; omega
        subst h3
        rw [List.take_length] at hok
        have e2 : rbA k sz al L = y :: o := by
          unfold rbA
          rw [if_pos ⟨hr, hc, hok⟩, heq]
        refine .inr ⟨by rw [e2]; simp, 1, o.length + 1, _, ?_, by rw [e2]; simp, rfl, (smp_map _).trans (congrArg smp e2.symm)⟩
        exact (show _ = AV.sl 1 0 (o.length + 1) (o.length + 1) 2 from rfl).trans (by rw [e2]; simp)
end Go.Proofs.Ytkhfdjhohfebgaa
namespace Go.Proofs.Ytkhfdjhohfebgaa
open Go Go.RowKit
set_option maxHeartbeats 4000000 in
set_option maxRecDepth 100000 in
theorem rb_nil (k sz al : Int) : callT FR_ 4 48 [.si .i64 k, .si .i64 sz, .si .i64 al, .nsl] .nil 0 fun u H' _ => NewRow (rbA k sz al []) u H' := by
  conv => whnf
  refine Fork.sb (fun hr => ?_) (fun hr => ?_)
  · conv => whnf
    exact .inl ⟨rbA_nil, rfl⟩
  conv => whnf
  refine Fork.nsb (fun hc => ?_) (fun hc => ?_)
  · conv => whnf
    exact .inl ⟨rbA_nil, rfl⟩
  conv => whnf
  refine LoopP.roll 1 ?_
  conv => whnf
  exact .inl ⟨rbA_nil, rfl⟩
theorem n_rbuckets : NatP 48 (natB 1000000 rbA) := natB_ok FR_ok (by kernel_rfl) rb_nil rb_run
theorem cut_snoc {L : Smp} {f i : Nat} (hf : f ≤ i) (hi : i < L.length) : cutS L f (i + 1) = cutS L f i ++ [atS L i] := by
  unfold cutS
  rw [List.take_succ_eq_append_getElem hi, List.drop_append_of_le_length (by rw [List.length_take]; omega), atS_eq hi]
theorem cut_one {L : Smp} {i : Nat} (hi : i < L.length) : cutS L i (i + 1) = [atS L i] := by
  rw [cut_snoc (Nat.le_refl _) hi]
  simp [cutS]
theorem aAll_snoc (L : Smp) (x : Int × Int) : aAll (L ++ [x]) = aAdd (aAll L) x.2 := by unfold aAll; rw [List.foldl_append]; rfl
theorem aAll_one (x : Int × Int) : aAll [x] = aAdd ss0 x.2 := rfl
/-- A bucket that is not closed yet. -/
structure Open_ (k sz al : Int) (L : Smp) (c : BK) (f i : Nat) : Prop where
  hf : f ≤ i
  hs : c.s = aAll (cutS L f (i + 1))
  hv : c.v = aV k c.s
  hb : c.b = sStart (atS L i).1 sz al
  eq : rb k sz al L (i + 1) = rbStep k sz al L i (c.pre, f)
theorem num_v {k : Int} {L : Smp} (hr : sRight k = true) (hL : ∀ x ∈ L, In64 x.2) (hl : L.length < 4611686018427387904) : rNum k (vals L) = aV k (aAll L) := by
  rw [← (num_eq hL hl).1]
  unfold aNum aV
  rw [if_pos hr]
theorem in_cut {L : Smp} {f j : Nat} (hL : ∀ x ∈ L, In64 x.2) : ∀ x ∈ cutS L f j, In64 x.2 := fun x hx => hL x (List.mem_of_mem_take (List.mem_of_mem_drop hx))
theorem Open_.close {k sz al : Int} {L : Smp} {c : BK} {f i : Nat} (h : Open_ k sz al L c f i) (hr : sRight k = true) (hL : ∀ x ∈ L, In64 x.2) (hi : i < L.length) (hl : L.length ≤ 1000000) :
    rb k sz al L (i + 1) = if i + 1 = L.length ∨ ¬ sStart (atS L (i + 1)).1 sz al = c.b then (c.out, i + 1) else (c.pre, f) := by
  rw [h.eq]
  unfold rbStep
  have hlen := (smp_cut (L := L) (f := f) (j := i + 1) (by have := h.hf; omega) hi).2
  have e : rNum k (vals (cutS L f (i + 1))) = aV k (aAll (cutS L f (i + 1))) := num_v hr (in_cut hL) (by omega)
  dsimp only
  rw [e, ← h.hs, ← h.hv, ← h.hb]
  rfl
theorem Open_.next {k sz al : Int} {L : Smp} {c : BK} {f i : Nat} (h : Open_ k sz al L c f i) (hr : sRight k = true) (hL : ∀ x ∈ L, In64 x.2) (hi : i + 1 < L.length) (hl : L.length ≤ 1000000) : ∃ g, Open_ k sz al L (bkStep k sz al c (atS L (i + 1))) g (i + 1) := by
  have hcl := h.close hr hL (by omega) hl
  by_cases hb : c.b = sStart (atS L (i + 1)).1 sz al
  · rw [if_neg (by rw [← hb]; simp; omega)] at hcl
    rw [bkStep_same hb]
    refine ⟨f, Nat.le_succ_of_le h.hf, ?_, rfl, hb, ?_⟩
    · rw [cut_snoc (Nat.le_succ_of_le h.hf) hi, aAll_snoc, ← h.hs]; rfl
    · show rbStep k sz al L (i + 1) (rb k sz al L (i + 1)) = _
      rw [hcl]; rfl
  · rw [if_pos (.inr (fun q => hb q.symm))] at hcl
    rw [bkStep_new hb]
    refine ⟨i + 1, Nat.le_refl _, ?_, rfl, rfl, ?_⟩
    · rw [cut_one hi, aAll_one]; rfl
    · show rbStep k sz al L (i + 1) (rb k sz al L (i + 1)) = _
      rw [hcl]; rfl
theorem open_all {k sz al : Int} {x : Int × Int} {r : Smp} (hr : sRight k = true) (hL : ∀ y ∈ x :: r, In64 y.2) (hl : (x :: r).length ≤ 1000000) : ∀ i, i ≤ r.length → ∃ f, Open_ k sz al (x :: r) (bkAll k sz al x (r.take i)) f i
  | 0, _ => ⟨0, Nat.le_refl _, rfl, rfl, rfl, rfl⟩
  | i + 1, hi => by
    obtain ⟨f, h⟩ := open_all (k := k) (sz := sz) (al := al) hr hL hl i (by omega)
    obtain ⟨g, h2⟩ := h.next hr hL (by simp; omega) hl
    refine ⟨g, ?_⟩
    rw [bkAll_take (show i < r.length by omega)]
    have : atS (x :: r) (i + 1) = r[i] := by rw [← atS_eq (by simp; omega)]; rfl
    rw [this] at h2
    exact h2
theorem buckets_eq {k sz al : Int} {L : Smp} (hL : ∀ y ∈ L, In64 y.2) (hl : L.length ≤ 1000000) : bkA k sz al L = rbA k sz al L := by
  by_cases h : sRight k = true ∧ sCan sz al = true ∧ bkOk L = true
  · unfold bkA rbA
    rw [if_pos h, if_pos h]
    cases L with
    | nil => rfl
    | cons x r =>
      obtain ⟨f, h2⟩ := open_all (k := k) (sz := sz) (al := al) h.1 hL hl r.length (Nat.le_refl _)
      have hcl := h2.close h.1 hL (by simp) hl
      rw [if_pos (.inl rfl), List.take_length] at hcl
      show (bkAll k sz al x r).out = (rb k sz al (x :: r) (r.length + 1)).1
      rw [hcl]
  · unfold bkA rbA
    rw [if_neg h, if_neg h]
theorem bkA_len {k sz al : Int} (L : Smp) : (bkA k sz al L).length ≤ L.length := by
  unfold bkA
  split
  · cases L with
    | nil => exact Nat.le_refl _
    | cons x r =>
      have := bk_len (k := k) (sz := sz) (al := al) (x := x) r
      simp only [BK.out, List.length_append, List.length_cons, List.length_nil]
      omega
  · exact Nat.zero_le _
end Go.Proofs.Ytkhfdjhohfebgaa
namespace Go.Proofs.Ytkhfdjhohfebgaa
open Go Go.RowKit
structure Qry where
  f : Int
  t : Int
  back : Bool
  count : Int
  kind : Int
  size : Int
  align : Int
  empty : Bool
  times : List Int
  vals : Bool
  low : Int
  high : Int
/-- A query whose times are the slice 'a'. -/
def qCells (Q : Qry) (a : AV) : List AV := [.si .i64 Q.f, .si .i64 Q.t, .sb Q.back, .si .i64 Q.count, .si .i64 Q.kind, .si .i64 Q.size, .si .i64 Q.align, .sb Q.empty, a, .sb Q.vals, .si .i64 Q.low, .si .i64 Q.high]
def qAV (b o cap k : Nat) (Q : Qry) : AV := .agg (qCells Q (.sy b o Q.times.length cap k))
def qNil (Q : Qry) : AV := .agg (qCells Q .nsl)
/-- Cells that hold a query. -/
def QryAt (H : AH) (a : AV) (Q : Qry) : Prop := ∃ x0 x1 x2 x3 x4 x5 x6 x7 x8 x9 x10 x11, a = .agg [x0, x1, x2, x3, x4, x5, x6, x7, x8, x9, x10, x11] ∧ IntAt H x8 Q.times ∧ [mk x0, mk x1, mk x2, mk x3, mk x4, mk x5, mk x6, mk x7, mk x9, mk x10, mk x11] = [.si .i64 Q.f, .si .i64 Q.t, .sb Q.back, .si .i64 Q.count, .si .i64 Q.kind, .si .i64 Q.size, .si .i64 Q.align, .sb Q.empty, .sb Q.vals, .si .i64 Q.low, .si .i64 Q.high]
section
variable {φ ψ : Ph} {H : AH} {n : Nat} {h0 hp : Hp}
theorem SubV.agg {m : Nat} {r : Nat → Nat} {l : List AV} (h : ∀ a ∈ l, SubV H m r a a) : SubV H m r (.agg l) (.agg l) := fun φ ψ v hren hroom hv => by
  obtain ⟨cs, rfl, h1⟩ := hv.agg_inv
  refine .agg ?_
  have key : ∀ (l : List AV) (vs : List Value), (∀ a ∈ l, SubV H m r a a) → VRs φ l vs → VRs ψ l vs := by
    intro l
    induction l with
    | nil => intro vs _ h; rw [h.nil_inv]; exact .nil
    | cons a l ih =>
      intro vs hl h
      obtain ⟨w, ws, rfl, h2, h3⟩ := h.cons_inv
      exact .cons (hl a List.mem_cons_self φ ψ w hren hroom h2) (ih ws (fun x hx => hl x (List.mem_cons_of_mem _ hx)) h3)
  exact key l _ h h1
theorem SubV.qry {m : Nat} {r : Nat → Nat} {b o cap k : Nat} {Q : Qry} (hb : b < m) (hr : r b = b) : SubV H m r (qAV b o cap k Q) (qAV b o cap k Q) := by
  refine SubV.agg fun a ha => ?_
  simp only [qCells, List.mem_cons, List.not_mem_nil, or_false] at ha
  rcases ha with rfl | rfl | rfl | rfl | rfl | rfl | rfl | rfl | rfl | rfl | rfl | rfl
  all_goals first | exact .same rfl | exact SubV.sy hb (by rw [hr]; rfl)
theorem SubV.qnil {m : Nat} {r : Nat → Nat} {Q : Qry} : SubV H m r (qNil Q) (qNil Q) := .same rfl
theorem SubV.qcell {m : Nat} {r : Nat → Nat} {b o cap k : Nat} {Q : Qry} (hb : b < m) (hr : r b = b) {a : AV} (ha : a ∈ qCells Q (.sy b o Q.times.length cap k)) : SubV H m r a a := by
  simp only [qCells, List.mem_cons, List.not_mem_nil, or_false] at ha
  rcases ha with rfl | rfl | rfl | rfl | rfl | rfl | rfl | rfl | rfl | rfl | rfl | rfl
  all_goals first | exact .same rfl | exact SubV.sy hb (by rw [hr]; rfl)
theorem SubO.qcells {m : Nat} {r : Nat → Nat} {b o cap k : Nat} {Q : Qry} {z : Bool} (hb : b < m) (hr : r b = b) : SubO H m r (.cells (qCells Q (.sy b o Q.times.length cap k)) z) (.cells (qCells Q (.sy b o Q.times.length cap k)) z) :=
  SubO.cells (Nat.le_refl _) (fun q => q) fun _ a' hi => ⟨a', hi, SubV.qcell hb hr (List.mem_of_getElem? hi)⟩
theorem SubO.qcellsn {m : Nat} {r : Nat → Nat} {Q : Qry} {z : Bool} : SubO H m r (.cells (qCells Q .nsl) z) (.cells (qCells Q .nsl) z) :=
  SubO.cells_mk rfl rfl (fun q => q)
theorem QryAt.core (_ : HR φ H n h0 hp) {a : AV} {Q : Qry} {v : Value} (hq : QryAt H a Q) (hv : VR φ a v) : ∃ a8 v8, IntAt H a8 Q.times ∧ VR φ a8 v8 ∧ ∀ (χ : Ph) (a : AV), VR χ a v8 → VR χ (.agg (qCells Q a)) v := by
  obtain ⟨x0, x1, x2, x3, x4, x5, x6, x7, x8, x9, x10, x11, rfl, hI, he⟩ := hq
  obtain ⟨cs, rfl, h1⟩ := hv.agg_inv
  obtain ⟨v0, l0, e0, a0, t0⟩ := h1.cons_inv
  obtain ⟨v1, l1, e1, a1, t1⟩ := t0.cons_inv
  obtain ⟨v2, l2, e2, a2, t2⟩ := t1.cons_inv
  obtain ⟨v3, l3, e3, a3, t3⟩ := t2.cons_inv
  obtain ⟨v4, l4, e4, a4, t4⟩ := t3.cons_inv
  obtain ⟨v5, l5, e5, a5, t5⟩ := t4.cons_inv
  obtain ⟨v6, l6, e6, a6, t6⟩ := t5.cons_inv
  obtain ⟨v7, l7, e7, a7, t7⟩ := t6.cons_inv
  obtain ⟨v8, l8, e8, a8, t8⟩ := t7.cons_inv
  obtain ⟨v9, l9, e9, a9, t9⟩ := t8.cons_inv
  obtain ⟨v10, l10, e10, a10, t10⟩ := t9.cons_inv
  obtain ⟨v11, l11, e11, a11, t11⟩ := t10.cons_inv
  have e12 := t11.nil_inv
  subst e12 e11 e10 e9 e8 e7 e6 e5 e4 e3 e2 e1
  simp only [List.cons.injEq, and_true] at he
  obtain ⟨m0, m1, m2, m3, m4, m5, m6, m7, m9, m10, m11⟩ := he
  have q0 := m0 ▸ a0.mk
  have q1 := m1 ▸ a1.mk
  have q2 := m2 ▸ a2.mk
  have q3 := m3 ▸ a3.mk
  have q4 := m4 ▸ a4.mk
  have q5 := m5 ▸ a5.mk
  have q6 := m6 ▸ a6.mk
  have q7 := m7 ▸ a7.mk
  have q9 := m9 ▸ a9.mk
  have q10 := m10 ▸ a10.mk
  have q11 := m11 ▸ a11.mk
  have key : ∀ (χ : Ph) (a : AV), VR χ a v8 → VR χ (.agg (qCells Q a)) (.agg cs) := fun χ a ha => by
    refine .agg ?_
    rw [e0]
    exact .cons (flat1_VR rfl q0) (.cons (flat1_VR rfl q1) (.cons (flat1_VR rfl q2) (.cons (flat1_VR rfl q3) (.cons (flat1_VR rfl q4) (.cons (flat1_VR rfl q5) (.cons (flat1_VR rfl q6) (.cons (flat1_VR rfl q7) (.cons ha (.cons (flat1_VR rfl q9) (.cons (flat1_VR rfl q10) (.cons (flat1_VR rfl q11) .nil)))))))))))
  exact ⟨x8, v8, hI, a8, key⟩
/-- A query's value, seen from a memory of its own. -/
theorem QryAt.open (hr : HR φ H n h0 hp) {a : AV} {Q : Qry} {v : Value} (hq : QryAt H a Q) (hv : VR φ a v) : (Q.times = [] ∧ ∀ χ, VR χ (qNil Q) v) ∨ ∃ p C, RoAt hp p (ints Q.times) ∧ ∀ χ b, χ b = some p → VR χ (qAV b 0 C 0 Q) v := by
  obtain ⟨a8, v8, hI, h8, key⟩ := hq.core hr hv
  rcases hI.open hr h8 with ⟨hn, hx⟩ | ⟨p, C, hro, hx⟩
  · exact .inl ⟨hn, fun χ => key χ .nsl (hx χ)⟩
  · exact .inr ⟨p, C, hro, fun χ b hχ => key χ _ (hx χ b hχ)⟩
def tupE (e : Int) (r : AV) : AV := .tup [r, .si .i64 e]
/-- What a run yields: a row and a number. -/
def RowNum (R : Smp) (e : Int) (u : AV) (H' : AH) : Prop := ∃ r w, u = .tup [r, w] ∧ mk w = .si .i64 e ∧ NewRowG R r H'
theorem tup2 {a b c d : AV} {v : Value} {χ : Ph} (h : VR ψ (.tup [a, b]) v) (hb : mk b = d) (hd : flat.flat1 d = true) : ∃ x y, v = .tuple #[x, y] ∧ VR ψ a x ∧ (VR χ c x → VR χ (.tup [c, d]) v) := by
  obtain ⟨cs, rfl, h1⟩ := h.tup_inv
  obtain ⟨x, y, rfl, h2, h3⟩ := vs2 h1
  exact ⟨x, y, rfl, h2, fun hc => .tup (.cons hc (.cons (flat1_VR hd (hb ▸ h3.mk)) .nil))⟩
theorem smallNewE {F : FuncId → EP} (hF : TabP F) {d : Nat} {f : FuncId} {args0 : List AV} {H0 : AH} {n0 : Nat} {R : Smp} {e : Int} {P : AV → AH → Prop} (hP : ∀ u H', P u H' → RowNum R e u H') (hrun : callT F d f args0 H0 n0 fun u H' _ => P u H')
    {vs : Array Value} {κ : PK} {K : KH} (hs : RowPW (tupE e) R H n κ) (hr : HR φ H n h0 hp) (hk : ThenP φ h0 κ K) (hic : isCall Try.prog f = true) {φ0 : Ph} (hr0 : Wf hp → HR φ0 H0 n0 hp hp) (hargs : VRs φ0 args0 vs.toList) : CallF Try.prog f vs hp K := by
  have key : Wf hp → CallF Try.prog f vs hp K := fun hw => callT_sound (by kernel_rfl) hF d f args0 H0 n0 _ hrun φ0 hp hp vs K (hr0 hw) hargs fun ψ u H' n' w g _ hg hu he => by
    have hg2 : HR φ H n h0 g := hr.grow (fun b o hb => (hg.base b o hb).2) hg.size
    obtain ⟨r, w2, rfl, hw2, hn⟩ := hP _ _ he
    obtain ⟨x, y, rfl, h1, _⟩ := tup2 (c := .nsl) (χ := φ) hu hw2 rfl
    obtain ⟨χ, h3, h4, h5⟩ := newRow_use hr hg h1 hn
    obtain ⟨x', y', e2, _, h7⟩ := tup2 (c := .rw n 0 R.length 2 0) (χ := χ) hu hw2 rfl
    injection e2 with e2
    have e3 : x = x' := by have := congrArg (fun z : Array Value => z[0]?) e2; simpa using this
    subst e3
    exact hk χ _ _ _ _ g h3 h4 (h7 h5) hs.2
  exact ⟨hic, fun w hi => (key hi.wf).2 w hi⟩
end
/-! ### functions -/
/-- Of a query: a number. -/
def natQI (f : Qry → Int) (args : List AV) (H : AH) (n : Nat) (κ : PK) : Prop := match args with
  | [q] => ∃ Q, QryAt H q Q ∧ κ (.si .i64 (f Q)) H n
  | _ => False
theorem singQI {f : Qry → Int} : SingG (natQI f) := .pure fun args H n κ hs => by
  unfold natQI at *
  split at hs
  · obtain ⟨Q, h1, h2⟩ := hs
    exact ⟨_, h2, fun κ' h => ⟨Q, h1, h⟩⟩
  · exact hs.elim
theorem natQI_ok {F : FuncId → EP} (hF : TabP F) {d : Nat} {f : FuncId} {g : Qry → Int} (hic : isCall Try.prog f = true) (h0 : ∀ Q : Qry, Q.times = [] → callT F d f [qNil Q] .nil 0 fun u _ _ => mkT u = mkT (.int .i64 (g Q)))
    (h1 : ∀ (Q : Qry) cap, callT F d f [qAV 0 0 cap 0 Q] (mkH [(0, .ro (ints Q.times))]) 1 fun u _ _ => mkT u = mkT (.int .i64 (g Q))) : NatP f (natQI g) := fun args H n κ hs φ h0' hp vs K hr hargs hk => by
  unfold natQI at hs
  split at hs
  · obtain ⟨x, rfl, e1⟩ := vs1 hargs
    obtain ⟨Q, hq, hs⟩ := hs
    rcases hq.open hr e1 with ⟨hn, hv⟩ | ⟨p, C, hro, hv⟩
    · exact smallN (v := .int .i64 (g Q)) hF rfl (h0 Q hn) hs hr hk hic HR.ro0 (.cons (hv _) .nil)
    · exact smallN (v := .int .i64 (g Q)) hF rfl (h1 Q C) hs hr hk hic (fun hw => HR.ro1 hw hro) (.cons (hv _ 0 rfl) .nil)
  · exact hs.elim
/-- A sample. -/
def PairAt (x : AV) (t v : Int) : Prop := ∃ a b, x = .agg [a, b] ∧ mk a = .si .i64 t ∧ mk b = .si .i64 v
theorem PairAt.open {φ : Ph} {x : AV} {t v : Int} {w : Value} (h : PairAt x t v) (hv : VR φ x w) (χ : Ph) : VR χ (.agg [.si .i64 t, .si .i64 v]) w := by
  obtain ⟨a, b, rfl, h1, h2⟩ := h
  obtain ⟨cs, rfl, h3⟩ := hv.agg_inv
  obtain ⟨y, z, rfl, h4, h5⟩ := vs2 h3
  exact .agg (.cons (flat1_VR rfl (h1 ▸ h4.mk)) (.cons (flat1_VR rfl (h2 ▸ h5.mk)) .nil))
/-- Of a query and a sample: a truth. -/
def natQX (f : Qry → Int × Int → Bool) (args : List AV) (H : AH) (n : Nat) (κ : PK) : Prop := match args with
  | [q, x] => ∃ Q t v, QryAt H q Q ∧ PairAt x t v ∧ Q.times.length ≤ 1000000 ∧ κ (.sb (f Q (t, v))) H n
  | _ => False
theorem singQX {f : Qry → Int × Int → Bool} : SingG (natQX f) := .pure fun args H n κ hs => by
  unfold natQX at *
  split at hs
  · obtain ⟨Q, t, v, h1, h2, h4, h3⟩ := hs
    exact ⟨_, h3, fun κ' h => ⟨Q, t, v, h1, h2, h4, h⟩⟩
  · exact hs.elim
theorem natQX_ok {F : FuncId → EP} (hF : TabP F) {d : Nat} {f : FuncId} {g : Qry → Int × Int → Bool} (hic : isCall Try.prog f = true) (h0 : ∀ (Q : Qry) t v, Q.times = [] → callT F d f [qNil Q, .agg [.si .i64 t, .si .i64 v]] .nil 0 fun u _ _ => mkT u = mkT (.bool (g Q (t, v))))
    (h1 : ∀ (Q : Qry) t v cap, Q.times.length ≤ 1000000 → callT F d f [qAV 0 0 cap 0 Q, .agg [.si .i64 t, .si .i64 v]] (mkH [(0, .ro (ints Q.times))]) 1 fun u _ _ => mkT u = mkT (.bool (g Q (t, v)))) : NatP f (natQX g) := fun args H n κ hs φ h0' hp vs K hr hargs hk => by
  unfold natQX at hs
  split at hs
  · obtain ⟨x, y, rfl, e1, e2⟩ := vs2 hargs
    obtain ⟨Q, t, v, hq, hx, hlen, hs⟩ := hs
    rcases hq.open hr e1 with ⟨hn, hv⟩ | ⟨p, C, hro, hv⟩
    · exact smallN (v := .bool (g Q (t, v))) hF rfl (h0 Q t v hn) hs hr hk hic HR.ro0 (.cons (hv _) (.cons (hx.open e2 _) .nil))
    · exact smallN (v := .bool (g Q (t, v))) hF rfl (h1 Q t v C hlen) hs hr hk hic (fun hw => HR.ro1 hw hro) (.cons (hv _ 0 rfl) (.cons (hx.open e2 _) .nil))
  · exact hs.elim
/-- Of two numbers and samples: a truth. -/
def natB2 (B : Nat) (f : Int → Int → Smp → Bool) (args : List AV) (H : AH) (n : Nat) (κ : PK) : Prop := match args with
  | [x, y, l] => asI x fun s => asI y fun a => ∃ L, SmpAt H l L ∧ L.length ≤ B ∧ κ (.sb (f s a L)) H n
  | _ => False
theorem singB2 {B : Nat} {f : Int → Int → Smp → Bool} : SingG (natB2 B f) := .pure fun args H n κ hs => by
  unfold natB2 at *
  split at hs
  · obtain ⟨x, h1, k1⟩ := asI_sing hs
    obtain ⟨y, ⟨L, h2, h3, h4⟩, k2⟩ := asI_sing h1
    exact ⟨_, h4, fun κ' h => k1 _ (k2 _ ⟨L, h2, h3, h⟩)⟩
  · exact hs.elim
theorem natB2_ok {B : Nat} {F : FuncId → EP} (hF : TabP F) {d : Nat} {f : FuncId} {g : Int → Int → Smp → Bool} (hic : isCall Try.prog f = true) (h0 : ∀ s a, callT F d f [.si .i64 s, .si .i64 a, .nsl] .nil 0 fun u _ _ => mkT u = mkT (.bool (g s a [])))
    (h1 : ∀ s a L cap, L.length ≤ B → callT F d f [.si .i64 s, .si .i64 a, .sy 0 0 L.length cap 0] (mkH [(0, .ro (smp L))]) 1 fun u _ _ => mkT u = mkT (.bool (g s a L))) : NatP f (natB2 B g) := fun args H n κ hs φ h0' hp vs K hr hargs hk => by
  unfold natB2 at hs
  split at hs
  · obtain ⟨v1, v2, v3, rfl, hv1, hv2, hv3⟩ := vs3 hargs
    obtain ⟨s, hv1, hs⟩ := asI_si hv1 hs
    obtain ⟨a, hv2, L, hS, hL, hs⟩ := asI_si hv2 hs
    rcases hS.open hr hv3 with ⟨rfl, hv⟩ | ⟨p, C, _, hro, hv⟩
    · exact smallN (v := .bool (g s a [])) hF rfl (h0 s a) hs hr hk hic HR.ro0 (.cons (by rw [hv1.si_inv]; exact .si _ _) (.cons (by rw [hv2.si_inv]; exact .si _ _) (.cons (hv _) .nil)))
    · exact smallN (v := .bool (g s a L)) hF rfl (h1 s a L C hL) hs hr hk hic (fun hw => HR.ro1 hw hro) (.cons (by rw [hv1.si_inv]; exact .si _ _) (.cons (by rw [hv2.si_inv]; exact .si _ _) (.cons (hv _ 0 rfl) .nil)))
  · exact hs.elim
/-- Of samples: samples. -/
def natS1 (B : Nat) (f : Smp → Smp) (args : List AV) (H : AH) (n : Nat) (κ : PK) : Prop := match args with
  | [l] => ∃ L, SmpAt H l L ∧ L.length ≤ B ∧ RowPW (fun r => r) (f L) H n κ
  | _ => False
theorem singS1 {B : Nat} {f : Smp → Smp} : SingG (natS1 B f) := fun args H n κ hs => by
  unfold natS1 at *
  split at hs
  · obtain ⟨L, h1, h2, h3⟩ := hs
    obtain ⟨v, H', n', h6, h7, h8, h9⟩ := h3.sing
    exact ⟨v, H', n', h6, h7, h8, fun κ' k => ⟨L, h1, h2, h9 κ' k⟩⟩
  · exact hs.elim
theorem natS1_ok {B : Nat} {F : FuncId → EP} (hF : TabP F) {d : Nat} {f : FuncId} {g : Smp → Smp} (hic : isCall Try.prog f = true) (h0 : callT F d f [.nsl] .nil 0 fun u H' _ => NewRowG (g []) u H')
    (h1 : ∀ L cap, L.length ≤ B → callT F d f [.sy 0 0 L.length cap 0] (mkH [(0, .ro (smp L))]) 1 fun u H' _ => NewRowG (g L) u H') : NatP f (natS1 B g) := fun args H n κ hs φ h0' hp vs K hr hargs hk => by
  unfold natS1 at hs
  split at hs
  · obtain ⟨x, rfl, e1⟩ := vs1 hargs
    obtain ⟨L, hS, hL, hs⟩ := hs
    rcases hS.open hr e1 with ⟨rfl, hv⟩ | ⟨p, C, _, hro, hv⟩
    · exact smallNew1 hF (fun _ _ h => h) h0 hs hr hk hic HR.ro0 (.cons (hv _) .nil)
    · exact smallNew1 hF (fun _ _ h => h) (h1 L C hL) hs hr hk hic (fun hw => HR.ro1 hw hro) (.cons (hv _ 0 rfl) .nil)
  · exact hs.elim
/-- Of three numbers and samples: samples and a number. -/
def natFl (B : Nat) (f : Int → Int → Int → Smp → Smp × Int) (args : List AV) (H : AH) (n : Nat) (κ : PK) : Prop := match args with
  | [x, y, z, l] => asI x fun k => asI y fun s => asI z fun a => ∃ L, SmpAt H l L ∧ L.length ≤ B ∧ RowPW (tupE (f k s a L).2) (f k s a L).1 H n κ
  | _ => False
theorem singFl {B : Nat} {f : Int → Int → Int → Smp → Smp × Int} : SingG (natFl B f) := fun args H n κ hs => by
  unfold natFl at *
  split at hs
  · obtain ⟨x, h1, k1⟩ := asI_sing hs
    obtain ⟨y, h2, k2⟩ := asI_sing h1
    obtain ⟨z, ⟨L, h3, h4, h5⟩, k3⟩ := asI_sing h2
    obtain ⟨v, H', n', h6, h7, h8, h9⟩ := h5.sing
    exact ⟨v, H', n', h6, h7, h8, fun κ' k => k1 _ (k2 _ (k3 _ ⟨L, h3, h4, h9 κ' k⟩))⟩
  · exact hs.elim
theorem vs4 {φ : Ph} {a b c d : AV} {vs : Array Value} (h : VRs φ [a, b, c, d] vs.toList) : ∃ x y z w, vs = #[x, y, z, w] ∧ VR φ a x ∧ VR φ b y ∧ VR φ c z ∧ VR φ d w := by
  obtain ⟨x, l1, e1, h1, h2⟩ := h.cons_inv
  obtain ⟨y, l2, e2, h3, h4⟩ := h2.cons_inv
  obtain ⟨z, l3, e3, h5, h6⟩ := h4.cons_inv
  obtain ⟨w, l4, e4, h7, h8⟩ := h6.cons_inv
  have := h8.nil_inv
  subst this e4 e3 e2
  exact ⟨x, y, z, w, by cases vs; simp_all, h1, h3, h5, h7⟩
theorem natFl_ok {B : Nat} {F : FuncId → EP} (hF : TabP F) {d : Nat} {f : FuncId} {g : Int → Int → Int → Smp → Smp × Int} (hic : isCall Try.prog f = true) (h0 : ∀ k s a, callT F d f [.si .i64 k, .si .i64 s, .si .i64 a, .nsl] .nil 0 fun u H' _ => RowNum (g k s a []).1 (g k s a []).2 u H')
    (h1 : ∀ k s a L cap, L.length ≤ B → L.length ≤ cap → callT F d f [.si .i64 k, .si .i64 s, .si .i64 a, .sy 0 0 L.length cap 0] (mkH [(0, .ro (smp L))]) 1 fun u H' _ => RowNum (g k s a L).1 (g k s a L).2 u H') : NatP f (natFl B g) := fun args H n κ hs φ h0' hp vs K hr hargs hk => by
  unfold natFl at hs
  split at hs
  · obtain ⟨v1, v2, v3, v4, rfl, hv1, hv2, hv3, hv4⟩ := vs4 hargs
    obtain ⟨k, hv1, hs⟩ := asI_si hv1 hs
    obtain ⟨s, hv2, hs⟩ := asI_si hv2 hs
    obtain ⟨a, hv3, L, hS, hL, hs⟩ := asI_si hv3 hs
    have t3 : ∀ (χ : Ph) (x : AV), VR χ x v4 → VRs χ [.si .i64 k, .si .i64 s, .si .i64 a, x] [v1, v2, v3, v4] := fun χ x hx => .cons (by rw [hv1.si_inv]; exact .si _ _) (.cons (by rw [hv2.si_inv]; exact .si _ _) (.cons (by rw [hv3.si_inv]; exact .si _ _) (.cons hx .nil)))
    rcases hS.open hr hv4 with ⟨rfl, hv⟩ | ⟨p, C, hC, hro, hv⟩
    · exact smallNewE hF (fun _ _ h => h) (h0 k s a) hs hr hk hic HR.ro0 (t3 _ _ (hv _))
    · exact smallNewE hF (fun _ _ h => h) (h1 k s a L C hL hC) hs hr hk hic (fun hw => HR.ro1 hw hro) (t3 _ _ (hv _ 0 rfl))
  · exact hs.elim
/-- .. which may yield its samples as they are. -/
def natFa (B : Nat) (al : Int → Int → Int → Smp → Bool) (f : Int → Int → Int → Smp → Smp × Int) (args : List AV) (H : AH) (n : Nat) (κ : PK) : Prop := match args with
  | [x, y, z, l] => asI x fun k => asI y fun s => asI z fun a => ∃ L, SmpAt H l L ∧ L.length ≤ B ∧ ((al k s a L = true → κ (tupE 0 l) H n) ∧ (al k s a L = false → RowPW (tupE (f k s a L).2) (f k s a L).1 H n κ))
  | _ => False
theorem singFa {B : Nat} {al : Int → Int → Int → Smp → Bool} {f : Int → Int → Int → Smp → Smp × Int} : SingG (natFa B al f) := fun args H n κ hs => by
  unfold natFa at *
  split at hs
  · obtain ⟨x, h1, k1⟩ := asI_sing hs
    obtain ⟨y, h2, k2⟩ := asI_sing h1
    obtain ⟨z, ⟨L, h3, h4, h5, h5'⟩, k3⟩ := asI_sing h2
    cases ha : al x y z L with
    | true => exact ⟨_, H, n, h5 ha, .refl _, Nat.le_refl _, fun κ' k => k1 _ (k2 _ (k3 _ ⟨L, h3, h4, ⟨fun _ => k, fun q => absurd (ha.symm.trans q) (by decide)⟩⟩))⟩
    | false =>
      obtain ⟨v, H', n', h6, h7, h8, h9⟩ := (h5' ha).sing
      exact ⟨v, H', n', h6, h7, h8, fun κ' k => k1 _ (k2 _ (k3 _ ⟨L, h3, h4, ⟨fun q => absurd (ha.symm.trans q) (by decide), fun _ => h9 κ' k⟩⟩))⟩
  · exact hs.elim
theorem natFa_ok {B : Nat} {F : FuncId → EP} (hF : TabP F) {d : Nat} {f : FuncId} {al : Int → Int → Int → Smp → Bool} {g : Int → Int → Int → Smp → Smp × Int} (hic : isCall Try.prog f = true)
    (h0 : ∀ k s a, callT F d f [.si .i64 k, .si .i64 s, .si .i64 a, .nsl] .nil 0 fun u H' _ => (al k s a [] = true ∧ ∃ r w, u = .tup [r, w] ∧ mk w = .si .i64 0 ∧ r = .nsl) ∨ (al k s a [] = false ∧ RowNum (g k s a []).1 (g k s a []).2 u H'))
    (h1 : ∀ k s a L cap, L.length ≤ B → L.length ≤ cap → callT F d f [.si .i64 k, .si .i64 s, .si .i64 a, .sy 0 0 L.length cap 0] (mkH [(0, .ro (smp L))]) 1 fun u H' _ => (al k s a L = true ∧ ∃ r w, u = .tup [r, w] ∧ mk w = .si .i64 0 ∧ r = .sy 0 0 L.length cap 0) ∨ (al k s a L = false ∧ RowNum (g k s a L).1 (g k s a L).2 u H')) : NatP f (natFa B al g) := fun args H n κ hs φ h0' hp vs K hr hargs hk => by
  unfold natFa at hs
  split at hs
  · obtain ⟨v1, v2, v3, v4, rfl, hv1, hv2, hv3, hv4⟩ := vs4 hargs
    rename_i xx yy zz ll
    obtain ⟨k, hv1, hs⟩ := asI_si hv1 hs
    obtain ⟨s, hv2, hs⟩ := asI_si hv2 hs
    obtain ⟨a, hv3, L, hS, hL, hs1, hs2⟩ := asI_si hv3 hs
    have t3 : ∀ (χ : Ph) (x : AV), VR χ x v4 → VRs χ [.si .i64 k, .si .i64 s, .si .i64 a, x] [v1, v2, v3, v4] := fun χ x hx => .cons (by rw [hv1.si_inv]; exact .si _ _) (.cons (by rw [hv2.si_inv]; exact .si _ _) (.cons (by rw [hv3.si_inv]; exact .si _ _) (.cons hx .nil)))
    have core : ∀ (args0 : List AV) (H0 : AH) (n0 : Nat) (φ0 : Ph) (r0 : AV) (hr0 : Wf hp → HR φ0 H0 n0 hp hp), VRs φ0 args0 [v1, v2, v3, v4] → (∀ (ψ : Ph) w, PLe φ0 ψ → VR ψ r0 w → w = v4) → (callT F d f args0 H0 n0 fun u H' _ => (al k s a L = true ∧ ∃ r w, u = .tup [r, w] ∧ mk w = .si .i64 0 ∧ r = r0) ∨ (al k s a L = false ∧ RowNum (g k s a L).1 (g k s a L).2 u H')) → CallF Try.prog f #[v1, v2, v3, v4] hp K := fun args0 H0 n0 φ0 r0 hr0 hargs hsame hrun => by
      cases ha : al k s a L with
      | true =>
        have key : Wf hp → CallF Try.prog f #[v1, v2, v3, v4] hp K := fun hw => callT_sound (by kernel_rfl) hF d f args0 H0 n0 _ hrun φ0 hp hp #[v1, v2, v3, v4] K (hr0 hw) hargs fun ψ u H' n' w g _ hg hu he => by
          have hg2 : HR φ H n h0' g := hr.grow (fun b o hb => (hg.base b o hb).2) hg.size
          rcases he with ⟨_, r, w2, rfl, hw2, rfl⟩ | ⟨h, _⟩
          · obtain ⟨x, y, rfl, h1, h2⟩ := tup2 (c := ll) (χ := φ) hu hw2 rfl
            have := hsame ψ x (by assumption) h1
            subst this
            exact hk φ _ H n _ g (PLe.refl _) hg2 (h2 hv4) (hs1 ha)
          · rw [ha] at h; cases h
        exact ⟨hic, fun w hi => (key hi.wf).2 w hi⟩
      | false =>
        refine smallNewE hF (fun u H' h => ?_) hrun (hs2 ha) hr hk hic hr0 hargs
        rcases h with ⟨h, _⟩ | ⟨_, h⟩
        · rw [ha] at h; cases h
        · exact h
    rcases hS.open hr hv4 with ⟨rfl, hv⟩ | ⟨p, C, hC, hro, hv⟩
    · exact core _ _ _ _ .nsl HR.ro0 (t3 _ _ (hv _)) (fun ψ w _ hw => by rw [hw.nsl_inv, (hv φ).nsl_inv]) (h0 k s a)
    · exact core _ _ _ _ (.sy 0 0 L.length C 0) (fun hw => HR.ro1 hw hro) (t3 _ _ (hv _ 0 rfl)) (fun ψ w hle hw => by
        obtain ⟨p1, C1, g1, g2, g3, _⟩ := (hv (ph1 p) 0 rfl).sy_inv
        obtain ⟨p2, C2, f1, f2, f3, _⟩ := hw.sy_inv
        rw [hle _ _ g1] at f1
        injection f1 with f1
        subst f1
        rw [f2, g2, f3 rfl, g3 rfl]) (h1 k s a L C hL hC)
  · exact hs.elim
/-- Of samples and a query: samples and a number. -/
def natTl (B : Nat) (f : Smp → Qry → Smp × Int) (args : List AV) (H : AH) (n : Nat) (κ : PK) : Prop := match args with
  | [l, q] => ∃ L Q, SmpAt H l L ∧ QryAt H q Q ∧ L.length ≤ B ∧ Q.times.length ≤ 1000000 ∧ RowPW (tupE (f L Q).2) (f L Q).1 H n κ
  | _ => False
theorem singTl {B : Nat} {f : Smp → Qry → Smp × Int} : SingG (natTl B f) := fun args H n κ hs => by
  unfold natTl at *
  split at hs
  · obtain ⟨L, Q, h1, h2, h3, h4, h5⟩ := hs
    obtain ⟨v, H', n', h6, h7, h8, h9⟩ := h5.sing
    exact ⟨v, H', n', h6, h7, h8, fun κ' k => ⟨L, Q, h1, h2, h3, h4, h9 κ' k⟩⟩
  · exact hs.elim
theorem natTl_ok {B : Nat} {F : FuncId → EP} (hF : TabP F) {d : Nat} {f : FuncId} {g : Smp → Qry → Smp × Int} (hic : isCall Try.prog f = true) (h00 : ∀ Q : Qry, Q.times = [] → callT F d f [.nsl, qNil Q] .nil 0 fun u H' _ => RowNum (g [] Q).1 (g [] Q).2 u H')
    (h01 : ∀ (Q : Qry) c2, Q.times.length ≤ 1000000 → callT F d f [.nsl, qAV 0 0 c2 0 Q] (mkH [(0, .ro (ints Q.times))]) 1 fun u H' _ => RowNum (g [] Q).1 (g [] Q).2 u H')
    (h10 : ∀ L (Q : Qry) c1, Q.times = [] → L.length ≤ B → L.length ≤ c1 → callT F d f [.sy 0 0 L.length c1 0, qNil Q] (mkH [(0, .ro (smp L))]) 1 fun u H' _ => RowNum (g L Q).1 (g L Q).2 u H')
    (h11 : ∀ L (Q : Qry) c1 c2, L.length ≤ B → L.length ≤ c1 → Q.times.length ≤ 1000000 → callT F d f [.sy 0 0 L.length c1 0, qAV 1 0 c2 0 Q] (mkH [(0, .ro (smp L)), (1, .ro (ints Q.times))]) 2 fun u H' _ => RowNum (g L Q).1 (g L Q).2 u H') : NatP f (natTl B g) := fun args H n κ hs φ h0' hp vs K hr hargs hk => by
  unfold natTl at hs
  split at hs
  · obtain ⟨x, y, rfl, e1, e2⟩ := vs2 hargs
    obtain ⟨L, Q, hS, hq, hL, hT, hs⟩ := hs
    rcases hS.open hr e1 with ⟨rfl, hv⟩ | ⟨p, C, hC, hro, hv⟩ <;> rcases hq.open hr e2 with ⟨hn, hw⟩ | ⟨p', C', hro', hw⟩
    · exact smallNewE hF (fun _ _ h => h) (h00 Q hn) hs hr hk hic HR.ro0 (.cons (hv _) (.cons (hw _) .nil))
    · exact smallNewE hF (fun _ _ h => h) (h01 Q C' hT) hs hr hk hic (fun hw => HR.ro1 hw hro') (.cons (hv _) (.cons (hw _ 0 rfl) .nil))
    · exact smallNewE hF (fun _ _ h => h) (h10 L Q C hn hL hC) hs hr hk hic (fun hw => HR.ro1 hw hro) (.cons (hv _ 0 rfl) (.cons (hw _) .nil))
    · exact smallNewE hF (fun _ _ h => h) (h11 L Q C C' hL hC hT) hs hr hk hic (fun hw => HR.ro2 hw hro hro') (.cons (hv _ 0 rfl) (.cons (hw _ 1 rfl) .nil))
  · exact hs.elim
end Go.Proofs.Ytkhfdjhohfebgaa
namespace Go.Proofs.Ytkhfdjhohfebgaa
open Go Go.RowKit
noncomputable def G0 : FuncId → EP := withS 48 (natB 1000000 rbA) FR_
theorem G0_ok : TabP G0 := withS_ok FR_ok n_rbuckets singB
set_option maxRecDepth 100000 in
theorem n_rcan : NatP 49 (nat2b sCan) := nat2b_ok (d := 1) evP_ok fun s a H n κ hk => by
  repeat' (conv => whnf
           first | refine Fork.dec (fun _ => ?_) (fun _ => ?_) | refine Fork.ndec (fun _ => ?_) (fun _ => ?_) | refine leafB hk ?_)
  all_goals simp [sCan, *]
noncomputable def G1 : FuncId → EP := withS 49 (nat2b sCan) G0
theorem G1_ok : TabP G1 := withS_ok G0_ok n_rcan sing2b
/-! ### what is wrong -/
def qBad (Q : Qry) : Prop := Q.count < 0 ∨ 32 < (Q.times.length : Int) ∨ (Q.kind = 0 ∧ Q.empty = true) ∨ (Q.kind ≠ 0 ∧ (sRight Q.kind = false ∨ sCan Q.size Q.align = false))
instance (Q : Qry) : Decidable (qBad Q) := by unfold qBad; infer_instance
def qRight (Q : Qry) : Int := if qBad Q then 1 else 0
theorem qr1 {Q : Qry} (h : qBad Q) : AV.si .i64 1 = mkT (.int .i64 (qRight Q)) := by unfold qRight; rw [if_pos h]; rfl
theorem qr0 {Q : Qry} (h : ¬ qBad Q) : AV.si .i64 0 = mkT (.int .i64 (qRight Q)) := by unfold qRight; rw [if_neg h]; rfl
theorem len0 {Q : Qry} (h : Q.times = []) : ¬ 32 < (Q.times.length : Int) := by rw [h]; decide
set_option maxHeartbeats 4000000 in
set_option maxRecDepth 100000 in
theorem n_qright : NatP 31 (natQI qRight) := natQI_ok (d := 3) G1_ok (by kernel_rfl) (fun Q hn => by
  have hl := len0 hn
  repeat' (conv => whnf
           first | refine Fork.dec (fun _ => ?_) (fun _ => ?_) | refine Fork.ndec (fun _ => ?_) (fun _ => ?_) | refine Fork.sb (fun _ => ?_) (fun _ => ?_) | refine Fork.nsb (fun _ => ?_) (fun _ => ?_) | refine (show mkT _ = AV.si .i64 1 from rfl).trans (qr1 ?_) | refine (show mkT _ = AV.si .i64 0 from rfl).trans (qr0 ?_))
  all_goals (simp only [qBad, sRight, sCan] at *; simp_all <;> omega)) (fun Q cap => by
  repeat' (conv => whnf
           first | refine Fork.dec (fun _ => ?_) (fun _ => ?_) | refine Fork.ndec (fun _ => ?_) (fun _ => ?_) | refine Fork.sb (fun _ => ?_) (fun _ => ?_) | refine Fork.nsb (fun _ => ?_) (fun _ => ?_) | refine (show mkT _ = AV.si .i64 1 from rfl).trans (qr1 ?_) | refine (show mkT _ = AV.si .i64 0 from rfl).trans (qr0 ?_))
  all_goals (simp only [qBad, sRight, sCan] at *; simp_all <;> omega))
theorem name_right (k : Int) : beqL (sName k) [] = !sRight k := by rw [right_name, Bool.not_not]
set_option maxHeartbeats 4000000 in
set_option maxRecDepth 100000 in
theorem n_qrright : NatP 32 (natQI qRight) := natQI_ok (d := 3) G1_ok (by kernel_rfl) (fun Q hn => by
  have hl := len0 hn
  have hr := name_right Q.kind
  repeat' (conv => whnf
           first | refine Fork.dec (fun _ => ?_) (fun _ => ?_) | refine Fork.ndec (fun _ => ?_) (fun _ => ?_) | refine Fork.sb (fun _ => ?_) (fun _ => ?_) | refine Fork.nsb (fun _ => ?_) (fun _ => ?_) | refine (show mkT _ = AV.si .i64 1 from rfl).trans (qr1 ?_) | refine (show mkT _ = AV.si .i64 0 from rfl).trans (qr0 ?_))
  all_goals (simp only [qBad, sRight, sCan] at *; simp_all <;> omega)) (fun Q cap => by
  have hr := name_right Q.kind
  repeat' (conv => whnf
           first | refine Fork.dec (fun _ => ?_) (fun _ => ?_) | refine Fork.ndec (fun _ => ?_) (fun _ => ?_) | refine Fork.sb (fun _ => ?_) (fun _ => ?_) | refine Fork.nsb (fun _ => ?_) (fun _ => ?_) | refine (show mkT _ = AV.si .i64 1 from rfl).trans (qr1 ?_) | refine (show mkT _ = AV.si .i64 0 from rfl).trans (qr0 ?_))
  all_goals (simp only [qBad, sRight, sCan] at *; simp_all <;> omega))
noncomputable def G2 : FuncId → EP := withS 31 (natQI qRight) (withS 32 (natQI qRight) G1)
theorem G2_ok : TabP G2 := withS_ok (withS_ok G1_ok n_qrright singQI) n_qright singQI
end Go.Proofs.Ytkhfdjhohfebgaa
namespace Go.Proofs.Ytkhfdjhohfebgaa
open Go Go.RowKit
def hasT (T : List Int) (t : Int) : Bool := T.any fun x => decide (x = t)
theorem hasT_take {T : List Int} {t : Int} {i : Nat} (h : i < T.length) : hasT (T.take (i + 1)) t = (hasT (T.take i) t || decide (T[i] = t)) := by
  unfold hasT
  rw [List.take_succ_eq_append_getElem h, List.any_append]
  simp
theorem hasT_at {T : List Int} {t : Int} {i : Nat} (h : i < T.length) (e : T[i] = t) : hasT T t = true := by
  unfold hasT
  rw [List.any_eq_true]
  exact ⟨T[i], List.getElem_mem h, by simp [e]⟩
theorem hasT_all {T : List Int} {t : Int} : hasT (T.take T.length) t = hasT T t := by rw [List.take_length]
def qIn (Q : Qry) (x : Int × Int) : Bool := decide (Q.f ≤ x.1) && decide (x.1 ≤ Q.t) && (!Q.vals || (decide (Q.low ≤ x.2) && decide (x.2 ≤ Q.high)))
def qPass (Q : Qry) (x : Int × Int) : Bool := qIn Q x && (decide (Q.times.length = 0) || hasT Q.times x.1)
theorem pass_no {Q : Qry} {x : Int × Int} (h : qPass Q x = false) : AV.sb false = mkT (.bool (qPass Q x)) := by rw [h]; rfl
theorem pass_yes {Q : Qry} {x : Int × Int} (h : qPass Q x = true) : AV.sb true = mkT (.bool (qPass Q x)) := by rw [h]; rfl
theorem pass_is {Q : Qry} {x : Int × Int} {b : Bool} (h : b = qPass Q x) : AV.sb b = mkT (.bool (qPass Q x)) := by rw [h]; rfl
noncomputable def passSt (Q : Qry) (t v : Int) (cap i : Nat) : AE × AH := (mkE [(2, .ptr 1 (0)), (3, .ptr 2 (0)), (38, .sy 0 0 Q.times.length cap 0), (39, .si .i64 (Q.times.length)), (40, .si .i64 (i))], mkH [(0, .ro (ints (Q.times))), (1, .cells (qCells Q (.sy 0 0 Q.times.length cap 0)) true), (2, .cells (smp ([(t, v)])) true)])
theorem passSt_cov {Q : Qry} {t v : Int} {cap i : Nat} {p n : Nat} {σ : AE} {H : AH} {l2 : List AV} (hp : p ≤ 1) (e2 : getq (pa 2) σ = .ptr 1 (0)) (e3 : getq (pa 3) σ = .ptr 2 (0)) (e38 : mk (getq (pa 38) σ) = .sy 0 0 Q.times.length cap 0) (e39 : mk (getq (pa 39) σ) = .si .i64 (Q.times.length)) (e40 : mk (getq (pa 40) σ) = .si .i64 (i)) (h0 : H.get 0 = some (.ro (ints (Q.times)))) (h1 : H.get 1 = some (.cells (qCells Q (.sy 0 0 Q.times.length cap 0)) true)) (h2 : H.get 2 = some (.cells l2 true)) (g2 : l2.map mk = smp ([(t, v)])) : Cov p σ H n ((passSt Q t v cap i).1, (passSt Q t v cap i).2, 3) := by
  refine Cov.ofR (fun b => b) (by omega) (fun b hb => rfl) ?_ ?_ ?_
  · intro x hx
    simp only [List.mem_cons, List.not_mem_nil, or_false] at hx
    rcases hx with rfl | rfl | rfl | rfl | rfl
    · exact .ptr (by decide) e2
    · exact .ptr (by decide) e3
    · exact .sy (by decide) e38
    · exact .int e39
    · exact .int e40
  · intro x hx
    simp only [List.mem_cons, List.not_mem_nil, or_false] at hx
    rcases hx with rfl | rfl | rfl
    · exact ⟨by simp, .inl ⟨_, h0, SubO.ro_mk (ints_flat _) rfl⟩⟩
    · exact ⟨by simp, .inl ⟨_, h1, SubO.qcells (by decide) rfl⟩⟩
    · exact ⟨by simp, .inl ⟨_, h2, SubO.cells_mk (smp_flat _) (by rw [g2, smp_map]) (fun q => q)⟩⟩
  · intro x hx y hy
    simp only [List.mem_cons, List.not_mem_nil, or_false] at hx hy
    rcases hx with rfl | rfl | rfl <;> rcases hy with rfl | rfl | rfl <;> simp <;> omega
theorem iwrap {i m : Nat} (h : i < m) (hm : m ≤ 1000000) : IntKind.i64.wrap ((i : Int) + 1) = ((i + 1 : Nat) : Int) := by rw [wrap_i64_of (by omega) (by omega)]; omega
set_option maxHeartbeats 4000000 in
set_option maxRecDepth 100000 in
theorem pass_nil (Q : Qry) (t v : Int) (hn : Q.times = []) : callT G2 3 33 [qNil Q, .agg [.si .i64 t, .si .i64 v]] .nil 0 fun u _ _ => mkT u = mkT (.bool (qPass Q (t, v))) := by
  repeat' (conv => whnf
           first | refine Fork.dec (fun _ => ?_) (fun _ => ?_) | refine Fork.ndec (fun _ => ?_) (fun _ => ?_) | refine Fork.sb (fun _ => ?_) (fun _ => ?_) | refine LoopP.roll 1 ?_ | refine (show mkT _ = AV.sb false from rfl).trans (pass_no ?_) | refine (show mkT _ = AV.sb true from rfl).trans (pass_yes ?_))
  all_goals (simp only [qPass, qIn, hn]; simp_all <;> (intros; omega))
set_option maxHeartbeats 4000000 in
set_option maxRecDepth 100000 in
theorem pass_run (Q : Qry) (t v : Int) (cap : Nat) (hT : Q.times.length ≤ 1000000) : callT G2 3 33 [qAV 0 0 cap 0 Q, .agg [.si .i64 t, .si .i64 v]] (mkH [(0, .ro (ints Q.times))]) 1 fun u _ _ => mkT u = mkT (.bool (qPass Q (t, v))) := by
  repeat' (conv => whnf
           first | refine Fork.dec (fun _ => ?_) (fun _ => ?_) | refine Fork.ndec (fun _ => ?_) (fun _ => ?_) | refine Fork.sb (fun _ => ?_) (fun _ => ?_) | refine (show mkT _ = AV.sb false from rfl).trans (pass_no ?_))
  all_goals first
    | (simp only [qPass, qIn]; simp_all <;> (intros; omega); done)
    | skip
  all_goals
    have hin : qIn Q (t, v) = true := by simp only [qIn]; simp_all
    conv => whnf
    refine LoopP.mk { i : Nat // i ≤ Q.times.length ∧ hasT (Q.times.take i) t = false } 3 (fun a => passSt Q t v cap a.val) (fun a => Q.times.length - a.val) ⟨0, Nat.zero_le _, rfl⟩ ?_ ?_
    · exact passSt_cov (i := 0) (Nat.le_refl 1) rfl rfl rfl rfl rfl rfl rfl rfl rfl
    · intro ⟨i, hi, hh⟩
      conv => whnf
      refine Fork.dec (fun h1 => ?_) (fun h1 => ?_)
      · have h2 : i < Q.times.length := Int.ofNat_lt.1 h1
        have hlt : Q.times.length - (i + 1) < Q.times.length - i := by omega
        have hw := iwrap h2 hT
        conv => whnf
        refine Idx.mk i rfl h2 ?_
        conv => whnf
        refine optP_of (ints_nth h2 (by show 0 + i * 1 = i; omega)) ?_
        conv => whnf
        refine Fork.dec (fun h3 => ?_) (fun h3 => ?_)
        · conv => whnf
          refine (show mkT _ = AV.sb true from rfl).trans (pass_yes ?_)
          have h4 := hasT_at h2 h3
          simp only [qPass, hin, h4, Bool.or_true, Bool.and_true]
        · conv => whnf
          refine ⟨⟨i + 1, h2, ?_⟩, hlt, passSt_cov (Nat.le_refl 1) rfl rfl rfl rfl (congrArg (AV.si .i64) hw) rfl rfl rfl rfl⟩
          rw [hasT_take h2, hh, decide_eq_false h3]; rfl
      · have h2 : i = Q.times.length := by have : ¬ (i : Int) < (Q.times.length : Int) := h1; omega
        subst h2
        rw [hasT_all] at hh
        conv => whnf
        refine (show mkT _ = AV.sb (decide ((Q.times.length : Int) = 0)) from rfl).trans (pass_is ?_)
        simp only [qPass, hin, hh, Bool.or_false, Bool.true_and]
        congr 1
        simp
theorem n_pass : NatP 33 (natQX qPass) := natQX_ok G2_ok (by kernel_rfl) pass_nil pass_run
/-! ### the reference's -/
noncomputable def rpassSt (Q : Qry) (t v : Int) (cap i : Nat) (b : Bool) : AE × AH := (mkE [(2, .ptr 1 (0)), (3, .ptr 2 (0)), (5, .sb (b)), (6, .si .i64 (i))], mkH [(0, .ro (ints (Q.times))), (1, .cells (qCells Q (.sy 0 0 Q.times.length cap 0)) true), (2, .cells (smp ([(t, v)])) true)])
theorem rpassSt_cov {Q : Qry} {t v : Int} {cap i : Nat} {b : Bool} {p n : Nat} {σ : AE} {H : AH} {l2 : List AV} (hp : p ≤ 1) (e2 : getq (pa 2) σ = .ptr 1 (0)) (e3 : getq (pa 3) σ = .ptr 2 (0)) (e5 : mk (getq (pa 5) σ) = .sb (b)) (e6 : mk (getq (pa 6) σ) = .si .i64 (i)) (h0 : H.get 0 = some (.ro (ints (Q.times)))) (h1 : H.get 1 = some (.cells (qCells Q (.sy 0 0 Q.times.length cap 0)) true)) (h2 : H.get 2 = some (.cells l2 true)) (g2 : l2.map mk = smp ([(t, v)])) : Cov p σ H n ((rpassSt Q t v cap i b).1, (rpassSt Q t v cap i b).2, 3) := by
  refine Cov.ofR (fun b => b) (by omega) (fun b hb => rfl) ?_ ?_ ?_
  · intro x hx
    simp only [List.mem_cons, List.not_mem_nil, or_false] at hx
    rcases hx with rfl | rfl | rfl | rfl
    · exact .ptr (by decide) e2
    · exact .ptr (by decide) e3
    · exact .bool e5
    · exact .int e6
  · intro x hx
    simp only [List.mem_cons, List.not_mem_nil, or_false] at hx
    rcases hx with rfl | rfl | rfl
    · exact ⟨by simp, .inl ⟨_, h0, SubO.ro_mk (ints_flat _) rfl⟩⟩
    · exact ⟨by simp, .inl ⟨_, h1, SubO.qcells (by decide) rfl⟩⟩
    · exact ⟨by simp, .inl ⟨_, h2, SubO.cells_mk (smp_flat _) (by rw [g2, smp_map]) (fun q => q)⟩⟩
  · intro x hx y hy
    simp only [List.mem_cons, List.not_mem_nil, or_false] at hx hy
    rcases hx with rfl | rfl | rfl <;> rcases hy with rfl | rfl | rfl <;> simp <;> omega
noncomputable def G3 : FuncId → EP := withS 33 (natQX qPass) (withD 34 [(5, [(some 0, [5]), (some 0, [18]), (some 0, [2, 19]), (some 0, [20, 19]), (some 0, [6, 19]), (some 0, [21, 22, 19]), (some 0, [23, 19]), (some 0, [3, 19]), (some 0, [25, 19]), (some 0, [24, 26, 19]), (some 0, [19, 27]), (some 0, [28])])] G2)
theorem G3_ok : TabP G3 := withS_ok (withD_ok G2_ok (by kernel_rfl) (by kernel_rfl)) n_pass singQX
set_option maxHeartbeats 4000000 in
set_option maxRecDepth 100000 in
theorem rpass_nil (Q : Qry) (t v : Int) (hn : Q.times = []) : callT G3 3 34 [qNil Q, .agg [.si .i64 t, .si .i64 v]] .nil 0 fun u _ _ => mkT u = mkT (.bool (qPass Q (t, v))) := by
  repeat' (conv => whnf
           first | refine Fork.dec (fun _ => ?_) (fun _ => ?_) | refine Fork.ndec (fun _ => ?_) (fun _ => ?_) | refine Fork.sb (fun _ => ?_) (fun _ => ?_) | refine Fork.nsb (fun _ => ?_) (fun _ => ?_) | refine LoopP.roll 1 ?_ | refine (show mkT _ = AV.sb false from rfl).trans (pass_no ?_) | refine (show mkT _ = AV.sb true from rfl).trans (pass_yes ?_) | refine (show mkT _ = AV.sb _ from rfl).trans (pass_is ?_))
  all_goals (simp only [qPass, qIn, hn]; simp_all <;> (intros; omega))
set_option maxHeartbeats 4000000 in
set_option maxRecDepth 100000 in
theorem rpass_run (Q : Qry) (t v : Int) (cap : Nat) (hT : Q.times.length ≤ 1000000) : callT G3 3 34 [qAV 0 0 cap 0 Q, .agg [.si .i64 t, .si .i64 v]] (mkH [(0, .ro (ints Q.times))]) 1 fun u _ _ => mkT u = mkT (.bool (qPass Q (t, v))) := by
  conv => whnf
  refine LoopP.mk { q : Nat × Bool // q.1 ≤ Q.times.length ∧ (decide (Q.times.length = 0) || hasT (Q.times.take q.1) t) = q.2 } 3 (fun a => rpassSt Q t v cap a.val.1 a.val.2) (fun a => Q.times.length - a.val.1) ⟨(0, decide ((Q.times.length : Int) = 0)), Nat.zero_le _, ?_⟩ ?_ ?_
  · simp only [List.take_zero, hasT, List.any_nil, Bool.or_false]
    congr 1
    simp
  · exact rpassSt_cov (i := 0) (Nat.le_refl 1) rfl rfl rfl rfl rfl rfl rfl rfl
  · intro ⟨⟨i, b⟩, hi, hh⟩
    dsimp only at hi hh
    conv => whnf
    refine Fork.dec (fun h1 => ?_) (fun h1 => ?_)
    · have h2 : i < Q.times.length := Int.ofNat_lt.1 h1
      have hlt : Q.times.length - (i + 1) < Q.times.length - i := by omega
      have hw := iwrap h2 hT
      conv => whnf
      refine Fork.sb (fun h3 => ?_) (fun h3 => ?_)
      · have h3 : b = true := h3
        conv => whnf
        refine ⟨⟨(i + 1, true), h2, ?_⟩, hlt, rpassSt_cov (Nat.le_refl 1) rfl rfl rfl (congrArg (AV.si .i64) hw) rfl rfl rfl rfl⟩
        dsimp only
        rw [hasT_take h2, ← Bool.or_assoc, hh, h3]; rfl
      · have h3 : b = false := h3
        conv => whnf
        refine Idx.mk i rfl h2 ?_
        conv => whnf
        refine optP_of (ints_nth h2 (by show 0 + i * 1 = i; omega)) ?_
        conv => whnf
        refine ⟨⟨(i + 1, decide (Q.times[i] = t)), h2, ?_⟩, hlt, rpassSt_cov (Nat.le_refl 1) rfl rfl rfl (congrArg (AV.si .i64) hw) rfl rfl rfl rfl⟩
        dsimp only
        rw [hasT_take h2, ← Bool.or_assoc, hh, h3]; rfl
    · have h2 : i = Q.times.length := by have : ¬ (i : Int) < (Q.times.length : Int) := h1; omega
      subst h2
      rw [hasT_all] at hh
      repeat' (conv => whnf
               first | refine Fork.dec (fun _ => ?_) (fun _ => ?_) | refine Fork.ndec (fun _ => ?_) (fun _ => ?_) | refine Fork.sb (fun _ => ?_) (fun _ => ?_) | refine Fork.nsb (fun _ => ?_) (fun _ => ?_) | refine (show mkT _ = AV.sb false from rfl).trans (pass_no ?_) | refine (show mkT _ = AV.sb true from rfl).trans (pass_yes ?_) | refine (show mkT _ = AV.sb _ from rfl).trans (pass_is ?_))
      all_goals (simp only [qPass, hh, qIn]; simp_all <;> (intros; omega))
theorem n_rpass : NatP 34 (natQX qPass) := natQX_ok G3_ok (by kernel_rfl) rpass_nil rpass_run
noncomputable def G4 : FuncId → EP := withS 34 (natQX qPass) G3
theorem G4_ok : TabP G4 := withS_ok G3_ok n_rpass singQX
end Go.Proofs.Ytkhfdjhohfebgaa
namespace Go.Proofs.Ytkhfdjhohfebgaa
open Go Go.RowKit
/-- The time ahead of a place. -/
def ahead (L : Smp) (i : Nat) : Int := if i = 0 then -1 else (atS L (i - 1)).1
def bktC (s a : Int) (L : Smp) (i : Nat) : Bool := decide (ahead L i < (atS L i).1) && (decide ((atS L i).1 ≤ 1099511627776) && decide (sStart (atS L i).1 s a = (atS L i).1))
def bktTo (s a : Int) (L : Smp) (i : Nat) : Bool := (List.range i).all (bktC s a L)
def bktF (s a : Int) (L : Smp) : Bool := bktTo s a L L.length
theorem bktTo_succ {s a : Int} {L : Smp} {i : Nat} : bktTo s a L (i + 1) = (bktTo s a L i && bktC s a L i) := by
  unfold bktTo
  rw [List.range_succ, List.all_append]
  simp
theorem bktTo_at {s a : Int} {L : Smp} {i j : Nat} (h : bktTo s a L i = true) (hj : j < i) : bktC s a L j = true := by
  unfold bktTo at h
  exact List.all_eq_true.1 h j (List.mem_range.2 hj)
theorem bkt_no {s a : Int} {L : Smp} {i : Nat} (h : i < L.length) (hc : bktC s a L i = false) : bktF s a L = false := by
  cases hb : bktF s a L with
  | false => rfl
  | true => rw [bktTo_at hb h] at hc; cases hc
theorem bkt_pos {s a : Int} {L : Smp} : ∀ {i : Nat}, bktTo s a L (i + 1) = true → 0 ≤ (atS L i).1
  | 0, h => by
    have := bktTo_at h (Nat.lt_succ_self 0)
    simp only [bktC, ahead, Bool.and_eq_true, decide_eq_true_eq] at this
    simp at this
    omega
  | i + 1, h => by
    have h0 := bktTo_at h (Nat.lt_succ_self (i + 1))
    have h1 : bktTo s a L (i + 1) = true := by
      rw [bktTo_succ] at h
      simp only [Bool.and_eq_true] at h
      exact h.1
    have := bkt_pos h1
    simp only [bktC, ahead, Bool.and_eq_true, decide_eq_true_eq] at h0
    simp at h0
    omega
noncomputable def bktSt (s a : Int) (L : Smp) (cap i : Nat) : AE × AH := (mkE [(0, .si .i64 (s)), (1, .si .i64 (a)), (7, .si .i64 (ahead L i)), (10, .sy 0 0 L.length cap 0), (11, .si .i64 (L.length)), (12, .si .i64 (i))], mkH [(0, .ro (smp (L)))])
theorem bktSt_cov {s a : Int} {L : Smp} {cap i : Nat} {p n : Nat} {σ : AE} {H : AH} (hp : p ≤ 1) (e0 : mk (getq (pa 0) σ) = .si .i64 (s)) (e1 : mk (getq (pa 1) σ) = .si .i64 (a)) (e7 : mk (getq (pa 7) σ) = .si .i64 (ahead L i)) (e10 : mk (getq (pa 10) σ) = .sy 0 0 L.length cap 0) (e11 : mk (getq (pa 11) σ) = .si .i64 (L.length)) (e12 : mk (getq (pa 12) σ) = .si .i64 (i)) (h0 : H.get 0 = some (.ro (smp (L)))) : Cov p σ H n ((bktSt s a L cap i).1, (bktSt s a L cap i).2, 1) := by
  refine Cov.ofR (fun b => b) (by omega) (fun b hb => rfl) ?_ ?_ ?_
  · intro x hx
    simp only [List.mem_cons, List.not_mem_nil, or_false] at hx
    rcases hx with rfl | rfl | rfl | rfl | rfl | rfl
    · exact .int e0
    · exact .int e1
    · exact .int e7
    · exact .sy (by decide) e10
    · exact .int e11
    · exact .int e12
  · intro x hx
    simp only [List.mem_cons, List.not_mem_nil, or_false] at hx
    subst hx
    exact ⟨by simp, .inl ⟨_, h0, SubO.ro_mk (smp_flat _) rfl⟩⟩
  · intro x hx y hy
    simp only [List.mem_cons, List.not_mem_nil, or_false] at hx hy
    subst hx hy
    exact fun q => rfl
noncomputable def G5 : FuncId → EP := withD 51 [(5, [(some 0, [9]), (some 0, [16]), (some 0, [7]), (some 0, [17, 18]), (some 0, [19]), (some 0, [9, 20]), (some 0, [21, 20]), (some 0, [22, 20]), (some 0, [20, 23]), (some 0, [24]), (some 0, [9, 25]), (some 0, [26, 25]), (some 0, [0, 25]), (some 0, [1, 25]), (none, [27, 28, 29, 25]), (some 1, [9, 25]), (some 2, [31, 25]), (some 0, [30, 32, 25]), (some 0, [25, 33])])] G4
theorem G5_ok : TabP G5 := withD_ok G4_ok (by kernel_rfl) (by kernel_rfl)
theorem bkt_is {s a : Int} {L : Smp} {b : Bool} (h : b = bktF s a L) : AV.sb b = mkT (.bool (bktF s a L)) := by rw [h]; rfl
set_option maxHeartbeats 4000000 in
set_option maxRecDepth 100000 in
theorem bkt_nil (s a : Int) : callT G5 3 51 [.si .i64 s, .si .i64 a, .nsl] .nil 0 fun u _ _ => mkT u = mkT (.bool (bktF s a [])) := by
  conv => whnf
  refine LoopP.roll 1 ?_
  conv => whnf
  rfl
set_option maxHeartbeats 4000000 in
set_option maxRecDepth 100000 in
theorem bkt_run (s a : Int) (L : Smp) (cap : Nat) (hL : L.length ≤ 1000000) : callT G5 3 51 [.si .i64 s, .si .i64 a, .sy 0 0 L.length cap 0] (mkH [(0, .ro (smp L))]) 1 fun u _ _ => mkT u = mkT (.bool (bktF s a L)) := by
  conv => whnf
  refine LoopP.mk { i : Nat // i ≤ L.length ∧ bktTo s a L i = true } 1 (fun a' => bktSt s a L cap a'.val) (fun a' => L.length - a'.val) ⟨0, Nat.zero_le _, rfl⟩ ?_ ?_
  · exact bktSt_cov (i := 0) (Nat.le_refl 1) rfl rfl rfl rfl rfl rfl rfl
  · intro ⟨i, hi, hh⟩
    conv => whnf
    refine Fork.dec (fun h1 => ?_) (fun h1 => ?_)
    · have h2 : i < L.length := Int.ofNat_lt.1 h1
      have hlt : L.length - (i + 1) < L.length - i := by omega
      have hw := iwrap h2 hL
      have hat := atS_eq h2
      conv => whnf
      refine Idx.mk i rfl h2 ?_
      conv => whnf
      refine optP_of (smp_sub h2 (by show 0 + i * 2 = i * 2; omega)) ?_
      repeat' (conv => whnf
               first | refine Fork.dec (fun _ => ?_) (fun _ => ?_) | refine Fork.ndec (fun _ => ?_) (fun _ => ?_) | refine (show mkT _ = AV.sb false from rfl).trans (bkt_is ?_) | refine ⟨⟨i + 1, h2, ?_⟩, hlt, bktSt_cov (Nat.le_refl 1) rfl rfl (congrArg (AV.si .i64) ?_) rfl rfl (congrArg (AV.si .i64) hw) rfl⟩ | fail)
      all_goals first
        | (rw [bkt_no h2]
           simp only [bktC, ← hat]
           simp_all <;> (intros; omega))
        | (rw [bktTo_succ, hh, Bool.true_and]
           simp only [bktC, ← hat]
           simp_all <;> omega)
        | (show _ = ahead L (i + 1)
           simp only [ahead, Nat.add_sub_cancel, ← hat]
           rfl)
    · have h2 : i = L.length := by have : ¬ (i : Int) < (L.length : Int) := h1; omega
      subst h2
      conv => whnf
      exact (show mkT _ = AV.sb true from rfl).trans (bkt_is hh.symm)
theorem n_bkt : NatP 51 (natB2 1000000 bktF) := natB2_ok G5_ok (by kernel_rfl) bkt_nil bkt_run
noncomputable def G6 : FuncId → EP := withS 51 (natB2 1000000 bktF) G5
theorem G6_ok : TabP G6 := withS_ok G5_ok n_bkt singB2
/-! ### the other way round -/
theorem rev_take {L : Smp} {i j : Nat} (h : i < L.length) (hj : j = L.length - 1 - i) (hj2 : j < L.length) : L.reverse.take (i + 1) = L.reverse.take i ++ [L[j]] := by
  subst hj
  rw [List.take_succ_eq_append_getElem (by rw [List.length_reverse]; exact h), List.getElem_reverse]
noncomputable def bkw0 (L : Smp) (cap : Nat) : AE × AH := (mkE [(0, .sy 0 0 L.length cap 0), (3, .nsl), (6, .si .i64 (L.length)), (7, .si .i64 ((0 : Nat)))], mkH [(0, .ro (smp (L)))])
theorem bkw0_cov {L : Smp} {cap : Nat} {p n : Nat} {σ : AE} {H : AH} (hp : p ≤ 1) (e0 : mk (getq (pa 0) σ) = .sy 0 0 L.length cap 0) (e3 : getq (pa 3) σ = .nsl) (e6 : mk (getq (pa 6) σ) = .si .i64 (L.length)) (e7 : mk (getq (pa 7) σ) = .si .i64 ((0 : Nat))) (h0 : H.get 0 = some (.ro (smp (L)))) : Cov p σ H n ((bkw0 L cap).1, (bkw0 L cap).2, 2) := by
  refine Cov.ofR (fun b => b) (by omega) (fun b hb => rfl) ?_ ?_ ?_
  · intro x hx
    simp only [List.mem_cons, List.not_mem_nil, or_false] at hx
    rcases hx with rfl | rfl | rfl | rfl
    · exact .sy (by decide) e0
    · exact .flat rfl (congrArg mk e3)
    · exact .int e6
    · exact .int e7
  · intro x hx
    simp only [List.mem_cons, List.not_mem_nil, or_false] at hx
    subst hx
    exact ⟨by simp, .inl ⟨_, h0, SubO.ro_mk (smp_flat _) rfl⟩⟩
  · intro x hx y hy
    simp only [List.mem_cons, List.not_mem_nil, or_false] at hx hy
    subst hx hy
    exact fun q => rfl
noncomputable def bkw1 (L : Smp) (cap i : Nat) : AE × AH := (mkE [(0, .sy 0 0 L.length cap 0), (3, .sl 1 0 (i + 1) (i + 1) 2), (6, .si .i64 (L.length)), (7, .si .i64 ((i + 1 : Nat)))], mkH [(0, .ro (smp (L))), (1, .cells (smp (L.reverse.take (i + 1))) true)])
theorem bkw1_cov {L : Smp} {cap i : Nat} {p n : Nat} {σ : AE} {H : AH} {l1 : List AV} (j1 : Nat) (hj : j1 ≠ 0) (hp : p ≤ 1) (e0 : mk (getq (pa 0) σ) = .sy 0 0 L.length cap 0) (e3 : mk (getq (pa 3) σ) = .sy j1 0 (i + 1) (i + 1) 2) (e6 : mk (getq (pa 6) σ) = .si .i64 (L.length)) (e7 : mk (getq (pa 7) σ) = .si .i64 ((i + 1 : Nat))) (h0 : H.get 0 = some (.ro (smp (L)))) (h1 : H.get j1 = some (.cells l1 true)) (g1 : l1.map mk = smp (L.reverse.take (i + 1))) : Cov p σ H n ((bkw1 L cap i).1, (bkw1 L cap i).2, 2) := by
  refine Cov.ofR (fun b => if b = 1 then j1 else b) (by omega) (fun b hb => by repeat' rw [if_neg (by omega)]) ?_ ?_ ?_
  · intro x hx
    simp only [List.mem_cons, List.not_mem_nil, or_false] at hx
    rcases hx with rfl | rfl | rfl | rfl
    · exact .sy (by decide) e0
    · exact .sl (by decide) e3
    · exact .int e6
    · exact .int e7
  · intro x hx
    simp only [List.mem_cons, List.not_mem_nil, or_false] at hx
    rcases hx with rfl | rfl
    · exact ⟨by simp, .inl ⟨_, h0, SubO.ro_mk (smp_flat _) rfl⟩⟩
    · exact ⟨by simp, .inl ⟨_, h1, SubO.cells_mk (smp_flat _) (by rw [g1, smp_map]) (fun q => q)⟩⟩
  · intro x hx y hy
    simp only [List.mem_cons, List.not_mem_nil, or_false] at hx hy
    rcases hx with rfl | rfl <;> rcases hy with rfl | rfl <;> simp <;> omega
noncomputable abbrev bkwSt (L : Smp) (cap : Nat) : Nat → AE × AH
  | 0 => bkw0 L cap
  | i + 1 => bkw1 L cap i
theorem iwrapd {m i j : Nat} (h : i < m) (hj : j = m - 1 - i) (hm : m ≤ 1000000) : IntKind.i64.wrap (IntKind.i64.wrap ((m : Int) - 1) - (i : Int)) = (j : Int) := by
  rw [wrap_i64_of (x := (m : Int) - 1) (by omega) (by omega), wrap_i64_of (by omega) (by omega)]; omega
set_option maxHeartbeats 4000000 in
set_option maxRecDepth 100000 in
theorem bkw_nil : callT G6 3 47 [.nsl] .nil 0 fun u H' _ => NewRowG ([] : Smp).reverse u H' := by
  conv => whnf
  refine LoopP.roll 1 ?_
  conv => whnf
  exact .inl ⟨rfl, rfl⟩
set_option maxHeartbeats 4000000 in
set_option maxRecDepth 100000 in
theorem bkw_run (L : Smp) (cap : Nat) (hL : L.length ≤ 1000000) : callT G6 3 47 [.sy 0 0 L.length cap 0] (mkH [(0, .ro (smp L))]) 1 fun u H' _ => NewRowG L.reverse u H' := by
  conv => whnf
  refine LoopP.mk { i : Nat // i ≤ L.length } 2 (fun a => bkwSt L cap a.val) (fun a => L.length - a.val) ⟨0, Nat.zero_le _⟩ ?_ ?_
  · exact bkw0_cov (Nat.le_refl 1) rfl rfl rfl rfl rfl
  · intro ⟨i, hi⟩
    cases i with
    | zero =>
      conv => whnf
      refine Fork.dec (fun h1 => ?_) (fun h1 => ?_)
      · have h2 : 0 < L.length := Int.ofNat_lt.1 h1
        have hlt : L.length - 1 < L.length - 0 := by omega
        obtain ⟨j, hj⟩ : ∃ j, j = L.length - 1 - 0 := ⟨_, rfl⟩
        have hj2 : j < L.length := by omega
        conv => whnf
        refine Idx.mk j (iwrapd h2 hj hL) hj2 ?_
        conv => whnf
        refine optP_of (smp_sub hj2 (by show 0 + j * 2 = j * 2; omega)) ?_
        conv => whnf
        refine ⟨⟨1, h2⟩, hlt, bkw1_cov (i := 0) 3 (by decide) (Nat.le_refl 1) rfl rfl rfl rfl rfl rfl ?_⟩
        exact Eq.trans rfl (congrArg smp (rev_take h2 hj hj2).symm)
      · have h2 : L = [] := List.eq_nil_of_length_eq_zero (by have : ¬ (0 : Int) < (L.length : Int) := h1; omega)
        subst h2
        conv => whnf
        exact .inl ⟨rfl, rfl⟩
    | succ i =>
      conv => whnf
      refine Fork.dec (fun h1 => ?_) (fun h1 => ?_)
      · have h2 : i + 1 < L.length := Int.ofNat_lt.1 h1
        have hlt : L.length - (i + 2) < L.length - (i + 1) := by omega
        have hw := iwrap h2 hL
        obtain ⟨j, hj⟩ : ∃ j, j = L.length - 1 - (i + 1) := ⟨_, rfl⟩
        have hj2 : j < L.length := by omega
        have hlen : (L.reverse.take (i + 1)).length = i + 1 := by rw [List.length_take, List.length_reverse]; omega
        conv => whnf
        refine Idx.mk j (iwrapd h2 hj hL) hj2 ?_
        conv => whnf
        refine optP_of (smp_sub hj2 (by show 0 + j * 2 = j * 2; omega)) ?_
        conv => whnf
        refine optP_of (app_grow (k := 1) (by' := 16) (m := 1) (sn := i + 1) (c := i + 1) rfl rfl rfl rfl rfl rfl rfl rfl (by decide) rfl rfl rfl (by omega) (by omega) (subL_all (by rw [smp_length, hlen]))) ?_
        conv => whnf
        refine ⟨⟨i + 2, h2⟩, hlt, bkw1_cov (i := i + 1) 3 (by decide) (Nat.le_refl 1) rfl rfl rfl (congrArg (AV.si .i64) hw) rfl rfl ?_⟩
        exact Eq.trans (snoc_map _ L[j].1 L[j].2 (smp_map _)) (congrArg smp (rev_take h2 hj hj2).symm)
      · have h2 : i + 1 = L.length := by have : ¬ ((i + 1 : Nat) : Int) < (L.length : Int) := h1; omega
        have hR : L.reverse.take (i + 1) = L.reverse := by rw [List.take_of_length_le (by rw [List.length_reverse]; omega)]
        have hne : L.reverse ≠ [] := by intro q; have := congrArg List.length q; rw [List.length_reverse, List.length_nil] at this; omega
        conv => whnf
        refine NewRowG.full (b := 1) (c := i + 1) (l := smp (L.reverse.take (i + 1))) hne ?_ ?_ rfl ?_
        · exact (show _ = AV.sl 1 0 (i + 1) (i + 1) 2 from rfl).trans (by rw [List.length_reverse, h2])
        · rw [List.length_reverse]; omega
        · rw [smp_map, hR]
theorem n_bkw : NatP 47 (natS1 1000000 List.reverse) := natS1_ok G6_ok (by kernel_rfl) bkw_nil bkw_run
noncomputable def tur0 (L : Smp) (cap : Nat) : AE × AH := (mkE [(0, .sy 0 0 L.length cap 0), (3, .nsl), (4, .si .i64 ((L.length : Int) - 1))], mkH [(0, .ro (smp (L)))])
theorem tur0_cov {L : Smp} {cap : Nat} {p n : Nat} {σ : AE} {H : AH} (hp : p ≤ 1) (e0 : mk (getq (pa 0) σ) = .sy 0 0 L.length cap 0) (e3 : getq (pa 3) σ = .nsl) (e4 : mk (getq (pa 4) σ) = .si .i64 ((L.length : Int) - 1)) (h0 : H.get 0 = some (.ro (smp (L)))) : Cov p σ H n ((tur0 L cap).1, (tur0 L cap).2, 2) := by
  refine Cov.ofR (fun b => b) (by omega) (fun b hb => rfl) ?_ ?_ ?_
  · intro x hx
    simp only [List.mem_cons, List.not_mem_nil, or_false] at hx
    rcases hx with rfl | rfl | rfl
    · exact .sy (by decide) e0
    · exact .flat rfl (congrArg mk e3)
    · exact .int e4
  · intro x hx
    simp only [List.mem_cons, List.not_mem_nil, or_false] at hx
    subst hx
    exact ⟨by simp, .inl ⟨_, h0, SubO.ro_mk (smp_flat _) rfl⟩⟩
  · intro x hx y hy
    simp only [List.mem_cons, List.not_mem_nil, or_false] at hx hy
    subst hx hy
    exact fun q => rfl
noncomputable def tur1 (L : Smp) (cap i : Nat) : AE × AH := (mkE [(0, .sy 0 0 L.length cap 0), (3, .sl 1 0 (i + 1) (i + 1) 2), (4, .si .i64 ((L.length : Int) - 1 - (i + 1 : Nat)))], mkH [(0, .ro (smp (L))), (1, .cells (smp (L.reverse.take (i + 1))) true)])
theorem tur1_cov {L : Smp} {cap i : Nat} {p n : Nat} {σ : AE} {H : AH} {l1 : List AV} (j1 : Nat) (hj : j1 ≠ 0) (hp : p ≤ 1) (e0 : mk (getq (pa 0) σ) = .sy 0 0 L.length cap 0) (e3 : mk (getq (pa 3) σ) = .sy j1 0 (i + 1) (i + 1) 2) (e4 : mk (getq (pa 4) σ) = .si .i64 ((L.length : Int) - 1 - (i + 1 : Nat))) (h0 : H.get 0 = some (.ro (smp (L)))) (h1 : H.get j1 = some (.cells l1 true)) (g1 : l1.map mk = smp (L.reverse.take (i + 1))) : Cov p σ H n ((tur1 L cap i).1, (tur1 L cap i).2, 2) := by
  refine Cov.ofR (fun b => if b = 1 then j1 else b) (by omega) (fun b hb => by repeat' rw [if_neg (by omega)]) ?_ ?_ ?_
  · intro x hx
    simp only [List.mem_cons, List.not_mem_nil, or_false] at hx
    rcases hx with rfl | rfl | rfl
    · exact .sy (by decide) e0
    · exact .sl (by decide) e3
    · exact .int e4
  · intro x hx
    simp only [List.mem_cons, List.not_mem_nil, or_false] at hx
    rcases hx with rfl | rfl
    · exact ⟨by simp, .inl ⟨_, h0, SubO.ro_mk (smp_flat _) rfl⟩⟩
    · exact ⟨by simp, .inl ⟨_, h1, SubO.cells_mk (smp_flat _) (by rw [g1, smp_map]) (fun q => q)⟩⟩
  · intro x hx y hy
    simp only [List.mem_cons, List.not_mem_nil, or_false] at hx hy
    rcases hx with rfl | rfl <;> rcases hy with rfl | rfl <;> simp <;> omega
noncomputable abbrev turSt (L : Smp) (cap : Nat) : Nat → AE × AH
  | 0 => tur0 L cap
  | i + 1 => tur1 L cap i
set_option maxHeartbeats 4000000 in
set_option maxRecDepth 100000 in
theorem tur_nil : callT G6 3 37 [.nsl] .nil 0 fun u H' _ => NewRowG ([] : Smp).reverse u H' := by
  conv => whnf
  refine LoopP.roll 1 ?_
  conv => whnf
  exact .inl ⟨rfl, rfl⟩
set_option maxHeartbeats 4000000 in
set_option maxRecDepth 100000 in
theorem tur_run (L : Smp) (cap : Nat) (hL : L.length ≤ 1000000) : callT G6 3 37 [.sy 0 0 L.length cap 0] (mkH [(0, .ro (smp L))]) 1 fun u H' _ => NewRowG L.reverse u H' := by
  conv => whnf
  refine LoopP.mk { i : Nat // i ≤ L.length } 2 (fun a => turSt L cap a.val) (fun a => L.length - a.val) ⟨0, Nat.zero_le _⟩ ?_ ?_
  · refine tur0_cov (Nat.le_refl 1) rfl rfl ?_ rfl
    exact congrArg (AV.si .i64) (wrap_i64_of (x := (L.length : Int) - 1) (by omega) (by omega))
  · intro ⟨i, hi⟩
    cases i with
    | zero =>
      conv => whnf
      refine Fork.dec (fun h1 => ?_) (fun h1 => ?_)
      · have h1 : (0 : Int) ≤ (L.length : Int) - 1 := h1
        have h2 : 0 < L.length := by omega
        have hlt : L.length - 1 < L.length - 0 := by omega
        obtain ⟨j, hj⟩ : ∃ j, j = L.length - 1 - 0 := ⟨_, rfl⟩
        have hj2 : j < L.length := by omega
        have hw : IntKind.i64.wrap ((L.length : Int) - 1 - 1) = (L.length : Int) - 1 - ((0 + 1 : Nat) : Int) := by rw [wrap_i64_of (by omega) (by omega)]; omega
        conv => whnf
        refine Idx.mk j (show (L.length : Int) - 1 = (j : Int) by omega) hj2 ?_
        conv => whnf
        refine optP_of (smp_sub hj2 (by show 0 + j * 2 = j * 2; omega)) ?_
        conv => whnf
        refine ⟨⟨1, h2⟩, hlt, tur1_cov (i := 0) 3 (by decide) (Nat.le_refl 1) rfl rfl (congrArg (AV.si .i64) hw) rfl rfl ?_⟩
        exact Eq.trans rfl (congrArg smp (rev_take h2 hj hj2).symm)
      · have h1 : ¬ (0 : Int) ≤ (L.length : Int) - 1 := h1
        have h2 : L = [] := List.eq_nil_of_length_eq_zero (by omega)
        subst h2
        conv => whnf
        exact .inl ⟨rfl, rfl⟩
    | succ i =>
      conv => whnf
      refine Fork.dec (fun h1 => ?_) (fun h1 => ?_)
      · have h1 : (0 : Int) ≤ (L.length : Int) - 1 - ((i + 1 : Nat) : Int) := h1
        have h2 : i + 1 < L.length := by omega
        have hlt : L.length - (i + 2) < L.length - (i + 1) := by omega
        have hw : IntKind.i64.wrap ((L.length : Int) - 1 - ((i + 1 : Nat) : Int) - 1) = (L.length : Int) - 1 - ((i + 1 + 1 : Nat) : Int) := by rw [wrap_i64_of (by omega) (by omega)]; omega
        obtain ⟨j, hj⟩ : ∃ j, j = L.length - 1 - (i + 1) := ⟨_, rfl⟩
        have hj2 : j < L.length := by omega
        have hlen : (L.reverse.take (i + 1)).length = i + 1 := by rw [List.length_take, List.length_reverse]; omega
        conv => whnf
        refine Idx.mk j (show (L.length : Int) - 1 - ((i + 1 : Nat) : Int) = (j : Int) by omega) hj2 ?_
        conv => whnf
        refine optP_of (smp_sub hj2 (by show 0 + j * 2 = j * 2; omega)) ?_
        conv => whnf
        refine optP_of (app_grow (k := 1) (by' := 16) (m := 1) (sn := i + 1) (c := i + 1) rfl rfl rfl rfl rfl rfl rfl rfl (by decide) rfl rfl rfl (by omega) (by omega) (subL_all (by rw [smp_length, hlen]))) ?_
        conv => whnf
        refine ⟨⟨i + 2, h2⟩, hlt, tur1_cov (i := i + 1) 3 (by decide) (Nat.le_refl 1) rfl rfl (congrArg (AV.si .i64) hw) rfl rfl ?_⟩
        exact Eq.trans (snoc_map _ L[j].1 L[j].2 (smp_map _)) (congrArg smp (rev_take h2 hj hj2).symm)
      · have h1 : ¬ (0 : Int) ≤ (L.length : Int) - 1 - ((i + 1 : Nat) : Int) := h1
        have h2 : i + 1 = L.length := by omega
        have hR : L.reverse.take (i + 1) = L.reverse := by rw [List.take_of_length_le (by rw [List.length_reverse]; omega)]
        have hne : L.reverse ≠ [] := by intro q; have := congrArg List.length q; rw [List.length_reverse, List.length_nil] at this; omega
        conv => whnf
        refine NewRowG.full (b := 1) (c := i + 1) (l := smp (L.reverse.take (i + 1))) hne ?_ ?_ rfl ?_
        · exact (show _ = AV.sl 1 0 (i + 1) (i + 1) 2 from rfl).trans (by rw [List.length_reverse, h2])
        · rw [List.length_reverse]; omega
        · rw [smp_map, hR]
theorem n_tur : NatP 37 (natS1 1000000 List.reverse) := natS1_ok G6_ok (by kernel_rfl) tur_nil tur_run
noncomputable def G7 : FuncId → EP := withS 47 (natS1 1000000 List.reverse) (withS 37 (natS1 1000000 List.reverse) G6)
theorem G7_ok : TabP G7 := withS_ok (withS_ok G6_ok n_tur singS1) n_bkw singS1
end Go.Proofs.Ytkhfdjhohfebgaa
namespace Go.Proofs.Ytkhfdjhohfebgaa
open Go Go.RowKit
/-- Where the empty buckets behind the one ahead of place i begin; their value; how many. -/
def gE (s a : Int) (L : Smp) (i : Nat) : Int := sEnd (atS L (i - 1)).1 s a
def gV (k : Int) (L : Smp) (i : Nat) : Int := if k = 6 then (atS L (i - 1)).2 else 0
def gapL (e s v : Int) (n : Nat) : Smp := (List.range n).map fun j : Nat => (e + (j : Int) * s, v)
def gapN (e s t : Int) : Nat := ((t - e + s - 1) / s).toNat
def gapsAt (k s a : Int) (L : Smp) (i : Nat) : Smp := if i = 0 then [] else gapL (gE s a L i) s (gV k L i) (gapN (gE s a L i) s (atS L i).1)
def fillG (k s a : Int) (L : Smp) : Nat → Smp
  | 0 => []
  | i + 1 => fillG k s a L i ++ gapsAt k s a L i ++ [atS L i]
def isGap (k : Int) : Bool := decide (k = 1 ∨ k = 4 ∨ k = 6)
def fillF (k s a : Int) (L : Smp) : Smp × Int := if sRight k = true ∧ sCan s a = true ∧ bktF s a L = true then (if isGap k = true then (if 10000 < (fillG k s a L L.length).length then ([], 13) else (fillG k s a L L.length, 0)) else (L, 0)) else ([], 1)
theorem fill_bad {k s a : Int} {L : Smp} (h : sRight k = false ∨ sCan s a = false ∨ bktF s a L = false) : fillF k s a L = ([], 1) := if_neg (by rcases h with h | h | h <;> simp [h])
theorem fill_same {k s a : Int} {L : Smp} (h1 : sRight k = true) (h2 : sCan s a = true) (h3 : bktF s a L = true) (h4 : isGap k = false) : fillF k s a L = (L, 0) := by unfold fillF; rw [if_pos ⟨h1, h2, h3⟩, if_neg (by rw [h4]; decide)]
theorem fill_big {k s a : Int} {L : Smp} (h1 : sRight k = true) (h2 : sCan s a = true) (h3 : bktF s a L = true) (h4 : isGap k = true) (h5 : 10000 < (fillG k s a L L.length).length) : fillF k s a L = ([], 13) := by unfold fillF; rw [if_pos ⟨h1, h2, h3⟩, if_pos h4, if_pos h5]
theorem fill_all {k s a : Int} {L : Smp} (h1 : sRight k = true) (h2 : sCan s a = true) (h3 : bktF s a L = true) (h4 : isGap k = true) (h5 : ¬ 10000 < (fillG k s a L L.length).length) : fillF k s a L = (fillG k s a L L.length, 0) := by unfold fillF; rw [if_pos ⟨h1, h2, h3⟩, if_pos h4, if_neg h5]
theorem fillG_succ {k s a : Int} {L : Smp} {i : Nat} : fillG k s a L (i + 1) = fillG k s a L i ++ gapsAt k s a L i ++ [atS L i] := rfl
theorem fillG_step {k s a : Int} {L : Smp} {i : Nat} : (fillG k s a L i).length + 1 ≤ (fillG k s a L (i + 1)).length := by
  rw [fillG_succ]; simp
theorem fillG_mono {k s a : Int} {L : Smp} {i : Nat} : ∀ {j : Nat}, i ≤ j → (fillG k s a L i).length ≤ (fillG k s a L j).length
  | 0, h => by
    have : i = 0 := by omega
    subst this; exact Nat.le_refl _
  | j + 1, h => by
    by_cases e : i = j + 1
    · rw [e]; exact Nat.le_refl _
    · have := fillG_mono (k := k) (s := s) (a := a) (L := L) (i := i) (j := j) (by omega)
      have := fillG_step (k := k) (s := s) (a := a) (L := L) (i := j)
      omega
theorem gapL_len (e s v : Int) (n : Nat) : (gapL e s v n).length = n := by simp [gapL]
theorem gapL_succ (e s v : Int) (n : Nat) : gapL e s v (n + 1) = gapL e s v n ++ [(e + (n : Int) * s, v)] := by
  unfold gapL
  rw [List.range_succ, List.map_append]
  rfl
theorem gap_iff {e s t : Int} (hs : 1 ≤ s) (j : Nat) : e + (j : Int) * s < t ↔ j < gapN e s t := by
  unfold gapN
  generalize hq : (t - e + s - 1) / s = q
  have h1 : (j : Int) + 1 ≤ q ↔ ((j : Int) + 1) * s ≤ t - e + s - 1 := by rw [← hq]; exact Int.le_ediv_iff_mul_le (by omega)
  rw [Int.add_mul, Int.one_mul] at h1
  constructor
  · intro h
    have := h1.2 (by omega)
    omega
  · intro h
    have := h1.1 (by omega)
    omega
theorem can_facts {s a : Int} (h : sCan s a = true) : 1 ≤ s ∧ s ≤ 1099511627776 ∧ 0 ≤ a ∧ a < s := by simpa only [sCan, decide_eq_true_eq] using h
theorem bkt_fact {s a : Int} {L : Smp} {i : Nat} (hb : bktF s a L = true) (hi : i < L.length) : 0 ≤ (atS L i).1 ∧ (atS L i).1 ≤ 1099511627776 ∧ sStart (atS L i).1 s a = (atS L i).1 ∧ ahead L i < (atS L i).1 := by
  have h0 := bktTo_at hb hi
  have h1 : bktTo s a L (i + 1) = true := by
    unfold bktTo
    rw [List.all_eq_true]
    intro j hj
    exact bktTo_at hb (by have := List.mem_range.1 hj; omega)
  have h2 := bkt_pos h1
  simp only [bktC, Bool.and_eq_true, decide_eq_true_eq] at h0
  exact ⟨h2, h0.2.1, h0.2.2, h0.1⟩
theorem end_fact {b s a : Int} (hc : sCan s a = true) (h0 : 0 ≤ b) (h1 : b ≤ 1099511627776) (hs : sStart b s a = b) : a ≤ sEnd b s a ∧ (sEnd b s a - a) % s = 0 ∧ b < sEnd b s a ∧ sEnd b s a ≤ 2199023255552 := by
  obtain ⟨c1, c2, c3, c4⟩ := can_facts hc
  have e1 := end_eq (t := b) c1 c2 c3 c4 h0 h1
  by_cases hba : b < a
  · rw [if_pos hba] at e1
    rw [e1]
    exact ⟨Int.le_refl _, by simp, hba, by omega⟩
  · rw [if_neg hba, hs] at e1
    rw [e1]
    have e2 := start_eq (t := b) c1 c2 c3 c4 h0 h1
    rw [if_pos (by omega), hs] at e2
    have hm : (b - a) % s = 0 := by omega
    refine ⟨by omega, ?_, by omega, by omega⟩
    rw [show b + s - a = (b - a) + s from by omega, Int.add_emod_right, hm]
theorem end_next {e s a : Int} (hc : sCan s a = true) (ha : a ≤ e) (hm : (e - a) % s = 0) (h1 : e ≤ 1099511627776) : sEnd e s a = e + s := by
  obtain ⟨c1, c2, c3, c4⟩ := can_facts hc
  rw [end_eq c1 c2 c3 c4 (by omega) h1, if_neg (by omega), start_eq c1 c2 c3 c4 (by omega) h1, if_pos (by omega), hm]
  omega
theorem gap_mod {e s a : Int} {j : Nat} (hs : 1 ≤ s) (ha : a ≤ e) (hm : (e - a) % s = 0) : a ≤ e + (j : Int) * s ∧ (e + (j : Int) * s - a) % s = 0 := by
  have h0 : 0 ≤ (j : Int) * s := Int.mul_nonneg (by omega) (by omega)
  refine ⟨by omega, ?_⟩
  rw [show e + (j : Int) * s - a = (e - a) + s * (j : Int) from by rw [Int.mul_comm s]; omega, Int.add_mul_emod_self_left, hm]
/-- What was told when j of the empty buckets ahead of place i were. -/
def fillX (k s a : Int) (L : Smp) (i j : Nat) : Smp := fillG k s a L i ++ gapL (gE s a L i) s (gV k L i) j
theorem fillX_len {k s a : Int} {L : Smp} {i j : Nat} : (fillX k s a L i j).length = (fillG k s a L i).length + j := by
  unfold fillX; rw [List.length_append, gapL_len]
theorem fillX_zero {k s a : Int} {L : Smp} {i : Nat} : fillX k s a L i 0 = fillG k s a L i := by simp [fillX, gapL]
theorem fillX_succ {k s a : Int} {L : Smp} {i j : Nat} : fillX k s a L i (j + 1) = fillX k s a L i j ++ [(gE s a L i + (j : Int) * s, gV k L i)] := by
  unfold fillX; rw [gapL_succ, List.append_assoc]
theorem fillX_all {k s a : Int} {L : Smp} {i : Nat} (hi : i ≠ 0) : fillG k s a L (i + 1) = fillX k s a L i (gapN (gE s a L i) s (atS L i).1) ++ [atS L i] := by
  rw [fillG_succ]
  unfold fillX gapsAt
  rw [if_neg hi]
theorem fillX_le {k s a : Int} {L : Smp} {i j : Nat} (hi : i ≠ 0) (hj : j ≤ gapN (gE s a L i) s (atS L i).1) : (fillX k s a L i j).length + 1 ≤ (fillG k s a L (i + 1)).length := by
  rw [fillX_all hi, List.length_append, fillX_len, fillX_len]
  simp; omega
theorem big_of {k s a : Int} {L : Smp} {i j : Nat} (hi : i ≠ 0) (hL : i < L.length) (hj : j ≤ gapN (gE s a L i) s (atS L i).1) (h : 10000 < (fillX k s a L i j).length) : 10000 < (fillG k s a L L.length).length := by
  have h1 := fillX_le (k := k) (s := s) (a := a) (L := L) hi hj
  have h2 := fillG_mono (k := k) (s := s) (a := a) (L := L) (i := i + 1) (j := L.length) hL
  omega
theorem last_append {X : Smp} {x : Int × Int} {n : Nat} (hn : n = (X ++ [x]).length - 1) (h : n < (X ++ [x]).length) : (X ++ [x])[n] = x := by
  have : n = X.length := by rw [List.length_append] at hn; simpa using hn
  subst this
  simp
/-- The one that stands last, and where it ends. -/
theorem fillX_last {k s a : Int} {L : Smp} {i j n : Nat} (hc : sCan s a = true) (hb : bktF s a L = true) (hi : i + 1 < L.length) (hj : j ≤ gapN (gE s a L (i + 1)) s (atS L (i + 1)).1) (hn : n = (fillX k s a L (i + 1) j).length - 1) :
    ∃ (b v : Int) (h : n < (fillX k s a L (i + 1) j).length), (fillX k s a L (i + 1) j)[n] = (b, v) ∧ sEnd b s a = gE s a L (i + 1) + (j : Int) * s ∧ (k = 6 → v = gV k L (i + 1)) := by
  obtain ⟨c1, c2, c3, c4⟩ := can_facts hc
  have hf := bkt_fact hb (show i < L.length by omega)
  have hf2 := bkt_fact hb hi
  have he := end_fact hc hf.1 hf.2.1 hf.2.2.1
  cases j with
  | zero =>
    have e : fillX k s a L (i + 1) 0 = (fillG k s a L i ++ gapsAt k s a L i) ++ [atS L i] := by rw [fillX_zero]; rfl
    have h : n < (fillX k s a L (i + 1) 0).length := by rw [e] at hn ⊢; rw [List.length_append] at hn ⊢; simp at hn ⊢; omega
    refine ⟨(atS L i).1, (atS L i).2, h, ?_, ?_, fun hk => ?_⟩
    · have : ∀ (Y : Smp) (hY : Y = (fillG k s a L i ++ gapsAt k s a L i) ++ [atS L i]) (h : n < Y.length), n = Y.length - 1 → Y[n] = atS L i := fun Y hY h hn => by
        subst hY; exact last_append hn h
      exact this _ e h hn
    · show sEnd (atS L i).1 s a = sEnd (atS L (i + 1 - 1)).1 s a + ((0 : Nat) : Int) * s
      simp
    · show _ = (if k = 6 then (atS L (i + 1 - 1)).2 else 0)
      rw [if_pos hk]; rfl
  | succ j =>
    have e := fillX_succ (k := k) (s := s) (a := a) (L := L) (i := i + 1) (j := j)
    have h : n < (fillX k s a L (i + 1) (j + 1)).length := by rw [e] at hn ⊢; rw [List.length_append] at hn ⊢; simp at hn ⊢; omega
    have hlt := (gap_iff (e := gE s a L (i + 1)) (t := (atS L (i + 1)).1) c1 j).2 (by omega)
    have hg := gap_mod (e := gE s a L (i + 1)) (j := j) c1 he.1 he.2.1
    refine ⟨gE s a L (i + 1) + (j : Int) * s, gV k L (i + 1), h, ?_, ?_, fun _ => rfl⟩
    · have : ∀ (Y : Smp) (hY : Y = fillX k s a L (i + 1) j ++ [(gE s a L (i + 1) + (j : Int) * s, gV k L (i + 1))]) (h : n < Y.length), n = Y.length - 1 → Y[n] = (gE s a L (i + 1) + (j : Int) * s, gV k L (i + 1)) := fun Y hY h hn => by
        subst hY; exact last_append hn h
      exact this _ e h hn
    · rw [end_next hc hg.1 hg.2 (by omega)]
      rw [show ((j + 1 : Nat) : Int) = (j : Int) + 1 from by omega, Int.add_mul]
      omega
end Go.Proofs.Ytkhfdjhohfebgaa
