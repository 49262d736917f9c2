/- A law's argument that is a slice of samples, opened; a law whose arguments lie in memory. -/
import Derived.Test.YtaejmcgcfopmkaaEvI
import Derived.Deep.SlicePairs
import Derived.SizedLaws
namespace Go.Proofs.Ytaejmcgcfopmkaa
open Go Go.RowKit Go.ChangeShapes Go.WideShapes
def In64 (x : Int) : Prop := -9223372036854775808 ≤ x ∧ x ≤ 9223372036854775807
theorem rowAt_le {P : Program} {fits : TypeId → Bool} : ∀ (d : Nat) (e : TypeId) (count off n : Nat), rowAt P fits d e count off n = true → off ≤ count * P.cellsOf e
  | 0, e, count, off, n, h => by simp [rowAt] at h
  | d + 1, e, count, off, n, h => by
    unfold rowAt at h
    simp only at h
    split at h
    · cases h
    · rename_i hs
      have h0 := Nat.div_add_mod off (P.cellsOf e)
      have h1 := Nat.mod_lt off (Nat.pos_of_ne_zero hs)
      generalize off / P.cellsOf e = q at *
      generalize off % P.cellsOf e = m at *
      simp only [Bool.or_eq_true, Bool.and_eq_true, beq_iff_eq, decide_eq_true_eq] at h
      rcases h with ⟨⟨h2, h3⟩, _⟩ | ⟨h2, _⟩
      · have : P.cellsOf e * q ≤ P.cellsOf e * count := Nat.mul_le_mul_left _ (by omega)
        rw [Nat.mul_comm count]; omega
      · have : P.cellsOf e * (q + 1) ≤ P.cellsOf e * count := Nat.mul_le_mul_left _ (by omega)
        rw [Nat.mul_add, Nat.mul_one] at this
        rw [Nat.mul_comm count]; omega
theorem liesAt_le {P : Program} : ∀ (d : Nat) (e : TypeId) (count off : Nat) (u : TypeId) (n : Nat), liesAt P d e count off u n = true → off ≤ count * P.cellsOf e
  | 0, e, count, off, u, n, h => by simp [liesAt] at h
  | d + 1, e, count, off, u, n, h => by
    unfold liesAt at h
    simp only [Bool.or_eq_true] at h
    rcases h with h | h
    · exact rowAt_le _ _ _ _ _ h
    · split at h
      · exact liesAt_le d _ _ _ _ _ h
      · cases h
section
variable {H : Type} {enc : TypeId × Value → H} {P : Program} {W : World} {sp : Nat → Bool} {held : Bool}
theorem okWide_slice_at {r : Reach} {b0 : Nat} {t e : TypeId} {v : Value} (ht : P.underlying t = some (.slice e)) (hval : Value.okWide P W r b0 t v) : v = .slice none 0 0 ∨ ∃ b off len cap c u fz, v = .slice (some ⟨b, off, none⟩) len cap ∧ W.heap[b]? = some (.cells c u fz) ∧ off ≤ c.size := by
  simp only [Value.okWide, ht, Cell.okWide, Cell.ok] at hval
  split at hval
  all_goals first | (rename_i h _; cases h; done) | (rename_i h; cases h; done) | skip
  · exact .inl rfl
  · rename_i a len cap _
    obtain ⟨b, off, spot⟩ := a
    obtain ⟨_, _, _, h2, row, cells, h3, h4⟩ := hval
    change spot = none at h2
    change W.shape? b = _ at h3
    change liesAt _ _ _ _ off _ _ = true at h4
    subst h2
    unfold World.shape? at h3
    split at h3
    · rename_i c u fz hb
      injection h3 with h3
      injection h3 with h5 h6
      subst h5 h6
      refine .inr ⟨b, off, len, cap, c, _, fz, rfl, hb, ?_⟩
      exact Nat.le_trans (liesAt_le _ _ _ _ _ _ h4) (Nat.div_mul_le_self _ _)
    · cases h3
  · exact hval.elim
theorem cell_at {b off : Nat} {c : Array Value} {u : TypeId} {fz : Nat × Nat} (hb : W.heap[b]? = some (.cells c u fz)) {i : Nat} {v : Value} (h : W.cell? ((⟨b, off, none⟩ : Addr).add i) = some v) : c[off + i]? = some v := by
  have e : (⟨b, off, none⟩ : Addr).add i = ⟨b, off + i, none⟩ := by
    unfold Addr.add
    split
    · rename_i h0; subst h0; rfl
    · rfl
  rw [e] at h
  unfold World.cell? at h
  simp only [hb] at h
  simpa using h
/-- A slice of samples: two numbers each. -/
theorem open_samples {b0 : Nat} {t e : TypeId} {f0 f1 : Field} {v : Value} {d : DataW H} {ps : List MemPlace} (ht : P.underlying t = some (.slice e)) (he : P.underlying e = some (.struct #[f0, f1]))
    (ce : P.cellsOf e = 2) (o0 : f0.offset = 0) (o1 : f1.offset = 1) (c0 : P.cellsOf f0.type = 1) (c1 : P.cellsOf f1.type = 1) (hf0 : P.underlying f0.type = some (.int .i64)) (hf1 : P.underlying f1.type = some (.int .i64))
    (hval : Value.okWide P W .any b0 t v) (hd : DataW.Trod enc P W 0 (fun _ => true) held t v d ps) :
    (v = .slice none 0 0) ∨ ∃ (b off cap : Nat) (L : Smp) (D0 D1 : Nat → DataW H) (E : List (DataW H)), v = .slice (some ⟨b, off, none⟩) L.length cap ∧ L.length ≤ cap ∧ cap ≤ 9223372036854775807 ∧ RoAt (wholeHp W) ⟨b, off, L.length * 2⟩ (smp L) ∧ (∀ x ∈ L, In64 x.1 ∧ In64 x.2) ∧
      d = .slice ((List.range L.length).map fun i => .agg [D0 i, D1 i]) E := by
  obtain ⟨fuel, hf⟩ := hd
  rcases okWide_slice_at ht hval with rfl | ⟨b, off, len, cap, c, u, fz, rfl, hb, hoff⟩
  · exact .inl rfl
  right
  rcases Go.Deep.open_slice_pairs ht he ce o0 o1 c0 c1 hf with ⟨h0, _⟩ | ⟨a, len', cap', m, n, V0, V1, D0, D1, P0, P1, h1, h2, h3, h4, h5, h6, h7⟩
  · simp [Value.cells] at h0
  simp only [Value.cells, List.cons.injEq, Value.slice.injEq, Option.some.injEq, and_true] at h1
  obtain ⟨rfl, rfl, rfl⟩ := h1
  have h5 : m = cap := by simpa using h5
  subst h5
  let L : Smp := (List.range len).map fun i => (intOf (V0 i), intOf (V1 i))
  have hlen : L.length = len := by simp [L]
  have hat : ∀ i (h : i < L.length), L[i] = (intOf (V0 i), intOf (V1 i)) := fun i h => by simp [L]
  have hint : ∀ i, i < len → ∃ x y, V0 i = .int .i64 x ∧ V1 i = .int .i64 y ∧ In64 x ∧ In64 y := fun i hi => by
    obtain ⟨_, _, g3, g4⟩ := h7 i (by omega)
    obtain ⟨x, hx, _, wx⟩ := DataW.trod_int hf0 g3
    obtain ⟨y, hy, _, wy⟩ := DataW.trod_int hf1 g4
    simp only [List.cons.injEq, and_true] at hx hy
    refine ⟨x, y, hx, hy, ?_, ?_⟩
    · simp [Lit.wf, IntKind.min, IntKind.max, IntKind.signed, IntKind.bits] at wx; unfold In64; omega
    · simp [Lit.wf, IntKind.min, IntKind.max, IntKind.signed, IntKind.bits] at wy; unfold In64; omega
  refine ⟨b, off, m, L, D0, D1, (List.range (m - len)).map fun j => .agg [D0 (len + j), D1 (len + j)], by rw [hlen], by omega, by unfold maxLen at h4; omega, ?_, ?_, ?_⟩
  · refine ⟨c, u, fz, hb, Nat.le_of_eq (smp_length L), ?_, ?_⟩
    · simp only [hlen]
      cases hl : len with
      | zero => omega
      | succ k =>
        obtain ⟨_, g2, _, _⟩ := h7 k (by omega)
        have := cell_at hb g2
        have := (Array.getElem?_eq_some_iff.1 this).1
        omega
    · intro ψ i a hi
      have hi2 := (List.getElem?_eq_some_iff.1 hi).1
      rw [smp_length, hlen] at hi2
      obtain ⟨j, q, hj, hq⟩ : ∃ j q, i = j * 2 + q ∧ q < 2 := ⟨i / 2, i % 2, by omega, by omega⟩
      have hjl : j < len := by omega
      have hjL : j < L.length := by omega
      obtain ⟨x, y, hx, hy, _, _⟩ := hint j hjl
      obtain ⟨g1, g2, _, _⟩ := h7 j (by omega)
      rcases (show q = 0 ∨ q = 1 by omega) with rfl | rfl
      · have e1 := smp_nth0 hjL (o := i) (by omega)
        rw [nth_eq, hi] at e1
        injection e1 with e1
        subst e1
        refine ⟨V0 j, ?_, ?_⟩
        · have := cell_at hb g1
          rw [hj]; exact this
        · rw [hat j hjL, hx]; exact .si _ _
      · have e1 := smp_nth1 hjL (o := i) (by omega)
        rw [nth_eq, hi] at e1
        injection e1 with e1
        subst e1
        refine ⟨V1 j, ?_, ?_⟩
        · have := cell_at hb g2
          rw [hj]; exact this
        · rw [hat j hjL, hy]; exact .si _ _
  · intro x hx
    simp only [L, List.mem_map, List.mem_range] at hx
    obtain ⟨i, hi, rfl⟩ := hx
    obtain ⟨x, y, hx, hy, g1, g2⟩ := hint i hi
    rw [hx, hy]
    exact ⟨g1, g2⟩
  · simp only [Prod.mk.injEq] at h6
    rw [h6.1, hlen]
end
theorem sized_len {H : Type} {P : Program} {ts : List TypeId} {ds : List (DataW H)} (h : (DataW.weightsEach P ts ds).all (· ≤ reachBytes) = true) {j n : Nat} {t e : TypeId} {F : Nat → DataW H} {E : List (DataW H)} (ht : ts[j]? = some t) (hd : ds[j]? = some (.slice ((List.range n).map F) E)) (hu : P.underlying t = some (.slice e)) (hb : P.bytesOf e = 16) : n ≤ 8796093022208 := by
  have := sized_slice h ht hd hu
  rw [hb, List.length_map, List.length_range] at this
  unfold reachBytes at this
  omega
/-- A law that the machine finds true, its arguments in memory. -/
theorem evP_callsM {F : FuncId → EP} (hF : TabP F) {d : Nat} {f : FuncId} {args : List AV} {H0 : AH} {n0 : Nat} {φ0 : Ph} {vs : Array Value} (he : callT F d f args H0 n0 fun v _ _ => v = .bool true ∨ v = .sb true) (w : World)
    (hr0 : HR φ0 H0 n0 (wholeHp w) (wholeHp w)) (hargs : VRs φ0 args vs.toList) : Calls Try.prog f vs w fun e w' => e = .returned (.bool true) ∧ Below w.heap.size w w' := by
  have hs := callT_sound (by kernel_rfl) hF d f args H0 n0 _ he _ (wholeHp w) (wholeHp w) vs (fun v g => v = .bool true ∧ (wholeHp w).n ≤ g.n ∧ ∀ b o, (wholeHp w).f b = some o → g.f b = some o) hr0 hargs
    (fun ψ v H n u g _ hg hu hv => ⟨by rcases hv with rfl | rfl; exact hu.bool_inv; exact hu.sb_inv, hg.size, fun b o hb => (hg.base b o hb).2⟩)
  refine (hs.2 w (wholeHp_is w)).mono fun e' w' ⟨v, g, h1, h2, h3, h4, h5, h6⟩ => ?_
  subst h1 h4
  refine ⟨rfl, h3.1, h3.2.1, h3.2.2, ?_, fun b hb => ?_⟩
  · rw [h2.1]; exact h5
  · have := h6 b _ (show (wholeHp w).f b = some w.heap[b] from Array.getElem?_eq_getElem hb)
    rw [h2.2 b _ this, Array.getElem?_eq_getElem hb]
end Go.Proofs.Ytaejmcgcfopmkaa
