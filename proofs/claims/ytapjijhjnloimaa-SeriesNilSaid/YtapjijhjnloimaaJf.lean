/- Texts of our own, joined: the engine, the machine that runs code, and what is known of the functions. -/
import Derived.Test.YtapjijhjnloimaaRows
import Derived.WalkKit
import Derived.Deep.Quiet
import Derived.ProofKit
import Derived.Laws.StructEq
import Derived.LaidEql
import Derived.Laws.BytesArg
import Derived.Maps.RangeRun
import Derived.RangeFuncSeq
import Derived.Scope
import Derived.Laws.Strings
import Derived.Laws.Strings2
import Derived.Below
import Derived.Carry
import Derived.OpenShut
import Derived.ChangeMaps5
import Derived.Deep.Slices
import Derived.Deep.SlicePairs
import Derived.SizedLaws
import Derived.Laws.BitsAllLaws
import Derived.RangeFuncRecord
import Derived.Test.YtapjijhjnloimaaJe
import Derived.Test.YtapjijhjnloimaaJd
set_option linter.unusedSimpArgs false
set_option linter.unusedVariables false
set_option maxHeartbeats 16000000
set_option maxRecDepth 100000
namespace Go.Proofs.Ytapjijhjnloimaa
open Go Go.RowKit
noncomputable def KRf : FuncId → EP := a9 43 rU evP
theorem dY : bI KRf := au a8 E3
abbrev cRg : CP := az KRf 5
theorem xD {t v : Int} : ∀ (φ ψ : Ph) (u : Value), VR φ (.agg [.si .i64 t, .si .i64 v]) u → VR ψ (.agg [.si .i64 t, .si .i64 v]) u := fun φ ψ u h => by
  obtain ⟨cs, rfl, h1⟩ := h.eH
  exact .agg (kp rfl h1)
noncomputable def rgI (a b : Int) (O : Smp) : AH := mkH [(3, .cells [.si .i64 a] true), (4, .cells [.si .i64 b] true), (5, .cells [.rw 6 0 O.length 2 0] true), (6, .cells (smp O) true)]
noncomputable def rgE : AE := mkE [(4, .ptr 3 0), (5, .ptr 4 0), (7, .ptr 5 0)]
noncomputable def ecM (S : Sr) (C : Ck5) (Q : HP) : AH := mkH [(0, .cells (bU S 1 (pts C).length) true), (1, .cells (aL (pts C)) true), (2, cv S C), (6, .sep Q)]
theorem bH {l : List (Nat × AO)} (h : (l.all fun x => x.2.own) = true) : b8 (mkH l) := fun b o e => List.all_eq_true.1 h _ (aX e)
theorem b8.set {H : AH} {d n : Nat} {o : AO} (h : b8 H) (ho : o.own = true) : b8 (PM.set (some o) d H n) := fun b o' e => by
  rcases PM.ao d H n b o' e with ⟨_, q⟩ | ⟨_, q⟩
  · injection q with q; subst q; exact ho
  · exact h b o' q
theorem b8.del {H : AH} {d n : Nat} (h : b8 H) : b8 (PM.set none d H n) := fun b o' e => by
  rcases PM.ao d H n b o' e with ⟨_, q⟩ | ⟨_, q⟩
  · cases q
  · exact h b o' q
theorem xE {σ : AE} {H : AH} {n k : Nat} {a b : Int} {O : Smp} {l3 l4 : List AV} {l : AV} (e4 : aA (pa 4) σ = .ptr 3 0) (e5 : aA (pa 5) σ = .ptr 4 0) (e7 : aA (pa 7) σ = .ptr 5 0) (h3 : PM.get H 3 = some (.cells l3 true)) (g3 : l3.map mk = [.si .i64 a]) (h4 : PM.get H 4 = some (.cells l4 true)) (g4 : l4.map mk = [.si .i64 b])
    (h5 : PM.get H 5 = some (.cells [l] true)) (hl : ai H 7 (fun c => if c = 6 then k else c) l (.rw 6 0 O.length 2 0)) (h6 : (∃ l6, PM.get H k = some (.cells l6 true) ∧ l6.map mk = smp O) ∨ (O = [] ∧ n ≤ k)) (hk : k ≠ 3 ∧ k ≠ 4 ∧ k ≠ 5) : Cov 0 σ H n (rgE, rgI a b O, 7) := by
  refine Cov.ofR (m := 7) (p := 0) (fun c => if c = 6 then k else c) (Nat.zero_le _) (fun b hb => absurd hb (Nat.not_lt_zero b)) (fun x hx => ?_) (fun x hx => ?_) (fun x hx y hy e => ?_)
  · simp only [List.mem_cons, List.not_mem_nil, or_false] at hx
    rcases hx with rfl | rfl | rfl
    · exact ai.ptr (by decide) e4
    · exact ai.ptr (by decide) e5
    · exact ai.ptr (by decide) e7
  · simp only [List.mem_cons, List.not_mem_nil, or_false] at hx
    rcases hx with rfl | rfl | rfl | rfl
    · exact ⟨Nat.le_of_ble_eq_true rfl, .inl ⟨_, h3, aQ.bA rfl g3 id⟩⟩
    · exact ⟨Nat.le_of_ble_eq_true rfl, .inl ⟨_, h4, aQ.bA rfl g4 id⟩⟩
    · refine ⟨Nat.le_of_ble_eq_true rfl, .inl ⟨_, h5, aQ.cells (Nat.le_refl _) id fun i a' hi => ?_⟩⟩
      match i, hi with
      | 0, hi => injection hi with hi; subst hi; exact ⟨_, rfl, hl⟩
      | i + 1, hi => simp at hi
    · refine ⟨Nat.le_of_ble_eq_true rfl, h6.elim (fun ⟨l6, q1, q2⟩ => .inl ⟨_, q1, aQ.bA (bO _) (by rw [q2, ba]) id⟩) (fun q => .inr ⟨by rw [q.1]; rfl, q.2⟩)⟩
  · simp only [List.mem_cons, List.not_mem_nil, or_false] at hx hy
    rcases hx with rfl | rfl | rfl | rfl <;> rcases hy with rfl | rfl | rfl | rfl <;> simp at e ⊢ <;> omega
theorem uM {σ : AE} {H : AH} {n : Nat} {S : Sr} {C : Ck5} {Q : HP} (le : List (Nat × AV)) (he : ∀ x ∈ le, ai H 7 (fun b => b) (aA (pa x.1) σ) x.2) (h0 : PM.get H 0 = some (.cells (bU S 1 (pts C).length) true)) (h1 : PM.get H 1 = some (.cells (aL (pts C)) true)) (h2 : PM.get H 2 = some (cv S C)) (h6 : PM.get H 6 = some (.sep Q)) : Cov 7 σ H n (mkE le, ecM S C Q, 7) := by
  refine Cov.ofR (m := 7) (p := 7) (fun b => b) (Nat.le_refl _) (fun b hb => rfl) he ?_ (fun x hx y hy e => e)
  intro x hx
  simp only [List.mem_cons, List.not_mem_nil, or_false] at hx
  rcases hx with rfl | rfl | rfl | rfl
  · exact ⟨Nat.le_of_ble_eq_true rfl, .inl ⟨_, h0, aQ.bU rfl rfl rfl rfl rfl (ai.rw (Nat.le_of_ble_eq_true rfl) rfl)⟩⟩
  · exact ⟨Nat.le_of_ble_eq_true rfl, .inl ⟨_, h1, aQ.aL (aq _)⟩⟩
  · exact ⟨Nat.le_of_ble_eq_true rfl, .inl ⟨_, h2, aQ.sep _⟩⟩
  · exact ⟨Nat.le_of_ble_eq_true rfl, .inl ⟨_, h6, aQ.sep _⟩⟩
def pN (L : Nat) : AV := .any (.func (.yield L) #[] #[])
abbrev lo1 (C : Ck5) (L i : Nat) : List (Nat × AV) := [(1, pN L), (14, .rw 1 0 (pts C).length 1 0), (15, .si .i64 ((pts C).length : Int)), (16, .si .i64 (i : Int))]
abbrev lo2 (C : Ck5) (L i : Nat) (X : Smp) (j : Nat) : List (Nat × AV) := [(1, pN L), (14, .rw 1 0 (pts C).length 1 0), (15, .si .i64 ((pts C).length : Int)), (16, .si .i64 (i : Int)), (21, .fr X.length 2 (smp X)), (22, .si .i64 (X.length : Int)), (23, .si .i64 (j : Int))]
theorem xF {H : AH} {σ : AE} {C : Ck5} {L i : Nat} (e1 : aA (pa 1) σ = pN L) (e14 : aA (pa 14) σ = .rw 1 0 (pts C).length 1 0) (e15 : mk (aA (pa 15) σ) = .si .i64 ((pts C).length : Int)) (e16 : mk (aA (pa 16) σ) = .si .i64 (i : Int)) : ∀ x ∈ lo1 C L i, ai H 7 (fun b => b) (aA (pa x.1) σ) x.2 := fun x hx => by
  simp only [List.mem_cons, List.not_mem_nil, or_false] at hx
  rcases hx with rfl | rfl | rfl | rfl
  · show ai H 7 _ (aA (pa 1) σ) (pN L)
    rw [e1]; exact fun _ _ _ _ _ h => h
  · exact ai.rw (Nat.le_of_ble_eq_true rfl) e14
  · exact ai.int e15
  · exact ai.int e16
theorem so {H : AH} {σ : AE} {C : Ck5} {L i j : Nat} {X : Smp} (e1 : aA (pa 1) σ = pN L) (e14 : aA (pa 14) σ = .rw 1 0 (pts C).length 1 0) (e15 : mk (aA (pa 15) σ) = .si .i64 ((pts C).length : Int)) (e16 : mk (aA (pa 16) σ) = .si .i64 (i : Int)) (e21 : aA (pa 21) σ = .fr X.length 2 (smp X)) (e22 : mk (aA (pa 22) σ) = .si .i64 (X.length : Int)) (e23 : mk (aA (pa 23) σ) = .si .i64 (j : Int)) : ∀ x ∈ lo2 C L i X j, ai H 7 (fun b => b) (aA (pa x.1) σ) x.2 := fun x hx => by
  simp only [List.mem_cons, List.not_mem_nil, or_false] at hx
  rcases hx with rfl | rfl | rfl | rfl | rfl | rfl | rfl
  · show ai H 7 _ (aA (pa 1) σ) (pN L)
    rw [e1]; exact fun _ _ _ _ _ h => h
  · exact ai.rw (Nat.le_of_ble_eq_true rfl) e14
  · exact ai.int e15
  · exact ai.int e16
  · exact ai.frE e21
  · exact ai.int e22
  · exact ai.int e23
def geF (a : Int) (X : Smp) : Smp := X.filter fun x => decide (a ≤ x.1)
noncomputable abbrev rgQ (L D : Nat) (rec : Loop) (ρ : Env) (a b : Int) (X : Smp) : HP := uK (gT L D rec .ready none) rgE ρ (rgI a b (geF a X)) 7
theorem mV {S : Sr} {C : Ck5} {i : Nat} (h : i < C.length) : cv S C = .sep (pk (chs S.sz (C.take i ++ (C[i].1, C[i].2) :: C.drop (i + 1)))) := by
  have := cP h
  unfold cv
  rw [this]
def iw (a b : Int) (X : Smp) : Smp := X.filter fun x => decide (a ≤ x.1) && decide (x.1 ≤ b)
def RgP (S : Sr) (C : Ck5) (O : Smp) : PK := fun u H' m => u = .rw 3 0 O.length 2 0 ∧ H' = mkH [(0, .cells (bU S 1 (pts C).length) true), (1, .cells (aL (pts C)) true), (2, cv S C), (3, .cells (smp O) true)] ∧ m = 4
theorem BJ {H : AH} {n N : Nat} {S : Sr} {C : Ck5} {O X : Smp} (hN : 3 ≤ N) (hO : X = O) (h0 : PM.get H 0 = some (.cells (bU S 1 (pts C).length) true)) (h1 : PM.get H 1 = some (.cells (aL (pts C)) true)) (h2 : PM.get H 2 = some (cv S C)) (h3 : PM.get H N = some (.cells (smp X) true)) : ∃ (v2 : AV) (H2 : AH) (m : Nat), Cov 3 (mkE [(0, .rw N 0 X.length 2 0)]) H n (mkE [(0, v2)], H2, m) ∧ RgP S C O v2 H2 m := by
  subst hO
  refine ⟨.rw 3 0 X.length 2 0, _, 4, ?_, rfl, rfl, rfl⟩
  refine Cov.ofR (m := 4) (p := 3) (fun c => if c = 3 then N else c) (by decide) (fun b hb => if_neg (by omega)) (fun x hx => ?_) (fun x hx => ?_) (fun x hx y hy e => ?_)
  · simp only [List.mem_cons, List.not_mem_nil, or_false] at hx
    subst hx
    exact ai.rw (Nat.le_of_ble_eq_true rfl) rfl
  · simp only [List.mem_cons, List.not_mem_nil, or_false] at hx
    rcases hx with rfl | rfl | rfl | rfl
    · exact ⟨Nat.le_of_ble_eq_true rfl, .inl ⟨_, h0, aQ.bU rfl rfl rfl rfl rfl (ai.rw (Nat.le_of_ble_eq_true rfl) rfl)⟩⟩
    · exact ⟨Nat.le_of_ble_eq_true rfl, .inl ⟨_, h1, aQ.aL (aq _)⟩⟩
    · exact ⟨Nat.le_of_ble_eq_true rfl, .inl ⟨_, h2, aQ.sep _⟩⟩
    · exact ⟨Nat.le_of_ble_eq_true rfl, .inl ⟨_, h3, aQ.bA (bO _) rfl id⟩⟩
  · simp only [List.mem_cons, List.not_mem_nil, or_false] at hx hy
    rcases hx with rfl | rfl | rfl | rfl <;> rcases hy with rfl | rfl | rfl | rfl <;> simp at e ⊢ <;> omega
theorem IZ : RTy 22 22 2 16 := ⟨_, _, _, rfl, rfl, (fun q h => by cases h), rfl, rfl, rfl, rfl, by decide, by decide⟩
theorem xG {a b : Int} {X : Smp} (h : ∀ x ∈ X, x.1 ≤ b) : geF a X = iw a b X := by
  refine List.filter_congr fun x hx => ?_
  have := h x hx
  simp [this]
theorem v8 {a b : Int} {X Y : Smp} {x : Int × Int} (hU : Up (X ++ x :: Y)) (h : ∀ y ∈ X, y.1 ≤ b) (hx : b < x.1) : geF a X = iw a b (X ++ x :: Y) := by
  unfold iw
  rw [List.filter_append, xG h]
  have : (x :: Y).filter (fun y => decide (a ≤ y.1) && decide (y.1 ≤ b)) = [] := List.filter_eq_nil_iff.2 fun y hy => by
    have h2 := (List.pairwise_append.1 hU).2.1
    have : x.1 ≤ y.1 := by
      rcases List.mem_cons.1 hy with rfl | hy
      · exact Int.le_refl _
      · exact Int.le_of_lt (List.rel_of_pairwise_cons h2 hy)
    simp only [Bool.and_eq_true, decide_eq_true_eq]; omega
  rw [this, List.append_nil]; rfl
theorem pC {C : Ck5} {i : Nat} (h : i < C.length) : ab (C.take (i + 1)) = ab (C.take i) ++ C[i].2 := by
  rw [List.take_succ_eq_append_getElem h, fq]
  congr 1
  simp [ab, cnt]
theorem uN {C : Ck5} {i j : Nat} (h : i < C.length) (hj : j < C[i].2.length) : ab C = (ab (C.take i) ++ C[i].2.take j) ++ C[i].2[j] :: (C[i].2.drop (j + 1) ++ ab (C.drop (i + 1))) := by
  have h1 := cP h
  have h2 : C[i].2 = C[i].2.take j ++ C[i].2[j] :: C[i].2.drop (j + 1) := by rw [← List.drop_eq_getElem_cons hj, List.take_append_drop]
  have h3 : ab C = ab (C.take i) ++ (C[i].2 ++ ab (C.drop (i + 1))) := by
    have := congrArg ab h1
    rw [← this, fq, bg]
  rw [h3]
  have h4 : C[i].2 ++ ab (C.drop (i + 1)) = (C[i].2.take j ++ C[i].2[j] :: C[i].2.drop (j + 1)) ++ ab (C.drop (i + 1)) := by rw [← h2]
  rw [h4]; simp only [List.append_assoc, List.cons_append]
theorem y5 (S : Sr) (C : Ck5) (a b : Int) (hO : Okc S C) (hU : Up (ab C)) (hf : (ab C).length ≤ 100000) : cV (RfG cRg (kK KRf) 18) [.ptr 0 0, .si .i64 a, .si .i64 b] (mkH (dH (fo S (pts C) C) 0)) 3 (RgP S C (iw a b (ab C))) := by
  have hl := hO.few
  have hlo := hO.lo
  show RfG cRg _ _ _ _ _ _
  conv => whnf
  refine ⟨by kernel_rfl, Nat.le_of_ble_eq_true rfl, ?_⟩
  conv => whnf
  refine ⟨by decide, 65, [.ptr 0 0], [4, 5, 7], mkH [(3, .cells [.si .i64 a] true), (4, .cells [.si .i64 b] true), (5, .cells [.nsl] true)], mkH [(0, .cells (bU S 1 (pts C).length) true), (1, .cells (aL (pts C)) true), (2, cv S C)], rgE, rgI a b [], 7, rfl, rfl, fun c o h => ?_, fun c o h => ?_, fun c o h => ?_, ?_, fun L D rec ρ hY => ?_⟩
  · have hm := aX h
    simp only [List.mem_cons, List.not_mem_nil, or_false] at hm
    rcases hm with hm | hm | hm <;> (injection hm with h1 h2; subst h1 h2; rfl)
  · have hm := aX h
    simp only [List.mem_cons, List.not_mem_nil, or_false] at hm
    rcases hm with hm | hm | hm <;> (injection hm with h1 h2; subst h1 h2; rfl)
  · have hm := aX h
    simp only [List.mem_cons, List.not_mem_nil, or_false] at hm
    rcases hm with hm | hm | hm <;> (injection hm with h1 h2; subst h1 h2; exact ⟨rfl, rfl⟩)
  · exact xE (k := 6) rfl rfl rfl rfl rfl rfl rfl rfl (ai.qh rfl) (.inr ⟨rfl, Nat.le_refl _⟩) (by decide)
  conv => whnf
  refine ak.dF (fun z => absurd (show (0 : Int) < (S.sz : Int) by omega) z) (fun _ => ?_)
  conv => whnf
  refine bz.mk { i : Nat // i ≤ C.length ∧ ∀ x ∈ ab (C.take i), x.1 ≤ b } 7 (fun i => (mkE (lo1 C L i.val), ecM S C (rgQ L D rec ρ a b (ab (C.take i.val))))) (fun i => C.length - i.val) ⟨0, Nat.zero_le _, fun x hx => by cases hx⟩ ?_ ?_
  focus
    exact uM _ (xF rfl rfl rfl rfl) rfl rfl rfl rfl
  intro ⟨i, hi, hI⟩
  have hw : IntKind.i64.wrap ((i : Int) + 1) = ((i + 1 : Nat) : Int) := by rw [aI (by omega) (by omega)]; omega
  conv => whnf
  refine ak.dec (fun h => ?_) (fun h => ?_)
  focus
    have h2 : i < C.length := by
      have h : (i : Int) < ((pts C).length : Int) := h
      rw [al] at h; omega
    conv => whnf
    refine Idx.mk i rfl (by rw [al]; exact h2) ?_
    conv => whnf
    refine aD (b9 h2 (show 0 + i * 1 = i by omega)) ?_
    conv => whnf
    refine ⟨2, S.sz, C.take i, C.drop (i + 1), C[i].1, C[i].2, rfl, congrArg some (mV h2), by omega, hO.fine _ (List.getElem_mem h2), ?_⟩
    conv => whnf
    refine bz.mk { j : Nat // j ≤ C[i].2.length ∧ ∀ x ∈ ab (C.take i) ++ C[i].2.take j, x.1 ≤ b } 7 (fun j => (mkE (lo2 C L i C[i].2 j.val), ecM S C (rgQ L D rec ρ a b (ab (C.take i) ++ C[i].2.take j.val)))) (fun j => C[i].2.length - j.val) ⟨0, Nat.zero_le _, by simpa using hI⟩ ?_ ?_
    focus
      exact uM _ (so rfl rfl rfl rfl rfl rfl rfl) rfl rfl rfl (congrArg (fun X => some (AO.sep (rgQ L D rec ρ a b X))) (List.append_nil _).symm)
    have hF := (hO.fine _ (List.getElem_mem h2)).2.2
    have fE : ∀ {j : Nat}, j = C[i].2.length → ab (C.take i) ++ C[i].2.take j = ab (C.take (i + 1)) := fun {j} e => by rw [pC h2, e, List.take_length]
    have hI2 : ∀ {j : Nat}, j = C[i].2.length → (∀ x ∈ ab (C.take i) ++ C[i].2.take j, x.1 ≤ b) → ∀ x ∈ ab (C.take (i + 1)), x.1 ≤ b := fun {j} e k => by rw [← fE e]; exact k
    intro ⟨j, hj, hJ⟩
    have hw2 : IntKind.i64.wrap ((j : Int) + 1) = ((j + 1 : Nat) : Int) := by rw [aI (by omega) (by omega)]; omega
    conv => whnf
    refine ak.dec (fun h => ?_) (fun h => ?_)
    focus
      have h3 : j < C[i].2.length := by
        have h : (j : Int) < (C[i].2.length : Int) := h
        omega
      have hat := uN h2 h3
      have fT : C[i].2.take (j + 1) = C[i].2.take j ++ [C[i].2[j]] := List.take_succ_eq_append_getElem h3
      have fS : b < C[i].2[j].1 → geF a (ab (C.take i) ++ C[i].2.take j) = iw a b (ab C) := fun z => (v8 (hat ▸ hU) hJ z).trans (congrArg (iw a b) hat.symm)
      have hJ2 : ¬ b < C[i].2[j].1 → ∀ x ∈ ab (C.take i) ++ C[i].2.take (j + 1), x.1 ≤ b := fun z x hx => by
        rw [fT, ← List.append_assoc] at hx
        rcases List.mem_append.1 hx with q | q
        · exact hJ x q
        · rw [List.mem_singleton.1 q]; omega
      have fY : a ≤ C[i].2[j].1 → (smp (geF a (ab (C.take i) ++ C[i].2.take j)) ++ [AV.si .i64 C[i].2[j].1, AV.si .i64 C[i].2[j].2]).map mk = smp (geF a (ab (C.take i) ++ C[i].2.take (j + 1))) ∧ (geF a (ab (C.take i) ++ C[i].2.take j)).length + 1 = (geF a (ab (C.take i) ++ C[i].2.take (j + 1))).length := fun z => by
        have : geF a (ab (C.take i) ++ C[i].2.take (j + 1)) = geF a (ab (C.take i) ++ C[i].2.take j) ++ [C[i].2[j]] := by
          rw [fT, ← List.append_assoc]
          unfold geF
          rw [List.filter_append, List.filter_cons_of_pos (by simpa using z), List.filter_nil]
        rw [this, List.map_append, ba]
        exact ⟨by rw [mg]; rfl, by simp⟩
      have fN : ¬ a ≤ C[i].2[j].1 → geF a (ab (C.take i) ++ C[i].2.take j) = geF a (ab (C.take i) ++ C[i].2.take (j + 1)) := fun z => by
        rw [fT, ← List.append_assoc]
        generalize ab (C.take i) ++ C[i].2.take j = X
        unfold geF
        rw [List.filter_append, List.filter_cons_of_neg (by simpa using z), List.filter_nil, List.append_nil]
      have hbig : ((geF a (ab (C.take i) ++ C[i].2.take j)).length + 1) * 16 ≤ 140737488355328 := by
        have h5 : (geF a (ab (C.take i) ++ C[i].2.take j)).length ≤ (ab (C.take i) ++ C[i].2.take j).length := List.length_filter_le _ _
        have h6 := congrArg List.length hat
        rw [List.length_append, List.length_cons] at h6
        omega
      conv => whnf
      refine Idx.mk j rfl h3 ?_
      conv => whnf
      refine aD (du h3 rfl) ?_
      conv => whnf
      refine Yld.mk _ hY ⟨rgI a b (geF a (ab (C.take i) ++ C[i].2.take j)), 7, _, rfl, rfl, xD, bH rfl, ?_⟩
      conv => whnf
      refine ⟨((bH rfl).set rfl).set rfl, ?_⟩
      conv => whnf
      refine ak.dec (fun z => ?_) (fun z => ?_)
      focus
        conv => whnf
        refine ⟨((bH rfl).set rfl).set rfl, rgI a b (geF a (ab (C.take i) ++ C[i].2.take j)), 7, xE (k := 6) rfl rfl rfl rfl rfl rfl rfl rfl (ai.rw (Nat.le_of_ble_eq_true rfl) rfl) (.inl ⟨_, rfl, ba _⟩) (by decide), bH rfl, ?_⟩
        conv => whnf
        refine ⟨.done, some (.exit 0), rgI a b (geF a (ab (C.take i) ++ C[i].2.take j)), 7, rfl, (fun q => by cases q), .inr rfl, bH rfl, ?_⟩
        conv => whnf
        refine ⟨bH rfl, ?_⟩
        conv => whnf
        exact .inr ⟨6, 0, _, 2, 0, smp _, true, rfl, rfl, bO _, BJ (N := 8) (by decide) (fS z) rfl rfl rfl rfl⟩
      conv => whnf
      refine ak.dec (fun z2 => ?_) (fun z2 => ?_)
      focus
        conv => whnf
        refine jf.grow 2 16 1 (geF a (ab (C.take i) ++ C[i].2.take j)).length [.si .i64 C[i].2[j].1, .si .i64 C[i].2[j].2] (smp (geF a (ab (C.take i) ++ C[i].2.take j))) _ true IZ (.old rfl) rfl rfl (.rw rfl (dw _)) hbig ?_
        conv => whnf
        refine ⟨?_, rgI a b (geF a (ab (C.take i) ++ C[i].2.take (j + 1))), 7, xE (k := 9) rfl rfl rfl rfl rfl rfl rfl rfl (ai.rw (Nat.le_of_ble_eq_true rfl) rfl (fY z2).2) (.inl ⟨_, rfl, (fY z2).1⟩) (by decide), bH rfl, ?_⟩
        · repeat first | exact bH rfl | refine b8.set ?_ rfl | refine b8.del ?_
        conv => whnf
        exact ⟨⟨j + 1, h3, hJ2 z⟩, by show C[i].2.length - (j + 1) < C[i].2.length - j; omega, uM _ (so rfl rfl rfl rfl rfl rfl (congrArg (AV.si .i64) hw2)) rfl rfl rfl rfl⟩
      conv => whnf
      refine ⟨?_, rgI a b (geF a (ab (C.take i) ++ C[i].2.take (j + 1))), 7, xE (k := 6) rfl rfl rfl rfl rfl rfl rfl rfl (ai.rw (Nat.le_of_ble_eq_true rfl) rfl (congrArg List.length (fN z2))) (.inl ⟨_, rfl, (ba _).trans (congrArg smp (fN z2))⟩) (by decide), bH rfl, ?_⟩
      · exact ((bH rfl).set rfl).set rfl
      conv => whnf
      exact ⟨⟨j + 1, h3, hJ2 z⟩, by show C[i].2.length - (j + 1) < C[i].2.length - j; omega, uM _ (so rfl rfl rfl rfl rfl rfl (congrArg (AV.si .i64) hw2)) rfl rfl rfl rfl⟩
    have h4 : j = C[i].2.length := by
      have h : ¬ (j : Int) < (C[i].2.length : Int) := h
      omega
    conv => whnf
    exact ⟨⟨i + 1, h2, hI2 h4 hJ⟩, by show C.length - (i + 1) < C.length - i; omega, uM _ (xF rfl rfl rfl (congrArg (AV.si .i64) hw)) rfl rfl rfl (congrArg (fun X => some (AO.sep (rgQ L D rec ρ a b X))) (fE h4))⟩
  have h2 : i = C.length := by
    have h : ¬ (i : Int) < ((pts C).length : Int) := h
    rw [al] at h; omega
  have fZ : geF a (ab (C.take i)) = iw a b (ab C) := by
    rw [xG hI, h2, List.take_length]
  conv => whnf
  refine ⟨.ready, none, rgI a b (geF a (ab (C.take i))), 7, rfl, (fun q => by cases q), .inl rfl, bH rfl, ?_⟩
  conv => whnf
  refine ⟨bH rfl, ?_⟩
  conv => whnf
  exact .inr ⟨6, 0, _, 2, 0, smp _, true, rfl, rfl, bO _, BJ (N := 7) (by decide) fZ rfl rfl rfl rfl⟩
theorem Dn (f : Nat → Nat) (L : Smp) : dq f (smp L) = smp L := by
  induction L with
  | nil => rfl
  | cons c L ih =>
    show AV.si .i64 c.1 :: AV.si .i64 c.2 :: dq f (smp L) = _
    rw [ih]; rfl
theorem Fv (m : Nat) (L : Smp) : jt m (smp L) = true := by
  induction L with
  | nil => rfl
  | cons c L ih => exact ih
theorem pD {f : FuncId} {run : List AV → AH → Nat → PK → Prop} (hrun : aM f run) (hic : ah Try.prog f = true) {ar0 : List AV} {S : Sr} {C : Ck5} {O : Smp} (h : cV run (.ptr 0 0 :: ar0) (mkH (dH (fo S (pts C) C) 0)) 3 (RgP S C O)) (har : ∀ r, dq r ar0 = ar0)
    {φ : Ph} {H : AH} {n : Nat} {h0 hp : Hp} {vs : Array Value} {κ : PK} {K : KH} {r k q : Nat} (hr : HR φ H n h0 hp) (hR : dJ H n r k q S (pts C) C) (hargs : VRs φ (.ptr r 0 :: ar0) vs.toList) (hk : cq φ h0 κ K) (hs : κ (.rw n 0 O.length 2 0) (PM.set (some (.cells (smp O) true)) aa H n) (n + 1)) : dg Try.prog f vs hp K := by
  refine cG (S := [r, k, q]) (O := fo S (pts C) C) (args0 := .ptr 0 0 :: ar0) (aM.cV hrun) hic hr hR.xo (by show VRs φ (ren _ _ :: dq _ ar0) vs.toList; rw [har]; exact hargs) hk h fun u H' n' ⟨g0, g1, g2⟩ => ?_
  subst g0 g1 g2
  refine ⟨4, PM.set (some (.cells (smp O) true)) aa H n, Nat.le_of_ble_eq_true rfl, fun b o hb => ?_, rfl, hs⟩
  rcases PM.ao aa H n b o hb with ⟨rfl, h2⟩ | ⟨h1, h2⟩
  · injection h2 with h2; subst h2
    exact .inl ⟨3, .cells (smp O) true, by decide, rfl, rfl, rfl, Fv _ _, by rw [dS, Dn]⟩
  · by_cases hb : b ∈ [r, k, q]
    · left
      simp only [List.mem_cons, List.not_mem_nil, or_false] at hb
      rcases hb with rfl | rfl | rfl
      · rw [hR.hr] at h2; injection h2 with h2; subst h2
        exact ⟨0, _, by decide, rfl, rfl, rfl, rfl, rfl⟩
      · rw [hR.hk] at h2; injection h2 with h2; subst h2
        exact ⟨1, _, by decide, rfl, rfl, rfl, nI _ _, by rw [dS, jZ]⟩
      · rw [hR.hq] at h2; injection h2 with h2; subst h2
        exact ⟨2, _, by decide, rfl, rfl, rfl, rfl, rfl⟩
    · exact .inr ⟨by show b < n ∨ n + 1 ≤ b; omega, h2, fun q => absurd q hb⟩
def mn (A : Sr → Ck5 → List AV → Smp → Prop) (args : List AV) (H : AH) (n : Nat) (κ : PK) : Prop := match args with
  | x :: ar => ∃ (r k q : Nat) (S : Sr) (C : Ck5) (O : Smp), x = .ptr r 0 ∧ dJ H n r k q S (pts C) C ∧ (n < 900000 ∧ PM.get H n = none) ∧ A S C ar O ∧ κ (.rw n 0 O.length 2 0) (PM.set (some (.cells (smp O) true)) aa H n) (n + 1)
  | _ => False
theorem v9 (A : Sr → Ck5 → List AV → Smp → Prop) : kN (mn A) := fun args H n κ hs => by
  unfold mn at *
  split at hs
  · obtain ⟨r, k, q, S, C, O, h1, h2, h3, h4, h5⟩ := hs
    exact ⟨_, _, _, h5, fun b o hb => PM.gne (by omega) (fun e => by subst e; rw [h3.2] at hb; cases hb) hb, Nat.le_succ n, fun κ' h => ⟨r, k, q, S, C, O, h1, h2, h3, h4, h⟩⟩
  · exact hs.elim
def BK (S : Sr) (C : Ck5) (ar : List AV) (O : Smp) : Prop := ∃ y z a b, ar = [y, z] ∧ mk y = .si .i64 a ∧ mk z = .si .i64 b ∧ Okc S C ∧ Up (ab C) ∧ (ab C).length ≤ 100000 ∧ O = iw a b (ab C)
theorem qz : ah Try.prog 18 = true := by kernel_rfl
theorem Ee : aM 18 (mn BK) := fun args H n κ hs φ h0' hp vs K hr hargs hk => by
  unfold mn at hs
  split at hs
  · obtain ⟨w1, us1, q1, e1, r1⟩ := hargs.cons_inv
    obtain ⟨r, k, q, S, C, O, rfl, hR, hn, ⟨y, z, a, b, rfl, hy, hz, hO, hU, hf, rfl⟩, hs⟩ := hs
    obtain ⟨w2, us2, q2, e2, r2⟩ := r1.cons_inv
    obtain ⟨w3, us3, q3, e3, r3⟩ := r2.cons_inv
    exact pD (uL qz (bE tab.mixed dY 5) (iE dY) (ff dY)) qz (y5 S C a b hO hU hf) (fun _ => rfl) hr hR (by rw [q1, q2, q3]; exact .cons e1 (.cons (aC rfl (hy ▸ e2.mk)) (.cons (aC rfl (hz ▸ e3.mk)) r3))) hk hs
  · exact hs.elim
end Go.Proofs.Ytapjijhjnloimaa
namespace Go.Proofs.Ytapjijhjnloimaa
open Go Go.RowKit
noncomputable def lnI (m : Nat) : AH := mkH [(3, .cells [.si .i64 (m : Int)] true)]
noncomputable def lnE : AE := mkE [(3, .ptr 3 0)]
noncomputable def lcM (S : Sr) (C : Ck5) (Q : HP) : AH := mkH [(0, .cells (bU S 1 (pts C).length) true), (1, .cells (aL (pts C)) true), (2, cv S C), (4, .sep Q)]
noncomputable abbrev lnQ (L D : Nat) (rec : Loop) (ρ : Env) (X : Smp) : HP := uK (gT L D rec .ready none) lnE ρ (lnI X.length) 4
theorem Ef {σ : AE} {H : AH} {n m : Nat} {l3 : List AV} (e3 : aA (pa 3) σ = .ptr 3 0) (h3 : PM.get H 3 = some (.cells l3 true)) (g3 : l3.map mk = [.si .i64 (m : Int)]) : Cov 0 σ H n (lnE, lnI m, 4) := by
  refine Cov.ofR (m := 4) (p := 0) (fun c => c) (Nat.zero_le _) (fun b hb => rfl) (fun x hx => ?_) (fun x hx => ?_) (fun x hx y hy e => e)
  · simp only [List.mem_cons, List.not_mem_nil, or_false] at hx
    subst hx
    exact ai.ptr (by decide) e3
  · simp only [List.mem_cons, List.not_mem_nil, or_false] at hx
    subst hx
    exact ⟨Nat.le_of_ble_eq_true rfl, .inl ⟨_, h3, aQ.bA rfl g3 id⟩⟩
theorem xH {σ : AE} {H : AH} {n : Nat} {S : Sr} {C : Ck5} {Q : HP} (le : List (Nat × AV)) (he : ∀ x ∈ le, ai H 5 (fun b => b) (aA (pa x.1) σ) x.2) (h0 : PM.get H 0 = some (.cells (bU S 1 (pts C).length) true)) (h1 : PM.get H 1 = some (.cells (aL (pts C)) true)) (h2 : PM.get H 2 = some (cv S C)) (h6 : PM.get H 4 = some (.sep Q)) : Cov 5 σ H n (mkE le, lcM S C Q, 5) := by
  refine Cov.ofR (m := 5) (p := 5) (fun b => b) (Nat.le_refl _) (fun b hb => rfl) he ?_ (fun x hx y hy e => e)
  intro x hx
  simp only [List.mem_cons, List.not_mem_nil, or_false] at hx
  rcases hx with rfl | rfl | rfl | rfl
  · exact ⟨Nat.le_of_ble_eq_true rfl, .inl ⟨_, h0, aQ.bU rfl rfl rfl rfl rfl (ai.rw (Nat.le_of_ble_eq_true rfl) rfl)⟩⟩
  · exact ⟨Nat.le_of_ble_eq_true rfl, .inl ⟨_, h1, aQ.aL (aq _)⟩⟩
  · exact ⟨Nat.le_of_ble_eq_true rfl, .inl ⟨_, h2, aQ.sep _⟩⟩
  · exact ⟨Nat.le_of_ble_eq_true rfl, .inl ⟨_, h6, aQ.sep _⟩⟩
theorem uO {H : AH} {σ : AE} {C : Ck5} {L i : Nat} (e1 : aA (pa 1) σ = pN L) (e14 : aA (pa 14) σ = .rw 1 0 (pts C).length 1 0) (e15 : mk (aA (pa 15) σ) = .si .i64 ((pts C).length : Int)) (e16 : mk (aA (pa 16) σ) = .si .i64 (i : Int)) : ∀ x ∈ lo1 C L i, ai H 5 (fun b => b) (aA (pa x.1) σ) x.2 := fun x hx => by
  simp only [List.mem_cons, List.not_mem_nil, or_false] at hx
  rcases hx with rfl | rfl | rfl | rfl
  · show ai H 5 _ (aA (pa 1) σ) (pN L)
    rw [e1]; exact fun _ _ _ _ _ h => h
  · exact ai.rw (Nat.le_of_ble_eq_true rfl) e14
  · exact ai.int e15
  · exact ai.int e16
theorem uP {H : AH} {σ : AE} {C : Ck5} {L i j : Nat} {X : Smp} (e1 : aA (pa 1) σ = pN L) (e14 : aA (pa 14) σ = .rw 1 0 (pts C).length 1 0) (e15 : mk (aA (pa 15) σ) = .si .i64 ((pts C).length : Int)) (e16 : mk (aA (pa 16) σ) = .si .i64 (i : Int)) (e21 : aA (pa 21) σ = .fr X.length 2 (smp X)) (e22 : mk (aA (pa 22) σ) = .si .i64 (X.length : Int)) (e23 : mk (aA (pa 23) σ) = .si .i64 (j : Int)) : ∀ x ∈ lo2 C L i X j, ai H 5 (fun b => b) (aA (pa x.1) σ) x.2 := fun x hx => by
  simp only [List.mem_cons, List.not_mem_nil, or_false] at hx
  rcases hx with rfl | rfl | rfl | rfl | rfl | rfl | rfl
  · show ai H 5 _ (aA (pa 1) σ) (pN L)
    rw [e1]; exact fun _ _ _ _ _ h => h
  · exact ai.rw (Nat.le_of_ble_eq_true rfl) e14
  · exact ai.int e15
  · exact ai.int e16
  · exact ai.frE e21
  · exact ai.int e22
  · exact ai.int e23
theorem Dp (S : Sr) (C : Ck5) (hO : Okc S C) (hf : (ab C).length ≤ 100000) : cV (RfG cRg (kK KRf) 20) [.ptr 0 0] (mkH (dH (fo S (pts C) C) 0)) 3 (RoP (fun u => u = .si .i64 ((ab C).length : Int)) S (pts C) C) := by
  have hl := hO.few
  have hlo := hO.lo
  show RfG cRg _ _ _ _ _ _
  conv => whnf
  refine ⟨by kernel_rfl, Nat.le_of_ble_eq_true rfl, ?_⟩
  conv => whnf
  refine ⟨by decide, 65, [.ptr 0 0], [3], mkH [(3, .cells [.int .i64 0] true)], mkH [(0, .cells (bU S 1 (pts C).length) true), (1, .cells (aL (pts C)) true), (2, cv S C)], lnE, lnI 0, 4, rfl, rfl, fun c o h => ?_, fun c o h => ?_, fun c o h => ?_, ?_, fun L D rec ρ hY => ?_⟩
  · have hm := aX h
    simp only [List.mem_cons, List.not_mem_nil, or_false] at hm
    injection hm with h1 h2; subst h1 h2; rfl
  · have hm := aX h
    simp only [List.mem_cons, List.not_mem_nil, or_false] at hm
    rcases hm with hm | hm | hm <;> (injection hm with h1 h2; subst h1 h2; rfl)
  · have hm := aX h
    simp only [List.mem_cons, List.not_mem_nil, or_false] at hm
    injection hm with h1 h2; subst h1 h2; exact ⟨rfl, rfl⟩
  · exact Ef rfl rfl rfl
  conv => whnf
  refine ak.dF (fun z => absurd (show (0 : Int) < (S.sz : Int) by omega) z) (fun _ => ?_)
  conv => whnf
  refine bz.mk { i : Nat // i ≤ C.length } 5 (fun i => (mkE (lo1 C L i.val), lcM S C (lnQ L D rec ρ (ab (C.take i.val))))) (fun i => C.length - i.val) ⟨0, Nat.zero_le _⟩ ?_ ?_
  focus
    exact xH _ (uO rfl rfl rfl rfl) rfl rfl rfl rfl
  intro ⟨i, hi⟩
  have hw : IntKind.i64.wrap ((i : Int) + 1) = ((i + 1 : Nat) : Int) := by rw [aI (by omega) (by omega)]; omega
  conv => whnf
  refine ak.dec (fun h => ?_) (fun h => ?_)
  focus
    have h2 : i < C.length := by
      have h : (i : Int) < ((pts C).length : Int) := h
      rw [al] at h; omega
    conv => whnf
    refine Idx.mk i rfl (by rw [al]; exact h2) ?_
    conv => whnf
    refine aD (b9 h2 (show 0 + i * 1 = i by omega)) ?_
    conv => whnf
    refine ⟨2, S.sz, C.take i, C.drop (i + 1), C[i].1, C[i].2, rfl, congrArg some (mV h2), by omega, hO.fine _ (List.getElem_mem h2), ?_⟩
    conv => whnf
    refine bz.mk { j : Nat // j ≤ C[i].2.length } 5 (fun j => (mkE (lo2 C L i C[i].2 j.val), lcM S C (lnQ L D rec ρ (ab (C.take i) ++ C[i].2.take j.val)))) (fun j => C[i].2.length - j.val) ⟨0, Nat.zero_le _⟩ ?_ ?_
    focus
      exact xH _ (uP rfl rfl rfl rfl rfl rfl rfl) rfl rfl rfl (congrArg (fun X => some (AO.sep (lnQ L D rec ρ X))) (List.append_nil _).symm)
    have hF := (hO.fine _ (List.getElem_mem h2)).2.2
    have fE : ∀ {j : Nat}, j = C[i].2.length → ab (C.take i) ++ C[i].2.take j = ab (C.take (i + 1)) := fun {j} e => by rw [pC h2, e, List.take_length]
    intro ⟨j, hj⟩
    have hw2 : IntKind.i64.wrap ((j : Int) + 1) = ((j + 1 : Nat) : Int) := by rw [aI (by omega) (by omega)]; omega
    conv => whnf
    refine ak.dec (fun h => ?_) (fun h => ?_)
    focus
      have h3 : j < C[i].2.length := by
        have h : (j : Int) < (C[i].2.length : Int) := h
        omega
      have hat := uN h2 h3
      have fT : C[i].2.take (j + 1) = C[i].2.take j ++ [C[i].2[j]] := List.take_succ_eq_append_getElem h3
      have fW : IntKind.i64.wrap (((ab (C.take i) ++ C[i].2.take j).length : Int) + 1) = ((ab (C.take i) ++ C[i].2.take (j + 1)).length : Int) := by
        have h6 := congrArg List.length hat
        rw [List.length_append, List.length_cons] at h6
        rw [fT, ← List.append_assoc, List.length_append (bs := [_]), aI (by omega) (by omega)]
        simp
      conv => whnf
      refine Idx.mk j rfl h3 ?_
      conv => whnf
      refine aD (du h3 rfl) ?_
      conv => whnf
      refine Yld.mk _ hY ⟨lnI (ab (C.take i) ++ C[i].2.take j).length, 4, _, rfl, rfl, xD, bH rfl, ?_⟩
      conv => whnf
      refine ⟨bH rfl, ?_⟩
      conv => whnf
      refine ⟨?_, lnI (ab (C.take i) ++ C[i].2.take (j + 1)).length, 4, Ef rfl rfl (congrArg (fun q => [AV.si .i64 q]) fW), bH rfl, ?_⟩
      · repeat first | exact bH rfl | refine b8.set ?_ rfl | refine b8.del ?_
      conv => whnf
      exact ⟨⟨j + 1, h3⟩, by show C[i].2.length - (j + 1) < C[i].2.length - j; omega, xH _ (uP rfl rfl rfl rfl rfl rfl (congrArg (AV.si .i64) hw2)) rfl rfl rfl rfl⟩
    have h4 : j = C[i].2.length := by
      have h : ¬ (j : Int) < (C[i].2.length : Int) := h
      omega
    conv => whnf
    exact ⟨⟨i + 1, h2⟩, by show C.length - (i + 1) < C.length - i; omega, xH _ (uO rfl rfl rfl (congrArg (AV.si .i64) hw)) rfl rfl rfl (congrArg (fun X => some (AO.sep (lnQ L D rec ρ X))) (fE h4))⟩
  have h2 : i = C.length := by
    have h : ¬ (i : Int) < ((pts C).length : Int) := h
    rw [al] at h; omega
  have fZ : ab (C.take i) = ab C := by rw [h2, List.take_length]
  conv => whnf
  refine ⟨.ready, none, lnI (ab (C.take i)).length, 4, rfl, (fun q => by cases q), .inl rfl, bH rfl, ?_⟩
  conv => whnf
  refine ⟨bH rfl, ?_⟩
  conv => whnf
  exact .inl ⟨fun φ ψ u h => h, jr _ (congrArg (fun X : Smp => AV.si .i64 (X.length : Int)) fZ) (VTo.mk5 rfl) VR.cJ rfl rfl rfl⟩
def BL (S : Sr) (C : Ck5) (ar : List AV) (v : AV) : Prop := ar = [] ∧ Okc S C ∧ (ab C).length ≤ 100000 ∧ v = .si .i64 ((ab C).length : Int)
theorem Eg : ah Try.prog 20 = true := by kernel_rfl
theorem Fw : aM 20 (dA BL) := fO (uL Eg (bE tab.mixed dY 5) (iE dY) (ff dY)) Eg fun S C ar v hA => by
  obtain ⟨h1, h2, h3, h4⟩ := hA
  subst h1 h4
  exact ⟨[], fun φ vs h => h, fun _ => rfl, ⟨fun _ => rfl, rfl⟩, Dp S C h2 h3⟩
end Go.Proofs.Ytapjijhjnloimaa
namespace Go.Proofs.Ytapjijhjnloimaa
open Go Go.RowKit
def BM : DT := [(5, [(some 1000000, []), (none, [0, 1, 2, 3, 4, 5, 6, 7, 8, 9, 10, 11, 12, 13, 14, 15])])]
noncomputable def Fx : FuncId → EP := bB 24 BM (dG 18 (mn BK) evP)
theorem Dq : bI Fx := aE (bN a8 Ee (v9 _)) (by kernel_rfl) (by kernel_rfl)
theorem I0 (S : Sr) (C : Ck5) : dJ (mkH (dH (fo S (pts C) C) 0)) 3 0 1 2 S (pts C) C := ⟨⟨by decide, by decide, by decide⟩, ⟨by decide, by decide, by decide⟩, rfl, rfl, rfl⟩
def at5 (L : Smp) (i : Nat) : Int × Int := L.getD i (0, 0)
theorem mW {L : Smp} {i : Nat} (h : i < L.length) : L[i] = at5 L i := by simp [at5, h]
theorem pE {p : Int × Int} : ∀ {X : Smp} {i o : Nat}, i < X.length → o = i * 2 → dC (smp X) o [.si .i64 p.1, .si .i64 p.2] = some (smp (X.set i p))
  | [], i, o, h, _ => by simp at h
  | x :: X, 0, o, h, ho => by
    subst ho
    show dC (AV.si .i64 x.1 :: AV.si .i64 x.2 :: smp X) 0 _ = some (AV.si .i64 p.1 :: AV.si .i64 p.2 :: smp X)
    cases smp X <;> rfl
  | x :: X, i + 1, o, h, ho => by
    have := pE (p := p) (X := X) (i := i) (o := i * 2) (by simpa using h) rfl
    subst ho
    rw [show (i + 1) * 2 = i * 2 + 1 + 1 from by omega]
    show dC (AV.si .i64 x.1 :: AV.si .i64 x.2 :: smp X) (i * 2 + 1 + 1) _ = some (AV.si .i64 x.1 :: AV.si .i64 x.2 :: smp (X.set i p))
    simp only [dC] at this ⊢
    rw [this]; rfl
def bkF (O : Smp) : Nat → Smp
  | 0 => O
  | i + 1 => ((bkF O i).set i (at5 (bkF O i) (O.length - 1 - i))).set (O.length - 1 - i) (at5 (bkF O i) i)
theorem c7 (O : Smp) : ∀ i, (bkF O i).length = O.length
  | 0 => rfl
  | i + 1 => by simp [bkF, c7 O i]
noncomputable def bkM (S : Sr) (C : Ck5) (X : Smp) : AH := mkH [(0, .cells (bU S 1 (pts C).length) true), (1, .cells (aL (pts C)) true), (2, cv S C), (3, .cells (smp X) true)]
abbrev bo (n i : Nat) : List (Nat × AV) := [(7, .rw 3 0 n 2 0), (8, .si .i64 (i : Int)), (9, .si .i64 ((n : Int) - 1 - i))]
theorem Eh {σ : AE} {H : AH} {n : Nat} {S : Sr} {C : Ck5} {X : Smp} (le : List (Nat × AV)) {l : List AV} (he : ∀ x ∈ le, ai H 4 (fun b => b) (aA (pa x.1) σ) x.2) (h0 : PM.get H 0 = some (.cells (bU S 1 (pts C).length) true)) (h1 : PM.get H 1 = some (.cells (aL (pts C)) true)) (h2 : PM.get H 2 = some (cv S C)) (h3 : PM.get H 3 = some (.cells l true)) (hl : l.map mk = smp X) : Cov 3 σ H n (mkE le, bkM S C X, 4) := by
  refine Cov.ofR (m := 4) (p := 3) (fun b => b) (by decide) (fun b hb => rfl) he ?_ (fun x hx y hy e => e)
  intro x hx
  simp only [List.mem_cons, List.not_mem_nil, or_false] at hx
  rcases hx with rfl | rfl | rfl | rfl
  · exact ⟨Nat.le_of_ble_eq_true rfl, .inl ⟨_, h0, aQ.bU rfl rfl rfl rfl rfl (ai.rw (Nat.le_of_ble_eq_true rfl) rfl)⟩⟩
  · exact ⟨Nat.le_of_ble_eq_true rfl, .inl ⟨_, h1, aQ.aL (aq _)⟩⟩
  · exact ⟨Nat.le_of_ble_eq_true rfl, .inl ⟨_, h2, aQ.sep _⟩⟩
  · exact ⟨Nat.le_of_ble_eq_true rfl, .inl ⟨_, h3, aQ.bA (bO _) (by rw [hl, ba]) id⟩⟩
theorem xI {X : Smp} {i p : Nat} {v : Int × Int} (h : p < X.length) : at5 (X.set i v) p = if i = p then v else at5 X p := by
  rw [← mW (by rw [List.length_set]; exact h), List.getElem_set, mW h]
theorem BN (O : Smp) : ∀ (i : Nat), 2 * i ≤ O.length + 1 → ∀ p, p < O.length → at5 (bkF O i) p = if p < i ∨ O.length - 1 - i < p then at5 O (O.length - 1 - p) else at5 O p
  | 0, _, p, hp => by
    rw [if_neg (by omega)]; rfl
  | i + 1, h, p, hp => by
    have ih := BN O i (by omega)
    have h1 : i < (bkF O i).length := by rw [c7]; omega
    have h2 : O.length - 1 - i < (bkF O i).length := by rw [c7]; omega
    have hpl : p < (bkF O i).length := by rw [c7]; exact hp
    have e : at5 (bkF O (i + 1)) p = if O.length - 1 - i = p then at5 (bkF O i) i else if i = p then at5 (bkF O i) (O.length - 1 - i) else at5 (bkF O i) p := by
      show at5 (((bkF O i).set i (at5 (bkF O i) (O.length - 1 - i))).set (O.length - 1 - i) (at5 (bkF O i) i)) p = _
      rw [xI (by rw [List.length_set]; exact hpl), xI hpl]
    rw [e]
    by_cases c1 : O.length - 1 - i = p
    · rw [if_pos c1, ih i (by omega), if_neg (by omega), if_pos (by omega)]
      congr 1; omega
    · rw [if_neg c1]
      by_cases c2 : i = p
      · subst c2
        rw [if_pos rfl, ih _ (by omega), if_neg (by omega), if_pos (by omega)]
      · rw [if_neg c2, ih p hp]
        by_cases c3 : p < i ∨ O.length - 1 - i < p
        · rw [if_pos c3, if_pos (by omega)]
        · rw [if_neg c3, if_neg (by omega)]
theorem Dr {O : Smp} {i : Nat} (h1 : 2 * i ≤ O.length + 1) (h2 : O.length - 1 ≤ 2 * i) : bkF O i = O.reverse := by
  refine List.ext_getElem (by rw [c7, List.length_reverse]) fun p hp hq => ?_
  have hp' : p < O.length := by rw [c7] at hp; exact hp
  rw [mW hp, BN O i h1 p hp', List.getElem_reverse, mW (by omega)]
  by_cases c : p < i ∨ O.length - 1 - i < p
  · rw [if_pos c]
  · rw [if_neg c]; congr 1; omega
theorem Gx {H : AH} {n N : Nat} {S : Sr} {C : Ck5} {O X : Smp} (hO : X = O) (hN : N = X.length) (h0 : PM.get H 0 = some (.cells (bU S 1 (pts C).length) true)) (h1 : PM.get H 1 = some (.cells (aL (pts C)) true)) (h2 : PM.get H 2 = some (cv S C)) (h3 : PM.get H 3 = some (.cells (smp X) true)) : ∃ (v2 : AV) (H2 : AH) (m : Nat), Cov 3 (mkE [(0, .rw 3 0 N 2 0)]) H n (mkE [(0, v2)], H2, m) ∧ RgP S C O v2 H2 m := by
  subst hN
  exact BJ (by decide) hO h0 h1 h2 h3
theorem BO {H : AH} {σ : AE} {n i : Nat} (e7 : aA (pa 7) σ = .rw 3 0 n 2 0) (e8 : mk (aA (pa 8) σ) = .si .i64 (i : Int)) (e9 : mk (aA (pa 9) σ) = .si .i64 ((n : Int) - 1 - i)) : ∀ x ∈ bo n i, ai H 4 (fun b => b) (aA (pa x.1) σ) x.2 := fun x hx => by
  simp only [List.mem_cons, List.not_mem_nil, or_false] at hx
  rcases hx with rfl | rfl | rfl
  · exact ai.rw (Nat.le_of_ble_eq_true rfl) e7
  · exact ai.int e8
  · exact ai.int e9
theorem BP (S : Sr) (C : Ck5) (a b : Int) (O : Smp) (hOe : O = iw a b (ab C)) (hO : Okc S C) (hU : Up (ab C)) (hf : (ab C).length ≤ 100000) : cV (az Fx 5 24) [.ptr 0 0, .si .i64 a, .si .i64 b] (mkH (dH (fo S (pts C) C) 0)) 3 (RgP S C O.reverse) := by
  have hol : O.length ≤ 100000 := by
    rw [hOe]
    exact Nat.le_trans (List.length_filter_le _ _) hf
  show az Fx 5 _ _ _ _ _
  conv => whnf
  refine ⟨0, 1, 2, S, C, O, rfl, I0 S C, ⟨by decide, rfl⟩, ⟨_, _, a, b, rfl, rfl, rfl, hO, hU, hf, hOe⟩, ?_⟩
  have hw0 : IntKind.i64.wrap ((O.length : Int) - 1) = (O.length : Int) - 1 - (0 : Nat) := by rw [aI (by omega) (by omega)]; simp
  conv => whnf
  refine bz.mk { i : Nat // 2 * i ≤ O.length + 1 } 4 (fun i => (mkE (bo O.length i.val), bkM S C (bkF O i.val))) (fun i => O.length + 1 - 2 * i.val) ⟨0, Nat.zero_le _⟩ ?_ ?_
  focus
    exact Eh _ (BO rfl rfl (congrArg (AV.si .i64) hw0)) rfl rfl rfl rfl (ba _)
  intro ⟨i, hi⟩
  conv => whnf
  refine ak.dec (fun h => ?_) (fun h => ?_)
  focus
    have h : (i : Int) < (O.length : Int) - 1 - i := h
    have hk : (((O.length - 1 - i : Nat)) : Int) = (O.length : Int) - 1 - i := by omega
    have h1 : i < (bkF O i).length := by rw [c7]; omega
    have h2 : O.length - 1 - i < (bkF O i).length := by rw [c7]; omega
    have h1' : i < O.length := by omega
    have h2' : O.length - 1 - i < O.length := by omega
    have he : ∀ q : Nat, 0 + q * 2 = q * 2 := fun q => by omega
    have hw1 : IntKind.i64.wrap ((i : Int) + 1) = ((i + 1 : Nat) : Int) := by rw [aI (by omega) (by omega)]; omega
    have hw2 : IntKind.i64.wrap ((O.length : Int) - 1 - i - 1) = (O.length : Int) - 1 - (i + 1 : Nat) := by rw [aI (by omega) (by omega)]; omega
    have fB : smp (((bkF O i).set i (bkF O i)[O.length - 1 - i]).set (O.length - 1 - i) (bkF O i)[i]) = smp (bkF O (i + 1)) := by
      rw [mW h1, mW h2]; rfl
    conv => whnf
    refine ⟨?_, trivial⟩
    conv => whnf
    refine Idx.mk (O.length - 1 - i) hk.symm h2' ?_
    conv => whnf
    refine aD (du h2 (he _)) ?_
    conv => whnf
    refine Idx.mk i rfl h1' ?_
    conv => whnf
    refine aD (du h1 (he _)) ?_
    conv => whnf
    refine Idx.mk i rfl h1' ?_
    conv => whnf
    refine aD (pE h1 (he _)) ?_
    conv => whnf
    refine Idx.mk (O.length - 1 - i) hk.symm h2' ?_
    conv => whnf
    refine aD (pE (by rw [List.length_set]; exact h2) (he _)) ?_
    conv => whnf
    exact ⟨⟨i + 1, by omega⟩, by show O.length + 1 - 2 * (i + 1) < O.length + 1 - 2 * i; omega, Eh _ (BO rfl (congrArg (AV.si .i64) hw1) (congrArg (AV.si .i64) hw2)) rfl rfl rfl rfl ((ba _).trans fB)⟩
  have h : ¬ (i : Int) < (O.length : Int) - 1 - i := h
  have fR : bkF O i = O.reverse := Dr (by omega) (by omega)
  conv => whnf
  exact Gx fR (c7 O i).symm rfl rfl rfl rfl
def Ei (S : Sr) (C : Ck5) (ar : List AV) (O : Smp) : Prop := ∃ y z a b, ar = [y, z] ∧ mk y = .si .i64 a ∧ mk z = .si .i64 b ∧ Okc S C ∧ Up (ab C) ∧ (ab C).length ≤ 100000 ∧ O = (iw a b (ab C)).reverse
theorem Gy : aM 24 (mn Ei) := fun args H n κ hs φ h0' hp vs K hr hargs hk => by
  unfold mn at hs
  split at hs
  · obtain ⟨w1, us1, q1, e1, r1⟩ := hargs.cons_inv
    obtain ⟨r, k, q, S, C, O, rfl, hR, hn, ⟨y, z, a, b, rfl, hy, hz, hO, hU, hf, rfl⟩, hs⟩ := hs
    obtain ⟨w2, us2, q2, e2, r2⟩ := r1.cons_inv
    obtain ⟨w3, us3, q3, e3, r3⟩ := r2.cons_inv
    exact pD (aG Dq 5 _) (by kernel_rfl) (BP S C a b _ rfl hO hU hf) (fun _ => rfl) hr hR (by rw [q1, q2, q3]; exact .cons e1 (.cons (aC rfl (hy ▸ e2.mk)) (.cons (aC rfl (hz ▸ e3.mk)) r3))) hk hs
  · exact hs.elim
end Go.Proofs.Ytapjijhjnloimaa
namespace Go.Proofs.Ytapjijhjnloimaa
open Go Go.RowKit
noncomputable def Fy : FuncId → EP := dG 47 (jY xj) evP
theorem Dt : bI Fy := bN a8 rT (rS _)
theorem I1 : RTy 55 55 1 8 := ⟨_, _, _, rfl, rfl, (fun q h => by cases h), rfl, rfl, rfl, rfl, by decide, by decide⟩
def jw (C : Ck5) : List Int := C.map fun c => ((usd c.2 : Nat) : Int)
theorem j8 (C : Ck5) : (jw C).length = C.length := List.length_map _
def RiP (S : Sr) (C : Ck5) (O : List Int) : PK := fun u H' m => u = .rw 3 0 O.length 1 0 ∧ H' = mkH [(0, .cells (bU S 1 (pts C).length) true), (1, .cells (aL (pts C)) true), (2, cv S C), (3, .cells (ints O) true)] ∧ m = 4
noncomputable def csM (S : Sr) (C : Ck5) (X : List Int) : AH := mkH [(0, .cells (bU S 1 (pts C).length) true), (1, .cells (aL (pts C)) true), (2, cv S C), (3, .cells (ints X) true)]
abbrev cso (C : Ck5) (i : Nat) : List (Nat × AV) := [(3, .rw 3 0 i 1 0), (12, .rw 1 0 (pts C).length 1 0), (13, .si .i64 ((pts C).length : Int)), (14, .si .i64 (i : Int))]
theorem BQ (k : Nat) {σ : AE} {H : AH} {n : Nat} {S : Sr} {C : Ck5} {X : List Int} (le : List (Nat × AV)) (hk : 3 ≤ k) (he : ∀ x ∈ le, ai H 4 (fun c => if c = 3 then k else c) (aA (pa x.1) σ) x.2) (h0 : PM.get H 0 = some (.cells (bU S 1 (pts C).length) true)) (h1 : PM.get H 1 = some (.cells (aL (pts C)) true)) (h2 : PM.get H 2 = some (cv S C)) (h3 : (∃ l, PM.get H k = some (.cells l true) ∧ l.map mk = ints X) ∨ (X = [] ∧ n ≤ k)) : Cov 3 σ H n (mkE le, csM S C X, 4) := by
  refine Cov.ofR (m := 4) (p := 3) (fun c => if c = 3 then k else c) (by decide) (fun b hb => if_neg (by omega)) he ?_ (fun x hx y hy e => ?_)
  · intro x hx
    simp only [List.mem_cons, List.not_mem_nil, or_false] at hx
    rcases hx with rfl | rfl | rfl | rfl
    · exact ⟨Nat.le_of_ble_eq_true rfl, .inl ⟨_, h0, aQ.bU rfl rfl rfl rfl rfl (ai.rw (Nat.le_of_ble_eq_true rfl) rfl)⟩⟩
    · exact ⟨Nat.le_of_ble_eq_true rfl, .inl ⟨_, h1, aQ.aL (aq _)⟩⟩
    · exact ⟨Nat.le_of_ble_eq_true rfl, .inl ⟨_, h2, aQ.sep _⟩⟩
    · exact ⟨Nat.le_of_ble_eq_true rfl, h3.elim (fun ⟨l, q1, q2⟩ => .inl ⟨_, q1, aQ.bA (yr _) (by rw [q2, tF]) id⟩) (fun q => .inr ⟨by rw [q.1]; rfl, q.2⟩)⟩
  · simp only [List.mem_cons, List.not_mem_nil, or_false] at hx hy
    rcases hx with rfl | rfl | rfl | rfl <;> rcases hy with rfl | rfl | rfl | rfl <;> simp at e ⊢ <;> omega
theorem xJ {H : AH} {σ : AE} {C : Ck5} {k i : Nat} (e3 : ai H 4 (fun c => if c = 3 then k else c) (aA (pa 3) σ) (.rw 3 0 i 1 0)) (e12 : aA (pa 12) σ = .rw 1 0 (pts C).length 1 0) (e13 : mk (aA (pa 13) σ) = .si .i64 ((pts C).length : Int)) (e14 : mk (aA (pa 14) σ) = .si .i64 (i : Int)) : ∀ x ∈ cso C i, ai H 4 (fun c => if c = 3 then k else c) (aA (pa x.1) σ) x.2 := fun x hx => by
  simp only [List.mem_cons, List.not_mem_nil, or_false] at hx
  rcases hx with rfl | rfl | rfl | rfl
  · exact e3
  · exact ai.rw (Nat.le_of_ble_eq_true rfl) e12
  · exact ai.int e13
  · exact ai.int e14
theorem Gz {H : AH} {n N m : Nat} {S : Sr} {C : Ck5} {O X : List Int} (hN : 3 ≤ N) (hO : X = O) (hm : m = X.length) (h0 : PM.get H 0 = some (.cells (bU S 1 (pts C).length) true)) (h1 : PM.get H 1 = some (.cells (aL (pts C)) true)) (h2 : PM.get H 2 = some (cv S C)) (h3 : PM.get H N = some (.cells (ints X) true)) : ∃ (v2 : AV) (H2 : AH) (q : Nat), Cov 3 (mkE [(0, .rw N 0 m 1 0)]) H n (mkE [(0, v2)], H2, q) ∧ RiP S C O v2 H2 q := by
  subst hO hm
  exact ⟨.rw 3 0 X.length 1 0, _, 4, BQ N [(0, .rw 3 0 X.length 1 0)] hN (fun x hx => by
    simp only [List.mem_cons, List.not_mem_nil, or_false] at hx
    subst hx
    exact ai.rw (Nat.le_of_ble_eq_true rfl) rfl) h0 h1 h2 (.inl ⟨_, h3, tF _⟩), rfl, rfl, rfl⟩
theorem wa (S : Sr) (C : Ck5) (hO : Okc S C) : cV (az Fy 5 33) [.ptr 0 0] (mkH (dH (fo S (pts C) C) 0)) 3 (RiP S C (jw C)) := by
  have hl := hO.few
  have hlo := hO.lo
  show az Fy 5 _ _ _ _ _
  conv => whnf
  refine ak.dF (fun z => absurd (show (0 : Int) < (S.sz : Int) by omega) z) (fun _ => ?_)
  conv => whnf
  refine bz.mk { i : Nat // i ≤ C.length } 4 (fun i => (mkE (cso C i.val), csM S C (jw (C.take i.val)))) (fun i => C.length - i.val) ⟨0, Nat.zero_le _⟩ ?_ ?_
  focus
    exact BQ 3 _ (Nat.le_refl _) (xJ (ai.qh rfl) rfl rfl rfl) rfl rfl rfl (.inr ⟨rfl, Nat.le_refl _⟩)
  intro ⟨i, hi⟩
  have hw : IntKind.i64.wrap ((i : Int) + 1) = ((i + 1 : Nat) : Int) := by rw [aI (by omega) (by omega)]; omega
  conv => whnf
  refine ak.dec (fun h => ?_) (fun h => ?_)
  focus
    have h2 : i < C.length := by
      have h : (i : Int) < ((pts C).length : Int) := h
      rw [al] at h; omega
    have hT : jw (C.take (i + 1)) = jw (C.take i) ++ [((usd C[i].2 : Nat) : Int)] := by
      rw [List.take_succ_eq_append_getElem h2]; unfold jw; rw [List.map_append]; rfl
    have hlt : (jw (C.take i)).length = i := by rw [j8, List.length_take]; omega
    have hM : (ints (jw (C.take i)) ++ [AV.si .i64 ((usd C[i].2 : Nat) : Int)]).map mk = ints (jw (C.take (i + 1))) := by rw [hT]; exact yt _ _
    conv => whnf
    refine Idx.mk i rfl (by rw [al]; exact h2) ?_
    conv => whnf
    refine aD (b9 h2 (show 0 + i * 1 = i by omega)) ?_
    conv => whnf
    refine ⟨2, S.sz, C.take i, C.drop (i + 1), C[i].1, C[i].2, rfl, congrArg some (mV h2), ?_⟩
    conv => whnf
    refine jf.grow 1 8 1 i [.si .i64 ((usd C[i].2 : Nat) : Int)] (ints (jw (C.take i))) _ true I1 (.old rfl) rfl rfl (.rw rfl (cz (by rw [tG, hlt, Nat.mul_one]))) (by omega) ?_
    conv => whnf
    exact ⟨⟨i + 1, h2⟩, by show C.length - (i + 1) < C.length - i; omega, BQ 5 _ (by decide) (xJ (ai.rw (Nat.le_of_ble_eq_true rfl) rfl) rfl rfl (congrArg (AV.si .i64) hw)) rfl rfl rfl (.inl ⟨_, rfl, hM⟩)⟩
  have h2 : i = C.length := by
    have h : ¬ (i : Int) < ((pts C).length : Int) := h
    rw [al] at h; omega
  have hE : jw (C.take i) = jw C := by rw [h2, List.take_length]
  have hE2 : i = (jw (C.take i)).length := by rw [j8, List.length_take]; omega
  conv => whnf
  exact Gz (Nat.le_refl 3) hE hE2 rfl rfl rfl rfl
theorem BR (f : Nat → Nat) (L : List Int) : dq f (ints L) = ints L := by
  induction L with
  | nil => rfl
  | cons c L ih =>
    show AV.si .i64 c :: dq f (ints L) = _
    rw [ih]; rfl
theorem Du (m : Nat) (L : List Int) : jt m (ints L) = true := by
  induction L with
  | nil => rfl
  | cons c L ih => exact ih
def uQ (A : Sr → Ck5 → List Int → Prop) (args : List AV) (H : AH) (n : Nat) (κ : PK) : Prop := match args with
  | [x] => ∃ (r k q : Nat) (S : Sr) (C : Ck5) (O : List Int), x = .ptr r 0 ∧ dJ H n r k q S (pts C) C ∧ (n < 900000 ∧ PM.get H n = none) ∧ A S C O ∧ κ (.rw n 0 O.length 1 0) (PM.set (some (.cells (ints O) true)) aa H n) (n + 1)
  | _ => False
theorem FA (A : Sr → Ck5 → List Int → Prop) : kN (uQ A) := fun args H n κ hs => by
  unfold uQ at *
  split at hs
  · obtain ⟨r, k, q, S, C, O, h1, h2, h3, h4, h5⟩ := hs
    exact ⟨_, _, _, h5, fun b o hb => PM.gne (by omega) (fun e => by subst e; rw [h3.2] at hb; cases hb) hb, Nat.le_succ n, fun κ' h => ⟨r, k, q, S, C, O, h1, h2, h3, h4, h⟩⟩
  · exact hs.elim
def Ej (S : Sr) (C : Ck5) (O : List Int) : Prop := Okc S C ∧ O = jw C
theorem GA : aM 33 (uQ Ej) := fun args H n κ hs φ h0' hp vs K hr hargs hk => by
  unfold uQ at hs
  split at hs
  · obtain ⟨w1, us1, q1, e1, r1⟩ := hargs.cons_inv
    obtain ⟨r, k, q, S, C, O, rfl, hR, hn, ⟨hO, rfl⟩, hs⟩ := hs
    refine cG (S := [r, k, q]) (O := fo S (pts C) C) (args0 := [.ptr 0 0]) (aM.cV (aG Dt 5 _)) (by kernel_rfl) hr hR.xo (by rw [q1]; exact .cons e1 r1) hk (wa S C hO) fun u H' n' ⟨g0, g1, g2⟩ => ?_
    subst g0 g1 g2
    refine ⟨4, PM.set (some (.cells (ints (jw C)) true)) aa H n, Nat.le_of_ble_eq_true rfl, fun b o hb => ?_, rfl, hs⟩
    rcases PM.ao aa H n b o hb with ⟨rfl, h2⟩ | ⟨h1, h2⟩
    · injection h2 with h2; subst h2
      exact .inl ⟨3, .cells (ints (jw C)) true, by decide, rfl, rfl, rfl, Du _ _, by rw [dS, BR]⟩
    · by_cases hb : b ∈ [r, k, q]
      · left
        simp only [List.mem_cons, List.not_mem_nil, or_false] at hb
        rcases hb with rfl | rfl | rfl
        · rw [hR.hr] at h2; injection h2 with h2; subst h2
          exact ⟨0, _, by decide, rfl, rfl, rfl, rfl, rfl⟩
        · rw [hR.hk] at h2; injection h2 with h2; subst h2
          exact ⟨1, _, by decide, rfl, rfl, rfl, nI _ _, by rw [dS, jZ]⟩
        · rw [hR.hq] at h2; injection h2 with h2; subst h2
          exact ⟨2, _, by decide, rfl, rfl, rfl, rfl, rfl⟩
      · exact .inr ⟨by show b < n ∨ n + 1 ≤ b; omega, h2, fun q => absurd q hb⟩
  · exact hs.elim
end Go.Proofs.Ytapjijhjnloimaa
namespace Go.Proofs.Ytapjijhjnloimaa
open Go Go.RowKit
noncomputable def BS : FuncId → EP := bB 17 [] evP
theorem Dv : bI BS := aE a8 (by kernel_rfl) (by kernel_rfl)
def qA (B : Nat) (f : Smp → Smp → Bool) (args : List AV) (H : AH) (n : Nat) (κ : PK) : Prop := match args with
  | [x, y] => ∃ L M, lW H x L ∧ lW H y M ∧ L.length ≤ B ∧ M.length ≤ B ∧ κ (.sb (f L M)) H n
  | _ => False
theorem FB {B : Nat} {f : Smp → Smp → Bool} : kN (qA B f) := .pure fun args H n κ hs => by
  unfold qA at *
  split at hs
  · obtain ⟨L, M, h1, h2, h3, h4, h5⟩ := hs
    exact ⟨_, h5, fun κ' h => ⟨L, M, h1, h2, h3, h4, h⟩⟩
  · exact hs.elim
theorem BT {B : Nat} {F : FuncId → EP} (hF : bI F) {d : Nat} {f : FuncId} {g : Smp → Smp → Bool} (hic : ah Try.prog f = true) (h00 : az F d f [.nsl, .nsl] .nil 0 fun u _ _ => mkT u = mkT (.bool (g [] [])))
    (h01 : ∀ M cap, M.length ≤ B → az F d f [.nsl, .sy 0 0 M.length cap 0] (mkH [(0, .ro (smp M))]) 1 fun u _ _ => mkT u = mkT (.bool (g [] M)))
    (h10 : ∀ L cap, L.length ≤ B → az F d f [.sy 0 0 L.length cap 0, .nsl] (mkH [(0, .ro (smp L))]) 1 fun u _ _ => mkT u = mkT (.bool (g L [])))
    (h11 : ∀ L M c1 c2, L.length ≤ B → M.length ≤ B → az F d f [.sy 0 0 L.length c1 0, .sy 1 0 M.length c2 0] (mkH [(0, .ro (smp L)), (1, .ro (smp M))]) 2 fun u _ _ => mkT u = mkT (.bool (g L M))) : aM f (qA B g) := fun args H n κ hs φ h0' hp vs K hr hargs hk => by
  unfold qA at hs
  split at hs
  · obtain ⟨x, y, rfl, e1, e2⟩ := vs2 hargs
    obtain ⟨L, M, hS, hT, hL, hM, hs2⟩ := hs
    rcases hS.open hr e1 with ⟨rfl, hv⟩ | ⟨p, C, _, hro, hv⟩ <;> rcases hT.open hr e2 with ⟨rfl, hw⟩ | ⟨p', C', _, hro', hw⟩
    · exact gJ (v := .bool (g [] [])) hF rfl h00 hs2 hr hk hic HR.ro0 (.cons (hv _) (.cons (hw _) .nil))
    · exact gJ (v := .bool (g [] M)) hF rfl (h01 M C' hM) hs2 hr hk hic (fun hw => HR.ro1 hw hro') (.cons (hv _) (.cons (hw _ 0 rfl) .nil))
    · exact gJ (v := .bool (g L [])) hF rfl (h10 L C hL) hs2 hr hk hic (fun hw => HR.ro1 hw hro) (.cons (hv _ 0 rfl) (.cons (hw _) .nil))
    · exact gJ (v := .bool (g L M)) hF rfl (h11 L M C C' hL hM) hs2 hr hk hic (fun hw => HR.ro2 hw hro hro') (.cons (hv _ 0 rfl) (.cons (hw _ 1 rfl) .nil))
  · exact hs.elim
theorem BU : dM Try.prog 29 = some [(0, 0), (0, 1)] := by kernel_rfl
def iJ (L M : Smp) : Bool := decide (L = M)
noncomputable def wb (L M : Smp) (c1 c2 i : Nat) : AE × AH := (mkE [(0, .sy 0 0 L.length c1 0), (1, .sy 1 0 M.length c2 0), (5, .si .i64 i)], mkH [(0, .ro (smp L)), (1, .ro (smp M))])
theorem uR {L M : Smp} {c1 c2 i p n : Nat} {σ : AE} {H : AH} (hp : p ≤ 2) (e0 : mk (aA (pa 0) σ) = .sy 0 0 L.length c1 0) (e1 : mk (aA (pa 1) σ) = .sy 1 0 M.length c2 0) (e5 : mk (aA (pa 5) σ) = .si .i64 i)
    (h0 : H.get 0 = some (.ro (smp L))) (h1 : H.get 1 = some (.ro (smp M))) : Cov p σ H n ((wb L M c1 c2 i).1, (wb L M c1 c2 i).2, 2) := by
  refine Cov.of (fun b => b) hp (fun b hb => rfl) ?_ ?_ ?_
  · intro x hx
    simp only [List.mem_cons, List.not_mem_nil, or_false] at hx
    rcases hx with rfl | rfl | rfl
    · exact .sy (by decide) e0
    · exact .sy (by decide) e1
    · exact .int e5
  · intro x hx
    simp only [List.mem_cons, List.not_mem_nil, or_false] at hx
    rcases hx with rfl | rfl
    · exact ⟨by simp, _, h0, aQ.Ac (bO L) rfl⟩
    · exact ⟨by simp, _, h1, aQ.Ac (bO M) rfl⟩
  · intro x hx y hy
    simp only [List.mem_cons, List.not_mem_nil, or_false] at hx hy
    rcases hx with rfl | rfl <;> rcases hy with rfl | rfl <;> exact fun q => q
theorem nL {L M : Smp} (h : L ≠ M) : AV.sb false = mkT (.bool (iJ L M)) := by simp [iJ, h, mkT, mk]
theorem BV {L M : Smp} (h : L = M) : AV.sb true = mkT (.bool (iJ L M)) := by simp [iJ, h, mkT, mk]
theorem y6 (L M : Smp) (c1 c2 : Nat) (hL : L.length ≤ 1000000) (hM : M.length ≤ 1000000) : az BS 3 17 [.sy 0 0 L.length c1 0, .sy 1 0 M.length c2 0] (mkH [(0, .ro (smp L)), (1, .ro (smp M))]) 2 fun u _ _ => mkT u = mkT (.bool (iJ L M)) := by
  conv => whnf
  refine ak.dF (fun h1 => ?_) (fun h1 => ?_)
  · conv => whnf
    exact (show mkT _ = AV.sb false from rfl).trans (nL fun e => h1 (by rw [e]))
  have hlen : L.length = M.length := by have : (L.length : Int) = (M.length : Int) := h1; omega
  conv => whnf
  refine bz.mk { i : Nat // i < L.length + 1 ∧ L.take i = M.take i } 2 (fun a => wb L M c1 c2 a.val) (fun a => L.length - a.val) ⟨0, by omega, rfl⟩ ?_ ?_
  · exact uR (i := 0) (Nat.le_refl 2) rfl rfl rfl rfl rfl
  · intro ⟨i, hi, he⟩
    conv => whnf
    refine ak.dec (fun h2 => ?_) (fun h2 => ?_)
    · have h3 : i < L.length := Int.ofNat_lt.1 h2
      have h4 : i < M.length := by omega
      have hlt : L.length - (i + 1) < L.length - i := by omega
      have hw : IntKind.i64.wrap ((i : Int) + 1) = ((i + 1 : Nat) : Int) := by rw [aI (x := (i : Int) + 1) (by omega) (by omega)]; omega
      conv => whnf
      refine Idx.mk i rfl h3 ?_
      conv => whnf
      refine aD (du h3 (by show 0 + i * 2 = i * 2; omega)) ?_
      conv => whnf
      refine Idx.mk i rfl h4 ?_
      conv => whnf
      refine aD (du h4 (by show 0 + i * 2 = i * 2; omega)) ?_
      conv => whnf
      refine aD (yM BU) ?_
      conv => whnf
      refine ak.nsb (fun h5 => ?_) (fun h5 => ?_)
      · conv => whnf
        refine (show mkT _ = AV.sb false from rfl).trans (nL fun e => ?_)
        subst e
        have h5 : (decide (L[i].1 = L[i].1) && (decide (L[i].2 = L[i].2) && true)) = false := h5
        simp at h5
      · conv => whnf
        have h5 : (decide (L[i].1 = M[i].1) && (decide (L[i].2 = M[i].2) && true)) = true := h5
        simp only [Bool.and_true, Bool.and_eq_true, decide_eq_true_eq] at h5
        refine ⟨⟨i + 1, by omega, ?_⟩, hlt, uR (Nat.le_refl 2) rfl rfl (congrArg (AV.si .i64) hw) rfl rfl⟩
        rw [List.take_succ_eq_append_getElem h3, List.take_succ_eq_append_getElem h4, he, Prod.ext h5.1 h5.2]
    · conv => whnf
      have h3 : i = L.length := by have : ¬ (i : Int) < (L.length : Int) := h2; omega
      subst h3
      refine (show mkT _ = AV.sb true from rfl).trans (BV ?_)
      rw [List.take_length, hlen, List.take_length] at he
      exact he
theorem Dw : az BS 3 17 [.nsl, .nsl] .nil 0 fun u _ _ => mkT u = mkT (.bool (iJ [] [])) := by
  conv => whnf
  refine bz.roll 1 ?_
  conv => whnf
  rfl
theorem Dx (M : Smp) (cap : Nat) : az BS 3 17 [.nsl, .sy 0 0 M.length cap 0] (mkH [(0, .ro (smp M))]) 1 fun u _ _ => mkT u = mkT (.bool (iJ [] M)) := by
  conv => whnf
  refine ak.dF (fun h1 => ?_) (fun h1 => ?_)
  · conv => whnf
    exact (show mkT _ = AV.sb false from rfl).trans (nL fun e => h1 (by rw [← e]; rfl))
  · conv => whnf
    have h2 : M = [] := List.eq_nil_of_length_eq_zero (by have : (0 : Int) = (M.length : Int) := h1; omega)
    subst h2
    refine bz.roll 1 ?_
    conv => whnf
    rfl
theorem Dy (L : Smp) (cap : Nat) : az BS 3 17 [.sy 0 0 L.length cap 0, .nsl] (mkH [(0, .ro (smp L))]) 1 fun u _ _ => mkT u = mkT (.bool (iJ L [])) := by
  conv => whnf
  refine ak.dF (fun h1 => ?_) (fun h1 => ?_)
  · conv => whnf
    exact (show mkT _ = AV.sb false from rfl).trans (nL fun e => h1 (by rw [e]; rfl))
  · conv => whnf
    have h2 : L = [] := List.eq_nil_of_length_eq_zero (by have : (L.length : Int) = (0 : Int) := h1; omega)
    subst h2
    refine bz.roll 1 ?_
    conv => whnf
    refine ak.dec (fun h => absurd h (by decide)) (fun _ => ?_)
    conv => whnf
    rfl
theorem Dz : aM 17 (qA 1000000 iJ) := BT Dv (by kernel_rfl) Dw (fun M cap _ => Dx M cap) (fun L cap _ => Dy L cap) y6
end Go.Proofs.Ytapjijhjnloimaa
namespace Go.Proofs.Ytapjijhjnloimaa
open Go Go.RowKit
theorem BW (S : Sr) (L : Smp) (t v p : Int) : (gP S L t v p).1.2.length ≤ L.length + 1 := by
  unfold gP
  generalize (if p = 0 then S.pol else p) = q
  split
  · exact Nat.le_succ _
  · split
    · exact Nat.le_succ _
    · split
      · exact Nat.le_trans (j5 _ _ _) (pn _ _ _ _).1
      · exact Nat.le_succ _
theorem BX (S : Sr) (L : Smp) (ret p : Int) : (lz S L ret p).1.2.length ≤ L.length := by
  unfold lz
  split
  · exact j5 _ _ _
  · exact Nat.le_refl _
def sq (args : List AV) (H : AH) (n : Nat) (κ : PK) : Prop := match args with
  | [x, y, z] => ∃ (r k q : Nat) (S : Sr) (C : Ck5) (t v p : Int) (L : Smp) (S' : Sr) (L' : Smp) (e : Int), x = .ptr r 0 ∧ jR y t v ∧ mk z = .si .i64 p ∧ dJ H n r k q S (pts C) C ∧ jv S C ∧ aY v ∧ ab C = L ∧ L.length ≤ 40000 ∧ gP S L t v p = ((S', L'), e) ∧ ∀ C', jv S' C' → ab C' = L' → κ (.si .i64 e) (eJ H n r k q S' (pts C') C') (n + 1)
  | _ => False
theorem FC : aM 16 sq := fun args H n κ hs => Fm args H n κ (by
  unfold sq at hs
  unfold sd
  split at hs
  · obtain ⟨r, k, q, S, C, t, v, p, L, S', L', e, h1, h2, h3, h4, h5, h6, h7, h8, h9, h10⟩ := hs
    subst h7
    refine ⟨r, k, q, S, C, t, v, p, h1, h2, h3, h4, h5, h6, h8, fun C' f1 f2 f3 f4 => ?_⟩
    have hl := BW S (ab C) t v p
    rw [h9] at f1 f2 f3 f4 hl
    have := h10 C' ⟨f2, f3, f4, by rw [f1]; dsimp only at hl ⊢; omega⟩ f1
    rw [h9]; exact this
  · exact hs.elim)
def sr (args : List AV) (H : AH) (n : Nat) (κ : PK) : Prop := match args with
  | [x, y, z] => ∃ (r k q : Nat) (S : Sr) (C : Ck5) (a b : Int) (L L' : Smp) (m : Nat), x = .ptr r 0 ∧ mk y = .si .i64 a ∧ mk z = .si .i64 b ∧ dJ H n r k q S (pts C) C ∧ jv S C ∧ ab C = L ∧ L.length ≤ 40000 ∧ aN L a b = L' ∧ L.length - L'.length = m ∧ ∀ C', jv S C' → ab C' = L' → κ (.si .i64 (m : Int)) (eJ H n r k q S (pts C') C') (n + 1)
  | _ => False
theorem FD : aM 22 sr := fun args H n κ hs => BB args H n κ (by
  unfold sr at hs
  unfold nK
  split at hs
  · obtain ⟨r, k, q, S, C, a, b, L, L', m, h1, h2, h3, h4, h5, h6, h7, h8, h9, h10⟩ := hs
    subst h6 h8 h9
    have e1 := rZ C
    have e2 := h5.gt.few
    have e3 := j5 (ab C) a b
    exact ⟨r, k, q, S, C, a, b, h1, h2, h3, h4, h5.gt.gd.pf, by omega, by omega, fun C' f1 f2 f3 => h10 C' ⟨f2, f3, h5.num, by rw [f1]; omega⟩ f1⟩
  · exact hs.elim)
def su (args : List AV) (H : AH) (n : Nat) (κ : PK) : Prop := match args with
  | [x, y, z] => ∃ (r k q : Nat) (S : Sr) (C : Ck5) (ret p : Int) (L : Smp) (S' : Sr) (L' : Smp) (e : Int), x = .ptr r 0 ∧ mk y = .si .i64 ret ∧ mk z = .si .i64 p ∧ dJ H n r k q S (pts C) C ∧ jv S C ∧ ab C = L ∧ L.length ≤ 40000 ∧ lz S L ret p = ((S', L'), e) ∧ ∀ C', jv S' C' → ab C' = L' → κ (.si .i64 e) (eJ H n r k q S' (pts C') C') (n + 1)
  | _ => False
theorem FE : aM 28 su := fun args H n κ hs => Fp args H n κ (by
  unfold su at hs
  unfold se
  split at hs
  · obtain ⟨r, k, q, S, C, ret, p, L, S', L', e, h1, h2, h3, h4, h5, h7, h8, h9, h10⟩ := hs
    subst h7
    refine ⟨r, k, q, S, C, ret, p, h1, h2, h3, h4, h5, h8, fun C' f1 f2 f3 f4 => ?_⟩
    have hl := BX S (ab C) ret p
    rw [h9] at f1 f2 f3 f4 hl
    have := h10 C' ⟨f2, f3, f4, by rw [f1]; dsimp only at hl ⊢; omega⟩ f1
    rw [h9]; exact this
  · exact hs.elim)
theorem BY {S : Sr} (h1 : 128 ≤ S.sz) (h2 : S.sz ≤ 4096) (hn : ju S) : jv S [] := ⟨⟨⟨h1, h2, List.Pairwise.nil, (fun c hc => by cases hc), (fun c hc => by cases hc)⟩, (fun c hc => by cases hc)⟩, (fun j h => by simp at h), hn, Nat.zero_le _⟩
theorem DA {sz ret p : Int} {S : Sr} (h : ml sz ret p = some S) : jv S [] ∧ S = ⟨sz.toNat, ret, p, -1, 0⟩ := by
  unfold ml at h
  split at h
  · rename_i k
    injection h with h
    subst h
    exact ⟨BY (by show 128 ≤ sz.toNat; omega) (by show sz.toNat ≤ 4096; omega) ⟨k.2.1, k.2.2, ⟨(show (-1 : Int) ≤ -1 by decide), (show (-1 : Int) < 1099511627776 by decide)⟩, ⟨(show (0 : Int) ≤ 0 by decide), (show (0 : Int) ≤ 1099511627776 by decide)⟩⟩, rfl⟩
  · cases h
theorem jv.okc {S : Sr} {C : Ck5} (h : jv S C) : Okc S C := h.gt.toPre5.okc (by have := h.gt.few; have := h.few; omega)
def sw (args : List AV) (H : AH) (n : Nat) (κ : PK) : Prop := match args with
  | [x, y, z] => ∃ (sz ret p : Int) (r : Option Sr), mk x = .si .i64 sz ∧ mk y = .si .i64 ret ∧ mk z = .si .i64 p ∧ n < 900000 ∧ ml sz ret p = r ∧ match r with
    | none => κ (.tup [.nil, .int .i64 1]) H n
    | some S => jv S [] → κ (.tup [.ptr n 0, .int .i64 0]) (v7 H n S) (n + 3)
  | _ => False
theorem FF : aM 15 sw := fun args H n κ hs => Fq args H n κ (by
  unfold sw at hs
  unfold sf
  split at hs
  · obtain ⟨sz, ret, p, r, h1, h2, h3, h4, h5, h6⟩ := hs
    refine ⟨sz, ret, p, h1, h2, h3, h4, fun q => ?_, fun S q => ?_⟩
    · rw [h5] at q; subst q; exact h6
    · have := (DA q).1
      rw [h5] at q; subst q; exact h6 this
  · exact hs.elim)
end Go.Proofs.Ytapjijhjnloimaa
namespace Go.Proofs.Ytapjijhjnloimaa
open Go Go.RowKit
def HP.exi {α : Type} (c : α → Prop) (Q : α → HP) : HP where
  P z X h := ∃ a, c a ∧ (Q a).P z X h
  loc z X h g hn e := fun ⟨a, h1, h2⟩ => ⟨a, h1, (Q a).loc z X h g hn e h2⟩
  mono z z' X h hz := fun ⟨a, h1, h2⟩ => ⟨a, h1, (Q a).mono z z' X h hz h2⟩
  ex z X h B := fun ⟨a, _, h2⟩ hB => (Q a).ex z X h B h2 hB
structure Loc (χ : Ph) (O : List AO) (X : Nat → Prop) (h : Hp) : Prop where
  dom : ∀ i q, χ i = some q → i < O.length ∧ X q.B
  live : ∀ i o, O[i]? = some o → o.own = true ∧ ((χ i = none ∧ o.free = true) ∨ ∃ q ob, χ i = some q ∧ h.f q.B = some ob ∧ OR χ q o ob)
  inj : ∀ i j q q', χ i = some q → χ j = some q' → q.B = q'.B → i = j
  ex : ∀ B, X B → ∃ o, h.f B = some o
  sep : ∀ i Q, O[i]? = some (.sep Q) → Q.P χ.z (χ.s i) h ∧ ∀ B, χ.s i B → X B ∧ (∀ j q, χ j = some q → q.B ≠ B) ∧ ∀ j Q', O[j]? = some (.sep Q') → j ≠ i → ¬ χ.s j B
theorem Loc.to {χ : Ph} {O : List AO} {X : Nat → Prop} {h g : Hp} (l : Loc χ O X h) (hn : h.n ≤ g.n) (e : ∀ B, X B → g.f B = h.f B) : Loc χ O X g :=
  ⟨l.dom, fun i o hi => ⟨(l.live i o hi).1, (l.live i o hi).2.imp id fun ⟨q, ob, h1, h2, h3⟩ => ⟨q, ob, h1, (e _ (l.dom i q h1).2).trans h2, h3⟩⟩, l.inj, fun B hB => by rw [e B hB]; exact l.ex B hB,
    fun i Q hi => ⟨Q.loc _ _ _ _ hn (fun B hB => e B ((l.sep i Q hi).2 B hB).1) (l.sep i Q hi).1, (l.sep i Q hi).2⟩⟩
def GB (O : List AO) (p : Nat × Nat) : HP where
  P z X h := ∃ χ : Ph, (∀ q, χ.z q → z q) ∧ (∃ T, χ 0 = some ⟨p.1, p.2, T⟩) ∧ Loc χ O X h
  loc _ _ _ _ hn e := fun ⟨χ, h1, h2, h3⟩ => ⟨χ, h1, h2, h3.to hn e⟩
  mono _ _ _ _ hz := fun ⟨χ, h1, h2, h3⟩ => ⟨χ, fun q hq => hz q (h1 q hq), h2, h3⟩
  ex _ _ _ B := fun ⟨_, _, _, h3⟩ hB => h3.ex B hB
end Go.Proofs.Ytapjijhjnloimaa
namespace Go.Proofs.Ytapjijhjnloimaa
open Go Go.RowKit
def FG (p : Nat × Nat) (S : Sr) (L : Smp) : HP := HP.exi (fun C : Ck5 => jv S C ∧ ab C = L) fun C => GB (fo S (pts C) C) p
def GC (S : Sr) (L : Smp) : Prop := ∃ C, jv S C ∧ ab C = L
def Ek (H : AH) (n : Nat) : Prop := n < 800000 ∧ PM.get H n = none ∧ PM.get H (n + 1) = none ∧ PM.get H (n + 2) = none ∧ PM.get H (n + 3) = none
end Go.Proofs.Ytapjijhjnloimaa
namespace Go.Proofs.Ytapjijhjnloimaa
open Go Go.RowKit
def GD : DT := [(15, [(some 0, [4]), (some 0, [66]), (some 0, [67]), (some 0, [5, 68]), (some 0, [69, 68]), (some 0, [68, 70]), (some 0, [71]), (some 0, [6, 72]), (some 0, [73, 72]), (some 0, [72, 74]), (some 0, [75]), (some 0, [7, 76]), (some 0, [77, 76]), (some 0, [76, 78]), (some 0, [79]), (some 0, [8, 80]), (some 0, [81, 80]), (some 0, [80, 82]), (some 0, [83]), (some 0, [9, 84]), (some 0, [85, 84]), (some 0, [84, 86]), (some 0, [87]), (some 0, [10, 88]), (some 0, [89, 88]), (some 0, [88, 90]), (some 0, [91]), (some 0, [11, 92]), (some 0, [93, 92]), (some 0, [92, 94]), (some 0, [95]), (some 0, [13, 96]), (some 0, [97, 96]), (some 0, [96, 98]), (some 0, [99]), (some 0, [14, 100]), (some 0, [100]), (some 0, [101, 102, 100]), (some 0, [100, 103]), (some 0, [104]), (some 0, [15, 105]), (some 0, [105, 106]), (some 0, [107]), (some 0, [16, 108]), (some 0, [108]), (some 0, [108]), (none, [110, 111, 108]), (none, [109, 112, 108]), (some 0, [108, 113]), (some 0, [114]), (some 0, [17, 115]), (some 0, [116, 115]), (some 0, [115, 117]), (some 0, [118]), (some 0, [1, 119]), (none, [120, 119]), (some 0, [121, 119]), (some 0, [119, 122]), (some 0, [123]), (some 0, [1, 124]), (none, [125, 124]), (some 0, [126, 124]), (some 0, [124, 127]), (some 0, [128]), (some 0, [1, 129]), (none, [130, 129]), (some 0, [131, 129]), (some 0, [129, 132]), (some 0, [133]), (some 0, [1, 134]), (none, [135, 134]), (some 0, [136, 134]), (some 0, [137, 134]), (some 0, [134, 138]), (some 0, [139]), (some 0, [1, 140]), (none, [141, 140]), (some 0, [142, 140]), (some 0, [140, 143]), (some 0, [144]), (some 0, [1, 145]), (none, [146, 145]), (some 0, [147, 145]), (some 0, [145, 148]), (some 0, [149]), (some 0, [1, 150]), (none, [151, 150]), (some 1, [16, 150]), (some 2, [153, 150]), (none, [152, 154, 150]), (some 0, [150, 155])]), (1000015, [])]
noncomputable def KSr : FuncId → EP := a9 15 sw (a9 28 su (a9 16 sq (a9 22 sr (dG 23 (dA Ea) (dG 30 (dA Eb) (dG 24 (mn Ei) (dG 17 (qA 1000000 iJ) (dG 19 (dA D7) (dG 27 (dA xz) (dG 20 (dA BL) (dG 33 (uQ Ej) (dG 31 (dA D8) (dG 32 (dA D9) (dG 18 (mn BK) evP))))))))))))))
theorem FH : bI KSr := au (au (au (au (bN (bN (bN (bN (bN (bN (bN (bN (bN (bN (bN a8 Ee (v9 _)) Gs (iv _)) Gq (iv _)) GA (FA _)) Fw (iv _)) By (iv _)) Gn (iv _)) Dz FB) Gy (v9 _)) Dh (iv _)) Fh (iv _)) FD) FC) FE) FF
noncomputable def GF : FuncId → EP := bB 21 GD KSr
theorem DC : bI GF := aE FH (by kernel_rfl) (by kernel_rfl)
abbrev s0 : Sr := ⟨128, 10, 3, -1, 0⟩
abbrev s1 : Sr := ⟨128, 10, 3, 5, 0⟩
abbrev s2 : Sr := ⟨128, 10, 3, 20, 10⟩
theorem GG : ml 128 10 3 = some s0 := if_pos (by decide)
theorem I2 : ml 128 (-1) 3 = none := if_neg (by decide)
theorem k_a : gP s0 [] 5 1 0 = ((s1, [(5, 1)]), 0) := by kernel_rfl
theorem k_b : gP s1 [(5, 1)] 20 2 0 = ((s2, [(20, 2)]), 0) := by kernel_rfl
theorem k_c : gP s2 [(20, 2)] 9 3 0 = ((s2, [(20, 2)]), 7) := by kernel_rfl
theorem k_d : gP s2 [(20, 2)] 10 3 0 = ((s2, [(10, 3), (20, 2)]), 0) := by kernel_rfl
theorem k_g : gP s2 [(10, 3), (20, 2)] 20 7 1 = ((s2, [(10, 3), (20, 2)]), 8) := by kernel_rfl
theorem k_n : aN [(10, 3), (20, 2)] 20 30 = [(10, 3)] := by kernel_rfl
theorem we {P : Program} {t : TypeId} {H : AH} {a b c d : Int} (hp : dM P t = some [(0, 0), (0, 1)]) : od P .eql t (.agg [.int .i64 a, .int .i64 b]) (.agg [.int .i64 c, .int .i64 d]) H = some (.bool (decide (a = c) && (decide (b = d) && true))) := by
  simp [od, hp, m4, nth, lK]
abbrev kE : List (Nat × AV) := [(0, .bool false), (1, .ptr 0 0), (4, .si .i64 1), (5, .si .i64 0), (6, .si .i64 0), (7, .si .i64 7), (8, .si .i64 0), (9, .si .i64 8), (10, .si .i64 2), (11, .si .i64 0), (13, .si .i64 5), (14, .ptr 3 0), (15, .sb true), (16, .rw 4 0 2 2 0), (17, .si .i64 1)]
noncomputable def kM (C : Ck5) : AH := mkH [(0, .cells (bU s2 1 (pts C).length) true), (1, .cells (aL (pts C)) true), (2, cv s2 C), (3, .cells [.int .i64 20, .int .i64 2] true), (4, .cells (smp [(20, 2), (10, 3)]) true)]
theorem GH {σ : AE} {H : AH} {n : Nat} {C : Ck5} {l3 l4 : List AV} (e0 : mk (aA (pa 0) σ) = .sb false) (e1 : aA (pa 1) σ = .ptr 0 0) (e4 : mk (aA (pa 4) σ) = .si .i64 1) (e5 : mk (aA (pa 5) σ) = .si .i64 0) (e6 : mk (aA (pa 6) σ) = .si .i64 0) (e7 : mk (aA (pa 7) σ) = .si .i64 7) (e8 : mk (aA (pa 8) σ) = .si .i64 0) (e9 : mk (aA (pa 9) σ) = .si .i64 8) (e10 : mk (aA (pa 10) σ) = .si .i64 2) (e11 : mk (aA (pa 11) σ) = .si .i64 0) (e13 : mk (aA (pa 13) σ) = .si .i64 5) (e14 : aA (pa 14) σ = .ptr 8 0) (e15 : mk (aA (pa 15) σ) = .sb true) (e16 : aA (pa 16) σ = .rw 9 0 2 2 0) (e17 : mk (aA (pa 17) σ) = .si .i64 1)
    (h0 : PM.get H 0 = some (.cells (bU s2 10 (pts C).length) true)) (h1 : PM.get H 10 = some (.cells (aL (pts C)) true)) (h2 : PM.get H 2 = some (cv s2 C)) (h3 : PM.get H 8 = some (.cells l3 true)) (g3 : l3.map mk = [.si .i64 20, .si .i64 2]) (h4 : PM.get H 9 = some (.cells l4 true)) (g4 : l4.map mk = smp [(20, 2), (10, 3)]) : Cov 0 σ H n (mkE kE, kM C, 5) := by
  refine Cov.ofR (m := 5) (p := 0) (fun c => if c = 1 then 10 else if c = 3 then 8 else if c = 4 then 9 else c) (by decide) (fun b hb => absurd hb (Nat.not_lt_zero b)) (fun x hx => ?_) (fun x hx => ?_) (fun x hx y hy e => ?_)
  · simp only [List.mem_cons, List.not_mem_nil, or_false] at hx
    rcases hx with rfl | rfl | rfl | rfl | rfl | rfl | rfl | rfl | rfl | rfl | rfl | rfl | rfl | rfl | rfl
    · exact ai.flat rfl e0
    · exact ai.ptr (by decide) e1
    · exact ai.flat rfl e4
    · exact ai.flat rfl e5
    · exact ai.flat rfl e6
    · exact ai.flat rfl e7
    · exact ai.flat rfl e8
    · exact ai.flat rfl e9
    · exact ai.flat rfl e10
    · exact ai.flat rfl e11
    · exact ai.flat rfl e13
    · exact ai.ptr (by decide) e14
    · exact ai.flat rfl e15
    · exact ai.rw (by decide) e16
    · exact ai.flat rfl e17
  · simp only [List.mem_cons, List.not_mem_nil, or_false] at hx
    rcases hx with rfl | rfl | rfl | rfl | rfl
    · exact ⟨Nat.le_of_ble_eq_true rfl, .inl ⟨_, h0, aQ.bU rfl rfl rfl rfl rfl (ai.rw (Nat.le_of_ble_eq_true rfl) rfl)⟩⟩
    · exact ⟨Nat.le_of_ble_eq_true rfl, .inl ⟨_, h1, aQ.aL (aq _)⟩⟩
    · exact ⟨Nat.le_of_ble_eq_true rfl, .inl ⟨_, h2, aQ.sep _⟩⟩
    · exact ⟨Nat.le_of_ble_eq_true rfl, .inl ⟨_, h3, aQ.bA rfl g3 id⟩⟩
    · exact ⟨Nat.le_of_ble_eq_true rfl, .inl ⟨_, h4, aQ.bA rfl g4 id⟩⟩
  · simp only [List.mem_cons, List.not_mem_nil, or_false] at hx hy
    rcases hx with rfl | rfl | rfl | rfl | rfl <;> rcases hy with rfl | rfl | rfl | rfl | rfl <;> simp at e ⊢
theorem GI {o : Op} {σ : AE} {H : AH} {κ : AV → Prop} {v : AV} (hs : ∀ κ : AV → Prop, κ v → qP o σ H κ) (K : κ v) : qP o σ H κ := hs κ K
theorem uS {ops : Array Oper} {o : Oper} {b : DB} {cd : CP} {hist : List (AH × Nat)} {σ : AE} {H : AH} {n : Nat} {k : KP} {j t i : Nat} {w : Bool} {r : AH × Nat} {v : AV} (hg : o.guard = some (j, w)) (hgs : eM ops j = some t) (hq : aA (pa t) σ = .bool w) (hb : b.1 = some i) (hr : nth ((H, n) :: hist) i = some r) (hs : ∀ κ : AV → Prop, κ v → qP o.op (ga σ b.2) r.1 κ) (K : k (bS σ o.dst v) H n) : tp ops o b cd hist σ H n k := by
  unfold tp
  rw [hg]; dsimp only
  rw [hgs]; dsimp only
  rw [hq]; dsimp only
  have e : (w == w) = true := by cases w <;> rfl
  rw [e, hb]; dsimp only
  rw [hr]
  exact hs (fun v => k (bS σ o.dst v) H n) K
theorem GJ {σ : AE} {H : AH} {κ : AV → Prop} {ty r : TypeId} {x y : Operand} {a b c d : Int} (hp : dM Try.prog ty = some [(0, 0), (0, 1)]) (hx : eev σ x = .agg [.int .i64 a, .int .i64 b]) (hy : eev σ y = .agg [.int .i64 c, .int .i64 d]) (K : κ (.bool (decide (a = c) && (decide (b = d) && true)))) : qP (.binOp .eql ty x y r) σ H κ := by
  show vo .eql ty (eev σ x) (eev σ y) H κ
  rw [hx, hy]
  show bJ (od Try.prog .eql ty (.agg [.int .i64 a, .int .i64 b]) (.agg [.int .i64 c, .int .i64 d]) H) κ
  exact aD (we hp) K
theorem FI : iJ [(20, 2), (10, 3)] [(20, 2), (10, 3)] = true := by kernel_rfl
theorem DD : iJ [(10, 3)] [(10, 3)] = true := by kernel_rfl
theorem BZ : az GF 6 21 [] .nil 0 (fun u _ _ => mkT u = AV.sb true) := by
  conv => whnf
  refine ⟨128, 10, 3, some s0, rfl, rfl, rfl, by decide, GG, fun h5 => ?_⟩
  conv => whnf
  refine ⟨128, -1, 3, none, rfl, rfl, rfl, by decide, I2, ?_⟩
  conv => whnf
  refine ⟨0, 1, 2, s0, [], 5, 1, 0, [], s1, [(5, 1)], 0, rfl, ⟨_, _, rfl, rfl, rfl⟩, rfl, ⟨⟨by decide, by decide, by decide⟩, ⟨by decide, by decide, by decide⟩, rfl, rfl, rfl⟩, h5, ⟨by decide, by decide⟩, rfl, by decide, k_a, fun Ca ha fa => ?_⟩
  conv => whnf
  refine ⟨0, 3, 2, s1, Ca, 20, 2, 0, [(5, 1)], s2, [(20, 2)], 0, rfl, ⟨_, _, rfl, rfl, rfl⟩, rfl, ⟨⟨by decide, by decide, by decide⟩, ⟨by decide, by decide, by decide⟩, rfl, rfl, rfl⟩, ha, ⟨by decide, by decide⟩, fa, by decide, k_b, fun Cb hb fb => ?_⟩
  conv => whnf
  refine ⟨0, 4, 2, s2, Cb, 9, 3, 0, [(20, 2)], s2, [(20, 2)], 7, rfl, ⟨_, _, rfl, rfl, rfl⟩, rfl, ⟨⟨by decide, by decide, by decide⟩, ⟨by decide, by decide, by decide⟩, rfl, rfl, rfl⟩, hb, ⟨by decide, by decide⟩, fb, by decide, k_c, fun Cc hc fc => ?_⟩
  conv => whnf
  refine ⟨0, 5, 2, s2, Cc, 10, 3, 0, [(20, 2)], s2, [(10, 3), (20, 2)], 0, rfl, ⟨_, _, rfl, rfl, rfl⟩, rfl, ⟨⟨by decide, by decide, by decide⟩, ⟨by decide, by decide, by decide⟩, rfl, rfl, rfl⟩, hc, ⟨by decide, by decide⟩, fc, by decide, k_d, fun Cd hd fd => ?_⟩
  conv => whnf
  refine ⟨0, 6, 2, s2, Cd, 20, 7, 1, [(10, 3), (20, 2)], s2, [(10, 3), (20, 2)], 8, rfl, ⟨_, _, rfl, rfl, rfl⟩, rfl, ⟨⟨by decide, by decide, by decide⟩, ⟨by decide, by decide, by decide⟩, rfl, rfl, rfl⟩, hd, ⟨by decide, by decide⟩, fd, by decide, k_g, fun Cg hg fg => ?_⟩
  conv => whnf
  refine ⟨0, 7, 2, s2, Cg, .tup [.si .i64 2, .si .i64 0], rfl, ⟨⟨by decide, by decide, by decide⟩, ⟨by decide, by decide, by decide⟩, rfl, rfl, rfl⟩, ⟨_, 20, rfl, rfl, hg.gt, by rw [fg]; decide, by rw [fg]; kernel_rfl⟩, ?_⟩
  conv => whnf
  refine ⟨0, 7, 2, s2, Cg, .tup [.si .i64 0, .si .i64 5], rfl, ⟨⟨by decide, by decide, by decide⟩, ⟨by decide, by decide, by decide⟩, rfl, rfl, rfl⟩, ⟨_, 5, rfl, rfl, hg.gt, by rw [fg]; decide, by rw [fg]; kernel_rfl⟩, ?_⟩
  conv => whnf
  refine ⟨0, 7, 2, s2, Cg, .tup [.agg [.si .i64 20, .si .i64 2], .sb true], rfl, ⟨⟨by decide, by decide, by decide⟩, ⟨by decide, by decide, by decide⟩, rfl, rfl, rfl⟩, ⟨rfl, hg.gt, by rw [fg]; decide, by rw [fg]; kernel_rfl⟩, ?_⟩
  conv => whnf
  refine ⟨0, 7, 2, s2, Cg, [(20, 2), (10, 3)], rfl, ⟨⟨by decide, by decide, by decide⟩, ⟨by decide, by decide, by decide⟩, rfl, rfl, rfl⟩, ⟨by decide, rfl⟩, ⟨_, _, 0, 100, rfl, rfl, rfl, hg.okc, hg.gt.up, by rw [fg]; decide, by rw [fg]; kernel_rfl⟩, ?_⟩
  conv => whnf
  refine wA.mk { C : Ck5 // jv s2 C ∧ ab C = [(10, 3)] } 5 (fun C => (mkE kE, kM C.val)) ?_ ?_
  focus
    conv => whnf
    refine ⟨0, 7, 2, s2, Cg, 20, 30, [(10, 3), (20, 2)], [(10, 3)], 1, rfl, rfl, rfl, ⟨⟨by decide, by decide, by decide⟩, ⟨by decide, by decide, by decide⟩, rfl, rfl, rfl⟩, hg, fg, by decide, k_n, rfl, fun Cn hn fn => ?_⟩
    conv => whnf
    exact ⟨⟨Cn, hn, fn⟩, GH rfl rfl rfl rfl rfl rfl rfl rfl rfl rfl rfl rfl rfl rfl rfl rfl rfl rfl rfl rfl rfl rfl⟩
  intro ⟨C, hC, fC⟩
  have hU : ((jw C).length : Int) = 1 := by
    rw [j8]
    have h1 := hC.gt.few
    rw [fC] at h1
    have h2 : C ≠ [] := fun e => by rw [e] at fC; cases fC
    have h3 : C.length ≤ 1 := h1
    have h4 : 0 < C.length := List.length_pos_iff.2 h2
    omega
  conv => whnf
  iterate 8
    refine ak.dec (fun _ => ?_) (fun z => absurd (by decide) z)
    conv => whnf
  refine ak.dec (fun _ => ?_) (fun z => absurd (by decide) z)
  refine aD (a := (kM C, 5)) rfl ?_
  refine GI (v := .agg [.int .i64 20, .int .i64 2]) (fun κ h => h) ?_
  refine uS (v := .agg [.int .i64 20, .int .i64 2]) rfl rfl rfl rfl rfl (fun κ h => h) ?_
  refine uS (v := .bool true) rfl rfl rfl rfl rfl (fun κ h => GJ BU rfl rfl h) ?_
  conv => whnf
  refine ak.sb (fun _ => ?_) (fun z => absurd z (by decide))
  conv => whnf
  refine ⟨[(20, 2), (10, 3)], [(20, 2), (10, 3)], (.inr (.inl (.inl ⟨4, 0, 0, smp [(20, 2), (10, 3)], smp [(20, 2), (10, 3)], ⟨rfl, by decide⟩, .inr ⟨true, rfl⟩, rfl, rfl⟩))), (.inr (.inr ⟨_, _, _, _, _, _, rfl, .inr ⟨_, rfl⟩, rfl, rfl, by decide⟩)), by decide, by decide, ?_⟩
  conv => whnf
  refine ak.sb (fun _ => ?_) (fun z => absurd (FI.symm.trans z) (by decide))
  conv => whnf
  refine ak.dec (fun _ => ?_) (fun z => absurd (by decide) z)
  conv => whnf
  refine ⟨0, 1, 2, s2, C, .si .i64 20, rfl, ⟨⟨by decide, by decide, by decide⟩, ⟨by decide, by decide, by decide⟩, rfl, rfl, rfl⟩, ⟨rfl, by decide, rfl⟩, ?_⟩
  conv => whnf
  refine ak.dec (fun _ => ?_) (fun z => absurd (by decide) z)
  conv => whnf
  refine ⟨0, 1, 2, s2, C, .si .i64 10, rfl, ⟨⟨by decide, by decide, by decide⟩, ⟨by decide, by decide, by decide⟩, rfl, rfl, rfl⟩, ⟨rfl, by decide, by decide, by decide, rfl⟩, ?_⟩
  conv => whnf
  refine ak.dec (fun _ => ?_) (fun z => absurd (by decide) z)
  conv => whnf
  refine ⟨0, 1, 2, s2, C, .si .i64 1, rfl, ⟨⟨by decide, by decide, by decide⟩, ⟨by decide, by decide, by decide⟩, rfl, rfl, rfl⟩, ⟨rfl, hC.okc, by rw [fC]; decide, by rw [fC]; rfl⟩, ?_⟩
  conv => whnf
  refine ak.dec (fun _ => ?_) (fun z => absurd (by decide) z)
  conv => whnf
  refine ⟨0, 1, 2, s2, C, jw C, rfl, ⟨⟨by decide, by decide, by decide⟩, ⟨by decide, by decide, by decide⟩, rfl, rfl, rfl⟩, ⟨by decide, rfl⟩, ⟨hC.okc, rfl⟩, ?_⟩
  conv => whnf
  refine ak.dec (fun _ => ?_) (fun z => absurd hU z)
  conv => whnf
  refine ⟨0, 1, 2, s2, C, .si .i64 10, rfl, ⟨⟨by decide, by decide, by decide⟩, ⟨by decide, by decide, by decide⟩, rfl, rfl, rfl⟩, ⟨rfl, by decide, rfl⟩, ?_⟩
  conv => whnf
  refine ak.dec (fun _ => ?_) (fun z => absurd (by decide) z)
  conv => whnf
  refine ⟨0, 1, 2, s2, C, .si .i64 3, rfl, ⟨⟨by decide, by decide, by decide⟩, ⟨by decide, by decide, by decide⟩, rfl, rfl, rfl⟩, ⟨rfl, by decide, rfl⟩, ?_⟩
  conv => whnf
  refine ak.dec (fun _ => ?_) (fun z => absurd (by decide) z)
  conv => whnf
  refine ⟨0, 1, 2, s2, C, [(10, 3)], rfl, ⟨⟨by decide, by decide, by decide⟩, ⟨by decide, by decide, by decide⟩, rfl, rfl, rfl⟩, ⟨by decide, rfl⟩, ⟨_, _, 0, 50, rfl, rfl, rfl, hC.okc, hC.gt.up, by rw [fC]; decide, by rw [fC]; kernel_rfl⟩, ?_⟩
  conv => whnf
  refine RSl.mk 1 2 rfl rfl (.inl rfl) (by decide) (by decide) ?_
  conv => whnf
  refine ⟨[(10, 3)], [(10, 3)], (.inr (.inl (.inl ⟨_, _, _, smp [(10, 3)], smp [(10, 3)], ⟨rfl, by decide⟩, .inr ⟨true, rfl⟩, rfl, rfl⟩))), (.inr (.inl (.inl ⟨4, 2, 0, smp [(20, 2), (10, 3)], smp [(10, 3)], ⟨rfl, by decide⟩, .inr ⟨true, rfl⟩, rfl, rfl⟩))), by decide, by decide, ?_⟩
  conv => whnf
  exact Eq.trans (b := AV.sb (iJ [(10, 3)] [(10, 3)])) rfl (congrArg AV.sb DD)
end Go.Proofs.Ytapjijhjnloimaa
namespace Go.Proofs.Ytapjijhjnloimaa
open Go Go.RowKit
def Mf (B : Sr → Smp → List AV → AV → Prop) (args : List AV) (H : AH) (n : Nat) (κ : PK) : Prop := match args with
  | x :: ar => ∃ (b : Nat) (p : Nat × Nat) (S : Sr) (L : Smp) (v : AV), x = fk p ∧ b < n ∧ PM.get H b = some (.sep (FG p S L)) ∧ Ek H n ∧ B S L ar v ∧ κ v H (n + 3)
  | _ => False
def HK (args : List AV) (H : AH) (n : Nat) (κ : PK) : Prop := match args with
  | [x, y, z] => ∃ (b : Nat) (p : Nat × Nat) (S : Sr) (L : Smp) (t v q : Int) (S' : Sr) (L' : Smp) (e : Int), x = fk p ∧ b < n ∧ PM.get H b = some (.sep (FG p S L)) ∧ Ek H n ∧ jR y t v ∧ mk z = .si .i64 q ∧ aY v ∧ L.length ≤ 40000 ∧ gP S L t v q = ((S', L'), e) ∧ (GC S' L' → κ (.si .i64 e) (PM.set (some (.sep (FG p S' L'))) aa H b) (n + 4))
  | _ => False
def wg (args : List AV) (H : AH) (n : Nat) (κ : PK) : Prop := match args with
  | [] => κ (.sb true) H n
  | _ => False
theorem B0 : aM 21 wg := fun args H n κ hs φ h0' hp vs K hr hargs hk => by
  unfold wg at hs
  split at hs
  · exact gJ (v := .bool true) DC rfl BZ hs hr hk (by kernel_rfl) HR.ro0 (by rw [hargs.aU]; exact .nil)
  · exact hs.elim
end Go.Proofs.Ytapjijhjnloimaa
namespace Go.Proofs.Ytapjijhjnloimaa
open Go Go.RowKit
def look (L : Smp) (t : Int) : Option Int := if has L t then some (vAt L (plc L t)) else none
end Go.Proofs.Ytapjijhjnloimaa
namespace Go.Proofs.Ytapjijhjnloimaa
open Go Go.RowKit
def DE : DT := [(8, [(some 1000000, [1, 3]), (none, [0, 1, 2, 3, 4, 5, 6, 7]), (none, [0, 2, 3, 1, 4, 5, 6, 7])])]
end Go.Proofs.Ytapjijhjnloimaa
namespace Go.Proofs.Ytapjijhjnloimaa
open Go Go.RowKit
theorem DF {σ : AE} {H : AH} {n : Nat} {a b : Int} {l3 l4 : List AV} (e4 : aA (pa 4) σ = .ptr 0 0) (e5 : aA (pa 5) σ = .ptr 1 0) (e7 : aA (pa 7) σ = .ptr 2 0) (h3 : PM.get H 0 = some (.cells l3 true)) (g3 : l3.map mk = [.si .i64 a]) (h4 : PM.get H 1 = some (.cells l4 true)) (g4 : l4.map mk = [.si .i64 b]) (h5 : PM.get H 2 = some (.cells [.nsl] true)) : Cov 0 σ H n (mkE [(4, .ptr 0 0), (5, .ptr 1 0), (7, .ptr 2 0)], mkH [(0, .cells [.si .i64 a] true), (1, .cells [.si .i64 b] true), (2, .cells [.nsl] true)], 3) := by
  refine Cov.ofR (m := 3) (p := 0) (fun c => c) (Nat.zero_le _) (fun b hb => absurd hb (Nat.not_lt_zero b)) (fun x hx => ?_) (fun x hx => ?_) (fun x hx y hy e => e)
  · simp only [List.mem_cons, List.not_mem_nil, or_false] at hx
    rcases hx with rfl | rfl | rfl
    · exact ai.ptr (by decide) e4
    · exact ai.ptr (by decide) e5
    · exact ai.ptr (by decide) e7
  · simp only [List.mem_cons, List.not_mem_nil, or_false] at hx
    rcases hx with rfl | rfl | rfl
    · exact ⟨Nat.le_of_ble_eq_true rfl, .inl ⟨_, h3, aQ.bA rfl g3 id⟩⟩
    · exact ⟨Nat.le_of_ble_eq_true rfl, .inl ⟨_, h4, aQ.bA rfl g4 id⟩⟩
    · exact ⟨Nat.le_of_ble_eq_true rfl, .inl ⟨_, h5, aQ.bA rfl rfl id⟩⟩
theorem DG (a b : Int) : RfG cRg (kK KRf) 18 [.nil, .si .i64 a, .si .i64 b] (mkH (dH [] 0)) 0 (fun u H' _ => u = .nsl) := by
  conv => whnf
  refine ⟨by kernel_rfl, Nat.le_of_ble_eq_true rfl, ?_⟩
  conv => whnf
  refine ⟨by decide, 65, [.nil], [4, 5, 7], mkH [(0, .cells [.si .i64 a] true), (1, .cells [.si .i64 b] true), (2, .cells [.nsl] true)], mkH [], mkE [(4, .ptr 0 0), (5, .ptr 1 0), (7, .ptr 2 0)], mkH [(0, .cells [.si .i64 a] true), (1, .cells [.si .i64 b] true), (2, .cells [.nsl] true)], 3, rfl, rfl, fun c o h => ?_, fun c o h => ?_, fun c o h => ?_, ?_, fun L D rec ρ hY => ?_⟩
  · have hm := aX h
    simp only [List.mem_cons, List.not_mem_nil, or_false] at hm
    rcases hm with hm | hm | hm <;> (cases hm; rfl)
  · have hm := aX h
    cases hm
  · have hm := aX h
    simp only [List.mem_cons, List.not_mem_nil, or_false] at hm
    rcases hm with hm | hm | hm <;> (cases hm; exact ⟨rfl, rfl⟩)
  · exact DF rfl rfl rfl rfl rfl rfl rfl rfl
  conv => whnf
  refine ⟨.ready, none, mkH [(0, .cells [.si .i64 a] true), (1, .cells [.si .i64 b] true), (2, .cells [.nsl] true)], 3, rfl, (fun q => by cases q), .inl rfl, bH rfl, ?_⟩
  conv => whnf
  refine ⟨bH rfl, ?_⟩
  conv => whnf
  exact .inl ⟨fun φ ψ u h => h, rfl⟩
theorem DH {σ : AE} {H : AH} {n : Nat} {a b : Int} {l3 l4 : List AV} (e4 : aA (pa 4) σ = .ptr 1 0) (e5 : aA (pa 5) σ = .ptr 2 0) (e7 : aA (pa 7) σ = .ptr 3 0) (h3 : PM.get H 1 = some (.cells l3 true)) (g3 : l3.map mk = [.si .i64 a]) (h4 : PM.get H 2 = some (.cells l4 true)) (g4 : l4.map mk = [.si .i64 b]) (h5 : PM.get H 3 = some (.cells [.nsl] true)) : Cov 0 σ H n (mkE [(4, .ptr 1 0), (5, .ptr 2 0), (7, .ptr 3 0)], mkH [(1, .cells [.si .i64 a] true), (2, .cells [.si .i64 b] true), (3, .cells [.nsl] true)], 4) := by
  refine Cov.ofR (m := 4) (p := 0) (fun c => c) (Nat.zero_le _) (fun b hb => absurd hb (Nat.not_lt_zero b)) (fun x hx => ?_) (fun x hx => ?_) (fun x hx y hy e => e)
  · simp only [List.mem_cons, List.not_mem_nil, or_false] at hx
    rcases hx with rfl | rfl | rfl
    · exact ai.ptr (by decide) e4
    · exact ai.ptr (by decide) e5
    · exact ai.ptr (by decide) e7
  · simp only [List.mem_cons, List.not_mem_nil, or_false] at hx
    rcases hx with rfl | rfl | rfl
    · exact ⟨Nat.le_of_ble_eq_true rfl, .inl ⟨_, h3, aQ.bA rfl g3 id⟩⟩
    · exact ⟨Nat.le_of_ble_eq_true rfl, .inl ⟨_, h4, aQ.bA rfl g4 id⟩⟩
    · exact ⟨Nat.le_of_ble_eq_true rfl, .inl ⟨_, h5, aQ.bA rfl rfl id⟩⟩
theorem DI (a b : Int) : RfG cRg (kK KRf) 18 [.ptr 0 0, .si .i64 a, .si .i64 b] (mkH (dH [.cells [.int .i64 0, .int .i64 0, .int .i64 0, .int .i64 0, .int .i64 0, .nsl] true] 0)) 1 (fun u H' _ => u = .nsl ∧ PM.get H' 0 = some (.cells [.int .i64 0, .int .i64 0, .int .i64 0, .int .i64 0, .int .i64 0, .nsl] true)) := by
  conv => whnf
  refine ⟨by kernel_rfl, Nat.le_of_ble_eq_true rfl, ?_⟩
  conv => whnf
  refine ⟨by decide, 65, [.ptr 0 0], [4, 5, 7], mkH [(1, .cells [.si .i64 a] true), (2, .cells [.si .i64 b] true), (3, .cells [.nsl] true)], mkH [(0, .cells [.int .i64 0, .int .i64 0, .int .i64 0, .int .i64 0, .int .i64 0, .nsl] true)], mkE [(4, .ptr 1 0), (5, .ptr 2 0), (7, .ptr 3 0)], mkH [(1, .cells [.si .i64 a] true), (2, .cells [.si .i64 b] true), (3, .cells [.nsl] true)], 4, rfl, rfl, fun c o h => ?_, fun c o h => ?_, fun c o h => ?_, ?_, fun L D rec ρ hY => ?_⟩
  · have hm := aX h
    simp only [List.mem_cons, List.not_mem_nil, or_false] at hm
    rcases hm with hm | hm | hm <;> (cases hm; rfl)
  · have hm := aX h
    simp only [List.mem_cons, List.not_mem_nil, or_false] at hm
    injection hm with h1 h2; subst h1 h2; rfl
  · have hm := aX h
    simp only [List.mem_cons, List.not_mem_nil, or_false] at hm
    rcases hm with hm | hm | hm <;> (cases hm; exact ⟨rfl, rfl⟩)
  · exact DH rfl rfl rfl rfl rfl rfl rfl rfl
  conv => whnf
  refine ⟨.ready, none, mkH [(1, .cells [.si .i64 a] true), (2, .cells [.si .i64 b] true), (3, .cells [.nsl] true)], 4, rfl, (fun q => by cases q), .inl rfl, bH rfl, ?_⟩
  conv => whnf
  refine ⟨bH rfl, ?_⟩
  conv => whnf
  exact .inl ⟨fun φ ψ u h => h, rfl, rfl⟩
theorem DJ : RfG cRg (kK KRf) 20 [.nil] (mkH (dH [] 0)) 0 (fun u H' _ => u = .si .i64 0) := by
  conv => whnf
  refine ⟨by kernel_rfl, Nat.le_of_ble_eq_true rfl, ?_⟩
  conv => whnf
  refine ⟨by decide, 65, [.nil], [3], mkH [(0, .cells [.int .i64 0] true)], mkH [], mkE [(3, .ptr 0 0)], mkH [(0, .cells [.si .i64 0] true)], 1, rfl, rfl, fun c o h => ?_, fun c o h => ?_, fun c o h => ?_, ?_, fun L D rec ρ hY => ?_⟩
  · have hm := aX h
    simp only [List.mem_cons, List.not_mem_nil, or_false] at hm
    cases hm; rfl
  · have hm := aX h
    cases hm
  · have hm := aX h
    simp only [List.mem_cons, List.not_mem_nil, or_false] at hm
    cases hm; exact ⟨rfl, rfl⟩
  · refine Cov.ofR (m := 1) (p := 0) (fun c => c) (Nat.zero_le _) (fun b hb => rfl) (fun x hx => ?_) (fun x hx => ?_) (fun x hx y hy e => e)
    · simp only [List.mem_cons, List.not_mem_nil, or_false] at hx
      subst hx
      exact ai.ptr (by decide) rfl
    · simp only [List.mem_cons, List.not_mem_nil, or_false] at hx
      subst hx
      exact ⟨Nat.le_of_ble_eq_true rfl, .inl ⟨_, rfl, aQ.bA rfl rfl id⟩⟩
  conv => whnf
  refine ⟨.ready, none, mkH [(0, .cells [.si .i64 0] true)], 1, rfl, (fun q => by cases q), .inl rfl, bH rfl, ?_⟩
  conv => whnf
  refine ⟨bH rfl, ?_⟩
  conv => whnf
  exact .inl ⟨fun φ ψ u h => h, rfl⟩
def wi (args : List AV) (H : AH) (n : Nat) (κ : PK) : Prop := match args with
  | [x, y, z] => ∃ a b : Int, mk y = .si .i64 a ∧ mk z = .si .i64 b ∧ (x = .nil ∨ ∃ r, x = .ptr r 0 ∧ r < n ∧ PM.get H r = some (.cells [.int .i64 0, .int .i64 0, .int .i64 0, .int .i64 0, .int .i64 0, .nsl] true)) ∧ κ .nsl H n
  | _ => False
theorem B1 : ah Try.prog 20 = true := by kernel_rfl
theorem GK : aM 18 wi := fun args H n κ hs φ h0' hp vs K hr hargs hk => by
  unfold wi at hs
  split at hs
  · obtain ⟨a, b, hy, hz, hx, hs⟩ := hs
    obtain ⟨w1, us1, q1, e1, r1⟩ := hargs.cons_inv
    obtain ⟨w2, us2, q2, e2, r2⟩ := r1.cons_inv
    obtain ⟨w3, us3, q3, e3, r3⟩ := r2.cons_inv
    rcases hx with rfl | ⟨r, rfl, hrn, hget⟩
    · refine cG (S := []) (O := []) (args0 := [.nil, .si .i64 a, .si .i64 b]) (uL qz (bE tab.mixed dY 5) (iE dY) (ff dY)) qz hr ⟨List.nodup_nil, rfl, fun i s o h => by simp at h⟩ (by rw [q1, q2, q3]; exact .cons e1 (.cons (aC rfl (hy ▸ e2.mk)) (.cons (aC rfl (hz ▸ e3.mk)) r3))) hk (DG a b) fun u H' n' g => ?_
      subst g
      exact ⟨0, H, Nat.le_refl _, cU.same fun i s o h3 => by simp at h3, rfl, hs⟩
    · refine cG (S := [r]) (O := [.cells [.int .i64 0, .int .i64 0, .int .i64 0, .int .i64 0, .int .i64 0, .nsl] true]) (args0 := [.ptr 0 0, .si .i64 a, .si .i64 b]) (uL qz (bE tab.mixed dY 5) (iE dY) (ff dY)) qz hr (jj hrn hget (.inr rfl)) (by rw [q1, q2, q3]; exact .cons e1 (.cons (aC rfl (hy ▸ e2.mk)) (.cons (aC rfl (hz ▸ e3.mk)) r3))) hk (DI a b) fun u H' n' ⟨g, g2⟩ => ?_
      subst g
      refine ⟨1, H, Nat.le_refl _, cU.same fun i s o h3 h4 _ => ?_, rfl, hs⟩
      match i, h3 with
      | 0, h3 =>
        injection h3 with h3; subst h3
        rw [hget] at h4; injection h4 with h4; subst h4
        exact ⟨_, g2, rfl, rfl, rfl⟩
  · exact hs.elim
def wj (args : List AV) (H : AH) (n : Nat) (κ : PK) : Prop := match args with
  | [.nil] => κ (.si .i64 0) H n
  | _ => False
theorem GL : aM 20 wj := fun args H n κ hs φ h0' hp vs K hr hargs hk => by
  unfold wj at hs
  split at hs
  · refine cG (S := []) (O := []) (args0 := [.nil]) (uL B1 (bE tab.mixed dY 5) (iE dY) (ff dY)) B1 hr ⟨List.nodup_nil, rfl, fun i s o h => by simp at h⟩ hargs hk DJ fun u H' n' g => ?_
    subst g
    exact ⟨0, H, Nat.le_refl _, cU.same fun i s o h3 => by simp at h3, rfl, hs⟩
  · exact hs.elim
def DK : DT := [(5, [(some 0, [0]), (some 0, [17]), (some 0, [18]), (some 0, [19]), (some 0, [0]), (some 0, [21]), (some 0, [22]), (some 0, [23]), (some 0, [0]), (some 0, [25]), (some 0, [26]), (some 0, [27]), (some 0, [24, 28]), (some 0, [20, 29]), (some 0, [30])])]
noncomputable def GM : FuncId → EP := bB 23 Bz (bB 30 xA (bB 29 DE (bB 27 DK (bB 16 BE (bB 8 [] (bB 24 BM (a9 21 wg (a9 20 wj (a9 18 wi evP)))))))))
theorem DL : bI GM := aE (aE (aE (aE (aE (aE (aE (au (au (au a8 GK) GL) B0) (by kernel_rfl) (by kernel_rfl)) (by kernel_rfl) (by kernel_rfl)) (by kernel_rfl) (by kernel_rfl)) (by kernel_rfl) (by kernel_rfl)) (by kernel_rfl) (by kernel_rfl)) (by kernel_rfl) (by kernel_rfl)) (by kernel_rfl) (by kernel_rfl)
theorem uT (x0 y0 : Int) (hx : aY x0) (hy : aY y0) : az GM 6 8 [.agg [.si .i64 x0, .si .i64 y0]] .nil 0 fun v _ _ => v = .bool true ∨ v = .sb true := by
  conv => whnf
  refine ⟨0, 9, rfl, rfl, .inl rfl, ?_⟩
  conv => whnf
  refine ⟨0, 9, rfl, rfl, .inr ⟨_, rfl, by decide, rfl⟩, ?_⟩
  conv => whnf
  refine bz.roll 1 ?_
  conv => whnf
  refine ak.dec (fun _ => ?_) (fun z => absurd rfl z)
  conv => whnf
  first | exact .inl rfl | exact .inr rfl
end Go.Proofs.Ytapjijhjnloimaa
