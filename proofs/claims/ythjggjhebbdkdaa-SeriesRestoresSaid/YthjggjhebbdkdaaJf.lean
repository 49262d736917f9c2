/- Texts of our own, joined: the engine, the machine that runs code, and what is known of the functions. -/
import Derived.Test.YthjggjhebbdkdaaRows
import Derived.WalkKit
import Derived.Deep.Quiet
import Derived.ProofKit
import Derived.Laws.StructEq
import Derived.LaidEql
import Derived.Laws.BytesArg
import Derived.Maps.RangeRun
import Derived.RangeFuncSeq
import Derived.Scope
import Derived.Laws.Strings
import Derived.Laws.Strings2
import Derived.Below
import Derived.Carry
import Derived.OpenShut
import Derived.ChangeMaps5
import Derived.Deep.Slices
import Derived.Deep.SlicePairs
import Derived.SizedLaws
import Derived.Laws.BitsAllLaws
import Derived.RangeFuncRecord
import Derived.Test.YthjggjhebbdkdaaJe
import Derived.Test.YthjggjhebbdkdaaJd
set_option linter.unusedSimpArgs false
set_option linter.unusedVariables false
set_option maxHeartbeats 16000000
set_option maxRecDepth 100000
namespace Go.Proofs.Ythjggjhebbdkdaa
open Go Go.RowKit
noncomputable def KRf : FuncId → EP := a9 31 uh evP
theorem oh : bG KRf := aw bd IB
abbrev cRg : CP := az KRf 5
theorem zX {t v : Int} : ∀ (φ ψ : Ph) (u : Value), VR φ (.agg [.si .i64 t, .si .i64 v]) u → VR ψ (.agg [.si .i64 t, .si .i64 v]) u := fun φ ψ u h => by
  obtain ⟨cs, rfl, h1⟩ := h.eJ
  exact .agg (gu rfl h1)
noncomputable def rgI (a b : Int) (O : Smp) : AH := mkH [(3, .cells [.si .i64 a] true), (4, .cells [.si .i64 b] true), (5, .cells [.rw 6 0 O.length 2 0] true), (6, .cells (smp O) true)]
noncomputable def rgE : AE := mkE [(4, .ptr 3 0), (5, .ptr 4 0), (7, .ptr 5 0)]
noncomputable def ecM (S : Sr) (C : Ck5) (Q : HP) : AH := mkH [(0, .cells (bO S 1 (pts C).length) true), (1, .cells (aQ (pts C)) true), (2, bP S C), (6, .sep Q)]
theorem cQ {l : List (Nat × AO)} (h : (l.all fun x => x.2.own) = true) : cx (mkH l) := fun b o e => List.all_eq_true.1 h _ (bN e)
theorem cx.set {H : AH} {d n : Nat} {o : AO} (h : cx H) (ho : o.own = true) : cx (PM.set (some o) d H n) := fun b o' e => by
  rcases PM.ak d H n b o' e with ⟨_, q⟩ | ⟨_, q⟩
  · injection q with q; subst q; exact ho
  · exact h b o' q
theorem cx.del {H : AH} {d n : Nat} (h : cx H) : cx (PM.set none d H n) := fun b o' e => by
  rcases PM.ak d H n b o' e with ⟨_, q⟩ | ⟨_, q⟩
  · cases q
  · exact h b o' q
theorem zY {σ : AE} {H : AH} {n k : Nat} {a b : Int} {O : Smp} {l3 l4 : List AV} {l : AV} (e4 : ay (pa 4) σ = .ptr 3 0) (e5 : ay (pa 5) σ = .ptr 4 0) (e7 : ay (pa 7) σ = .ptr 5 0) (h3 : PM.get H 3 = some (.cells l3 true)) (g3 : l3.map mk = [.si .i64 a]) (h4 : PM.get H 4 = some (.cells l4 true)) (g4 : l4.map mk = [.si .i64 b])
    (h5 : PM.get H 5 = some (.cells [l] true)) (hl : ae H 7 (fun c => if c = 6 then k else c) l (.rw 6 0 O.length 2 0)) (h6 : (∃ l6, PM.get H k = some (.cells l6 true) ∧ l6.map mk = smp O) ∨ (O = [] ∧ n ≤ k)) (hk : k ≠ 3 ∧ k ≠ 4 ∧ k ≠ 5) : Cov 0 σ H n (rgE, rgI a b O, 7) := by
  refine Cov.ofR (m := 7) (p := 0) (fun c => if c = 6 then k else c) (Nat.zero_le _) (fun b hb => absurd hb (Nat.not_lt_zero b)) (fun x hx => ?_) (fun x hx => ?_) (fun x hx y hy e => ?_)
  · simp only [List.mem_cons, List.not_mem_nil, or_false] at hx
    rcases hx with rfl | rfl | rfl
    · exact ae.ptr (by decide) e4
    · exact ae.ptr (by decide) e5
    · exact ae.ptr (by decide) e7
  · simp only [List.mem_cons, List.not_mem_nil, or_false] at hx
    rcases hx with rfl | rfl | rfl | rfl
    · exact ⟨Nat.le_of_ble_eq_true rfl, .inl ⟨_, h3, aO.bz rfl g3 id⟩⟩
    · exact ⟨Nat.le_of_ble_eq_true rfl, .inl ⟨_, h4, aO.bz rfl g4 id⟩⟩
    · refine ⟨Nat.le_of_ble_eq_true rfl, .inl ⟨_, h5, aO.cells (Nat.le_refl _) id fun i a' hi => ?_⟩⟩
      match i, hi with
      | 0, hi => injection hi with hi; subst hi; exact ⟨_, rfl, hl⟩
      | i + 1, hi => simp at hi
    · refine ⟨Nat.le_of_ble_eq_true rfl, h6.elim (fun ⟨l6, q1, q2⟩ => .inl ⟨_, q1, aO.bz (ba _) (by rw [q2, aV]) id⟩) (fun q => .inr ⟨by rw [q.1]; rfl, q.2⟩)⟩
  · simp only [List.mem_cons, List.not_mem_nil, or_false] at hx hy
    rcases hx with rfl | rfl | rfl | rfl <;> rcases hy with rfl | rfl | rfl | rfl <;> simp at e ⊢ <;> omega
theorem wZ {σ : AE} {H : AH} {n : Nat} {S : Sr} {C : Ck5} {Q : HP} (le : List (Nat × AV)) (he : ∀ x ∈ le, ae H 7 (fun b => b) (ay (pa x.1) σ) x.2) (h0 : PM.get H 0 = some (.cells (bO S 1 (pts C).length) true)) (h1 : PM.get H 1 = some (.cells (aQ (pts C)) true)) (h2 : PM.get H 2 = some (bP S C)) (h6 : PM.get H 6 = some (.sep Q)) : Cov 7 σ H n (mkE le, ecM S C Q, 7) := by
  refine Cov.ofR (m := 7) (p := 7) (fun b => b) (Nat.le_refl _) (fun b hb => rfl) he ?_ (fun x hx y hy e => e)
  intro x hx
  simp only [List.mem_cons, List.not_mem_nil, or_false] at hx
  rcases hx with rfl | rfl | rfl | rfl
  · exact ⟨Nat.le_of_ble_eq_true rfl, .inl ⟨_, h0, aO.bO rfl rfl rfl rfl rfl (ae.rw (Nat.le_of_ble_eq_true rfl) rfl)⟩⟩
  · exact ⟨Nat.le_of_ble_eq_true rfl, .inl ⟨_, h1, aO.aQ (ax _)⟩⟩
  · exact ⟨Nat.le_of_ble_eq_true rfl, .inl ⟨_, h2, aO.sep _⟩⟩
  · exact ⟨Nat.le_of_ble_eq_true rfl, .inl ⟨_, h6, aO.sep _⟩⟩
def rK (L : Nat) : AV := .any (.func (.yield L) #[] #[])
abbrev lo1 (C : Ck5) (L i : Nat) : List (Nat × AV) := [(1, rK L), (14, .rw 1 0 (pts C).length 1 0), (15, .si .i64 ((pts C).length : Int)), (16, .si .i64 (i : Int))]
abbrev lo2 (C : Ck5) (L i : Nat) (X : Smp) (j : Nat) : List (Nat × AV) := [(1, rK L), (14, .rw 1 0 (pts C).length 1 0), (15, .si .i64 ((pts C).length : Int)), (16, .si .i64 (i : Int)), (21, .fr X.length 2 (smp X)), (22, .si .i64 (X.length : Int)), (23, .si .i64 (j : Int))]
theorem zZ {H : AH} {σ : AE} {C : Ck5} {L i : Nat} (e1 : ay (pa 1) σ = rK L) (e14 : ay (pa 14) σ = .rw 1 0 (pts C).length 1 0) (e15 : mk (ay (pa 15) σ) = .si .i64 ((pts C).length : Int)) (e16 : mk (ay (pa 16) σ) = .si .i64 (i : Int)) : ∀ x ∈ lo1 C L i, ae H 7 (fun b => b) (ay (pa x.1) σ) x.2 := fun x hx => by
  simp only [List.mem_cons, List.not_mem_nil, or_false] at hx
  rcases hx with rfl | rfl | rfl | rfl
  · show ae H 7 _ (ay (pa 1) σ) (rK L)
    rw [e1]; exact fun _ _ _ _ _ h => h
  · exact ae.rw (Nat.le_of_ble_eq_true rfl) e14
  · exact ae.int e15
  · exact ae.int e16
theorem uB {H : AH} {σ : AE} {C : Ck5} {L i j : Nat} {X : Smp} (e1 : ay (pa 1) σ = rK L) (e14 : ay (pa 14) σ = .rw 1 0 (pts C).length 1 0) (e15 : mk (ay (pa 15) σ) = .si .i64 ((pts C).length : Int)) (e16 : mk (ay (pa 16) σ) = .si .i64 (i : Int)) (e21 : ay (pa 21) σ = .fr X.length 2 (smp X)) (e22 : mk (ay (pa 22) σ) = .si .i64 (X.length : Int)) (e23 : mk (ay (pa 23) σ) = .si .i64 (j : Int)) : ∀ x ∈ lo2 C L i X j, ae H 7 (fun b => b) (ay (pa x.1) σ) x.2 := fun x hx => by
  simp only [List.mem_cons, List.not_mem_nil, or_false] at hx
  rcases hx with rfl | rfl | rfl | rfl | rfl | rfl | rfl
  · show ae H 7 _ (ay (pa 1) σ) (rK L)
    rw [e1]; exact fun _ _ _ _ _ h => h
  · exact ae.rw (Nat.le_of_ble_eq_true rfl) e14
  · exact ae.int e15
  · exact ae.int e16
  · exact ae.frE e21
  · exact ae.int e22
  · exact ae.int e23
def geF (a : Int) (X : Smp) : Smp := X.filter fun x => decide (a ≤ x.1)
noncomputable abbrev rgQ (L D : Nat) (rec : Loop) (ρ : Env) (a b : Int) (X : Smp) : HP := wY (iQ L D rec .ready none) rgE ρ (rgI a b (geF a X)) 7
theorem oi {S : Sr} {C : Ck5} {i : Nat} (h : i < C.length) : bP S C = .sep (pk (chs S.sz (C.take i ++ (C[i].1, C[i].2) :: C.drop (i + 1)))) := by
  have := df h
  unfold bP
  rw [this]
def aH (a b : Int) (X : Smp) : Smp := X.filter fun x => decide (a ≤ x.1) && decide (x.1 ≤ b)
def RgP (S : Sr) (C : Ck5) (O : Smp) : PK := fun u H' m => u = .rw 3 0 O.length 2 0 ∧ H' = mkH [(0, .cells (bO S 1 (pts C).length) true), (1, .cells (aQ (pts C)) true), (2, bP S C), (3, .cells (smp O) true)] ∧ m = 4
theorem Et {H : AH} {n N : Nat} {S : Sr} {C : Ck5} {O X : Smp} (hN : 3 ≤ N) (hO : X = O) (h0 : PM.get H 0 = some (.cells (bO S 1 (pts C).length) true)) (h1 : PM.get H 1 = some (.cells (aQ (pts C)) true)) (h2 : PM.get H 2 = some (bP S C)) (h3 : PM.get H N = some (.cells (smp X) true)) : ∃ (v2 : AV) (H2 : AH) (m : Nat), Cov 3 (mkE [(0, .rw N 0 X.length 2 0)]) H n (mkE [(0, v2)], H2, m) ∧ RgP S C O v2 H2 m := by
  subst hO
  refine ⟨.rw 3 0 X.length 2 0, _, 4, ?_, rfl, rfl, rfl⟩
  refine Cov.ofR (m := 4) (p := 3) (fun c => if c = 3 then N else c) (by decide) (fun b hb => if_neg (by omega)) (fun x hx => ?_) (fun x hx => ?_) (fun x hx y hy e => ?_)
  · simp only [List.mem_cons, List.not_mem_nil, or_false] at hx
    subst hx
    exact ae.rw (Nat.le_of_ble_eq_true rfl) rfl
  · simp only [List.mem_cons, List.not_mem_nil, or_false] at hx
    rcases hx with rfl | rfl | rfl | rfl
    · exact ⟨Nat.le_of_ble_eq_true rfl, .inl ⟨_, h0, aO.bO rfl rfl rfl rfl rfl (ae.rw (Nat.le_of_ble_eq_true rfl) rfl)⟩⟩
    · exact ⟨Nat.le_of_ble_eq_true rfl, .inl ⟨_, h1, aO.aQ (ax _)⟩⟩
    · exact ⟨Nat.le_of_ble_eq_true rfl, .inl ⟨_, h2, aO.sep _⟩⟩
    · exact ⟨Nat.le_of_ble_eq_true rfl, .inl ⟨_, h3, aO.bz (ba _) rfl id⟩⟩
  · simp only [List.mem_cons, List.not_mem_nil, or_false] at hx hy
    rcases hx with rfl | rfl | rfl | rfl <;> rcases hy with rfl | rfl | rfl | rfl <;> simp at e ⊢ <;> omega
theorem oY : RTy 35 35 2 16 := ⟨_, _, _, rfl, rfl, (fun q h => by cases h), rfl, rfl, rfl, rfl, by decide, by decide⟩
theorem Aa {a b : Int} {X : Smp} (h : ∀ x ∈ X, x.1 ≤ b) : geF a X = aH a b X := by
  refine List.filter_congr fun x hx => ?_
  have := h x hx
  simp [this]
theorem yy {a b : Int} {X Y : Smp} {x : Int × Int} (hU : Up (X ++ x :: Y)) (h : ∀ y ∈ X, y.1 ≤ b) (hx : b < x.1) : geF a X = aH a b (X ++ x :: Y) := by
  unfold aH
  rw [List.filter_append, Aa h]
  have : (x :: Y).filter (fun y => decide (a ≤ y.1) && decide (y.1 ≤ b)) = [] := List.filter_eq_nil_iff.2 fun y hy => by
    have h2 := (List.pairwise_append.1 hU).2.1
    have : x.1 ≤ y.1 := by
      rcases List.mem_cons.1 hy with rfl | hy
      · exact Int.le_refl _
      · exact Int.le_of_lt (List.rel_of_pairwise_cons h2 hy)
    simp only [Bool.and_eq_true, decide_eq_true_eq]; omega
  rw [this, List.append_nil]; rfl
theorem re {C : Ck5} {i : Nat} (h : i < C.length) : ab (C.take (i + 1)) = ab (C.take i) ++ C[i].2 := by
  rw [List.take_succ_eq_append_getElem h, gA]
  congr 1
  simp [ab, cnt]
theorem w6 {C : Ck5} {i j : Nat} (h : i < C.length) (hj : j < C[i].2.length) : ab C = (ab (C.take i) ++ C[i].2.take j) ++ C[i].2[j] :: (C[i].2.drop (j + 1) ++ ab (C.drop (i + 1))) := by
  have h1 := df h
  have h2 : C[i].2 = C[i].2.take j ++ C[i].2[j] :: C[i].2.drop (j + 1) := by rw [← List.drop_eq_getElem_cons hj, List.take_append_drop]
  have h3 : ab C = ab (C.take i) ++ (C[i].2 ++ ab (C.drop (i + 1))) := by
    have := congrArg ab h1
    rw [← this, gA, bw]
  rw [h3]
  have h4 : C[i].2 ++ ab (C.drop (i + 1)) = (C[i].2.take j ++ C[i].2[j] :: C[i].2.drop (j + 1)) ++ ab (C.drop (i + 1)) := by rw [← h2]
  rw [h4]; simp only [List.append_assoc, List.cons_append]
theorem BF (S : Sr) (C : Ck5) (a b : Int) (hO : Okc S C) (hU : Up (ab C)) (hf : (ab C).length ≤ 100000) : cf (RfG cRg (qi KRf) 13) [.ptr 0 0, .si .i64 a, .si .i64 b] (mkH (eu (eG S (pts C) C) 0)) 3 (RgP S C (aH a b (ab C))) := by
  have hl := hO.few
  have hlo := hO.lo
  show RfG cRg _ _ _ _ _ _
  conv => whnf
  refine ⟨by kernel_rfl, Nat.le_of_ble_eq_true rfl, ?_⟩
  conv => whnf
  refine ⟨by decide, 55, [.ptr 0 0], [4, 5, 7], mkH [(3, .cells [.si .i64 a] true), (4, .cells [.si .i64 b] true), (5, .cells [.nsl] true)], mkH [(0, .cells (bO S 1 (pts C).length) true), (1, .cells (aQ (pts C)) true), (2, bP S C)], rgE, rgI a b [], 7, rfl, rfl, fun c o h => ?_, fun c o h => ?_, fun c o h => ?_, ?_, fun L D rec ρ hY => ?_⟩
  · have hm := bN h
    simp only [List.mem_cons, List.not_mem_nil, or_false] at hm
    rcases hm with hm | hm | hm <;> (injection hm with h1 h2; subst h1 h2; rfl)
  · have hm := bN h
    simp only [List.mem_cons, List.not_mem_nil, or_false] at hm
    rcases hm with hm | hm | hm <;> (injection hm with h1 h2; subst h1 h2; rfl)
  · have hm := bN h
    simp only [List.mem_cons, List.not_mem_nil, or_false] at hm
    rcases hm with hm | hm | hm <;> (injection hm with h1 h2; subst h1 h2; exact ⟨rfl, rfl⟩)
  · exact zY (k := 6) rfl rfl rfl rfl rfl rfl rfl rfl (ae.ky rfl) (.inr ⟨rfl, Nat.le_refl _⟩) (by decide)
  conv => whnf
  refine ag.dB (fun z => absurd (show (0 : Int) < (S.sz : Int) by omega) z) (fun _ => ?_)
  conv => whnf
  refine bg.mk { i : Nat // i ≤ C.length ∧ ∀ x ∈ ab (C.take i), x.1 ≤ b } 7 (fun i => (mkE (lo1 C L i.val), ecM S C (rgQ L D rec ρ a b (ab (C.take i.val))))) (fun i => C.length - i.val) ⟨0, Nat.zero_le _, fun x hx => by cases hx⟩ ?_ ?_
  focus
    exact wZ _ (zZ rfl rfl rfl rfl) rfl rfl rfl rfl
  intro ⟨i, hi, hI⟩
  have hw : IntKind.i64.wrap ((i : Int) + 1) = ((i + 1 : Nat) : Int) := by rw [al (by omega) (by omega)]; omega
  conv => whnf
  refine ag.dec (fun h => ?_) (fun h => ?_)
  focus
    have h2 : i < C.length := by
      have h : (i : Int) < ((pts C).length : Int) := h
      rw [aq] at h; omega
    conv => whnf
    refine Idx.mk i rfl (by rw [aq]; exact h2) ?_
    conv => whnf
    refine ao (cH h2 (show 0 + i * 1 = i by omega)) ?_
    conv => whnf
    refine ⟨2, S.sz, C.take i, C.drop (i + 1), C[i].1, C[i].2, rfl, congrArg some (oi h2), by omega, hO.bS _ (List.getElem_mem h2), ?_⟩
    conv => whnf
    refine bg.mk { j : Nat // j ≤ C[i].2.length ∧ ∀ x ∈ ab (C.take i) ++ C[i].2.take j, x.1 ≤ b } 7 (fun j => (mkE (lo2 C L i C[i].2 j.val), ecM S C (rgQ L D rec ρ a b (ab (C.take i) ++ C[i].2.take j.val)))) (fun j => C[i].2.length - j.val) ⟨0, Nat.zero_le _, by simpa using hI⟩ ?_ ?_
    focus
      exact wZ _ (uB rfl rfl rfl rfl rfl rfl rfl) rfl rfl rfl (congrArg (fun X => some (AO.sep (rgQ L D rec ρ a b X))) (List.append_nil _).symm)
    have hF := (hO.bS _ (List.getElem_mem h2)).2.2
    have fE : ∀ {j : Nat}, j = C[i].2.length → ab (C.take i) ++ C[i].2.take j = ab (C.take (i + 1)) := fun {j} e => by rw [re h2, e, List.take_length]
    have hI2 : ∀ {j : Nat}, j = C[i].2.length → (∀ x ∈ ab (C.take i) ++ C[i].2.take j, x.1 ≤ b) → ∀ x ∈ ab (C.take (i + 1)), x.1 ≤ b := fun {j} e k => by rw [← fE e]; exact k
    intro ⟨j, hj, hJ⟩
    have hw2 : IntKind.i64.wrap ((j : Int) + 1) = ((j + 1 : Nat) : Int) := by rw [al (by omega) (by omega)]; omega
    conv => whnf
    refine ag.dec (fun h => ?_) (fun h => ?_)
    focus
      have h3 : j < C[i].2.length := by
        have h : (j : Int) < (C[i].2.length : Int) := h
        omega
      have hat := w6 h2 h3
      have fT : C[i].2.take (j + 1) = C[i].2.take j ++ [C[i].2[j]] := List.take_succ_eq_append_getElem h3
      have fS : b < C[i].2[j].1 → geF a (ab (C.take i) ++ C[i].2.take j) = aH a b (ab C) := fun z => (yy (hat ▸ hU) hJ z).trans (congrArg (aH a b) hat.symm)
      have hJ2 : ¬ b < C[i].2[j].1 → ∀ x ∈ ab (C.take i) ++ C[i].2.take (j + 1), x.1 ≤ b := fun z x hx => by
        rw [fT, ← List.append_assoc] at hx
        rcases List.mem_append.1 hx with q | q
        · exact hJ x q
        · rw [List.mem_singleton.1 q]; omega
      have fY : a ≤ C[i].2[j].1 → (smp (geF a (ab (C.take i) ++ C[i].2.take j)) ++ [AV.si .i64 C[i].2[j].1, AV.si .i64 C[i].2[j].2]).map mk = smp (geF a (ab (C.take i) ++ C[i].2.take (j + 1))) ∧ (geF a (ab (C.take i) ++ C[i].2.take j)).length + 1 = (geF a (ab (C.take i) ++ C[i].2.take (j + 1))).length := fun z => by
        have : geF a (ab (C.take i) ++ C[i].2.take (j + 1)) = geF a (ab (C.take i) ++ C[i].2.take j) ++ [C[i].2[j]] := by
          rw [fT, ← List.append_assoc]
          unfold geF
          rw [List.filter_append, List.filter_cons_of_pos (by simpa using z), List.filter_nil]
        rw [this, List.map_append, aV]
        exact ⟨by rw [ki]; rfl, by simp⟩
      have fN : ¬ a ≤ C[i].2[j].1 → geF a (ab (C.take i) ++ C[i].2.take j) = geF a (ab (C.take i) ++ C[i].2.take (j + 1)) := fun z => by
        rw [fT, ← List.append_assoc]
        generalize ab (C.take i) ++ C[i].2.take j = X
        unfold geF
        rw [List.filter_append, List.filter_cons_of_neg (by simpa using z), List.filter_nil, List.append_nil]
      have hbig : ((geF a (ab (C.take i) ++ C[i].2.take j)).length + 1) * 16 ≤ 140737488355328 := by
        have h5 : (geF a (ab (C.take i) ++ C[i].2.take j)).length ≤ (ab (C.take i) ++ C[i].2.take j).length := List.length_filter_le _ _
        have h6 := congrArg List.length hat
        rw [List.length_append, List.length_cons] at h6
        omega
      conv => whnf
      refine Idx.mk j rfl h3 ?_
      conv => whnf
      refine ao (bT h3 rfl) ?_
      conv => whnf
      refine Yld.mk _ hY ⟨rgI a b (geF a (ab (C.take i) ++ C[i].2.take j)), 7, _, rfl, rfl, zX, cQ rfl, ?_⟩
      conv => whnf
      refine ⟨((cQ rfl).set rfl).set rfl, ?_⟩
      conv => whnf
      refine ag.dec (fun z => ?_) (fun z => ?_)
      focus
        conv => whnf
        refine ⟨((cQ rfl).set rfl).set rfl, rgI a b (geF a (ab (C.take i) ++ C[i].2.take j)), 7, zY (k := 6) rfl rfl rfl rfl rfl rfl rfl rfl (ae.rw (Nat.le_of_ble_eq_true rfl) rfl) (.inl ⟨_, rfl, aV _⟩) (by decide), cQ rfl, ?_⟩
        conv => whnf
        refine ⟨.done, some (.exit 0), rgI a b (geF a (ab (C.take i) ++ C[i].2.take j)), 7, rfl, (fun q => by cases q), .inr rfl, cQ rfl, ?_⟩
        conv => whnf
        refine ⟨cQ rfl, ?_⟩
        conv => whnf
        exact .inr ⟨6, 0, _, 2, 0, smp _, true, rfl, rfl, ba _, Et (N := 8) (by decide) (fS z) rfl rfl rfl rfl⟩
      conv => whnf
      refine ag.dec (fun z2 => ?_) (fun z2 => ?_)
      focus
        conv => whnf
        refine fk.grow 2 16 1 (geF a (ab (C.take i) ++ C[i].2.take j)).length [.si .i64 C[i].2[j].1, .si .i64 C[i].2[j].2] (smp (geF a (ab (C.take i) ++ C[i].2.take j))) _ true oY (.old rfl) rfl rfl (.rw rfl (dd _)) hbig ?_
        conv => whnf
        refine ⟨?_, rgI a b (geF a (ab (C.take i) ++ C[i].2.take (j + 1))), 7, zY (k := 9) rfl rfl rfl rfl rfl rfl rfl rfl (ae.rw (Nat.le_of_ble_eq_true rfl) rfl (fY z2).2) (.inl ⟨_, rfl, (fY z2).1⟩) (by decide), cQ rfl, ?_⟩
        · repeat first | exact cQ rfl | refine cx.set ?_ rfl | refine cx.del ?_
        conv => whnf
        exact ⟨⟨j + 1, h3, hJ2 z⟩, by show C[i].2.length - (j + 1) < C[i].2.length - j; omega, wZ _ (uB rfl rfl rfl rfl rfl rfl (congrArg (AV.si .i64) hw2)) rfl rfl rfl rfl⟩
      conv => whnf
      refine ⟨?_, rgI a b (geF a (ab (C.take i) ++ C[i].2.take (j + 1))), 7, zY (k := 6) rfl rfl rfl rfl rfl rfl rfl rfl (ae.rw (Nat.le_of_ble_eq_true rfl) rfl (congrArg List.length (fN z2))) (.inl ⟨_, rfl, (aV _).trans (congrArg smp (fN z2))⟩) (by decide), cQ rfl, ?_⟩
      · exact ((cQ rfl).set rfl).set rfl
      conv => whnf
      exact ⟨⟨j + 1, h3, hJ2 z⟩, by show C[i].2.length - (j + 1) < C[i].2.length - j; omega, wZ _ (uB rfl rfl rfl rfl rfl rfl (congrArg (AV.si .i64) hw2)) rfl rfl rfl rfl⟩
    have h4 : j = C[i].2.length := by
      have h : ¬ (j : Int) < (C[i].2.length : Int) := h
      omega
    conv => whnf
    exact ⟨⟨i + 1, h2, hI2 h4 hJ⟩, by show C.length - (i + 1) < C.length - i; omega, wZ _ (zZ rfl rfl rfl (congrArg (AV.si .i64) hw)) rfl rfl rfl (congrArg (fun X => some (AO.sep (rgQ L D rec ρ a b X))) (fE h4))⟩
  have h2 : i = C.length := by
    have h : ¬ (i : Int) < ((pts C).length : Int) := h
    rw [aq] at h; omega
  have fZ : geF a (ab (C.take i)) = aH a b (ab C) := by
    rw [Aa hI, h2, List.take_length]
  conv => whnf
  refine ⟨.ready, none, rgI a b (geF a (ab (C.take i))), 7, rfl, (fun q => by cases q), .inl rfl, cQ rfl, ?_⟩
  conv => whnf
  refine ⟨cQ rfl, ?_⟩
  conv => whnf
  exact .inr ⟨6, 0, _, 2, 0, smp _, true, rfl, rfl, ba _, Et (N := 7) (by decide) fZ rfl rfl rfl rfl⟩
theorem il (f : Nat → Nat) (L : Smp) : dR f (smp L) = smp L := by
  induction L with
  | nil => rfl
  | cons c L ih =>
    show AV.si .i64 c.1 :: AV.si .i64 c.2 :: dR f (smp L) = _
    rw [ih]; rfl
theorem mM (m : Nat) (L : Smp) : kF m (smp L) = true := by
  induction L with
  | nil => rfl
  | cons c L ih => exact ih
theorem rf {f : FuncId} {run : List AV → AH → Nat → PK → Prop} (hrun : aF f run) (hic : aj Try.prog f = true) {ar0 : List AV} {S : Sr} {C : Ck5} {O : Smp} (h : cf run (.ptr 0 0 :: ar0) (mkH (eu (eG S (pts C) C) 0)) 3 (RgP S C O)) (har : ∀ r, dR r ar0 = ar0)
    {φ : Ph} {H : AH} {n : Nat} {h0 hp : Hp} {vs : Array Value} {κ : PK} {K : KH} {r k q : Nat} (hr : HR φ H n h0 hp) (hR : cZ H n r k q S (pts C) C) (hargs : VRs φ (.ptr r 0 :: ar0) vs.toList) (hk : bV φ h0 κ K) (hs : κ (.rw n 0 O.length 2 0) (PM.set (some (.cells (smp O) true)) aa H n) (n + 1)) : cL Try.prog f vs hp K := by
  refine cw (S := [r, k, q]) (O := eG S (pts C) C) (args0 := .ptr 0 0 :: ar0) (aF.cf hrun) hic hr hR.zL (by show VRs φ (ren _ _ :: dR _ ar0) vs.toList; rw [har]; exact hargs) hk h fun u H' n' ⟨g0, g1, g2⟩ => ?_
  subst g0 g1 g2
  refine ⟨4, PM.set (some (.cells (smp O) true)) aa H n, Nat.le_of_ble_eq_true rfl, fun b o hb => ?_, rfl, hs⟩
  rcases PM.ak aa H n b o hb with ⟨rfl, h2⟩ | ⟨h1, h2⟩
  · injection h2 with h2; subst h2
    exact .inl ⟨3, .cells (smp O) true, by decide, rfl, rfl, rfl, mM _ _, by rw [ck, il]⟩
  · by_cases hb : b ∈ [r, k, q]
    · left
      simp only [List.mem_cons, List.not_mem_nil, or_false] at hb
      rcases hb with rfl | rfl | rfl
      · rw [hR.hr] at h2; injection h2 with h2; subst h2
        exact ⟨0, _, by decide, rfl, rfl, rfl, rfl, rfl⟩
      · rw [hR.hk] at h2; injection h2 with h2; subst h2
        exact ⟨1, _, by decide, rfl, rfl, rfl, kj _ _, by rw [ck, fF]⟩
      · rw [hR.hq] at h2; injection h2 with h2; subst h2
        exact ⟨2, _, by decide, rfl, rfl, rfl, rfl, rfl⟩
    · exact .inr ⟨by show b < n ∨ n + 1 ≤ b; omega, h2, fun q => absurd q hb⟩
def l5 (A : Sr → Ck5 → List AV → Smp → Prop) (args : List AV) (H : AH) (n : Nat) (κ : PK) : Prop := match args with
  | x :: ar => ∃ (r k q : Nat) (S : Sr) (C : Ck5) (O : Smp), x = .ptr r 0 ∧ cZ H n r k q S (pts C) C ∧ (n < 900000 ∧ PM.get H n = none) ∧ A S C ar O ∧ κ (.rw n 0 O.length 2 0) (PM.set (some (.cells (smp O) true)) aa H n) (n + 1)
  | _ => False
theorem yz (A : Sr → Ck5 → List AV → Smp → Prop) : iW (l5 A) := fun args H n κ hs => by
  unfold l5 at *
  split at hs
  · obtain ⟨r, k, q, S, C, O, h1, h2, h3, h4, h5⟩ := hs
    exact ⟨_, _, _, h5, fun b o hb => PM.gne (by omega) (fun e => by subst e; rw [h3.2] at hb; cases hb) hb, Nat.le_succ n, fun κ' h => ⟨r, k, q, S, C, O, h1, h2, h3, h4, h⟩⟩
  · exact hs.elim
def Eu (S : Sr) (C : Ck5) (ar : List AV) (O : Smp) : Prop := ∃ y z a b, ar = [y, z] ∧ mk y = .si .i64 a ∧ mk z = .si .i64 b ∧ Okc S C ∧ Up (ab C) ∧ (ab C).length ≤ 100000 ∧ O = aH a b (ab C)
theorem HC : aj Try.prog 13 = true := by kernel_rfl
theorem Ev : aF 13 (l5 Eu) := fun args H n κ hs φ h0' hp vs K hr hargs hk => by
  unfold l5 at hs
  split at hs
  · obtain ⟨w1, us1, q1, e1, r1⟩ := hargs.cons_inv
    obtain ⟨r, k, q, S, C, O, rfl, hR, hn, ⟨y, z, a, b, rfl, hy, hz, hO, hU, hf, rfl⟩, hs⟩ := hs
    obtain ⟨w2, us2, q2, e2, r2⟩ := r1.cons_inv
    obtain ⟨w3, us3, q3, e3, r3⟩ := r2.cons_inv
    exact rf (HB HC (cM tab.mixed oh 5) (qm oh) (mw oh)) HC (BF S C a b hO hU hf) (fun _ => rfl) hr hR (by rw [q1, q2, q3]; exact .cons e1 (.cons (aA rfl (hy ▸ e2.mk)) (.cons (aA rfl (hz ▸ e3.mk)) r3))) hk hs
  · exact hs.elim
end Go.Proofs.Ythjggjhebbdkdaa
namespace Go.Proofs.Ythjggjhebbdkdaa
open Go Go.RowKit
noncomputable def lnI (m : Nat) : AH := mkH [(3, .cells [.si .i64 (m : Int)] true)]
noncomputable def lnE : AE := mkE [(3, .ptr 3 0)]
noncomputable def lcM (S : Sr) (C : Ck5) (Q : HP) : AH := mkH [(0, .cells (bO S 1 (pts C).length) true), (1, .cells (aQ (pts C)) true), (2, bP S C), (4, .sep Q)]
noncomputable abbrev lnQ (L D : Nat) (rec : Loop) (ρ : Env) (X : Smp) : HP := wY (iQ L D rec .ready none) lnE ρ (lnI X.length) 4
theorem HD {σ : AE} {H : AH} {n m : Nat} {l3 : List AV} (e3 : ay (pa 3) σ = .ptr 3 0) (h3 : PM.get H 3 = some (.cells l3 true)) (g3 : l3.map mk = [.si .i64 (m : Int)]) : Cov 0 σ H n (lnE, lnI m, 4) := by
  refine Cov.ofR (m := 4) (p := 0) (fun c => c) (Nat.zero_le _) (fun b hb => rfl) (fun x hx => ?_) (fun x hx => ?_) (fun x hx y hy e => e)
  · simp only [List.mem_cons, List.not_mem_nil, or_false] at hx
    subst hx
    exact ae.ptr (by decide) e3
  · simp only [List.mem_cons, List.not_mem_nil, or_false] at hx
    subst hx
    exact ⟨Nat.le_of_ble_eq_true rfl, .inl ⟨_, h3, aO.bz rfl g3 id⟩⟩
theorem Ab {σ : AE} {H : AH} {n : Nat} {S : Sr} {C : Ck5} {Q : HP} (le : List (Nat × AV)) (he : ∀ x ∈ le, ae H 5 (fun b => b) (ay (pa x.1) σ) x.2) (h0 : PM.get H 0 = some (.cells (bO S 1 (pts C).length) true)) (h1 : PM.get H 1 = some (.cells (aQ (pts C)) true)) (h2 : PM.get H 2 = some (bP S C)) (h6 : PM.get H 4 = some (.sep Q)) : Cov 5 σ H n (mkE le, lcM S C Q, 5) := by
  refine Cov.ofR (m := 5) (p := 5) (fun b => b) (Nat.le_refl _) (fun b hb => rfl) he ?_ (fun x hx y hy e => e)
  intro x hx
  simp only [List.mem_cons, List.not_mem_nil, or_false] at hx
  rcases hx with rfl | rfl | rfl | rfl
  · exact ⟨Nat.le_of_ble_eq_true rfl, .inl ⟨_, h0, aO.bO rfl rfl rfl rfl rfl (ae.rw (Nat.le_of_ble_eq_true rfl) rfl)⟩⟩
  · exact ⟨Nat.le_of_ble_eq_true rfl, .inl ⟨_, h1, aO.aQ (ax _)⟩⟩
  · exact ⟨Nat.le_of_ble_eq_true rfl, .inl ⟨_, h2, aO.sep _⟩⟩
  · exact ⟨Nat.le_of_ble_eq_true rfl, .inl ⟨_, h6, aO.sep _⟩⟩
theorem w8 {H : AH} {σ : AE} {C : Ck5} {L i : Nat} (e1 : ay (pa 1) σ = rK L) (e14 : ay (pa 14) σ = .rw 1 0 (pts C).length 1 0) (e15 : mk (ay (pa 15) σ) = .si .i64 ((pts C).length : Int)) (e16 : mk (ay (pa 16) σ) = .si .i64 (i : Int)) : ∀ x ∈ lo1 C L i, ae H 5 (fun b => b) (ay (pa x.1) σ) x.2 := fun x hx => by
  simp only [List.mem_cons, List.not_mem_nil, or_false] at hx
  rcases hx with rfl | rfl | rfl | rfl
  · show ae H 5 _ (ay (pa 1) σ) (rK L)
    rw [e1]; exact fun _ _ _ _ _ h => h
  · exact ae.rw (Nat.le_of_ble_eq_true rfl) e14
  · exact ae.int e15
  · exact ae.int e16
theorem w9 {H : AH} {σ : AE} {C : Ck5} {L i j : Nat} {X : Smp} (e1 : ay (pa 1) σ = rK L) (e14 : ay (pa 14) σ = .rw 1 0 (pts C).length 1 0) (e15 : mk (ay (pa 15) σ) = .si .i64 ((pts C).length : Int)) (e16 : mk (ay (pa 16) σ) = .si .i64 (i : Int)) (e21 : ay (pa 21) σ = .fr X.length 2 (smp X)) (e22 : mk (ay (pa 22) σ) = .si .i64 (X.length : Int)) (e23 : mk (ay (pa 23) σ) = .si .i64 (j : Int)) : ∀ x ∈ lo2 C L i X j, ae H 5 (fun b => b) (ay (pa x.1) σ) x.2 := fun x hx => by
  simp only [List.mem_cons, List.not_mem_nil, or_false] at hx
  rcases hx with rfl | rfl | rfl | rfl | rfl | rfl | rfl
  · show ae H 5 _ (ay (pa 1) σ) (rK L)
    rw [e1]; exact fun _ _ _ _ _ h => h
  · exact ae.rw (Nat.le_of_ble_eq_true rfl) e14
  · exact ae.int e15
  · exact ae.int e16
  · exact ae.frE e21
  · exact ae.int e22
  · exact ae.int e23
theorem Gq (S : Sr) (C : Ck5) (hO : Okc S C) (hf : (ab C).length ≤ 100000) : cf (RfG cRg (qi KRf) 53) [.ptr 0 0] (mkH (eu (eG S (pts C) C) 0)) 3 (RoP (fun u => u = .si .i64 ((ab C).length : Int)) S (pts C) C) := by
  have hl := hO.few
  have hlo := hO.lo
  show RfG cRg _ _ _ _ _ _
  conv => whnf
  refine ⟨by kernel_rfl, Nat.le_of_ble_eq_true rfl, ?_⟩
  conv => whnf
  refine ⟨by decide, 55, [.ptr 0 0], [3], mkH [(3, .cells [.int .i64 0] true)], mkH [(0, .cells (bO S 1 (pts C).length) true), (1, .cells (aQ (pts C)) true), (2, bP S C)], lnE, lnI 0, 4, rfl, rfl, fun c o h => ?_, fun c o h => ?_, fun c o h => ?_, ?_, fun L D rec ρ hY => ?_⟩
  · have hm := bN h
    simp only [List.mem_cons, List.not_mem_nil, or_false] at hm
    injection hm with h1 h2; subst h1 h2; rfl
  · have hm := bN h
    simp only [List.mem_cons, List.not_mem_nil, or_false] at hm
    rcases hm with hm | hm | hm <;> (injection hm with h1 h2; subst h1 h2; rfl)
  · have hm := bN h
    simp only [List.mem_cons, List.not_mem_nil, or_false] at hm
    injection hm with h1 h2; subst h1 h2; exact ⟨rfl, rfl⟩
  · exact HD rfl rfl rfl
  conv => whnf
  refine ag.dB (fun z => absurd (show (0 : Int) < (S.sz : Int) by omega) z) (fun _ => ?_)
  conv => whnf
  refine bg.mk { i : Nat // i ≤ C.length } 5 (fun i => (mkE (lo1 C L i.val), lcM S C (lnQ L D rec ρ (ab (C.take i.val))))) (fun i => C.length - i.val) ⟨0, Nat.zero_le _⟩ ?_ ?_
  focus
    exact Ab _ (w8 rfl rfl rfl rfl) rfl rfl rfl rfl
  intro ⟨i, hi⟩
  have hw : IntKind.i64.wrap ((i : Int) + 1) = ((i + 1 : Nat) : Int) := by rw [al (by omega) (by omega)]; omega
  conv => whnf
  refine ag.dec (fun h => ?_) (fun h => ?_)
  focus
    have h2 : i < C.length := by
      have h : (i : Int) < ((pts C).length : Int) := h
      rw [aq] at h; omega
    conv => whnf
    refine Idx.mk i rfl (by rw [aq]; exact h2) ?_
    conv => whnf
    refine ao (cH h2 (show 0 + i * 1 = i by omega)) ?_
    conv => whnf
    refine ⟨2, S.sz, C.take i, C.drop (i + 1), C[i].1, C[i].2, rfl, congrArg some (oi h2), by omega, hO.bS _ (List.getElem_mem h2), ?_⟩
    conv => whnf
    refine bg.mk { j : Nat // j ≤ C[i].2.length } 5 (fun j => (mkE (lo2 C L i C[i].2 j.val), lcM S C (lnQ L D rec ρ (ab (C.take i) ++ C[i].2.take j.val)))) (fun j => C[i].2.length - j.val) ⟨0, Nat.zero_le _⟩ ?_ ?_
    focus
      exact Ab _ (w9 rfl rfl rfl rfl rfl rfl rfl) rfl rfl rfl (congrArg (fun X => some (AO.sep (lnQ L D rec ρ X))) (List.append_nil _).symm)
    have hF := (hO.bS _ (List.getElem_mem h2)).2.2
    have fE : ∀ {j : Nat}, j = C[i].2.length → ab (C.take i) ++ C[i].2.take j = ab (C.take (i + 1)) := fun {j} e => by rw [re h2, e, List.take_length]
    intro ⟨j, hj⟩
    have hw2 : IntKind.i64.wrap ((j : Int) + 1) = ((j + 1 : Nat) : Int) := by rw [al (by omega) (by omega)]; omega
    conv => whnf
    refine ag.dec (fun h => ?_) (fun h => ?_)
    focus
      have h3 : j < C[i].2.length := by
        have h : (j : Int) < (C[i].2.length : Int) := h
        omega
      have hat := w6 h2 h3
      have fT : C[i].2.take (j + 1) = C[i].2.take j ++ [C[i].2[j]] := List.take_succ_eq_append_getElem h3
      have fW : IntKind.i64.wrap (((ab (C.take i) ++ C[i].2.take j).length : Int) + 1) = ((ab (C.take i) ++ C[i].2.take (j + 1)).length : Int) := by
        have h6 := congrArg List.length hat
        rw [List.length_append, List.length_cons] at h6
        rw [fT, ← List.append_assoc, List.length_append (bs := [_]), al (by omega) (by omega)]
        simp
      conv => whnf
      refine Idx.mk j rfl h3 ?_
      conv => whnf
      refine ao (bT h3 rfl) ?_
      conv => whnf
      refine Yld.mk _ hY ⟨lnI (ab (C.take i) ++ C[i].2.take j).length, 4, _, rfl, rfl, zX, cQ rfl, ?_⟩
      conv => whnf
      refine ⟨cQ rfl, ?_⟩
      conv => whnf
      refine ⟨?_, lnI (ab (C.take i) ++ C[i].2.take (j + 1)).length, 4, HD rfl rfl (congrArg (fun q => [AV.si .i64 q]) fW), cQ rfl, ?_⟩
      · repeat first | exact cQ rfl | refine cx.set ?_ rfl | refine cx.del ?_
      conv => whnf
      exact ⟨⟨j + 1, h3⟩, by show C[i].2.length - (j + 1) < C[i].2.length - j; omega, Ab _ (w9 rfl rfl rfl rfl rfl rfl (congrArg (AV.si .i64) hw2)) rfl rfl rfl rfl⟩
    have h4 : j = C[i].2.length := by
      have h : ¬ (j : Int) < (C[i].2.length : Int) := h
      omega
    conv => whnf
    exact ⟨⟨i + 1, h2⟩, by show C.length - (i + 1) < C.length - i; omega, Ab _ (w8 rfl rfl rfl (congrArg (AV.si .i64) hw)) rfl rfl rfl (congrArg (fun X => some (AO.sep (lnQ L D rec ρ X))) (fE h4))⟩
  have h2 : i = C.length := by
    have h : ¬ (i : Int) < ((pts C).length : Int) := h
    rw [aq] at h; omega
  have fZ : ab (C.take i) = ab C := by rw [h2, List.take_length]
  conv => whnf
  refine ⟨.ready, none, lnI (ab (C.take i)).length, 4, rfl, (fun q => by cases q), .inl rfl, cQ rfl, ?_⟩
  conv => whnf
  refine ⟨cQ rfl, ?_⟩
  conv => whnf
  exact .inl ⟨fun φ ψ u h => h, jF _ (congrArg (fun X : Smp => AV.si .i64 (X.length : Int)) fZ) (VTo.mk5 rfl) VR.c6 rfl rfl rfl⟩
def yA (S : Sr) (C : Ck5) (ar : List AV) (v : AV) : Prop := ar = [] ∧ Okc S C ∧ (ab C).length ≤ 100000 ∧ v = .si .i64 ((ab C).length : Int)
theorem HE : aj Try.prog 53 = true := by kernel_rfl
theorem yB : aF 53 (dC yA) := fG (HB HE (cM tab.mixed oh 5) (qm oh) (mw oh)) HE fun S C ar v hA => by
  obtain ⟨h1, h2, h3, h4⟩ := hA
  subst h1 h4
  exact ⟨[], fun φ vs h => h, fun _ => rfl, ⟨fun _ => rfl, rfl⟩, Gq S C h2 h3⟩
end Go.Proofs.Ythjggjhebbdkdaa
namespace Go.Proofs.Ythjggjhebbdkdaa
open Go Go.RowKit
def I2 : DT := [(5, [(some 1000000, []), (none, [0, 1, 2, 3, 4, 5, 6, 7, 8, 9, 10, 11, 12, 13, 14, 15])])]
noncomputable def I3 : FuncId → EP := bK 16 I2 (cq 13 (l5 Eu) evP)
theorem Gr : bG I3 := aL (aY bd Ev (yz _)) (by kernel_rfl) (by kernel_rfl)
theorem MT (S : Sr) (C : Ck5) : cZ (mkH (eu (eG S (pts C) C) 0)) 3 0 1 2 S (pts C) C := ⟨⟨by decide, by decide, by decide⟩, ⟨by decide, by decide, by decide⟩, rfl, rfl, rfl⟩
def at5 (L : Smp) (i : Nat) : Int × Int := L.getD i (0, 0)
theorem oj {L : Smp} {i : Nat} (h : i < L.length) : L[i] = at5 L i := by simp [at5, h]
theorem rh {p : Int × Int} : ∀ {X : Smp} {i o : Nat}, i < X.length → o = i * 2 → ez (smp X) o [.si .i64 p.1, .si .i64 p.2] = some (smp (X.set i p))
  | [], i, o, h, _ => by simp at h
  | x :: X, 0, o, h, ho => by
    subst ho
    show ez (AV.si .i64 x.1 :: AV.si .i64 x.2 :: smp X) 0 _ = some (AV.si .i64 p.1 :: AV.si .i64 p.2 :: smp X)
    cases smp X <;> rfl
  | x :: X, i + 1, o, h, ho => by
    have := rh (p := p) (X := X) (i := i) (o := i * 2) (by simpa using h) rfl
    subst ho
    rw [show (i + 1) * 2 = i * 2 + 1 + 1 from by omega]
    show ez (AV.si .i64 x.1 :: AV.si .i64 x.2 :: smp X) (i * 2 + 1 + 1) _ = some (AV.si .i64 x.1 :: AV.si .i64 x.2 :: smp (X.set i p))
    simp only [ez] at this ⊢
    rw [this]; rfl
def bkF (O : Smp) : Nat → Smp
  | 0 => O
  | i + 1 => ((bkF O i).set i (at5 (bkF O i) (O.length - 1 - i))).set (O.length - 1 - i) (at5 (bkF O i) i)
theorem dw (O : Smp) : ∀ i, (bkF O i).length = O.length
  | 0 => rfl
  | i + 1 => by simp [bkF, dw O i]
noncomputable def bkM (S : Sr) (C : Ck5) (X : Smp) : AH := mkH [(0, .cells (bO S 1 (pts C).length) true), (1, .cells (aQ (pts C)) true), (2, bP S C), (3, .cells (smp X) true)]
abbrev bo (n i : Nat) : List (Nat × AV) := [(7, .rw 3 0 n 2 0), (8, .si .i64 (i : Int)), (9, .si .i64 ((n : Int) - 1 - i))]
theorem HF {σ : AE} {H : AH} {n : Nat} {S : Sr} {C : Ck5} {X : Smp} (le : List (Nat × AV)) {l : List AV} (he : ∀ x ∈ le, ae H 4 (fun b => b) (ay (pa x.1) σ) x.2) (h0 : PM.get H 0 = some (.cells (bO S 1 (pts C).length) true)) (h1 : PM.get H 1 = some (.cells (aQ (pts C)) true)) (h2 : PM.get H 2 = some (bP S C)) (h3 : PM.get H 3 = some (.cells l true)) (hl : l.map mk = smp X) : Cov 3 σ H n (mkE le, bkM S C X, 4) := by
  refine Cov.ofR (m := 4) (p := 3) (fun b => b) (by decide) (fun b hb => rfl) he ?_ (fun x hx y hy e => e)
  intro x hx
  simp only [List.mem_cons, List.not_mem_nil, or_false] at hx
  rcases hx with rfl | rfl | rfl | rfl
  · exact ⟨Nat.le_of_ble_eq_true rfl, .inl ⟨_, h0, aO.bO rfl rfl rfl rfl rfl (ae.rw (Nat.le_of_ble_eq_true rfl) rfl)⟩⟩
  · exact ⟨Nat.le_of_ble_eq_true rfl, .inl ⟨_, h1, aO.aQ (ax _)⟩⟩
  · exact ⟨Nat.le_of_ble_eq_true rfl, .inl ⟨_, h2, aO.sep _⟩⟩
  · exact ⟨Nat.le_of_ble_eq_true rfl, .inl ⟨_, h3, aO.bz (ba _) (by rw [hl, aV]) id⟩⟩
theorem Ac {X : Smp} {i p : Nat} {v : Int × Int} (h : p < X.length) : at5 (X.set i v) p = if i = p then v else at5 X p := by
  rw [← oj (by rw [List.length_set]; exact h), List.getElem_set, oj h]
theorem Ew (O : Smp) : ∀ (i : Nat), 2 * i ≤ O.length + 1 → ∀ p, p < O.length → at5 (bkF O i) p = if p < i ∨ O.length - 1 - i < p then at5 O (O.length - 1 - p) else at5 O p
  | 0, _, p, hp => by
    rw [if_neg (by omega)]; rfl
  | i + 1, h, p, hp => by
    have ih := Ew O i (by omega)
    have h1 : i < (bkF O i).length := by rw [dw]; omega
    have h2 : O.length - 1 - i < (bkF O i).length := by rw [dw]; omega
    have hpl : p < (bkF O i).length := by rw [dw]; exact hp
    have e : at5 (bkF O (i + 1)) p = if O.length - 1 - i = p then at5 (bkF O i) i else if i = p then at5 (bkF O i) (O.length - 1 - i) else at5 (bkF O i) p := by
      show at5 (((bkF O i).set i (at5 (bkF O i) (O.length - 1 - i))).set (O.length - 1 - i) (at5 (bkF O i) i)) p = _
      rw [Ac (by rw [List.length_set]; exact hpl), Ac hpl]
    rw [e]
    by_cases c1 : O.length - 1 - i = p
    · rw [if_pos c1, ih i (by omega), if_neg (by omega), if_pos (by omega)]
      congr 1; omega
    · rw [if_neg c1]
      by_cases c2 : i = p
      · subst c2
        rw [if_pos rfl, ih _ (by omega), if_neg (by omega), if_pos (by omega)]
      · rw [if_neg c2, ih p hp]
        by_cases c3 : p < i ∨ O.length - 1 - i < p
        · rw [if_pos c3, if_pos (by omega)]
        · rw [if_neg c3, if_neg (by omega)]
theorem Gs {O : Smp} {i : Nat} (h1 : 2 * i ≤ O.length + 1) (h2 : O.length - 1 ≤ 2 * i) : bkF O i = O.reverse := by
  refine List.ext_getElem (by rw [dw, List.length_reverse]) fun p hp hq => ?_
  have hp' : p < O.length := by rw [dw] at hp; exact hp
  rw [oj hp, Ew O i h1 p hp', List.getElem_reverse, oj (by omega)]
  by_cases c : p < i ∨ O.length - 1 - i < p
  · rw [if_pos c]
  · rw [if_neg c]; congr 1; omega
theorem J8 {H : AH} {n N : Nat} {S : Sr} {C : Ck5} {O X : Smp} (hO : X = O) (hN : N = X.length) (h0 : PM.get H 0 = some (.cells (bO S 1 (pts C).length) true)) (h1 : PM.get H 1 = some (.cells (aQ (pts C)) true)) (h2 : PM.get H 2 = some (bP S C)) (h3 : PM.get H 3 = some (.cells (smp X) true)) : ∃ (v2 : AV) (H2 : AH) (m : Nat), Cov 3 (mkE [(0, .rw 3 0 N 2 0)]) H n (mkE [(0, v2)], H2, m) ∧ RgP S C O v2 H2 m := by
  subst hN
  exact Et (by decide) hO h0 h1 h2 h3
theorem Ex {H : AH} {σ : AE} {n i : Nat} (e7 : ay (pa 7) σ = .rw 3 0 n 2 0) (e8 : mk (ay (pa 8) σ) = .si .i64 (i : Int)) (e9 : mk (ay (pa 9) σ) = .si .i64 ((n : Int) - 1 - i)) : ∀ x ∈ bo n i, ae H 4 (fun b => b) (ay (pa x.1) σ) x.2 := fun x hx => by
  simp only [List.mem_cons, List.not_mem_nil, or_false] at hx
  rcases hx with rfl | rfl | rfl
  · exact ae.rw (Nat.le_of_ble_eq_true rfl) e7
  · exact ae.int e8
  · exact ae.int e9
theorem Ey (S : Sr) (C : Ck5) (a b : Int) (O : Smp) (hOe : O = aH a b (ab C)) (hO : Okc S C) (hU : Up (ab C)) (hf : (ab C).length ≤ 100000) : cf (az I3 5 16) [.ptr 0 0, .si .i64 a, .si .i64 b] (mkH (eu (eG S (pts C) C) 0)) 3 (RgP S C O.reverse) := by
  have hol : O.length ≤ 100000 := by
    rw [hOe]
    exact Nat.le_trans (List.length_filter_le _ _) hf
  show az I3 5 _ _ _ _ _
  conv => whnf
  refine ⟨0, 1, 2, S, C, O, rfl, MT S C, ⟨by decide, rfl⟩, ⟨_, _, a, b, rfl, rfl, rfl, hO, hU, hf, hOe⟩, ?_⟩
  have hw0 : IntKind.i64.wrap ((O.length : Int) - 1) = (O.length : Int) - 1 - (0 : Nat) := by rw [al (by omega) (by omega)]; simp
  conv => whnf
  refine bg.mk { i : Nat // 2 * i ≤ O.length + 1 } 4 (fun i => (mkE (bo O.length i.val), bkM S C (bkF O i.val))) (fun i => O.length + 1 - 2 * i.val) ⟨0, Nat.zero_le _⟩ ?_ ?_
  focus
    exact HF _ (Ex rfl rfl (congrArg (AV.si .i64) hw0)) rfl rfl rfl rfl (aV _)
  intro ⟨i, hi⟩
  conv => whnf
  refine ag.dec (fun h => ?_) (fun h => ?_)
  focus
    have h : (i : Int) < (O.length : Int) - 1 - i := h
    have hk : (((O.length - 1 - i : Nat)) : Int) = (O.length : Int) - 1 - i := by omega
    have h1 : i < (bkF O i).length := by rw [dw]; omega
    have h2 : O.length - 1 - i < (bkF O i).length := by rw [dw]; omega
    have h1' : i < O.length := by omega
    have h2' : O.length - 1 - i < O.length := by omega
    have he : ∀ q : Nat, 0 + q * 2 = q * 2 := fun q => by omega
    have hw1 : IntKind.i64.wrap ((i : Int) + 1) = ((i + 1 : Nat) : Int) := by rw [al (by omega) (by omega)]; omega
    have hw2 : IntKind.i64.wrap ((O.length : Int) - 1 - i - 1) = (O.length : Int) - 1 - (i + 1 : Nat) := by rw [al (by omega) (by omega)]; omega
    have fB : smp (((bkF O i).set i (bkF O i)[O.length - 1 - i]).set (O.length - 1 - i) (bkF O i)[i]) = smp (bkF O (i + 1)) := by
      rw [oj h1, oj h2]; rfl
    conv => whnf
    refine ⟨?_, trivial⟩
    conv => whnf
    refine Idx.mk (O.length - 1 - i) hk.symm h2' ?_
    conv => whnf
    refine ao (bT h2 (he _)) ?_
    conv => whnf
    refine Idx.mk i rfl h1' ?_
    conv => whnf
    refine ao (bT h1 (he _)) ?_
    conv => whnf
    refine Idx.mk i rfl h1' ?_
    conv => whnf
    refine ao (rh h1 (he _)) ?_
    conv => whnf
    refine Idx.mk (O.length - 1 - i) hk.symm h2' ?_
    conv => whnf
    refine ao (rh (by rw [List.length_set]; exact h2) (he _)) ?_
    conv => whnf
    exact ⟨⟨i + 1, by omega⟩, by show O.length + 1 - 2 * (i + 1) < O.length + 1 - 2 * i; omega, HF _ (Ex rfl (congrArg (AV.si .i64) hw1) (congrArg (AV.si .i64) hw2)) rfl rfl rfl rfl ((aV _).trans fB)⟩
  have h : ¬ (i : Int) < (O.length : Int) - 1 - i := h
  have fR : bkF O i = O.reverse := Gs (by omega) (by omega)
  conv => whnf
  exact J8 fR (dw O i).symm rfl rfl rfl rfl
def HG (S : Sr) (C : Ck5) (ar : List AV) (O : Smp) : Prop := ∃ y z a b, ar = [y, z] ∧ mk y = .si .i64 a ∧ mk z = .si .i64 b ∧ Okc S C ∧ Up (ab C) ∧ (ab C).length ≤ 100000 ∧ O = (aH a b (ab C)).reverse
theorem HH : aF 16 (l5 HG) := fun args H n κ hs φ h0' hp vs K hr hargs hk => by
  unfold l5 at hs
  split at hs
  · obtain ⟨w1, us1, q1, e1, r1⟩ := hargs.cons_inv
    obtain ⟨r, k, q, S, C, O, rfl, hR, hn, ⟨y, z, a, b, rfl, hy, hz, hO, hU, hf, rfl⟩, hs⟩ := hs
    obtain ⟨w2, us2, q2, e2, r2⟩ := r1.cons_inv
    obtain ⟨w3, us3, q3, e3, r3⟩ := r2.cons_inv
    exact rf (aB Gr 5 _) (by kernel_rfl) (Ey S C a b _ rfl hO hU hf) (fun _ => rfl) hr hR (by rw [q1, q2, q3]; exact .cons e1 (.cons (aA rfl (hy ▸ e2.mk)) (.cons (aA rfl (hz ▸ e3.mk)) r3))) hk hs
  · exact hs.elim
end Go.Proofs.Ythjggjhebbdkdaa
namespace Go.Proofs.Ythjggjhebbdkdaa
open Go Go.RowKit
noncomputable def I4 : FuncId → EP := cq 35 (lp zG) evP
theorem Gu : bG I4 := aY bd ug (uf _)
theorem MU : RTy 82 82 1 8 := ⟨_, _, _, rfl, rfl, (fun q h => by cases h), rfl, rfl, rfl, rfl, by decide, by decide⟩
def dU (C : Ck5) : List Int := C.map fun c => ((usd c.2 : Nat) : Int)
theorem gT (C : Ck5) : (dU C).length = C.length := List.length_map _
def RiP (S : Sr) (C : Ck5) (O : List Int) : PK := fun u H' m => u = .rw 3 0 O.length 1 0 ∧ H' = mkH [(0, .cells (bO S 1 (pts C).length) true), (1, .cells (aQ (pts C)) true), (2, bP S C), (3, .cells (ints O) true)] ∧ m = 4
noncomputable def csM (S : Sr) (C : Ck5) (X : List Int) : AH := mkH [(0, .cells (bO S 1 (pts C).length) true), (1, .cells (aQ (pts C)) true), (2, bP S C), (3, .cells (ints X) true)]
abbrev cso (C : Ck5) (i : Nat) : List (Nat × AV) := [(3, .rw 3 0 i 1 0), (12, .rw 1 0 (pts C).length 1 0), (13, .si .i64 ((pts C).length : Int)), (14, .si .i64 (i : Int))]
theorem ri (k : Nat) {σ : AE} {H : AH} {n : Nat} {S : Sr} {C : Ck5} {X : List Int} (le : List (Nat × AV)) (hk : 3 ≤ k) (he : ∀ x ∈ le, ae H 4 (fun c => if c = 3 then k else c) (ay (pa x.1) σ) x.2) (h0 : PM.get H 0 = some (.cells (bO S 1 (pts C).length) true)) (h1 : PM.get H 1 = some (.cells (aQ (pts C)) true)) (h2 : PM.get H 2 = some (bP S C)) (h3 : (∃ l, PM.get H k = some (.cells l true) ∧ l.map mk = ints X) ∨ (X = [] ∧ n ≤ k)) : Cov 3 σ H n (mkE le, csM S C X, 4) := by
  refine Cov.ofR (m := 4) (p := 3) (fun c => if c = 3 then k else c) (by decide) (fun b hb => if_neg (by omega)) he ?_ (fun x hx y hy e => ?_)
  · intro x hx
    simp only [List.mem_cons, List.not_mem_nil, or_false] at hx
    rcases hx with rfl | rfl | rfl | rfl
    · exact ⟨Nat.le_of_ble_eq_true rfl, .inl ⟨_, h0, aO.bO rfl rfl rfl rfl rfl (ae.rw (Nat.le_of_ble_eq_true rfl) rfl)⟩⟩
    · exact ⟨Nat.le_of_ble_eq_true rfl, .inl ⟨_, h1, aO.aQ (ax _)⟩⟩
    · exact ⟨Nat.le_of_ble_eq_true rfl, .inl ⟨_, h2, aO.sep _⟩⟩
    · exact ⟨Nat.le_of_ble_eq_true rfl, h3.elim (fun ⟨l, q1, q2⟩ => .inl ⟨_, q1, aO.bz (A3 _) (by rw [q2, jy]) id⟩) (fun q => .inr ⟨by rw [q.1]; rfl, q.2⟩)⟩
  · simp only [List.mem_cons, List.not_mem_nil, or_false] at hx hy
    rcases hx with rfl | rfl | rfl | rfl <;> rcases hy with rfl | rfl | rfl | rfl <;> simp at e ⊢ <;> omega
theorem Ad {H : AH} {σ : AE} {C : Ck5} {k i : Nat} (e3 : ae H 4 (fun c => if c = 3 then k else c) (ay (pa 3) σ) (.rw 3 0 i 1 0)) (e12 : ay (pa 12) σ = .rw 1 0 (pts C).length 1 0) (e13 : mk (ay (pa 13) σ) = .si .i64 ((pts C).length : Int)) (e14 : mk (ay (pa 14) σ) = .si .i64 (i : Int)) : ∀ x ∈ cso C i, ae H 4 (fun c => if c = 3 then k else c) (ay (pa x.1) σ) x.2 := fun x hx => by
  simp only [List.mem_cons, List.not_mem_nil, or_false] at hx
  rcases hx with rfl | rfl | rfl | rfl
  · exact e3
  · exact ae.rw (Nat.le_of_ble_eq_true rfl) e12
  · exact ae.int e13
  · exact ae.int e14
theorem J9 {H : AH} {n N m : Nat} {S : Sr} {C : Ck5} {O X : List Int} (hN : 3 ≤ N) (hO : X = O) (hm : m = X.length) (h0 : PM.get H 0 = some (.cells (bO S 1 (pts C).length) true)) (h1 : PM.get H 1 = some (.cells (aQ (pts C)) true)) (h2 : PM.get H 2 = some (bP S C)) (h3 : PM.get H N = some (.cells (ints X) true)) : ∃ (v2 : AV) (H2 : AH) (q : Nat), Cov 3 (mkE [(0, .rw N 0 m 1 0)]) H n (mkE [(0, v2)], H2, q) ∧ RiP S C O v2 H2 q := by
  subst hO hm
  exact ⟨.rw 3 0 X.length 1 0, _, 4, ri N [(0, .rw 3 0 X.length 1 0)] hN (fun x hx => by
    simp only [List.mem_cons, List.not_mem_nil, or_false] at hx
    subst hx
    exact ae.rw (Nat.le_of_ble_eq_true rfl) rfl) h0 h1 h2 (.inl ⟨_, h3, jy _⟩), rfl, rfl, rfl⟩
theorem yC (S : Sr) (C : Ck5) (hO : Okc S C) : cf (az I4 5 54) [.ptr 0 0] (mkH (eu (eG S (pts C) C) 0)) 3 (RiP S C (dU C)) := by
  have hl := hO.few
  have hlo := hO.lo
  show az I4 5 _ _ _ _ _
  conv => whnf
  refine ag.dB (fun z => absurd (show (0 : Int) < (S.sz : Int) by omega) z) (fun _ => ?_)
  conv => whnf
  refine bg.mk { i : Nat // i ≤ C.length } 4 (fun i => (mkE (cso C i.val), csM S C (dU (C.take i.val)))) (fun i => C.length - i.val) ⟨0, Nat.zero_le _⟩ ?_ ?_
  focus
    exact ri 3 _ (Nat.le_refl _) (Ad (ae.ky rfl) rfl rfl rfl) rfl rfl rfl (.inr ⟨rfl, Nat.le_refl _⟩)
  intro ⟨i, hi⟩
  have hw : IntKind.i64.wrap ((i : Int) + 1) = ((i + 1 : Nat) : Int) := by rw [al (by omega) (by omega)]; omega
  conv => whnf
  refine ag.dec (fun h => ?_) (fun h => ?_)
  focus
    have h2 : i < C.length := by
      have h : (i : Int) < ((pts C).length : Int) := h
      rw [aq] at h; omega
    have hT : dU (C.take (i + 1)) = dU (C.take i) ++ [((usd C[i].2 : Nat) : Int)] := by
      rw [List.take_succ_eq_append_getElem h2]; unfold dU; rw [List.map_append]; rfl
    have hlt : (dU (C.take i)).length = i := by rw [gT, List.length_take]; omega
    have hM : (ints (dU (C.take i)) ++ [AV.si .i64 ((usd C[i].2 : Nat) : Int)]).map mk = ints (dU (C.take (i + 1))) := by rw [hT]; exact A4 _ _
    conv => whnf
    refine Idx.mk i rfl (by rw [aq]; exact h2) ?_
    conv => whnf
    refine ao (cH h2 (show 0 + i * 1 = i by omega)) ?_
    conv => whnf
    refine ⟨2, S.sz, C.take i, C.drop (i + 1), C[i].1, C[i].2, rfl, congrArg some (oi h2), ?_⟩
    conv => whnf
    refine fk.grow 1 8 1 i [.si .i64 ((usd C[i].2 : Nat) : Int)] (ints (dU (C.take i))) _ true MU (.old rfl) rfl rfl (.rw rfl (cD (by rw [vO, hlt, Nat.mul_one]))) (by omega) ?_
    conv => whnf
    exact ⟨⟨i + 1, h2⟩, by show C.length - (i + 1) < C.length - i; omega, ri 5 _ (by decide) (Ad (ae.rw (Nat.le_of_ble_eq_true rfl) rfl) rfl rfl (congrArg (AV.si .i64) hw)) rfl rfl rfl (.inl ⟨_, rfl, hM⟩)⟩
  have h2 : i = C.length := by
    have h : ¬ (i : Int) < ((pts C).length : Int) := h
    rw [aq] at h; omega
  have hE : dU (C.take i) = dU C := by rw [h2, List.take_length]
  have hE2 : i = (dU (C.take i)).length := by rw [gT, List.length_take]; omega
  conv => whnf
  exact J9 (Nat.le_refl 3) hE hE2 rfl rfl rfl rfl
theorem Ez (f : Nat → Nat) (L : List Int) : dR f (ints L) = ints L := by
  induction L with
  | nil => rfl
  | cons c L ih =>
    show AV.si .i64 c :: dR f (ints L) = _
    rw [ih]; rfl
theorem Gv (m : Nat) (L : List Int) : kF m (ints L) = true := by
  induction L with
  | nil => rfl
  | cons c L ih => exact ih
def sQ (A : Sr → Ck5 → List Int → Prop) (args : List AV) (H : AH) (n : Nat) (κ : PK) : Prop := match args with
  | [x] => ∃ (r k q : Nat) (S : Sr) (C : Ck5) (O : List Int), x = .ptr r 0 ∧ cZ H n r k q S (pts C) C ∧ (n < 900000 ∧ PM.get H n = none) ∧ A S C O ∧ κ (.rw n 0 O.length 1 0) (PM.set (some (.cells (ints O) true)) aa H n) (n + 1)
  | _ => False
theorem EA (A : Sr → Ck5 → List Int → Prop) : iW (sQ A) := fun args H n κ hs => by
  unfold sQ at *
  split at hs
  · obtain ⟨r, k, q, S, C, O, h1, h2, h3, h4, h5⟩ := hs
    exact ⟨_, _, _, h5, fun b o hb => PM.gne (by omega) (fun e => by subst e; rw [h3.2] at hb; cases hb) hb, Nat.le_succ n, fun κ' h => ⟨r, k, q, S, C, O, h1, h2, h3, h4, h⟩⟩
  · exact hs.elim
def EB (S : Sr) (C : Ck5) (O : List Int) : Prop := Okc S C ∧ O = dU C
theorem HI : aF 54 (sQ EB) := fun args H n κ hs φ h0' hp vs K hr hargs hk => by
  unfold sQ at hs
  split at hs
  · obtain ⟨w1, us1, q1, e1, r1⟩ := hargs.cons_inv
    obtain ⟨r, k, q, S, C, O, rfl, hR, hn, ⟨hO, rfl⟩, hs⟩ := hs
    refine cw (S := [r, k, q]) (O := eG S (pts C) C) (args0 := [.ptr 0 0]) (aF.cf (aB Gu 5 _)) (by kernel_rfl) hr hR.zL (by rw [q1]; exact .cons e1 r1) hk (yC S C hO) fun u H' n' ⟨g0, g1, g2⟩ => ?_
    subst g0 g1 g2
    refine ⟨4, PM.set (some (.cells (ints (dU C)) true)) aa H n, Nat.le_of_ble_eq_true rfl, fun b o hb => ?_, rfl, hs⟩
    rcases PM.ak aa H n b o hb with ⟨rfl, h2⟩ | ⟨h1, h2⟩
    · injection h2 with h2; subst h2
      exact .inl ⟨3, .cells (ints (dU C)) true, by decide, rfl, rfl, rfl, Gv _ _, by rw [ck, Ez]⟩
    · by_cases hb : b ∈ [r, k, q]
      · left
        simp only [List.mem_cons, List.not_mem_nil, or_false] at hb
        rcases hb with rfl | rfl | rfl
        · rw [hR.hr] at h2; injection h2 with h2; subst h2
          exact ⟨0, _, by decide, rfl, rfl, rfl, rfl, rfl⟩
        · rw [hR.hk] at h2; injection h2 with h2; subst h2
          exact ⟨1, _, by decide, rfl, rfl, rfl, kj _ _, by rw [ck, fF]⟩
        · rw [hR.hq] at h2; injection h2 with h2; subst h2
          exact ⟨2, _, by decide, rfl, rfl, rfl, rfl, rfl⟩
      · exact .inr ⟨by show b < n ∨ n + 1 ≤ b; omega, h2, fun q => absurd q hb⟩
  · exact hs.elim
end Go.Proofs.Ythjggjhebbdkdaa
namespace Go.Proofs.Ythjggjhebbdkdaa
open Go Go.RowKit
noncomputable def EC : FuncId → EP := bK 15 [] evP
theorem Gw : bG EC := aL bd (by kernel_rfl) (by kernel_rfl)
def rj (B : Nat) (f : Smp → Smp → Bool) (args : List AV) (H : AH) (n : Nat) (κ : PK) : Prop := match args with
  | [x, y] => ∃ L M, cF H x L ∧ cF H y M ∧ L.length ≤ B ∧ M.length ≤ B ∧ κ (.sb (f L M)) H n
  | _ => False
theorem ED {B : Nat} {f : Smp → Smp → Bool} : iW (rj B f) := .pure fun args H n κ hs => by
  unfold rj at *
  split at hs
  · obtain ⟨L, M, h1, h2, h3, h4, h5⟩ := hs
    exact ⟨_, h5, fun κ' h => ⟨L, M, h1, h2, h3, h4, h⟩⟩
  · exact hs.elim
theorem EE {B : Nat} {F : FuncId → EP} (hF : bG F) {d : Nat} {f : FuncId} {g : Smp → Smp → Bool} (hic : aj Try.prog f = true) (h00 : az F d f [.nsl, .nsl] .nil 0 fun u _ _ => mkT u = mkT (.bool (g [] [])))
    (h01 : ∀ M cap, M.length ≤ B → az F d f [.nsl, .sy 0 0 M.length cap 0] (mkH [(0, .ro (smp M))]) 1 fun u _ _ => mkT u = mkT (.bool (g [] M)))
    (h10 : ∀ L cap, L.length ≤ B → az F d f [.sy 0 0 L.length cap 0, .nsl] (mkH [(0, .ro (smp L))]) 1 fun u _ _ => mkT u = mkT (.bool (g L [])))
    (h11 : ∀ L M c1 c2, L.length ≤ B → M.length ≤ B → az F d f [.sy 0 0 L.length c1 0, .sy 1 0 M.length c2 0] (mkH [(0, .ro (smp L)), (1, .ro (smp M))]) 2 fun u _ _ => mkT u = mkT (.bool (g L M))) : aF f (rj B g) := fun args H n κ hs φ h0' hp vs K hr hargs hk => by
  unfold rj at hs
  split at hs
  · obtain ⟨x, y, rfl, e1, e2⟩ := vs2 hargs
    obtain ⟨L, M, hS, hT, hL, hM, hs2⟩ := hs
    rcases hS.open hr e1 with ⟨rfl, hv⟩ | ⟨p, C, _, hro, hv⟩ <;> rcases hT.open hr e2 with ⟨rfl, hw⟩ | ⟨p', C', _, hro', hw⟩
    · exact iI (v := .bool (g [] [])) hF rfl h00 hs2 hr hk hic HR.ro0 (.cons (hv _) (.cons (hw _) .nil))
    · exact iI (v := .bool (g [] M)) hF rfl (h01 M C' hM) hs2 hr hk hic (fun hw => HR.ro1 hw hro') (.cons (hv _) (.cons (hw _ 0 rfl) .nil))
    · exact iI (v := .bool (g L [])) hF rfl (h10 L C hL) hs2 hr hk hic (fun hw => HR.ro1 hw hro) (.cons (hv _ 0 rfl) (.cons (hw _) .nil))
    · exact iI (v := .bool (g L M)) hF rfl (h11 L M C C' hL hM) hs2 hr hk hic (fun hw => HR.ro2 hw hro hro') (.cons (hv _ 0 rfl) (.cons (hw _ 1 rfl) .nil))
  · exact hs.elim
theorem uC : eo Try.prog 29 = some [(0, 0), (0, 1)] := by kernel_rfl
def ib (L M : Smp) : Bool := decide (L = M)
noncomputable def yD (L M : Smp) (c1 c2 i : Nat) : AE × AH := (mkE [(0, .sy 0 0 L.length c1 0), (1, .sy 1 0 M.length c2 0), (5, .si .i64 i)], mkH [(0, .ro (smp L)), (1, .ro (smp M))])
theorem xa {L M : Smp} {c1 c2 i p n : Nat} {σ : AE} {H : AH} (hp : p ≤ 2) (e0 : mk (ay (pa 0) σ) = .sy 0 0 L.length c1 0) (e1 : mk (ay (pa 1) σ) = .sy 1 0 M.length c2 0) (e5 : mk (ay (pa 5) σ) = .si .i64 i)
    (h0 : H.get 0 = some (.ro (smp L))) (h1 : H.get 1 = some (.ro (smp M))) : Cov p σ H n ((yD L M c1 c2 i).1, (yD L M c1 c2 i).2, 2) := by
  refine Cov.of (fun b => b) hp (fun b hb => rfl) ?_ ?_ ?_
  · intro x hx
    simp only [List.mem_cons, List.not_mem_nil, or_false] at hx
    rcases hx with rfl | rfl | rfl
    · exact .sy (by decide) e0
    · exact .sy (by decide) e1
    · exact .int e5
  · intro x hx
    simp only [List.mem_cons, List.not_mem_nil, or_false] at hx
    rcases hx with rfl | rfl
    · exact ⟨by simp, _, h0, aO.k9 (ba L) rfl⟩
    · exact ⟨by simp, _, h1, aO.k9 (ba M) rfl⟩
  · intro x hx y hy
    simp only [List.mem_cons, List.not_mem_nil, or_false] at hx hy
    rcases hx with rfl | rfl <;> rcases hy with rfl | rfl <;> exact fun q => q
theorem pB {L M : Smp} (h : L ≠ M) : AV.sb false = mkT (.bool (ib L M)) := by simp [ib, h, mkT, mk]
theorem EF {L M : Smp} (h : L = M) : AV.sb true = mkT (.bool (ib L M)) := by simp [ib, h, mkT, mk]
theorem BG (L M : Smp) (c1 c2 : Nat) (hL : L.length ≤ 1000000) (hM : M.length ≤ 1000000) : az EC 3 15 [.sy 0 0 L.length c1 0, .sy 1 0 M.length c2 0] (mkH [(0, .ro (smp L)), (1, .ro (smp M))]) 2 fun u _ _ => mkT u = mkT (.bool (ib L M)) := by
  conv => whnf
  refine ag.dB (fun h1 => ?_) (fun h1 => ?_)
  · conv => whnf
    exact (show mkT _ = AV.sb false from rfl).trans (pB fun e => h1 (by rw [e]))
  have hlen : L.length = M.length := by have : (L.length : Int) = (M.length : Int) := h1; omega
  conv => whnf
  refine bg.mk { i : Nat // i < L.length + 1 ∧ L.take i = M.take i } 2 (fun a => yD L M c1 c2 a.val) (fun a => L.length - a.val) ⟨0, by omega, rfl⟩ ?_ ?_
  · exact xa (i := 0) (Nat.le_refl 2) rfl rfl rfl rfl rfl
  · intro ⟨i, hi, he⟩
    conv => whnf
    refine ag.dec (fun h2 => ?_) (fun h2 => ?_)
    · have h3 : i < L.length := Int.ofNat_lt.1 h2
      have h4 : i < M.length := by omega
      have hlt : L.length - (i + 1) < L.length - i := by omega
      have hw : IntKind.i64.wrap ((i : Int) + 1) = ((i + 1 : Nat) : Int) := by rw [al (x := (i : Int) + 1) (by omega) (by omega)]; omega
      conv => whnf
      refine Idx.mk i rfl h3 ?_
      conv => whnf
      refine ao (bT h3 (by show 0 + i * 2 = i * 2; omega)) ?_
      conv => whnf
      refine Idx.mk i rfl h4 ?_
      conv => whnf
      refine ao (bT h4 (by show 0 + i * 2 = i * 2; omega)) ?_
      conv => whnf
      refine ao (oa uC) ?_
      conv => whnf
      refine ag.nsb (fun h5 => ?_) (fun h5 => ?_)
      · conv => whnf
        refine (show mkT _ = AV.sb false from rfl).trans (pB fun e => ?_)
        subst e
        have h5 : (decide (L[i].1 = L[i].1) && (decide (L[i].2 = L[i].2) && true)) = false := h5
        simp at h5
      · conv => whnf
        have h5 : (decide (L[i].1 = M[i].1) && (decide (L[i].2 = M[i].2) && true)) = true := h5
        simp only [Bool.and_true, Bool.and_eq_true, decide_eq_true_eq] at h5
        refine ⟨⟨i + 1, by omega, ?_⟩, hlt, xa (Nat.le_refl 2) rfl rfl (congrArg (AV.si .i64) hw) rfl rfl⟩
        rw [List.take_succ_eq_append_getElem h3, List.take_succ_eq_append_getElem h4, he, Prod.ext h5.1 h5.2]
    · conv => whnf
      have h3 : i = L.length := by have : ¬ (i : Int) < (L.length : Int) := h2; omega
      subst h3
      refine (show mkT _ = AV.sb true from rfl).trans (EF ?_)
      rw [List.take_length, hlen, List.take_length] at he
      exact he
theorem Gx : az EC 3 15 [.nsl, .nsl] .nil 0 fun u _ _ => mkT u = mkT (.bool (ib [] [])) := by
  conv => whnf
  refine bg.roll 1 ?_
  conv => whnf
  rfl
theorem Gy (M : Smp) (cap : Nat) : az EC 3 15 [.nsl, .sy 0 0 M.length cap 0] (mkH [(0, .ro (smp M))]) 1 fun u _ _ => mkT u = mkT (.bool (ib [] M)) := by
  conv => whnf
  refine ag.dB (fun h1 => ?_) (fun h1 => ?_)
  · conv => whnf
    exact (show mkT _ = AV.sb false from rfl).trans (pB fun e => h1 (by rw [← e]; rfl))
  · conv => whnf
    have h2 : M = [] := List.eq_nil_of_length_eq_zero (by have : (0 : Int) = (M.length : Int) := h1; omega)
    subst h2
    refine bg.roll 1 ?_
    conv => whnf
    rfl
theorem Gz (L : Smp) (cap : Nat) : az EC 3 15 [.sy 0 0 L.length cap 0, .nsl] (mkH [(0, .ro (smp L))]) 1 fun u _ _ => mkT u = mkT (.bool (ib L [])) := by
  conv => whnf
  refine ag.dB (fun h1 => ?_) (fun h1 => ?_)
  · conv => whnf
    exact (show mkT _ = AV.sb false from rfl).trans (pB fun e => h1 (by rw [e]; rfl))
  · conv => whnf
    have h2 : L = [] := List.eq_nil_of_length_eq_zero (by have : (L.length : Int) = (0 : Int) := h1; omega)
    subst h2
    refine bg.roll 1 ?_
    conv => whnf
    refine ag.dec (fun h => absurd h (by decide)) (fun _ => ?_)
    conv => whnf
    rfl
theorem Ae : aF 15 (rj 1000000 ib) := EE Gw (by kernel_rfl) Gx (fun M cap _ => Gy M cap) (fun L cap _ => Gz L cap) BG
end Go.Proofs.Ythjggjhebbdkdaa
namespace Go.Proofs.Ythjggjhebbdkdaa
open Go Go.RowKit
theorem xb (S : Sr) (L : Smp) (t v p : Int) : (gS S L t v p).1.2.length ≤ L.length + 1 := by
  unfold gS
  generalize (if p = 0 then S.pol else p) = q
  split
  · exact Nat.le_succ _
  · split
    · exact Nat.le_succ _
    · split
      · exact Nat.le_trans (jE _ _ _) (qU _ _ _ _).1
      · exact Nat.le_succ _
theorem xc (S : Sr) (L : Smp) (ret p : Int) : (kl S L ret p).1.2.length ≤ L.length := by
  unfold kl
  split
  · exact jE _ _ _
  · exact Nat.le_refl _
def uD (args : List AV) (H : AH) (n : Nat) (κ : PK) : Prop := match args with
  | [x, y, z] => ∃ (r k q : Nat) (S : Sr) (C : Ck5) (t v p : Int) (L : Smp) (S' : Sr) (L' : Smp) (e : Int), x = .ptr r 0 ∧ la y t v ∧ mk z = .si .i64 p ∧ cZ H n r k q S (pts C) C ∧ dZ S C ∧ aM v ∧ ab C = L ∧ L.length ≤ 40000 ∧ gS S L t v p = ((S', L'), e) ∧ ∀ C', dZ S' C' → ab C' = L' → κ (.si .i64 e) (dS H n r k q S' (pts C') C') (n + 1)
  | _ => False
theorem EG : aF 11 uD := fun args H n κ hs => IV args H n κ (by
  unfold uD at hs
  unfold uu
  split at hs
  · obtain ⟨r, k, q, S, C, t, v, p, L, S', L', e, h1, h2, h3, h4, h5, h6, h7, h8, h9, h10⟩ := hs
    subst h7
    refine ⟨r, k, q, S, C, t, v, p, h1, h2, h3, h4, h5, h6, h8, fun C' f1 f2 f3 f4 => ?_⟩
    have hl := xb S (ab C) t v p
    rw [h9] at f1 f2 f3 f4 hl
    have := h10 C' ⟨f2, f3, f4, by rw [f1]; dsimp only at hl ⊢; omega⟩ f1
    rw [h9]; exact this
  · exact hs.elim)
def uE (args : List AV) (H : AH) (n : Nat) (κ : PK) : Prop := match args with
  | [x, y, z] => ∃ (r k q : Nat) (S : Sr) (C : Ck5) (a b : Int) (L L' : Smp) (m : Nat), x = .ptr r 0 ∧ mk y = .si .i64 a ∧ mk z = .si .i64 b ∧ cZ H n r k q S (pts C) C ∧ dZ S C ∧ ab C = L ∧ L.length ≤ 40000 ∧ aS L a b = L' ∧ L.length - L'.length = m ∧ ∀ C', dZ S C' → ab C' = L' → κ (.si .i64 (m : Int)) (dS H n r k q S (pts C') C') (n + 1)
  | _ => False
theorem EI : aF 10 uE := fun args H n κ hs => Em args H n κ (by
  unfold uE at hs
  unfold pA
  split at hs
  · obtain ⟨r, k, q, S, C, a, b, L, L', m, h1, h2, h3, h4, h5, h6, h7, h8, h9, h10⟩ := hs
    subst h6 h8 h9
    have e1 := uo C
    have e2 := h5.gt.few
    have e3 := jE (ab C) a b
    exact ⟨r, k, q, S, C, a, b, h1, h2, h3, h4, h5.gt.gd.pf, by omega, by omega, fun C' f1 f2 f3 => h10 C' ⟨f2, f3, h5.num, by rw [f1]; omega⟩ f1⟩
  · exact hs.elim)
def uF (args : List AV) (H : AH) (n : Nat) (κ : PK) : Prop := match args with
  | [x, y, z] => ∃ (r k q : Nat) (S : Sr) (C : Ck5) (ret p : Int) (L : Smp) (S' : Sr) (L' : Smp) (e : Int), x = .ptr r 0 ∧ mk y = .si .i64 ret ∧ mk z = .si .i64 p ∧ cZ H n r k q S (pts C) C ∧ dZ S C ∧ ab C = L ∧ L.length ≤ 40000 ∧ kl S L ret p = ((S', L'), e) ∧ ∀ C', dZ S' C' → ab C' = L' → κ (.si .i64 e) (dS H n r k q S' (pts C') C') (n + 1)
  | _ => False
theorem EJ : aF 60 uF := fun args H n κ hs => IX args H n κ (by
  unfold uF at hs
  unfold uv
  split at hs
  · obtain ⟨r, k, q, S, C, ret, p, L, S', L', e, h1, h2, h3, h4, h5, h7, h8, h9, h10⟩ := hs
    subst h7
    refine ⟨r, k, q, S, C, ret, p, h1, h2, h3, h4, h5, h8, fun C' f1 f2 f3 f4 => ?_⟩
    have hl := xc S (ab C) ret p
    rw [h9] at f1 f2 f3 f4 hl
    have := h10 C' ⟨f2, f3, f4, by rw [f1]; dsimp only at hl ⊢; omega⟩ f1
    rw [h9]; exact this
  · exact hs.elim)
theorem EK {S : Sr} (h1 : 128 ≤ S.sz) (h2 : S.sz ≤ 4096) (hn : gQ S) : dZ S [] := ⟨⟨⟨h1, h2, List.Pairwise.nil, (fun c hc => by cases hc), (fun c hc => by cases hc)⟩, (fun c hc => by cases hc)⟩, (fun j h => by simp at h), hn, Nat.zero_le _⟩
theorem GA {sz ret p : Int} {S : Sr} (h : mL sz ret p = some S) : dZ S [] ∧ S = ⟨sz.toNat, ret, p, -1, 0⟩ := by
  unfold mL at h
  split at h
  · rename_i k
    injection h with h
    subst h
    exact ⟨EK (by show 128 ≤ sz.toNat; omega) (by show sz.toNat ≤ 4096; omega) ⟨k.2.1, k.2.2, ⟨(show (-1 : Int) ≤ -1 by decide), (show (-1 : Int) < 1099511627776 by decide)⟩, ⟨(show (0 : Int) ≤ 0 by decide), (show (0 : Int) ≤ 1099511627776 by decide)⟩⟩, rfl⟩
  · cases h
theorem dZ.okc {S : Sr} {C : Ck5} (h : dZ S C) : Okc S C := h.gt.toPre5.okc (by have := h.gt.few; have := h.few; omega)
def uG (args : List AV) (H : AH) (n : Nat) (κ : PK) : Prop := match args with
  | [x, y, z] => ∃ (sz ret p : Int) (r : Option Sr), mk x = .si .i64 sz ∧ mk y = .si .i64 ret ∧ mk z = .si .i64 p ∧ n < 900000 ∧ mL sz ret p = r ∧ match r with
    | none => κ (.tup [.nil, .int .i64 1]) H n
    | some S => dZ S [] → κ (.tup [.ptr n 0, .int .i64 0]) (ra H n S) (n + 3)
  | _ => False
theorem EL : aF 9 uG := fun args H n κ hs => IY args H n κ (by
  unfold uG at hs
  unfold uw
  split at hs
  · obtain ⟨sz, ret, p, r, h1, h2, h3, h4, h5, h6⟩ := hs
    refine ⟨sz, ret, p, h1, h2, h3, h4, fun q => ?_, fun S q => ?_⟩
    · rw [h5] at q; subst q; exact h6
    · have := (GA q).1
      rw [h5] at q; subst q; exact h6 this
  · exact hs.elim)
end Go.Proofs.Ythjggjhebbdkdaa
namespace Go.Proofs.Ythjggjhebbdkdaa
open Go Go.RowKit
def HP.emp : HP where
  P _ X _ := ∀ B, ¬ X B
  loc _ _ _ _ _ _ h := h
  mono _ _ _ _ _ h := h
  ex _ _ _ B h hB := absurd hB (h B)
def HP.exi {α : Type} (c : α → Prop) (Q : α → HP) : HP where
  P z X h := ∃ a, c a ∧ (Q a).P z X h
  loc z X h g hn e := fun ⟨a, h1, h2⟩ => ⟨a, h1, (Q a).loc z X h g hn e h2⟩
  mono z z' X h hz := fun ⟨a, h1, h2⟩ => ⟨a, h1, (Q a).mono z z' X h hz h2⟩
  ex z X h B := fun ⟨a, _, h2⟩ hB => (Q a).ex z X h B h2 hB
structure Loc (χ : Ph) (O : List AO) (X : Nat → Prop) (h : Hp) : Prop where
  dom : ∀ i q, χ i = some q → i < O.length ∧ X q.B
  live : ∀ i o, O[i]? = some o → o.own = true ∧ ((χ i = none ∧ o.free = true) ∨ ∃ q ob, χ i = some q ∧ h.f q.B = some ob ∧ OR χ q o ob)
  inj : ∀ i j q q', χ i = some q → χ j = some q' → q.B = q'.B → i = j
  ex : ∀ B, X B → ∃ o, h.f B = some o
  sep : ∀ i Q, O[i]? = some (.sep Q) → Q.P χ.z (χ.s i) h ∧ ∀ B, χ.s i B → X B ∧ (∀ j q, χ j = some q → q.B ≠ B) ∧ ∀ j Q', O[j]? = some (.sep Q') → j ≠ i → ¬ χ.s j B
theorem Loc.to {χ : Ph} {O : List AO} {X : Nat → Prop} {h g : Hp} (l : Loc χ O X h) (hn : h.n ≤ g.n) (e : ∀ B, X B → g.f B = h.f B) : Loc χ O X g :=
  ⟨l.dom, fun i o hi => ⟨(l.live i o hi).1, (l.live i o hi).2.imp id fun ⟨q, ob, h1, h2, h3⟩ => ⟨q, ob, h1, (e _ (l.dom i q h1).2).trans h2, h3⟩⟩, l.inj, fun B hB => by rw [e B hB]; exact l.ex B hB,
    fun i Q hi => ⟨Q.loc _ _ _ _ hn (fun B hB => e B ((l.sep i Q hi).2 B hB).1) (l.sep i Q hi).1, (l.sep i Q hi).2⟩⟩
def sR (O : List AO) (p : Nat × Nat) : HP where
  P z X h := ∃ χ : Ph, (∀ q, χ.z q → z q) ∧ (∃ T, χ 0 = some ⟨p.1, p.2, T⟩) ∧ Loc χ O X h
  loc _ _ _ _ hn e := fun ⟨χ, h1, h2, h3⟩ => ⟨χ, h1, h2, h3.to hn e⟩
  mono _ _ _ _ hz := fun ⟨χ, h1, h2, h3⟩ => ⟨χ, fun q hq => hz q (h1 q hq), h2, h3⟩
  ex _ _ _ B := fun ⟨_, _, _, h3⟩ hB => h3.ex B hB
section
variable {φ : Ph} {H H' : AH} {n : Nat} {h0 h : Hp} {b : Nat} {O : List AO} {p : Nat × Nat} {Q : HP} {S : List Nat}
theorem HR.I5 (hr : HR φ H n h0 h) (hbn : b < n) (hb : H.get b = some (.sep Q)) (hP : (sR O p).P φ.z (φ.s b) h)
    (hH : ∀ x o, H'.get x = some o → (∃ i o', x = n + i ∧ O[i]? = some o' ∧ o = ck (fun c => n + c) o') ∨ (x = b ∧ o = .sep .emp) ∨ (x ≠ b ∧ (x < n ∨ n + O.length ≤ x) ∧ H.get x = some o)) :
    ∃ ψ T, PLe φ ψ ∧ ψ n = some ⟨p.1, p.2, T⟩ ∧ HR ψ H' (n + O.length) h0 h := by
  obtain ⟨χ, hz, ⟨T, h00⟩, l⟩ := hP
  have hS := (hr.sep b Q hb).2
  have hbo := hr.my hb
  have φn : ∀ x, n ≤ x → φ x = none := fun x hx => by
    cases e : φ x with
    | none => rfl
    | some q => have := (hr.dom x q e).1; omega
  have χn : ∀ i, O.length ≤ i → χ i = none := fun i hi => by
    cases e : χ i with
    | none => rfl
    | some q => have := (l.dom i q e).1; omega
  let ψ : Ph := ⟨fun x => if n ≤ x then χ (x - n) else φ x, φ.z, φ.y, fun x => if n ≤ x ∧ x < n + O.length then χ.s (x - n) else if x = b then (fun _ => False) else φ.s x⟩
  have ψn : ∀ i, ψ (n + i) = χ i := fun i => by
    show (if n ≤ n + i then χ (n + i - n) else _) = _
    rw [if_pos (Nat.le_add_right n i), Nat.add_sub_cancel_left]
  have ψo : ∀ x, (x < n ∨ n + O.length ≤ x) → ψ x = φ x := fun x hx => by
    show (if n ≤ x then χ (x - n) else φ x) = φ x
    split
    · rw [φn x (by omega), χn _ (by omega)]
    · rfl
  have sn : ∀ {i : Nat} {o : AO}, O[i]? = some o → ψ.s (n + i) = χ.s i := fun {i o} hi => by
    have := (List.getElem?_eq_some_iff.1 hi).1
    show (if n ≤ n + i ∧ n + i < n + O.length then χ.s (n + i - n) else _) = _
    rw [if_pos ⟨Nat.le_add_right n i, by omega⟩, Nat.add_sub_cancel_left]
  have sb : ψ.s b = fun _ => False := by
    show (if n ≤ b ∧ b < n + O.length then _ else if b = b then _ else _) = _
    rw [if_neg (by omega), if_pos rfl]
  have so : ∀ x, (x < n ∨ n + O.length ≤ x) → x ≠ b → ψ.s x = φ.s x := fun x hx hxb => by
    show (if n ≤ x ∧ x < n + O.length then _ else if x = b then _ else _) = _
    rw [if_neg (by omega), if_neg hxb]
  have hle : PLe φ ψ := ⟨fun x q e => by rw [ψo x (.inl (hr.dom x q e).1)]; exact e, fun _ h => h, fun _ h => h⟩
  have sle : SLe χ (ψ.pull (fun c => n + c)) := ⟨fun i q e => by show ψ (n + i) = _; rw [ψn]; exact e, hz⟩
  have cs : ∀ x o q, H'.get x = some o → o.own = true → ψ x = some q → (∃ i, x = n + i ∧ χ i = some q ∧ φ.s b q.B) ∨ ((x < n ∨ n + O.length ≤ x) ∧ x ≠ b ∧ H.get x = some o ∧ φ x = some q) := fun x o q hx ho hq => by
    rcases hH x o hx with ⟨i, o', rfl, h1, rfl⟩ | ⟨rfl, rfl⟩ | ⟨h1, h2, h3⟩
    · rw [ψn] at hq; exact .inl ⟨i, rfl, hq, (l.dom i q hq).2⟩
    · rw [ψo _ (.inl hbn), hbo] at hq; cases hq
    · rw [ψo _ h2] at hq; exact .inr ⟨h2, h1, h3, hq⟩
  refine ⟨ψ, T, hle, by have := ψn 0; rw [Nat.add_zero] at this; rw [this]; exact h00, ⟨fun x q e => ?_, fun x o e => ?_, fun x y o o' q q' hx hy ho ho' hq hq' e => ?_, hr.base, hr.size, fun q hq => ?_, fun x Q' hx => ?_⟩⟩
  · by_cases hxn : n ≤ x
    · obtain ⟨i, rfl⟩ : ∃ i, x = n + i := ⟨x - n, by omega⟩
      rw [ψn] at e
      have := l.dom i q e
      exact ⟨by omega, (hS q.B this.2).1.1⟩
    · rw [ψo x (.inl (by omega))] at e
      have := hr.dom x q e
      exact ⟨by omega, this.2⟩
  · rcases hH x o e with ⟨i, o', rfl, h1, rfl⟩ | ⟨rfl, rfl⟩ | ⟨h1, h2, h3⟩
    · obtain ⟨g1, ⟨g2, g3⟩ | ⟨q, ob, g2, g3, g4⟩⟩ := l.live i o' h1
      · exact .inl ⟨by rw [ψn]; exact g2, by rw [iv]; exact g3⟩
      · refine .inr ⟨q, ob, by rw [ψn]; exact g2, ?_, g3, (OR.pull (χ := ψ)).2 (g4.cz sle)⟩
        rw [kg, AO.bk g1]
        exact (hS q.B (l.dom i q g2).2).1.2
    · exact .inl ⟨by rw [ψo _ (.inl hbn)]; exact hbo, rfl⟩
    · rcases hr.live x o h3 with ⟨g1, g2⟩ | ⟨q, ob, g1, g2, g3, g4⟩
      · exact .inl ⟨by rw [ψo _ h2]; exact g1, g2⟩
      · exact .inr ⟨q, ob, by rw [ψo _ h2]; exact g1, g2, g3, g4.mono hle⟩
  · rcases cs x o q hx ho hq with ⟨i, rfl, a1, a2⟩ | ⟨a1, a2, a3, a4⟩ <;> rcases cs y o' q' hy ho' hq' with ⟨j, rfl, b1, b2⟩ | ⟨b1, b2, b3, b4⟩
    · rw [l.inj i j q q' a1 b1 e]
    · exact absurd e.symm ((hS _ a2).2.1 y o' q' b3 ho' b4)
    · exact absurd e ((hS _ b2).2.1 x o q a3 ho a4)
    · exact hr.inj x y o o' q q' a3 b3 ho ho' a4 b4 e
  · refine ⟨⟨FzR.mono (φ := φ) (ψ := ψ) hle.z (hr.frz q hq).1.1, (hr.frz q hq).1.2⟩, fun x o px hx ho hpx => ?_⟩
    rcases cs x o px hx ho hpx with ⟨i, rfl, a1, a2⟩ | ⟨a1, a2, a3, a4⟩
    · exact fun e => (hS _ a2).2.2.1 q hq e.symm
    · exact (hr.frz q hq).2 x o px a3 ho a4
  · rcases hH x _ hx with ⟨i, o', rfl, h1, h2⟩ | ⟨rfl, h2⟩ | ⟨h1, h2, h3⟩
    · have h2 := jz h2.symm
      subst h2
      obtain ⟨g1, g2⟩ := l.sep i Q' h1
      rw [sn h1]
      refine ⟨Q'.mono _ _ _ _ hz g1, fun B hB => ?_⟩
      obtain ⟨k1, k2, k3⟩ := g2 B hB
      obtain ⟨f1, f2, f3, f4⟩ := hS B k1
      refine ⟨f1, fun y o q hy ho hq => ?_, f3, fun y Q2 hy hne hs => ?_⟩
      · rcases cs y o q hy ho hq with ⟨j, rfl, a1, a2⟩ | ⟨a1, a2, a3, a4⟩
        · exact k2 j q a1
        · exact f2 y o q a3 ho a4
      · rcases hH y _ hy with ⟨j, o', rfl, j1, j2⟩ | ⟨rfl, j2⟩ | ⟨j1, j2, j3⟩
        · have j2 := jz j2.symm
          subst j2
          rw [sn j1] at hs
          exact k3 j Q2 j1 (fun q => hne (by rw [q])) hs
        · rw [sb] at hs; exact hs
        · rw [so y j2 j1] at hs
          exact f4 y Q2 j3 j1 hs
    · injection h2 with h2; subst h2
      rw [sb]
      exact ⟨fun _ h => h, fun _ h => h.elim⟩
    · obtain ⟨g1, g2⟩ := hr.sep x Q' h3
      rw [so x h2 h1]
      refine ⟨g1, fun B hB => ?_⟩
      obtain ⟨f1, f2, f3, f4⟩ := g2 B hB
      refine ⟨f1, fun y o q hy ho hq => ?_, f3, fun y Q2 hy hne hs => ?_⟩
      · rcases cs y o q hy ho hq with ⟨j, rfl, a1, a2⟩ | ⟨a1, a2, a3, a4⟩
        · exact fun e => f4 b Q hb (fun q => h1 q.symm) (by rw [← e]; exact a2)
        · exact f2 y o q a3 ho a4
      · rcases hH y _ hy with ⟨j, o', rfl, j1, j2⟩ | ⟨rfl, j2⟩ | ⟨j1, j2, j3⟩
        · have j2 := jz j2.symm
          subst j2
          rw [sn j1] at hs
          exact f4 b Q hb (fun q => h1 q.symm) ((l.sep j Q2 j1).2 B hs).1
        · rw [sb] at hs; exact hs
        · rw [so y j2 j1] at hs
          exact f4 y Q2 j3 hne hs
def Af (H : AH) (S : List Nat) (O : List AO) : Prop := S.Nodup ∧ S.length = O.length ∧ ∀ (i s : Nat) (o : AO), S[i]? = some s → O[i]? = some o → H.get s = some (ck (bh S 0) o) ∧ o.own = true ∧ ltO O.length o = true
theorem HR.I6 (hr : HR φ H n h0 h) (hs : Af H S O) (hb : H.get b = some (.sep .emp)) (hbS : b ∉ S) {s0 T : Nat} (hs0 : S[0]? = some s0) (hp : φ s0 = some ⟨p.1, p.2, T⟩)
    (hH : ∀ x o, H'.get x = some o → (x = b ∧ o = .sep Q) ∨ (x ≠ b ∧ x ∉ S ∧ H.get x = some o)) (hQ : ∀ z X h, (sR O p).P z X h → Q.P z X h) :
    ∃ ψ, SLe φ ψ ∧ PLe φ ψ ∧ ψ.f = φ.f ∧ HR ψ H' n h0 h := by
  have hbo := hr.my hb
  have ofS : ∀ {i s}, S[i]? = some s → ∃ o, O[i]? = some o ∧ H.get s = some (ck (bh S 0) o) ∧ o.own = true ∧ ltO O.length o = true := fun {i s} e => by
    have hlt : i < O.length := by rw [← hs.2.1]; exact (List.getElem?_eq_some_iff.1 e).1
    exact ⟨O[i], List.getElem?_eq_getElem hlt, hs.2.2 i s O[i] e (List.getElem?_eq_getElem hlt)⟩
  have ofO : ∀ {i o}, O[i]? = some o → ∃ s, S[i]? = some s := fun {i o} e => by
    have := (List.getElem?_eq_some_iff.1 e).1
    rw [← hs.2.1] at this
    exact ⟨S[i], List.getElem?_eq_getElem this⟩
  let X : Nat → Prop := fun B => (∃ (i s : Nat) (q : Pl), S[i]? = some s ∧ φ s = some q ∧ q.B = B) ∨ ∃ (i s : Nat) (Q' : HP), S[i]? = some s ∧ O[i]? = some (AO.sep Q') ∧ φ.s s B
  let χ : Ph := ⟨fun i => match S[i]? with | some s => φ s | none => none, φ.z, φ.y, fun i => match S[i]? with | some s => φ.s s | none => fun _ => False⟩
  have χf : ∀ {i s}, S[i]? = some s → χ i = φ s := fun {i s} e => by
    show (match S[i]? with | some s => φ s | none => none) = _
    rw [e]
  have χs : ∀ {i s}, S[i]? = some s → χ.s i = φ.s s := fun {i s} e => by
    show (match S[i]? with | some s => φ.s s | none => fun _ => False) = _
    rw [e]
  have χi : ∀ {i q}, χ i = some q → ∃ s, S[i]? = some s ∧ φ s = some q := fun {i q} e => by
    have e : (match S[i]? with | some s => φ s | none => none) = some q := e
    cases hi : S[i]? with
    | none => rw [hi] at e; cases e
    | some s => rw [hi] at e; exact ⟨s, rfl, e⟩
  have own : ∀ {i s q}, S[i]? = some s → φ s = some q → ∃ o, O[i]? = some o ∧ H.get s = some (ck (bh S 0) o) ∧ (ck (bh S 0) o).own = true := fun {i s q} e1 _ => by
    obtain ⟨o, h1, h2, h3, _⟩ := ofS e1
    exact ⟨o, h1, h2, by rw [fA]; exact h3⟩
  have hl : Loc χ O X h := by
    refine ⟨fun i q e => ?_, fun i o e => ?_, fun i j q q' e e' hB => ?_, fun B hB => ?_, fun i Q' e => ?_⟩
    · obtain ⟨s, h1, h2⟩ := χi e
      exact ⟨by rw [← hs.2.1]; exact (List.getElem?_eq_some_iff.1 h1).1, .inl ⟨i, s, q, h1, h2, rfl⟩⟩
    · obtain ⟨s, h1⟩ := ofO e
      obtain ⟨h2, h3, h4⟩ := hs.2.2 i s o h1 e
      refine ⟨h3, ?_⟩
      rcases hr.live s _ h2 with ⟨g1, g2⟩ | ⟨q, ob, g1, g2, g3, g4⟩
      · exact .inl ⟨by rw [χf h1]; exact g1, by rw [iv] at g2; exact g2⟩
      · refine .inr ⟨q, ob, by rw [χf h1]; exact g1, g3, ?_⟩
        have g5 := (OR.pull (χ := φ) (r := bh S 0)).1 g4
        refine OR.below (m := O.length) (χ := χ) (ψ := φ.pull (bh S 0)) (fun b' p' hb' e' => ?_) (fun _ h => h) h4 g5
        have e' : φ (bh S 0 b') = some p' := e'
        have hlt : b' < S.length := by rw [hs.2.1]; exact hb'
        have hg : S[b']? = some S[b'] := List.getElem?_eq_getElem hlt
        rw [b9 hg] at e'
        rw [χf hg]; exact e'
    · obtain ⟨s, h1, h2⟩ := χi e
      obtain ⟨s', h1', h2'⟩ := χi e'
      obtain ⟨o, _, g2, g3⟩ := own h1 h2
      obtain ⟨o', _, g2', g3'⟩ := own h1' h2'
      have := hr.inj s s' _ _ q q' g2 g2' g3 g3' h2 h2' hB
      subst this
      exact jA hs.1 h1 h1'
    · rcases hB with ⟨i, s, q, h1, h2, rfl⟩ | ⟨i, s, Q', h1, h2, h3⟩
      · obtain ⟨o, _, g2, _⟩ := own h1 h2
        obtain ⟨ob, _, g3, _⟩ := hr.of g2 h2
        exact ⟨ob, g3⟩
      · exact Q'.ex _ _ _ B (hr.sep s Q' (hs.2.2 i s _ h1 h2).1).1 h3
    · obtain ⟨s, h1⟩ := ofO e
      obtain ⟨k1, k2⟩ := hr.sep s Q' (hs.2.2 i s _ h1 e).1
      rw [χs h1]
      refine ⟨k1, fun B hB => ?_⟩
      obtain ⟨g1, g2, g3, g4⟩ := k2 B hB
      refine ⟨.inr ⟨i, s, Q', h1, e, hB⟩, fun j q hj => ?_, fun j Q2 hj hne hsj => ?_⟩
      · obtain ⟨s', f1, f2⟩ := χi hj
        obtain ⟨o, _, f3, f4⟩ := own f1 f2
        exact g2 s' _ q f3 f4 f2
      · obtain ⟨s', f1⟩ := ofO hj
        rw [χs f1] at hsj
        exact g4 s' Q2 (hs.2.2 j s' _ f1 hj).1 (fun q => hne (by subst q; exact jA hs.1 f1 h1)) hsj
  let ψ : Ph := ⟨φ.f, φ.z, φ.y, fun x => if x = b then X else φ.s x⟩
  have sle : SLe φ ψ := ⟨fun _ _ h => h, fun _ h => h⟩
  have old : ∀ x o q, H'.get x = some o → o.own = true → φ x = some q → x ≠ b ∧ x ∉ S ∧ H.get x = some o := fun x o q hx ho hq => by
    rcases hH x o hx with ⟨rfl, _⟩ | h
    · rw [hbo] at hq; cases hq
    · exact h
  refine ⟨ψ, sle, ⟨fun _ _ h => h, fun _ h => h, fun _ h => h⟩, rfl, ⟨hr.dom, fun x o hx => ?_, fun x y o o' q q' hx hy ho ho' hq hq' e => hr.inj x y o o' q q' (old x o q hx ho hq).2.2 (old y o' q' hy ho' hq').2.2 ho ho' hq hq' e, hr.base, hr.size, fun q hq => ⟨⟨FzR.mono (φ := φ) (ψ := ψ) sle.z (hr.frz q hq).1.1, (hr.frz q hq).1.2⟩, fun x o px hx ho hpx => (hr.frz q hq).2 x o px (old x o px hx ho hpx).2.2 ho hpx⟩, fun x Q' hx => ?_⟩⟩
  · rcases hH x o hx with ⟨rfl, rfl⟩ | ⟨_, _, h3⟩
    · exact .inl ⟨hbo, rfl⟩
    · rcases hr.live x o h3 with g | ⟨q, ob, g1, g2, g3, g4⟩
      · exact .inl g
      · exact .inr ⟨q, ob, g1, g2, g3, g4.cz sle⟩
  · rcases hH x _ hx with ⟨rfl, h2⟩ | ⟨h1, h2, h3⟩
    · injection h2 with h2; subst h2
      have es : ψ.s x = X := if_pos rfl
      rw [es]
      refine ⟨hQ _ _ _ ⟨χ, fun _ h => h, ⟨T, by rw [χf hs0]; exact hp⟩, hl⟩, fun B hB => ?_⟩
      rcases hB with ⟨i, s, q, h1, h2, rfl⟩ | ⟨i, s, Q2, h1, h2, h3⟩
      · obtain ⟨o, _, g2, g3⟩ := own h1 h2
        obtain ⟨ob, g4, _⟩ := hr.of g2 h2
        rw [AO.bk g3] at g4
        refine ⟨⟨(hr.dom s q h2).2, g4⟩, fun y o' q' hy ho' hq' e => ?_, fun q2 hq2 e => (hr.frz q2 hq2).2 s _ q g2 g3 h2 e.symm, fun y Q2 hy hne hsy => ?_⟩
        · obtain ⟨_, a2, a3⟩ := old y o' q' hy ho' hq'
          have := hr.inj y s o' _ q' q a3 g2 ho' g3 hq' h2 e
          subst this
          exact a2 (List.mem_of_getElem? h1)
        · rcases hH y _ hy with ⟨q1, _⟩ | ⟨q1, _, q3⟩
          · exact hne q1
          · have : ψ.s y = φ.s y := if_neg q1
            rw [this] at hsy
            exact ((hr.sep y Q2 q3).2 _ hsy).2.1 s _ q g2 g3 h2 rfl
      · obtain ⟨f1, f2, f3, f4⟩ := (hr.sep s Q2 (hs.2.2 i s _ h1 h2).1).2 B h3
        refine ⟨f1, fun y o' q' hy ho' hq' => f2 y o' q' (old y o' q' hy ho' hq').2.2 ho' hq', f3, fun y Q3 hy hne hsy => ?_⟩
        rcases hH y _ hy with ⟨q1, _⟩ | ⟨q1, q2, q3⟩
        · exact hne q1
        · have : ψ.s y = φ.s y := if_neg q1
          rw [this] at hsy
          exact f4 y Q3 q3 (fun e => q2 (e ▸ List.mem_of_getElem? h1)) hsy
    · obtain ⟨k1, k2⟩ := hr.sep x Q' h3
      have es : ψ.s x = φ.s x := if_neg h1
      rw [es]
      refine ⟨k1, fun B hB => ?_⟩
      obtain ⟨f1, f2, f3, f4⟩ := k2 B hB
      refine ⟨f1, fun y o' q' hy ho' hq' => f2 y o' q' (old y o' q' hy ho' hq').2.2 ho' hq', f3, fun y Q3 hy hne hsy => ?_⟩
      rcases hH y _ hy with ⟨rfl, _⟩ | ⟨q1, q2, q3⟩
      · have : ψ.s y = X := if_pos rfl
        rw [this] at hsy
        rcases hsy with ⟨i, s, q, g1, g2, g3⟩ | ⟨i, s, Q2, g1, g2, g3⟩
        · obtain ⟨o, _, j2, j3⟩ := own g1 g2
          exact f2 s _ q j2 j3 g2 g3
        · exact f4 s Q2 (hs.2.2 i s _ g1 g2).1 (fun e => h2 (e ▸ List.mem_of_getElem? g1)) g3
      · have : ψ.s y = φ.s y := if_neg q1
        rw [this] at hsy
        exact f4 y Q3 q3 hne hsy
theorem HR.hole (hr : HR φ H n h0 h) : ∃ ψ, PLe φ ψ ∧ HR ψ (H.set (some (.sep .emp)) aa n) (n + 1) h0 h := by
  have cs : ∀ x o, (H.set (some (.sep .emp)) aa n).get x = some o → (x = n ∧ o = .sep .emp) ∨ (x ≠ n ∧ H.get x = some o) := fun x o hx => by
    rcases PM.ak aa H n x o hx with ⟨h1, h2⟩ | h2
    · injection h2 with h2; exact .inl ⟨h1, h2.symm⟩
    · exact .inr h2
  have hno : φ n = none := by
    cases e : φ n with
    | none => rfl
    | some q => exact absurd (hr.dom n q e).1 (Nat.lt_irrefl _)
  let ψ : Ph := ⟨φ.f, φ.z, φ.y, fun x => if x = n then (fun _ => False) else φ.s x⟩
  have own : ∀ x o q, (H.set (some (.sep .emp)) aa n).get x = some o → φ x = some q → H.get x = some o := fun x o q hx hq => by
    rcases cs x o hx with ⟨rfl, _⟩ | ⟨_, h3⟩
    · rw [hno] at hq; cases hq
    · exact h3
  have sle : SLe φ ψ := ⟨fun _ _ h => h, fun _ h => h⟩
  refine ⟨ψ, ⟨fun _ _ h => h, fun _ h => h, fun _ h => h⟩, ⟨fun x q hx => ⟨by have := (hr.dom x q hx).1; omega, (hr.dom x q hx).2⟩, fun x o hx => ?_, fun x y o o' q q' hx hy ho ho' hq hq' e => hr.inj x y o o' q q' (own x o q hx hq) (own y o' q' hy hq') ho ho' hq hq' e, hr.base, hr.size, fun q hq => ⟨⟨FzR.mono (φ := φ) (ψ := ψ) sle.z (hr.frz q hq).1.1, (hr.frz q hq).1.2⟩, fun x o px hx ho hpx => (hr.frz q hq).2 x o px (own x o px hx hpx) ho hpx⟩, fun x Q2 hx => ?_⟩⟩
  · rcases cs x o hx with ⟨rfl, rfl⟩ | ⟨_, h4⟩
    · exact .inl ⟨hno, rfl⟩
    · rcases hr.live x o h4 with g | ⟨q, ob, g1, g2, g3, g4⟩
      · exact .inl g
      · exact .inr ⟨q, ob, g1, g2, g3, g4.cz sle⟩
  · rcases cs x _ hx with ⟨rfl, h2⟩ | ⟨h1, h4⟩
    · injection h2 with h2; subst h2
      have es : ψ.s x = fun _ => False := if_pos rfl
      rw [es]
      exact ⟨fun _ h => h, fun X hX => hX.elim⟩
    · obtain ⟨g0, g⟩ := hr.sep x Q2 h4
      have es : ψ.s x = φ.s x := if_neg h1
      rw [es]
      refine ⟨g0, fun X hX => ?_⟩
      obtain ⟨g1, g2, g3, g4⟩ := g X hX
      refine ⟨g1, fun y o q hy ho hq => g2 y o q (own y o q hy hq) ho hq, g3, fun y Q4 hy hne hs => ?_⟩
      rcases cs y _ hy with ⟨rfl, _⟩ | ⟨q1, q4⟩
      · have : ψ.s y = fun _ => False := if_pos rfl
        rw [this] at hs; exact hs
      · have : ψ.s y = φ.s y := if_neg q1
        rw [this] at hs
        exact g4 y Q4 q4 hne hs
end
noncomputable def xd : List AO → Nat → AH → AH
  | [], _, H => H
  | o :: O, k, H => xd O (k + 1) (H.set (some o) aa k)
theorem xe : ∀ {O : List AO} {k : Nat} {H : AH} {x : Nat} {o : AO}, (xd O k H).get x = some o → (∃ i, x = k + i ∧ O[i]? = some o) ∨ ((x < k ∨ k + O.length ≤ x) ∧ H.get x = some o)
  | [], k, H, x, o, h => .inr ⟨by simp only [List.length_nil]; omega, h⟩
  | a :: O, k, H, x, o, h => by
    rcases xe (O := O) h with ⟨i, rfl, h1⟩ | ⟨h1, h2⟩
    · exact .inl ⟨i + 1, by omega, h1⟩
    · rcases PM.ak aa H k x o h2 with ⟨rfl, h3⟩ | ⟨h3, h4⟩
      · injection h3 with h3; subst h3; exact .inl ⟨0, rfl, rfl⟩
      · exact .inr ⟨by simp only [List.length_cons]; omega, h4⟩
def Ka (b n : Nat) (p : Nat × Nat) (κ : PK) : PK := fun v H2 n2 => ∃ (S : List Nat) (O2 : List AO) (Q2 : HP) (H3 : AH), Af H2 S O2 ∧ H2.get b = some (.sep .emp) ∧ b ∉ S ∧ S[0]? = some n ∧ (∀ z X h, (sR O2 p).P z X h → Q2.P z X h) ∧ (∀ x o, H3.get x = some o → (x = b ∧ o = .sep Q2) ∨ (x ≠ b ∧ x ∉ S ∧ H2.get x = some o)) ∧ κ v H3 n2
section
variable {φ : Ph} {H : AH} {n : Nat} {h0 hp : Hp} {vs : Array Value} {κ : PK} {K : KH} {b : Nat} {O : List AO} {p : Nat × Nat} {Q : HP} {rest : List AV}
theorem aF.EM {f : FuncId} {run : List AV → AH → Nat → PK → Prop} (hrun : aF f run) (hr : HR φ H n h0 hp) (hbn : b < n) (hb : H.get b = some (.sep Q)) (hP : (sR O p).P φ.z (φ.s b) hp) (hargs : VRs φ (bW p :: rest) vs.toList) (hk : bV φ h0 κ K)
    (hs : run (.ptr n 0 :: rest) (xd (O.map (ck fun c => n + c)) n (H.set (some (.sep .emp)) aa b)) (n + O.length) (Ka b n p κ)) : cL Try.prog f vs hp K := by
  obtain ⟨ψ, T, hle, hψ, hr2⟩ := hr.I5 (H' := xd (O.map (ck fun c => n + c)) n (H.set (some (.sep .emp)) aa b)) hbn hb hP fun x o hx => by
    rcases xe hx with ⟨i, h1, h2⟩ | ⟨h1, h2⟩
    · rw [List.getElem?_map, Option.map_eq_some_iff] at h2
      obtain ⟨o', h2, h3⟩ := h2
      exact .inl ⟨i, o', h1, h2, h3.symm⟩
    · rcases PM.ak aa H b x o h2 with ⟨h3, h4⟩ | ⟨h3, h4⟩
      · injection h4 with h4; exact .inr (.inl ⟨h3, h4.symm⟩)
      · exact .inr (.inr ⟨h3, by rw [List.length_map] at h1; exact h1, h4⟩)
  obtain ⟨w1, us1, q1, e1, r1⟩ := hargs.cons_inv
  have e1 : w1 = oW p := e1
  subst e1
  refine hrun _ _ _ _ hs ψ h0 hp vs K hr2 (by rw [q1]; exact .cons (VR.mz hψ) (VRs.mono hle _ _ r1)) fun χ v H2 n2 u g hle2 hg hu ⟨S, O2, Q2, H3, g1, g2, g3, g4, g5, g6, g7⟩ => ?_
  obtain ⟨ω, _, hle3, _, hr3⟩ := hg.I6 g1 g2 g3 g4 (hle2.b _ _ hψ) g6 g5
  exact hk ω v _ n2 u g ((hle.trans hle2).trans hle3) hr3 (VR.mono hle3 _ _ hu) g7
def Kb (b : Nat) (κ : PK) : PK := fun v H2 n2 => ∃ (S : List Nat) (O2 : List AO) (Q2 : Nat × Nat → HP) (H3 : Nat × Nat → AH) (v2 : Nat × Nat → AV) (s0 : Nat) (o0 : AO), Af H2 S O2 ∧ H2.get b = some (.sep .emp) ∧ b ∉ S ∧ S[0]? = some s0 ∧ O2[0]? = some o0 ∧ o0.free = false ∧ (∀ p z X h, (sR O2 p).P z X h → (Q2 p).P z X h) ∧ (∀ p x o, (H3 p).get x = some o → (x = b ∧ o = .sep (Q2 p)) ∨ (x ≠ b ∧ x ∉ S ∧ H2.get x = some o)) ∧ (∀ p φ T u, φ.f s0 = some ⟨p.1, p.2, T⟩ → VR φ v u → VR φ (v2 p) u) ∧ ∀ p, κ (v2 p) (H3 p) n2
theorem aF.Kc {f : FuncId} {run : List AV → AH → Nat → PK → Prop} (hrun : aF f run) {args : List AV} (hr : HR φ H n h0 hp) (hargs : VRs φ args vs.toList) (hk : bV φ h0 κ K)
    (hs : run args (H.set (some (.sep .emp)) aa n) (n + 1) fun v H2 n2 => Kb n κ v H2 n2 ∨ ∃ H3, (∀ x o, H3.get x = some o → H2.get x = some o) ∧ κ v H3 n2) : cL Try.prog f vs hp K := by
  obtain ⟨ψ, hle, hr2⟩ := hr.hole
  refine hrun _ _ _ _ hs ψ h0 hp vs K hr2 (VRs.mono hle _ _ hargs) fun χ v H2 n2 u g hle2 hg hu hR => ?_
  rcases hR with ⟨S, O2, Q2, H3, v2, s0, o0, g1, g2, g3, g4, g5, g6, g7, g8, g9, g10⟩ | ⟨H3, g1, g2⟩
  · obtain ⟨j1, j2, j3⟩ := g1.2.2 0 s0 o0 g4 g5
    rcases hg.live s0 _ j1 with ⟨_, k2⟩ | ⟨q, ob, k1, _⟩
    · rw [iv, g6] at k2; cases k2
    · have e : q = ⟨(q.B, q.s).1, (q.B, q.s).2, q.T⟩ := rfl
      rw [e] at k1
      obtain ⟨ω, _, hle3, _, hr3⟩ := hg.I6 (Q := Q2 (q.B, q.s)) g1 g2 g3 g4 k1 (g8 _) (g7 _)
      exact hk ω _ _ n2 u g ((hle.trans hle2).trans hle3) hr3 (VR.mono hle3 _ _ (g9 _ _ _ _ k1 hu)) (g10 _)
  · exact hk χ v H3 n2 u g (hle.trans hle2) (hg.less g1) hu g2
end
end Go.Proofs.Ythjggjhebbdkdaa
namespace Go.Proofs.Ythjggjhebbdkdaa
open Go Go.RowKit
def dy (p : Nat × Nat) (S : Sr) (L : Smp) : HP := HP.exi (fun C : Ck5 => dZ S C ∧ ab C = L) fun C => sR (eG S (pts C) C) p
def dD (S : Sr) (L : Smp) : Prop := ∃ C, dZ S C ∧ ab C = L
def fH (H : AH) (n : Nat) : Prop := n < 800000 ∧ PM.get H n = none ∧ PM.get H (n + 1) = none ∧ PM.get H (n + 2) = none ∧ PM.get H (n + 3) = none
noncomputable def opS (H : AH) (n b : Nat) (S : Sr) (C : Ck5) : AH := PM.set (some (bP S C)) aa (PM.set (some (.cells (aQ (pts C)) true)) aa (PM.set (some (.cells (bO S (n + 1) (pts C).length) true)) aa (PM.set (some (.sep .emp)) aa H b) n) (n + 1)) (n + 2)
theorem yE (H : AH) (n b : Nat) (S : Sr) (C : Ck5) : xd ((eG S (pts C) C).map (ck fun c => n + c)) n (PM.set (some (.sep .emp)) aa H b) = opS H n b S C := by
  show xd [ck _ (.cells (bO S 1 (pts C).length) true), ck _ (.cells (aQ (pts C)) true), ck _ (bP S C)] n _ = _
  (try simp only [ck, fF])
  rfl
section
variable {H : AH} {n b : Nat} {S : Sr} {C : Ck5}
theorem mN (hn : n < 800000) : cZ (opS H n b S C) (n + 3) n (n + 1) (n + 2) S (pts C) C :=
  ⟨⟨by omega, by omega, by omega⟩, ⟨by omega, by omega, by omega⟩,
   PM.aC aa _ _ _ (aD (by omega)) (by omega) (PM.aC aa _ _ _ (aD (by omega)) (by omega) (PM.bp aa _ _ (aD (by omega)))),
   PM.aC aa _ _ _ (aD (by omega)) (by omega) (PM.bp aa _ _ (aD (by omega))), PM.bp aa _ _ (aD (by omega))⟩
theorem EN (hbn : b < n) (hn : n < 800000) : PM.get (opS H n b S C) b = some (.sep .emp) :=
  PM.aC aa _ _ _ (aD (by omega)) (by omega) (PM.aC aa _ _ _ (aD (by omega)) (by omega) (PM.aC aa _ _ _ (aD (by omega)) (by omega) (PM.bp aa _ _ (aD (by omega)))))
theorem EO (hn : n < 800000) {x : Nat} {o : AO} (hx : x < n ∨ n + 3 ≤ x) (hxb : x ≠ b) (hbn : b < n) (h : PM.get H x = some o) : PM.get (opS H n b S C) x = some o :=
  PM.aC aa _ _ _ (aD (by omega)) (by omega) (PM.aC aa _ _ _ (aD (by omega)) (by omega) (PM.aC aa _ _ _ (aD (by omega)) (by omega) (PM.aC aa _ _ _ (aD (by omega)) hxb h)))
theorem fH.ne (hR : fH H n) {x : Nat} {o : AO} (h : PM.get H x = some o) : x ≠ n ∧ x ≠ n + 1 ∧ x ≠ n + 2 ∧ x ≠ n + 3 :=
  have key : ∀ m, PM.get H m = none → x ≠ m := fun m hm e => by rw [e, hm] at h; cases h
  ⟨key _ hR.2.1, key _ hR.2.2.1, key _ hR.2.2.2.1, key _ hR.2.2.2.2⟩
theorem cZ.xf {H2 : AH} {n2 r k q : Nat} (h : cZ H2 n2 r k q S (pts C) C) : Af H2 [r, k, q] (eG S (pts C) C) :=
  ⟨by simp [h.ne.1, h.ne.2.1, h.ne.2.2], rfl, fun i s o h1 h2 => by
    match i, h1, h2 with
    | 0, h1, h2 => injection h1 with h1; injection h2 with h2; subst h1 h2; exact ⟨h.hr, rfl, rfl⟩
    | 1, h1, h2 => injection h1 with h1; injection h2 with h2; subst h1 h2; exact ⟨by rw [ck, fF]; exact h.hk, rfl, kj _ _⟩
    | 2, h1, h2 => injection h1 with h1; injection h2 with h2; subst h1 h2; exact ⟨h.hq, rfl, rfl⟩⟩
theorem BH {n2 r k q : Nat} {S' : Sr} {C' : Ck5} {H2 : AH} (hR : r < n2 ∧ k < n2 ∧ q < n2) (hne : r ≠ k ∧ r ≠ q ∧ k ≠ q) (hn : n2 < 890000) : cZ (dS H2 n2 r k q S' (pts C') C') (n2 + 1) r n2 q S' (pts C') C' :=
  ⟨⟨by omega, by omega, by omega⟩, ⟨by omega, by omega, by omega⟩, PM.bp aa _ _ (aD (by omega)),
   PM.aC aa _ _ _ (aD (by omega)) (by omega) (PM.aC aa _ _ _ (aD (by omega)) (by omega) (PM.aC aa _ _ _ (aD (by omega)) (by omega) (PM.bp aa _ _ (aD (by omega))))),
   PM.aC aa _ _ _ (aD (by omega)) (by omega) (PM.aC aa _ _ _ (aD (by omega)) (by omega) (PM.bp aa _ _ (aD (by omega))))⟩
theorem xg {n2 r k q : Nat} {S' : Sr} {C' : Ck5} {H2 : AH} (hn : n2 < 890000) (hR : r < n2 ∧ k < n2 ∧ q < n2) {x : Nat} {o : AO} (hx : x ≠ r ∧ x ≠ k ∧ x ≠ q ∧ x ≠ n2) (h : PM.get H2 x = some o) : PM.get (dS H2 n2 r k q S' (pts C') C') x = some o :=
  PM.aC aa _ _ _ (aD (by omega)) hx.1 (PM.aC aa _ _ _ (aD (by omega)) hx.2.1 (PM.aC aa _ _ _ (aD (by omega)) hx.2.2.1 (PM.aC aa _ _ _ (aD (by omega)) hx.2.2.2 h)))
end
section
variable {f : FuncId} {run : List AV → AH → Nat → PK → Prop} {φ : Ph} {H : AH} {n : Nat} {h0 hp : Hp} {vs : Array Value} {κ : PK} {K : KH} {b : Nat} {p : Nat × Nat} {S : Sr} {L : Smp} {rest : List AV}
theorem BI (hrun : aF f run) (hr : HR φ H n h0 hp) (hbn : b < n) (hb : PM.get H b = some (.sep (dy p S L))) (hR : fH H n) (hargs : VRs φ (bW p :: rest) vs.toList) (hk : bV φ h0 κ K)
    (hs : ∀ C, dZ S C → ab C = L → ∃ v, run (.ptr n 0 :: rest) (opS H n b S C) (n + 3) (fun u H2 n2 => u = v ∧ H2 = opS H n b S C ∧ n2 = n + 3) ∧ κ v H (n + 3)) : cL Try.prog f vs hp K := by
  obtain ⟨C, ⟨h5, hf⟩, hP⟩ := (hr.sep b _ hb).1
  obtain ⟨v, h1, h2⟩ := hs C h5 hf
  have h3 : aF f fun args H n κ => ∃ κ0 : PK, run args H n κ0 ∧ ∀ v H' n', κ0 v H' n' → κ v H' n' := fun args H n κ ⟨κ0, a1, a2⟩ φ h0 h vs K b1 b2 b3 => hrun args H n κ0 a1 φ h0 h vs K b1 b2 fun ψ v H' n' u g c1 c2 c3 c4 => b3 ψ v H' n' u g c1 c2 c3 (a2 _ _ _ c4)
  refine h3.EM hr hbn hb hP hargs hk ?_
  rw [yE]
  refine ⟨_, h1, fun u H2 n2 ⟨e1, e2, e3⟩ => ?_⟩
  subst e1 e2 e3
  refine ⟨[n, n + 1, n + 2], _, dy p S L, H, (mN hR.1).xf, EN hbn hR.1, by simp; omega, rfl, fun z X h hh => ⟨C, ⟨h5, hf⟩, hh⟩, fun x o hx => ?_, h2⟩
  by_cases hxb : x = b
  · subst hxb; rw [hb] at hx; injection hx with hx; exact .inl ⟨rfl, hx.symm⟩
  · have := hR.ne hx
    exact .inr ⟨hxb, by simp; omega, EO hR.1 (by omega) hxb hbn hx⟩
theorem BJ (hrun : aF f run) (hr : HR φ H n h0 hp) (hbn : b < n) (hb : PM.get H b = some (.sep (dy p S L))) (hR : fH H n) (hargs : VRs φ (bW p :: rest) vs.toList) (hk : bV φ h0 κ K)
    (hs : ∀ C, dZ S C → ab C = L → ∃ v o, run (.ptr n 0 :: rest) (opS H n b S C) (n + 3) (fun u H2 n2 => u = v ∧ H2 = PM.set (some o) aa (opS H n b S C) (n + 3) ∧ n2 = n + 4) ∧ κ v (PM.set (some o) aa H (n + 3)) (n + 4)) : cL Try.prog f vs hp K := by
  obtain ⟨C, ⟨h5, hf⟩, hP⟩ := (hr.sep b _ hb).1
  obtain ⟨v, o0, h1, h2⟩ := hs C h5 hf
  have h3 : aF f fun args H n κ => ∃ κ0 : PK, run args H n κ0 ∧ ∀ v H' n', κ0 v H' n' → κ v H' n' := fun args H n κ ⟨κ0, a1, a2⟩ φ h0 h vs K b1 b2 b3 => hrun args H n κ0 a1 φ h0 h vs K b1 b2 fun ψ v H' n' u g c1 c2 c3 c4 => b3 ψ v H' n' u g c1 c2 c3 (a2 _ _ _ c4)
  refine h3.EM hr hbn hb hP hargs hk ?_
  rw [yE]
  refine ⟨_, h1, fun u H2 n2 ⟨e1, e2, e3⟩ => ?_⟩
  subst e1 e2 e3
  have hat : cZ (PM.set (some o0) aa (opS H n b S C) (n + 3)) (n + 4) n (n + 1) (n + 2) S (pts C) C := by
    have := mN (H := H) (b := b) (S := S) (C := C) hR.1
    have hn := hR.1
    exact ⟨this.ne, ⟨by omega, by omega, by omega⟩, PM.aC aa _ _ _ (aD (by omega)) (by omega) this.hr, PM.aC aa _ _ _ (aD (by omega)) (by omega) this.hk, PM.aC aa _ _ _ (aD (by omega)) (by omega) this.hq⟩
  have hn := hR.1
  refine ⟨[n, n + 1, n + 2], _, dy p S L, _, hat.xf, PM.aC aa _ _ _ (aD (by omega)) (by omega) (EN hbn hR.1), by simp; omega, rfl, fun z X h hh => ⟨C, ⟨h5, hf⟩, hh⟩, fun x o hx => ?_, h2⟩
  rcases PM.ak aa H (n + 3) x o hx with ⟨rfl, h6⟩ | ⟨h6, h7⟩
  · injection h6 with h6; subst h6
    exact .inr ⟨by omega, by simp, PM.bp aa _ _ (aD (by omega))⟩
  · by_cases hxb : x = b
    · subst hxb; rw [hb] at h7; injection h7 with h7; exact .inl ⟨rfl, h7.symm⟩
    · have := hR.ne h7
      exact .inr ⟨hxb, by simp; omega, PM.aC aa _ _ _ (aD (by omega)) h6 (EO hR.1 (by omega) hxb hbn h7)⟩
theorem rl (hrun : aF f run) (hr : HR φ H n h0 hp) (hbn : b < n) (hb : PM.get H b = some (.sep (dy p S L))) (hR : fH H n) (hargs : VRs φ (bW p :: rest) vs.toList) (hk : bV φ h0 κ K) {v : AV} {S' : Sr} {L' : Smp}
    (hs : ∀ C, dZ S C → ab C = L → run (.ptr n 0 :: rest) (opS H n b S C) (n + 3) (fun u H2 n2 => u = v ∧ ∃ C', dZ S' C' ∧ ab C' = L' ∧ H2 = dS (opS H n b S C) (n + 3) n (n + 1) (n + 2) S' (pts C') C' ∧ n2 = n + 4))
    (hκ : dD S' L' → κ v (PM.set (some (.sep (dy p S' L'))) aa H b) (n + 4)) : cL Try.prog f vs hp K := by
  obtain ⟨C, ⟨h5, hf⟩, hP⟩ := (hr.sep b _ hb).1
  have h1 := hs C h5 hf
  have h3 : aF f fun args H n κ => ∃ κ0 : PK, run args H n κ0 ∧ ∀ v H' n', κ0 v H' n' → κ v H' n' := fun args H n κ ⟨κ0, a1, a2⟩ φ h0 h vs K b1 b2 b3 => hrun args H n κ0 a1 φ h0 h vs K b1 b2 fun ψ v H' n' u g c1 c2 c3 c4 => b3 ψ v H' n' u g c1 c2 c3 (a2 _ _ _ c4)
  refine h3.EM hr hbn hb hP hargs hk ?_
  rw [yE]
  refine ⟨_, h1, fun u H2 n2 ⟨e1, C', f1, f2, e2, e3⟩ => ?_⟩
  subst e1 e2 e3
  have hn := hR.1
  refine ⟨[n, n + 3, n + 2], _, dy p S' L', _, (BH (by omega) (by omega) (by omega)).xf, xg (by omega) (by omega) (by omega) (EN hbn hR.1), by simp; omega, rfl, fun z X h hh => ⟨C', ⟨f1, f2⟩, hh⟩, fun x o hx => ?_, hκ ⟨C', f1, f2⟩⟩
  rcases PM.ak aa H b x o hx with ⟨rfl, h6⟩ | ⟨h6, h7⟩
  · injection h6 with h6; exact .inl ⟨rfl, h6.symm⟩
  · have := hR.ne h7
    exact .inr ⟨h6, by simp; omega, xg (by omega) (by omega) (by omega) (EO hR.1 (by omega) h6 hbn h7)⟩
end
end Go.Proofs.Ythjggjhebbdkdaa
namespace Go.Proofs.Ythjggjhebbdkdaa
open Go Go.RowKit
def Ke : DT := [(15, [(some 0, [4]), (some 0, [66]), (some 0, [67]), (some 0, [5, 68]), (some 0, [69, 68]), (some 0, [68, 70]), (some 0, [71]), (some 0, [6, 72]), (some 0, [73, 72]), (some 0, [72, 74]), (some 0, [75]), (some 0, [7, 76]), (some 0, [77, 76]), (some 0, [76, 78]), (some 0, [79]), (some 0, [8, 80]), (some 0, [81, 80]), (some 0, [80, 82]), (some 0, [83]), (some 0, [9, 84]), (some 0, [85, 84]), (some 0, [84, 86]), (some 0, [87]), (some 0, [10, 88]), (some 0, [89, 88]), (some 0, [88, 90]), (some 0, [91]), (some 0, [11, 92]), (some 0, [93, 92]), (some 0, [92, 94]), (some 0, [95]), (some 0, [13, 96]), (some 0, [97, 96]), (some 0, [96, 98]), (some 0, [99]), (some 0, [14, 100]), (some 0, [100]), (some 0, [101, 102, 100]), (some 0, [100, 103]), (some 0, [104]), (some 0, [15, 105]), (some 0, [105, 106]), (some 0, [107]), (some 0, [16, 108]), (some 0, [108]), (some 0, [108]), (none, [110, 111, 108]), (none, [109, 112, 108]), (some 0, [108, 113]), (some 0, [114]), (some 0, [17, 115]), (some 0, [116, 115]), (some 0, [115, 117]), (some 0, [118]), (some 0, [1, 119]), (none, [120, 119]), (some 0, [121, 119]), (some 0, [119, 122]), (some 0, [123]), (some 0, [1, 124]), (none, [125, 124]), (some 0, [126, 124]), (some 0, [124, 127]), (some 0, [128]), (some 0, [1, 129]), (none, [130, 129]), (some 0, [131, 129]), (some 0, [129, 132]), (some 0, [133]), (some 0, [1, 134]), (none, [135, 134]), (some 0, [136, 134]), (some 0, [137, 134]), (some 0, [134, 138]), (some 0, [139]), (some 0, [1, 140]), (none, [141, 140]), (some 0, [142, 140]), (some 0, [140, 143]), (some 0, [144]), (some 0, [1, 145]), (none, [146, 145]), (some 0, [147, 145]), (some 0, [145, 148]), (some 0, [149]), (some 0, [1, 150]), (none, [151, 150]), (some 1, [16, 150]), (some 2, [153, 150]), (none, [152, 154, 150]), (some 0, [150, 155])]), (1000015, [])]
noncomputable def KSr : FuncId → EP := a9 9 uG (a9 60 uF (a9 11 uD (a9 10 uE (cq 14 (dC Hw) (cq 52 (dC Hy) (cq 16 (l5 HG) (cq 15 (rj 1000000 ib) (cq 24 (dC Ho) (cq 25 (dC zS) (cq 53 (dC yA) (cq 54 (sQ EB) (cq 27 (dC Hr) (cq 26 (dC Hu) (cq 13 (l5 Eu) evP))))))))))))))
theorem I7 : bG KSr := aw (aw (aw (aw (aY (aY (aY (aY (aY (aY (aY (aY (aY (aY (aY bd Ev (yz _)) Hv (iN _)) Ht (iN _)) HI (EA _)) yB (iN _)) zT (iN _)) Hq (iN _)) Ae ED) HH (yz _)) zU (iN _)) Ek (iN _)) EI) EG) EJ) EL
noncomputable def Kf : FuncId → EP := bK 12 Ke KSr
theorem GB : bG Kf := aL I7 (by kernel_rfl) (by kernel_rfl)
abbrev s0 : Sr := ⟨128, 10, 3, -1, 0⟩
abbrev s1 : Sr := ⟨128, 10, 3, 5, 0⟩
abbrev s2 : Sr := ⟨128, 10, 3, 20, 10⟩
theorem Kg : mL 128 10 3 = some s0 := if_pos (by decide)
theorem MV : mL 128 (-1) 3 = none := if_neg (by decide)
theorem k_a : gS s0 [] 5 1 0 = ((s1, [(5, 1)]), 0) := by kernel_rfl
theorem k_b : gS s1 [(5, 1)] 20 2 0 = ((s2, [(20, 2)]), 0) := by kernel_rfl
theorem k_c : gS s2 [(20, 2)] 9 3 0 = ((s2, [(20, 2)]), 7) := by kernel_rfl
theorem k_d : gS s2 [(20, 2)] 10 3 0 = ((s2, [(10, 3), (20, 2)]), 0) := by kernel_rfl
theorem k_g : gS s2 [(10, 3), (20, 2)] 20 7 1 = ((s2, [(10, 3), (20, 2)]), 8) := by kernel_rfl
theorem k_n : aS [(10, 3), (20, 2)] 20 30 = [(10, 3)] := by kernel_rfl
theorem yF {P : Program} {t : TypeId} {H : AH} {a b c d : Int} (hp : eo P t = some [(0, 0), (0, 1)]) : oT P .eql t (.agg [.int .i64 a, .int .i64 b]) (.agg [.int .i64 c, .int .i64 d]) H = some (.bool (decide (a = c) && (decide (b = d) && true))) := by
  simp [oT, hp, oA, nth, mY]
abbrev kE : List (Nat × AV) := [(0, .bool false), (1, .ptr 0 0), (4, .si .i64 1), (5, .si .i64 0), (6, .si .i64 0), (7, .si .i64 7), (8, .si .i64 0), (9, .si .i64 8), (10, .si .i64 2), (11, .si .i64 0), (13, .si .i64 5), (14, .ptr 3 0), (15, .sb true), (16, .rw 4 0 2 2 0), (17, .si .i64 1)]
noncomputable def kM (C : Ck5) : AH := mkH [(0, .cells (bO s2 1 (pts C).length) true), (1, .cells (aQ (pts C)) true), (2, bP s2 C), (3, .cells [.int .i64 20, .int .i64 2] true), (4, .cells (smp [(20, 2), (10, 3)]) true)]
theorem Kh {σ : AE} {H : AH} {n : Nat} {C : Ck5} {l3 l4 : List AV} (e0 : mk (ay (pa 0) σ) = .sb false) (e1 : ay (pa 1) σ = .ptr 0 0) (e4 : mk (ay (pa 4) σ) = .si .i64 1) (e5 : mk (ay (pa 5) σ) = .si .i64 0) (e6 : mk (ay (pa 6) σ) = .si .i64 0) (e7 : mk (ay (pa 7) σ) = .si .i64 7) (e8 : mk (ay (pa 8) σ) = .si .i64 0) (e9 : mk (ay (pa 9) σ) = .si .i64 8) (e10 : mk (ay (pa 10) σ) = .si .i64 2) (e11 : mk (ay (pa 11) σ) = .si .i64 0) (e13 : mk (ay (pa 13) σ) = .si .i64 5) (e14 : ay (pa 14) σ = .ptr 8 0) (e15 : mk (ay (pa 15) σ) = .sb true) (e16 : ay (pa 16) σ = .rw 9 0 2 2 0) (e17 : mk (ay (pa 17) σ) = .si .i64 1)
    (h0 : PM.get H 0 = some (.cells (bO s2 10 (pts C).length) true)) (h1 : PM.get H 10 = some (.cells (aQ (pts C)) true)) (h2 : PM.get H 2 = some (bP s2 C)) (h3 : PM.get H 8 = some (.cells l3 true)) (g3 : l3.map mk = [.si .i64 20, .si .i64 2]) (h4 : PM.get H 9 = some (.cells l4 true)) (g4 : l4.map mk = smp [(20, 2), (10, 3)]) : Cov 0 σ H n (mkE kE, kM C, 5) := by
  refine Cov.ofR (m := 5) (p := 0) (fun c => if c = 1 then 10 else if c = 3 then 8 else if c = 4 then 9 else c) (by decide) (fun b hb => absurd hb (Nat.not_lt_zero b)) (fun x hx => ?_) (fun x hx => ?_) (fun x hx y hy e => ?_)
  · simp only [List.mem_cons, List.not_mem_nil, or_false] at hx
    rcases hx with rfl | rfl | rfl | rfl | rfl | rfl | rfl | rfl | rfl | rfl | rfl | rfl | rfl | rfl | rfl
    · exact ae.flat rfl e0
    · exact ae.ptr (by decide) e1
    · exact ae.flat rfl e4
    · exact ae.flat rfl e5
    · exact ae.flat rfl e6
    · exact ae.flat rfl e7
    · exact ae.flat rfl e8
    · exact ae.flat rfl e9
    · exact ae.flat rfl e10
    · exact ae.flat rfl e11
    · exact ae.flat rfl e13
    · exact ae.ptr (by decide) e14
    · exact ae.flat rfl e15
    · exact ae.rw (by decide) e16
    · exact ae.flat rfl e17
  · simp only [List.mem_cons, List.not_mem_nil, or_false] at hx
    rcases hx with rfl | rfl | rfl | rfl | rfl
    · exact ⟨Nat.le_of_ble_eq_true rfl, .inl ⟨_, h0, aO.bO rfl rfl rfl rfl rfl (ae.rw (Nat.le_of_ble_eq_true rfl) rfl)⟩⟩
    · exact ⟨Nat.le_of_ble_eq_true rfl, .inl ⟨_, h1, aO.aQ (ax _)⟩⟩
    · exact ⟨Nat.le_of_ble_eq_true rfl, .inl ⟨_, h2, aO.sep _⟩⟩
    · exact ⟨Nat.le_of_ble_eq_true rfl, .inl ⟨_, h3, aO.bz rfl g3 id⟩⟩
    · exact ⟨Nat.le_of_ble_eq_true rfl, .inl ⟨_, h4, aO.bz rfl g4 id⟩⟩
  · simp only [List.mem_cons, List.not_mem_nil, or_false] at hx hy
    rcases hx with rfl | rfl | rfl | rfl | rfl <;> rcases hy with rfl | rfl | rfl | rfl | rfl <;> simp at e ⊢
theorem Ki {o : Op} {σ : AE} {H : AH} {κ : AV → Prop} {v : AV} (hs : ∀ κ : AV → Prop, κ v → qP o σ H κ) (K : κ v) : qP o σ H κ := hs κ K
theorem rm {ops : Array Oper} {o : Oper} {b : DB} {cd : CP} {hist : List (AH × Nat)} {σ : AE} {H : AH} {n : Nat} {k : KP} {j t i : Nat} {w : Bool} {r : AH × Nat} {v : AV} (hg : o.guard = some (j, w)) (hgs : fK ops j = some t) (hq : ay (pa t) σ = .bool w) (hb : b.1 = some i) (hr : nth ((H, n) :: hist) i = some r) (hs : ∀ κ : AV → Prop, κ v → qP o.op (hZ σ b.2) r.1 κ) (K : k (b8 σ o.dst v) H n) : vC ops o b cd hist σ H n k := by
  unfold vC
  rw [hg]; dsimp only
  rw [hgs]; dsimp only
  rw [hq]; dsimp only
  have e : (w == w) = true := by cases w <;> rfl
  rw [e, hb]; dsimp only
  rw [hr]
  exact hs (fun v => k (b8 σ o.dst v) H n) K
theorem Kj {σ : AE} {H : AH} {κ : AV → Prop} {ty r : TypeId} {x y : Operand} {a b c d : Int} (hp : eo Try.prog ty = some [(0, 0), (0, 1)]) (hx : eev σ x = .agg [.int .i64 a, .int .i64 b]) (hy : eev σ y = .agg [.int .i64 c, .int .i64 d]) (K : κ (.bool (decide (a = c) && (decide (b = d) && true)))) : qP (.binOp .eql ty x y r) σ H κ := by
  show vz .eql ty (eev σ x) (eev σ y) H κ
  rw [hx, hy]
  show bU (oT Try.prog .eql ty (.agg [.int .i64 a, .int .i64 b]) (.agg [.int .i64 c, .int .i64 d]) H) κ
  exact ao (yF hp) K
theorem I8 : ib [(20, 2), (10, 3)] [(20, 2), (10, 3)] = true := by kernel_rfl
theorem GC : ib [(10, 3)] [(10, 3)] = true := by kernel_rfl
theorem ER : az Kf 6 12 [] .nil 0 (fun u _ _ => mkT u = AV.sb true) := by
  conv => whnf
  refine ⟨128, 10, 3, some s0, rfl, rfl, rfl, by decide, Kg, fun h5 => ?_⟩
  conv => whnf
  refine ⟨128, -1, 3, none, rfl, rfl, rfl, by decide, MV, ?_⟩
  conv => whnf
  refine ⟨0, 1, 2, s0, [], 5, 1, 0, [], s1, [(5, 1)], 0, rfl, ⟨_, _, rfl, rfl, rfl⟩, rfl, ⟨⟨by decide, by decide, by decide⟩, ⟨by decide, by decide, by decide⟩, rfl, rfl, rfl⟩, h5, ⟨by decide, by decide⟩, rfl, by decide, k_a, fun Ca ha fa => ?_⟩
  conv => whnf
  refine ⟨0, 3, 2, s1, Ca, 20, 2, 0, [(5, 1)], s2, [(20, 2)], 0, rfl, ⟨_, _, rfl, rfl, rfl⟩, rfl, ⟨⟨by decide, by decide, by decide⟩, ⟨by decide, by decide, by decide⟩, rfl, rfl, rfl⟩, ha, ⟨by decide, by decide⟩, fa, by decide, k_b, fun Cb hb fb => ?_⟩
  conv => whnf
  refine ⟨0, 4, 2, s2, Cb, 9, 3, 0, [(20, 2)], s2, [(20, 2)], 7, rfl, ⟨_, _, rfl, rfl, rfl⟩, rfl, ⟨⟨by decide, by decide, by decide⟩, ⟨by decide, by decide, by decide⟩, rfl, rfl, rfl⟩, hb, ⟨by decide, by decide⟩, fb, by decide, k_c, fun Cc hc fc => ?_⟩
  conv => whnf
  refine ⟨0, 5, 2, s2, Cc, 10, 3, 0, [(20, 2)], s2, [(10, 3), (20, 2)], 0, rfl, ⟨_, _, rfl, rfl, rfl⟩, rfl, ⟨⟨by decide, by decide, by decide⟩, ⟨by decide, by decide, by decide⟩, rfl, rfl, rfl⟩, hc, ⟨by decide, by decide⟩, fc, by decide, k_d, fun Cd hd fd => ?_⟩
  conv => whnf
  refine ⟨0, 6, 2, s2, Cd, 20, 7, 1, [(10, 3), (20, 2)], s2, [(10, 3), (20, 2)], 8, rfl, ⟨_, _, rfl, rfl, rfl⟩, rfl, ⟨⟨by decide, by decide, by decide⟩, ⟨by decide, by decide, by decide⟩, rfl, rfl, rfl⟩, hd, ⟨by decide, by decide⟩, fd, by decide, k_g, fun Cg hg fg => ?_⟩
  conv => whnf
  refine ⟨0, 7, 2, s2, Cg, .tup [.si .i64 2, .si .i64 0], rfl, ⟨⟨by decide, by decide, by decide⟩, ⟨by decide, by decide, by decide⟩, rfl, rfl, rfl⟩, ⟨_, 20, rfl, rfl, hg.gt, by rw [fg]; decide, by rw [fg]; kernel_rfl⟩, ?_⟩
  conv => whnf
  refine ⟨0, 7, 2, s2, Cg, .tup [.si .i64 0, .si .i64 5], rfl, ⟨⟨by decide, by decide, by decide⟩, ⟨by decide, by decide, by decide⟩, rfl, rfl, rfl⟩, ⟨_, 5, rfl, rfl, hg.gt, by rw [fg]; decide, by rw [fg]; kernel_rfl⟩, ?_⟩
  conv => whnf
  refine ⟨0, 7, 2, s2, Cg, .tup [.agg [.si .i64 20, .si .i64 2], .sb true], rfl, ⟨⟨by decide, by decide, by decide⟩, ⟨by decide, by decide, by decide⟩, rfl, rfl, rfl⟩, ⟨rfl, hg.gt, by rw [fg]; decide, by rw [fg]; kernel_rfl⟩, ?_⟩
  conv => whnf
  refine ⟨0, 7, 2, s2, Cg, [(20, 2), (10, 3)], rfl, ⟨⟨by decide, by decide, by decide⟩, ⟨by decide, by decide, by decide⟩, rfl, rfl, rfl⟩, ⟨by decide, rfl⟩, ⟨_, _, 0, 100, rfl, rfl, rfl, hg.okc, hg.gt.up, by rw [fg]; decide, by rw [fg]; kernel_rfl⟩, ?_⟩
  conv => whnf
  refine yV.mk { C : Ck5 // dZ s2 C ∧ ab C = [(10, 3)] } 5 (fun C => (mkE kE, kM C.val)) ?_ ?_
  focus
    conv => whnf
    refine ⟨0, 7, 2, s2, Cg, 20, 30, [(10, 3), (20, 2)], [(10, 3)], 1, rfl, rfl, rfl, ⟨⟨by decide, by decide, by decide⟩, ⟨by decide, by decide, by decide⟩, rfl, rfl, rfl⟩, hg, fg, by decide, k_n, rfl, fun Cn hn fn => ?_⟩
    conv => whnf
    exact ⟨⟨Cn, hn, fn⟩, Kh rfl rfl rfl rfl rfl rfl rfl rfl rfl rfl rfl rfl rfl rfl rfl rfl rfl rfl rfl rfl rfl rfl⟩
  intro ⟨C, hC, fC⟩
  have hU : ((dU C).length : Int) = 1 := by
    rw [gT]
    have h1 := hC.gt.few
    rw [fC] at h1
    have h2 : C ≠ [] := fun e => by rw [e] at fC; cases fC
    have h3 : C.length ≤ 1 := h1
    have h4 : 0 < C.length := List.length_pos_iff.2 h2
    omega
  conv => whnf
  iterate 8
    refine ag.dec (fun _ => ?_) (fun z => absurd (by decide) z)
    conv => whnf
  refine ag.dec (fun _ => ?_) (fun z => absurd (by decide) z)
  refine ao (a := (kM C, 5)) rfl ?_
  refine Ki (v := .agg [.int .i64 20, .int .i64 2]) (fun κ h => h) ?_
  refine rm (v := .agg [.int .i64 20, .int .i64 2]) rfl rfl rfl rfl rfl (fun κ h => h) ?_
  refine rm (v := .bool true) rfl rfl rfl rfl rfl (fun κ h => Kj uC rfl rfl h) ?_
  conv => whnf
  refine ag.sb (fun _ => ?_) (fun z => absurd z (by decide))
  conv => whnf
  refine ⟨[(20, 2), (10, 3)], [(20, 2), (10, 3)], (.inr (.inl (.inl ⟨4, 0, 0, smp [(20, 2), (10, 3)], smp [(20, 2), (10, 3)], ⟨rfl, by decide⟩, .inr ⟨true, rfl⟩, rfl, rfl⟩))), (.inr (.inr ⟨_, _, _, _, _, _, rfl, .inr ⟨_, rfl⟩, rfl, rfl, by decide⟩)), by decide, by decide, ?_⟩
  conv => whnf
  refine ag.sb (fun _ => ?_) (fun z => absurd (I8.symm.trans z) (by decide))
  conv => whnf
  refine ag.dec (fun _ => ?_) (fun z => absurd (by decide) z)
  conv => whnf
  refine ⟨0, 1, 2, s2, C, .si .i64 20, rfl, ⟨⟨by decide, by decide, by decide⟩, ⟨by decide, by decide, by decide⟩, rfl, rfl, rfl⟩, ⟨rfl, by decide, rfl⟩, ?_⟩
  conv => whnf
  refine ag.dec (fun _ => ?_) (fun z => absurd (by decide) z)
  conv => whnf
  refine ⟨0, 1, 2, s2, C, .si .i64 10, rfl, ⟨⟨by decide, by decide, by decide⟩, ⟨by decide, by decide, by decide⟩, rfl, rfl, rfl⟩, ⟨rfl, by decide, by decide, by decide, rfl⟩, ?_⟩
  conv => whnf
  refine ag.dec (fun _ => ?_) (fun z => absurd (by decide) z)
  conv => whnf
  refine ⟨0, 1, 2, s2, C, .si .i64 1, rfl, ⟨⟨by decide, by decide, by decide⟩, ⟨by decide, by decide, by decide⟩, rfl, rfl, rfl⟩, ⟨rfl, hC.okc, by rw [fC]; decide, by rw [fC]; rfl⟩, ?_⟩
  conv => whnf
  refine ag.dec (fun _ => ?_) (fun z => absurd (by decide) z)
  conv => whnf
  refine ⟨0, 1, 2, s2, C, dU C, rfl, ⟨⟨by decide, by decide, by decide⟩, ⟨by decide, by decide, by decide⟩, rfl, rfl, rfl⟩, ⟨by decide, rfl⟩, ⟨hC.okc, rfl⟩, ?_⟩
  conv => whnf
  refine ag.dec (fun _ => ?_) (fun z => absurd hU z)
  conv => whnf
  refine ⟨0, 1, 2, s2, C, .si .i64 10, rfl, ⟨⟨by decide, by decide, by decide⟩, ⟨by decide, by decide, by decide⟩, rfl, rfl, rfl⟩, ⟨rfl, by decide, rfl⟩, ?_⟩
  conv => whnf
  refine ag.dec (fun _ => ?_) (fun z => absurd (by decide) z)
  conv => whnf
  refine ⟨0, 1, 2, s2, C, .si .i64 3, rfl, ⟨⟨by decide, by decide, by decide⟩, ⟨by decide, by decide, by decide⟩, rfl, rfl, rfl⟩, ⟨rfl, by decide, rfl⟩, ?_⟩
  conv => whnf
  refine ag.dec (fun _ => ?_) (fun z => absurd (by decide) z)
  conv => whnf
  refine ⟨0, 1, 2, s2, C, [(10, 3)], rfl, ⟨⟨by decide, by decide, by decide⟩, ⟨by decide, by decide, by decide⟩, rfl, rfl, rfl⟩, ⟨by decide, rfl⟩, ⟨_, _, 0, 50, rfl, rfl, rfl, hC.okc, hC.gt.up, by rw [fC]; decide, by rw [fC]; kernel_rfl⟩, ?_⟩
  conv => whnf
  refine RSl.mk 1 2 rfl rfl (.inl rfl) (by decide) (by decide) ?_
  conv => whnf
  refine ⟨[(10, 3)], [(10, 3)], (.inr (.inl (.inl ⟨_, _, _, smp [(10, 3)], smp [(10, 3)], ⟨rfl, by decide⟩, .inr ⟨true, rfl⟩, rfl, rfl⟩))), (.inr (.inl (.inl ⟨4, 2, 0, smp [(20, 2), (10, 3)], smp [(10, 3)], ⟨rfl, by decide⟩, .inr ⟨true, rfl⟩, rfl, rfl⟩))), by decide, by decide, ?_⟩
  conv => whnf
  exact Eq.trans (b := AV.sb (ib [(10, 3)] [(10, 3)])) rfl (congrArg AV.sb GC)
end Go.Proofs.Ythjggjhebbdkdaa
namespace Go.Proofs.Ythjggjhebbdkdaa
open Go Go.RowKit
def ff (B : Sr → Smp → List AV → AV → Prop) (args : List AV) (H : AH) (n : Nat) (κ : PK) : Prop := match args with
  | x :: ar => ∃ (b : Nat) (p : Nat × Nat) (S : Sr) (L : Smp) (v : AV), x = bW p ∧ b < n ∧ PM.get H b = some (.sep (dy p S L)) ∧ fH H n ∧ B S L ar v ∧ κ v H (n + 3)
  | _ => False
theorem mO (B : Sr → Smp → List AV → AV → Prop) : iW (ff B) := fun args H n κ hs => by
  unfold ff at *
  split at hs
  · obtain ⟨b, p, S, L, v, h1, h2, h3, h4, h5, h6⟩ := hs
    exact ⟨_, _, _, h6, fun _ _ h => h, Nat.le_add_right _ _, fun κ' h => ⟨b, p, S, L, v, h1, h2, h3, h4, h5, h⟩⟩
  · exact hs.elim
theorem gU {f : FuncId} {A : Sr → Ck5 → List AV → AV → Prop} {B : Sr → Smp → List AV → AV → Prop} (hA : aF f (dC A)) (h : ∀ S C L ar v, dZ S C → ab C = L → B S L ar v → A S C ar v) : aF f (ff B) := fun args H n κ hs φ h0' hp vs K hr hargs hk => by
  unfold ff at hs
  split at hs
  · obtain ⟨b, p, S, L, v, rfl, h2, h3, h4, h5, h6⟩ := hs
    exact BI hA hr h2 h3 h4 hargs hk fun C h7 h8 => ⟨v, ⟨n, n + 1, n + 2, S, C, v, rfl, mN h4.1, h S C L _ v h7 h8 h5, rfl, rfl, rfl⟩, h6⟩
  · exact hs.elim
def Kk (S : Sr) (_ : Smp) (ar : List AV) (v : AV) : Prop := ar = [] ∧ v = .si .i64 S.mx
def Kl (S : Sr) (_ : Smp) (ar : List AV) (v : AV) : Prop := ar = [] ∧ v = .si .i64 S.ret
def Km (S : Sr) (_ : Smp) (ar : List AV) (v : AV) : Prop := ar = [] ∧ v = .si .i64 S.pol
def Kn (S : Sr) (_ : Smp) (ar : List AV) (v : AV) : Prop := ar = [] ∧ v = .si .i64 (aR S)
def Ko (_ : Sr) (L : Smp) (ar : List AV) (v : AV) : Prop := ∃ y t, ar = [y] ∧ mk y = .si .i64 t ∧ v = .tup [.si .i64 (ij L t).1, .si .i64 (ij L t).2]
def Kp (_ : Sr) (L : Smp) (ar : List AV) (v : AV) : Prop := ar = [] ∧ v = lZ L
def HJ (_ : Sr) (L : Smp) (ar : List AV) (v : AV) : Prop := ar = [] ∧ v = .si .i64 (L.length : Int)
theorem Kq : aF 24 (ff Kk) := gU Hq fun S C L ar v h5 _ ⟨h1, h2⟩ => ⟨h1, h5.gt.lo, h2⟩
theorem Kr : aF 27 (ff Kl) := gU Ht fun S C L ar v h5 _ ⟨h1, h2⟩ => ⟨h1, h5.gt.lo, h2⟩
theorem Ks : aF 26 (ff Km) := gU Hv fun S C L ar v h5 _ ⟨h1, h2⟩ => ⟨h1, h5.gt.lo, h2⟩
theorem Kt : aF 25 (ff Kn) := gU zT fun S C L ar v h5 _ ⟨h1, h2⟩ => ⟨h1, h5.gt.lo, h5.num.ret, h5.num.mx, h2⟩
theorem Ku : aF 14 (ff Ko) := gU Ek fun S C L ar v h5 hf ⟨y, t, h1, h2, h3⟩ => by
  subst hf
  exact ⟨y, t, h1, h2, h5.gt, by have := h5.few; omega, h3⟩
theorem Kv : aF 52 (ff Kp) := gU zU fun S C L ar v h5 hf ⟨h1, h2⟩ => by
  subst hf
  exact ⟨h1, h5.gt, by have := h5.few; omega, h2⟩
theorem I9 : aF 53 (ff HJ) := gU yB fun S C L ar v h5 hf ⟨h1, h2⟩ => by
  subst hf
  exact ⟨h1, h5.okc, by have := h5.few; omega, h2⟩
def oP (B : Smp → List AV → Smp → Prop) (args : List AV) (H : AH) (n : Nat) (κ : PK) : Prop := match args with
  | x :: ar => ∃ (b : Nat) (p : Nat × Nat) (S : Sr) (L O : Smp), x = bW p ∧ b < n ∧ PM.get H b = some (.sep (dy p S L)) ∧ fH H n ∧ B L ar O ∧ κ (.rw (n + 3) 0 O.length 2 0) (PM.set (some (.cells (smp O) true)) aa H (n + 3)) (n + 4)
  | _ => False
theorem ES (B : Smp → List AV → Smp → Prop) : iW (oP B) := fun args H n κ hs => by
  unfold oP at *
  split at hs
  · obtain ⟨b, p, S, L, O, h1, h2, h3, h4, h5, h6⟩ := hs
    exact ⟨_, _, _, h6, fun x o hb => PM.gne (by have := h4.1; omega) (h4.ne hb).2.2.2 hb, Nat.le_add_right _ _, fun κ' h => ⟨b, p, S, L, O, h1, h2, h3, h4, h5, h⟩⟩
  · exact hs.elim
theorem xh {f : FuncId} {A : Sr → Ck5 → List AV → Smp → Prop} {B : Smp → List AV → Smp → Prop} (hA : aF f (l5 A)) (h : ∀ S C L ar O, dZ S C → ab C = L → B L ar O → A S C ar O) : aF f (oP B) := fun args H n κ hs φ h0' hp vs K hr hargs hk => by
  unfold oP at hs
  split at hs
  · obtain ⟨b, p, S, L, O, rfl, h2, h3, h4, h5, h6⟩ := hs
    refine BJ hA hr h2 h3 h4 hargs hk fun C h7 h8 => ⟨_, _, ⟨n, n + 1, n + 2, S, C, O, rfl, mN h4.1, ⟨by have := h4.1; omega, ?_⟩, h S C L _ O h7 h8 h5, rfl, rfl, rfl⟩, h6⟩
    cases e : PM.get (opS H n b S C) (n + 3) with
    | none => rfl
    | some o =>
      have hn := h4.1
      rcases PM.ak aa _ _ _ _ e with ⟨q, _⟩ | ⟨_, e⟩
      · omega
      rcases PM.ak aa _ _ _ _ e with ⟨q, _⟩ | ⟨_, e⟩
      · omega
      rcases PM.ak aa _ _ _ _ e with ⟨q, _⟩ | ⟨_, e⟩
      · omega
      rcases PM.ak aa _ _ _ _ e with ⟨q, _⟩ | ⟨_, e⟩
      · omega
      rw [h4.2.2.2.2] at e; cases e
  · exact hs.elim
def Kw (L : Smp) (ar : List AV) (O : Smp) : Prop := ∃ y z a b, ar = [y, z] ∧ mk y = .si .i64 a ∧ mk z = .si .i64 b ∧ O = aH a b L
def Kx (L : Smp) (ar : List AV) (O : Smp) : Prop := ∃ y z a b, ar = [y, z] ∧ mk y = .si .i64 a ∧ mk z = .si .i64 b ∧ O = (aH a b L).reverse
theorem Ky : aF 13 (oP Kw) := xh Ev fun S C L ar O h5 hf ⟨y, z, a, b, h1, h2, h3, h4⟩ => by
  subst hf
  exact ⟨y, z, a, b, h1, h2, h3, h5.okc, h5.gt.up, by have := h5.few; omega, h4⟩
theorem Kz : aF 16 (oP Kx) := xh HH fun S C L ar O h5 hf ⟨y, z, a, b, h1, h2, h3, h4⟩ => by
  subst hf
  exact ⟨y, z, a, b, h1, h2, h3, h5.okc, h5.gt.up, by have := h5.few; omega, h4⟩
def uH (args : List AV) (H : AH) (n : Nat) (κ : PK) : Prop := match args with
  | [x, y, z] => ∃ (b : Nat) (p : Nat × Nat) (S : Sr) (L : Smp) (t v q : Int) (S' : Sr) (L' : Smp) (e : Int), x = bW p ∧ b < n ∧ PM.get H b = some (.sep (dy p S L)) ∧ fH H n ∧ la y t v ∧ mk z = .si .i64 q ∧ aM v ∧ L.length ≤ 40000 ∧ gS S L t v q = ((S', L'), e) ∧ (dD S' L' → κ (.si .i64 e) (PM.set (some (.sep (dy p S' L'))) aa H b) (n + 4))
  | _ => False
theorem Ja : aF 11 uH := fun args H n κ hs φ h0' hp vs K hr hargs hk => by
  unfold uH at hs
  split at hs
  · obtain ⟨b, p, S, L, t, v, q, S', L', e, rfl, h2, h3, h4, h5, h6, h7, h8, h9, h10⟩ := hs
    exact rl EG hr h2 h3 h4 hargs hk (fun C g5 gf => ⟨n, n + 1, n + 2, S, C, t, v, q, L, S', L', e, rfl, h5, h6, mN h4.1, g5, h7, gf, h8, h9, fun C' f1 f2 => ⟨rfl, C', f1, f2, rfl, rfl⟩⟩) h10
  · exact hs.elim
def uI (args : List AV) (H : AH) (n : Nat) (κ : PK) : Prop := match args with
  | [x, y, z] => ∃ (b : Nat) (p : Nat × Nat) (S : Sr) (L : Smp) (a c : Int) (L' : Smp) (m : Nat), x = bW p ∧ b < n ∧ PM.get H b = some (.sep (dy p S L)) ∧ fH H n ∧ mk y = .si .i64 a ∧ mk z = .si .i64 c ∧ L.length ≤ 40000 ∧ aS L a c = L' ∧ L.length - L'.length = m ∧ (dD S L' → κ (.si .i64 (m : Int)) (PM.set (some (.sep (dy p S L'))) aa H b) (n + 4))
  | _ => False
theorem Jb : aF 10 uI := fun args H n κ hs φ h0' hp vs K hr hargs hk => by
  unfold uI at hs
  split at hs
  · obtain ⟨b, p, S, L, a, c, L', m, rfl, h2, h3, h4, h5, h6, h8, h9, h11, h10⟩ := hs
    exact rl EI hr h2 h3 h4 hargs hk (fun C g5 gf => ⟨n, n + 1, n + 2, S, C, a, c, L, L', m, rfl, h5, h6, mN h4.1, g5, gf, h8, h9, h11, fun C' f1 f2 => ⟨rfl, C', f1, f2, rfl, rfl⟩⟩) h10
  · exact hs.elim
def uJ (args : List AV) (H : AH) (n : Nat) (κ : PK) : Prop := match args with
  | [x, y, z] => ∃ (b : Nat) (p : Nat × Nat) (S : Sr) (L : Smp) (r q : Int) (S' : Sr) (L' : Smp) (e : Int), x = bW p ∧ b < n ∧ PM.get H b = some (.sep (dy p S L)) ∧ fH H n ∧ mk y = .si .i64 r ∧ mk z = .si .i64 q ∧ L.length ≤ 40000 ∧ kl S L r q = ((S', L'), e) ∧ (dD S' L' → κ (.si .i64 e) (PM.set (some (.sep (dy p S' L'))) aa H b) (n + 4))
  | _ => False
theorem Jc : aF 60 uJ := fun args H n κ hs φ h0' hp vs K hr hargs hk => by
  unfold uJ at hs
  split at hs
  · obtain ⟨b, p, S, L, r, q, S', L', e, rfl, h2, h3, h4, h5, h6, h8, h9, h10⟩ := hs
    exact rl EJ hr h2 h3 h4 hargs hk (fun C g5 gf => ⟨n, n + 1, n + 2, S, C, r, q, L, S', L', e, rfl, h5, h6, mN h4.1, g5, gf, h8, h9, fun C' f1 f2 => ⟨rfl, C', f1, f2, rfl, rfl⟩⟩) h10
  · exact hs.elim
theorem BK {H : AH} {n : Nat} {S : Sr} (hn : n < 900000) : cZ (ra H n S) (n + 3) n (n + 1) (n + 2) S (pts []) [] :=
  ⟨⟨by omega, by omega, by omega⟩, ⟨by omega, by omega, by omega⟩, PM.gne (by omega) (by omega) (PM.gne (by omega) (by omega) (PM.geq (by omega))), PM.gne (by omega) (by omega) (PM.geq (by omega)), PM.geq (by omega)⟩
theorem xi {H : AH} {n x : Nat} {S : Sr} {o : AO} (hn : n < 900000) (hx : x ≠ n ∧ x ≠ n + 1 ∧ x ≠ n + 2) (h : PM.get H x = some o) : PM.get (ra H n S) x = some o :=
  PM.gne (by omega) hx.2.2 (PM.gne (by omega) hx.2.1 (PM.gne (by omega) hx.1 h))
def uK (args : List AV) (H : AH) (n : Nat) (κ : PK) : Prop := match args with
  | [x, y, z] => ∃ (sz ret q : Int) (r : Option Sr), mk x = .si .i64 sz ∧ mk y = .si .i64 ret ∧ mk z = .si .i64 q ∧ fH H n ∧ mL sz ret q = r ∧ match r with
    | none => κ (.tup [.nil, .int .i64 1]) H (n + 1)
    | some S => ∀ p, dD S [] → κ (.tup [bW p, .int .i64 0]) (PM.set (some (.sep (dy p S []))) aa H n) (n + 4)
  | _ => False
theorem Jd : aF 9 uK := fun args H n κ hs φ h0' hp vs K hr hargs hk => by
  unfold uK at hs
  split at hs
  · obtain ⟨sz, ret, q, r, h1, h2, h3, h4, h5, h6⟩ := hs
    have h9 := h4.1
    refine EL.Kc hr hargs hk ?_
    refine ⟨sz, ret, q, r, h1, h2, h3, by omega, h5, ?_⟩
    cases r with
    | none =>
      refine .inr ⟨H, fun x o hx => PM.gne (by omega) (h4.ne hx).1 hx, h6⟩
    | some S =>
      intro h5'
      refine .inl ⟨[n + 1, n + 2, n + 3], eG S (pts []) [], fun p => dy p S [], fun p => PM.set (some (.sep (dy p S []))) aa H n, fun p => .tup [bW p, .int .i64 0], n + 1, _, (BK (by omega)).xf, xi (by omega) (by omega) (PM.geq (by omega)), by simp, rfl, rfl, rfl, fun p z X h hh => ⟨[], ⟨h5', rfl⟩, hh⟩, fun p x o hx => ?_, fun p φ T u hφ hu => ?_, fun p => h6 p ⟨[], h5', rfl⟩⟩
      · rcases PM.ak aa H n x o hx with ⟨rfl, e⟩ | ⟨e1, e2⟩
        · injection e with e; exact .inl ⟨rfl, e.symm⟩
        · have := h4.ne e2
          exact .inr ⟨e1, by simp; omega, xi (by omega) (by omega) (PM.gne (by omega) e1 e2)⟩
      · obtain ⟨cs, rfl, hc⟩ := hu.dt
        obtain ⟨w, us, q1, e1, r1⟩ := hc.cons_inv
        obtain ⟨pl, e2, e3⟩ := e1.ct
        rw [hφ] at e2; injection e2 with e2; subst e2
        exact .tup (by rw [q1]; exact .cons (by subst e3; exact rfl) r1)
  · exact hs.elim
noncomputable def KSq : FuncId → EP := a9 9 uK (a9 60 uJ (a9 11 uH (a9 10 uI (cq 14 (ff Ko) (cq 52 (ff Kp) (cq 16 (oP Kx) (cq 15 (rj 1000000 ib) (cq 24 (ff Kk) (cq 25 (ff Kn) (cq 53 (ff HJ) (cq 27 (ff Kl) (cq 26 (ff Km) (cq 13 (oP Kw) evP)))))))))))))
theorem yG : bG KSq := aw (aw (aw (aw (aY (aY (aY (aY (aY (aY (aY (aY (aY (aY bd Ky (ES _)) Ks (mO _)) Kr (mO _)) I9 (mO _)) Kt (mO _)) Kq (mO _)) Ae ED) Kz (ES _)) Kv (mO _)) Ku (mO _)) Jb) Ja) Jc) Jd
def yH (args : List AV) (H : AH) (n : Nat) (κ : PK) : Prop := match args with
  | [] => κ (.sb true) H n
  | _ => False
theorem ET : aF 12 yH := fun args H n κ hs φ h0' hp vs K hr hargs hk => by
  unfold yH at hs
  split at hs
  · exact iI (v := .bool true) GB rfl ER hs hr hk (by kernel_rfl) HR.ro0 (by rw [hargs.aW]; exact .nil)
  · exact hs.elim
end Go.Proofs.Ythjggjhebbdkdaa
namespace Go.Proofs.Ythjggjhebbdkdaa
open Go Go.RowKit Go.ChangeShapes Go.WideShapes
section
variable {H : Type} {enc : TypeId × Value → H} {P : Program} {W : World} {held : Bool}
def oQ : List Value → Op4
  | [a, b, c, d] => (intOf a, intOf b, intOf c, intOf d)
  | _ => (0, 0, 0, 0)
theorem xj {Tr : TypeId → Value → Prop} : ∀ {rows : List (List Value)}, (∀ r ∈ rows, gN Tr [.int .i64, .int .i64, .int .i64, .int .i64] r) → DQ (rows.map oQ) ∧ ∀ φ : Ph, VRs φ (jq (rows.map oQ)) rows.flatten
  | [], _ => ⟨(fun o h => by cases h), fun φ => .nil⟩
  | r :: rows, h => by
    obtain ⟨g1, g2⟩ := h r List.mem_cons_self
    obtain ⟨k1, k2⟩ := xj (rows := rows) fun x hx => h x (List.mem_cons_of_mem _ hx)
    match r, g1, g2 with
    | [v, w, x, y], _, g2 =>
      obtain ⟨a, rfl, ha⟩ := g2 0 _ v rfl rfl
      obtain ⟨b, rfl, hb⟩ := g2 1 _ w rfl rfl
      obtain ⟨c, rfl, hc⟩ := g2 2 _ x rfl rfl
      obtain ⟨d, rfl, hd⟩ := g2 3 _ y rfl rfl
      refine ⟨fun o ho => ?_, fun φ => .cons (.si _ _) (.cons (.si _ _) (.cons (.si _ _) (.cons (.si _ _) (k2 φ))))⟩
      rcases List.mem_cons.1 ho with rfl | ho
      · exact ⟨.of ha, .of hb, .of hc, .of hd⟩
      · exact k1 o ho
theorem GD {t e : TypeId} {d : Nat} {v : Value} {D : DataW H} {ps : List MemPlace} (ht : P.underlying t = some (.slice e)) (hk : vR P d e = some [.int .i64, .int .i64, .int .i64, .int .i64]) (hc2 : P.cellsOf e = 4) (hcell : v.cells.toList = [v]) (hd : DataW.Trod enc P W 0 (fun _ => true) held t v D ps) :
    ∃ (S : List Op4) (z : Fz → Prop), DQ S ∧ jm W z ∧ (∀ χ : Ph, (∀ q, z q → χ.z q) → VR χ (.fr S.length 4 (jq S)) v) ∧ (S = [] ∨ ∃ E F, D = .slice ((List.range S.length).map F) E) ∧ S.length ≤ maxLen := by
  obtain ⟨fuel, hf⟩ := hd
  rw [hcell] at hf
  obtain ⟨rows, h1, h2, h3, h4⟩ := qu ht hk rfl hc2 (by decide) hf
  obtain ⟨g2, g3⟩ := xj fun r hr => (h1 r hr).1
  rcases h4 with ⟨rfl, a, C, rfl, hC⟩ | ⟨b, off, cap, cc, u, fz, rfl, hcap, hb, hsz, hcell⟩
  · exact ⟨[], fun _ => False, (fun x h => by cases h), .none, fun χ _ => .fre hC, .inl rfl, Nat.zero_le _⟩
  · have hst : (jq (rows.map oQ)).all rI = true := by
      rw [List.all_eq_true]
      intro y hy
      have := List.all_eq_true.1 (Bn (rows.map oQ)) y hy
      cases y <;> first | rfl | cases this
    obtain ⟨k1, k2⟩ := zd (m := rows.length) (k := 4) (L := jq (rows.map oQ)) (z := fun q => q = ⟨b, off, jq (rows.map oQ)⟩) hb hcap (by rw [oM, List.length_map]) hsz hst rfl (g3 _) hcell
    exact ⟨rows.map oQ, fun q => q = ⟨b, off, jq (rows.map oQ)⟩, g2, fun q hq => by subst hq; exact k1, fun χ hχ => by rw [List.length_map]; exact k2 χ hχ, by rw [List.length_map]; exact h2.imp (fun q => by rw [q]; rfl) id, by rw [List.length_map]; exact h3⟩
theorem EU {t e : TypeId} {d : Nat} {v : Value} {D : DataW H} {ps : List MemPlace} (ht : P.underlying t = some (.slice e)) (hk : vR P d e = some [.int .i64, .int .i64]) (hc2 : P.cellsOf e = 2) (hcell : v.cells.toList = [v]) (hd : DataW.Trod enc P W 0 (fun _ => true) held t v D ps) :
    ∃ (L : Smp) (z : Fz → Prop), (∀ x ∈ L, aM x.1 ∧ aM x.2) ∧ jm W z ∧ (∀ χ : Ph, (∀ q, z q → χ.z q) → VR χ (.fr L.length 2 (smp L)) v) ∧ (L = [] ∨ ∃ E F, D = .slice ((List.range L.length).map F) E) ∧ L.length ≤ maxLen := by
  obtain ⟨fuel, hf⟩ := hd
  rw [hcell] at hf
  exact x9 ht hk hc2 hf
end
end Go.Proofs.Ythjggjhebbdkdaa
namespace Go.Proofs.Ythjggjhebbdkdaa
open Go Go.RowKit
theorem ae.bW {H : AH} {m : Nat} {r : Nat → Nat} {a : AV} {p : Nat × Nat} (e : a = Go.Proofs.Ythjggjhebbdkdaa.bW p) : ae H m r a (Go.Proofs.Ythjggjhebbdkdaa.bW p) := by
  subst e
  exact fun φ ψ v _ _ h => h
theorem cF.jG {H : AH} {a : AV} {O : Smp} {b : Nat} (ha : a = .rw b 0 O.length 2 0) (hb : PM.get H b = some (.cells (smp O) true)) : cF H a O := .inr (.inl (.inl ⟨b, 0, 0, smp O, smp O, ⟨ha, by decide⟩, .inr ⟨true, hb⟩, dd O, aV O⟩))
theorem fh (L : Smp) : ib L L = true := by unfold ib; exact decide_eq_true rfl
def look (L : Smp) (t : Int) : Option Int := if has L t then some (vAt L (plc L t)) else none
theorem Up.uniq {L : Smp} (h : Up L) {t a b : Int} (ha : (t, a) ∈ L) (hb : (t, b) ∈ L) : a = b := by
  induction L with
  | nil => cases ha
  | cons x L ih =>
    obtain ⟨h1, h2⟩ := List.pairwise_cons.1 h
    rcases List.mem_cons.1 ha with ha | ha <;> rcases List.mem_cons.1 hb with hb | hb
    · rw [← ha] at hb; injection hb with _ hb; exact hb.symm
    · have := h1 _ hb; rw [← ha] at this; exact absurd this (Int.lt_irrefl _)
    · have := h1 _ ha; rw [← hb] at this; exact absurd this (Int.lt_irrefl _)
    · exact ih h2 ha hb
theorem gV {L : Smp} (h : Up L) {t v : Int} : look L t = some v ↔ (t, v) ∈ L := by
  unfold look
  constructor
  · intro e
    split at e
    · rename_i q; injection e with e; rw [← e]; exact tN q
    · cases e
  · intro hm
    have hh := (Fx h t).2 ⟨_, hm, rfl⟩
    rw [if_pos hh, h.uniq (tN hh) hm]
theorem sS {L : Smp} (h : Up L) {t : Int} : look L t = none ↔ ∀ v, (t, v) ∉ L := by
  constructor
  · intro e v hm; rw [(gV h).2 hm] at e; cases e
  · intro hn
    cases e : look L t with
    | none => rfl
    | some v => exact absurd ((gV h).1 e) (hn v)
theorem look_eq {L M : Smp} (h : Up L) (k : Up M) {t s : Int} (e : ∀ v, (t, v) ∈ L ↔ (s, v) ∈ M) : look L t = look M s := by
  cases e1 : look L t with
  | none =>
    exact ((sS k).2 fun v hv => (sS h).1 e1 v ((e v).2 hv)).symm
  | some v => exact ((gV k).2 ((e v).1 ((gV h).1 e1))).symm
def MW (p : Int) : Option Int → Int → Option Int
  | none, v => some v
  | some o, v => if (a8 p o v).2 ≠ 0 then some o else some (a8 p o v).1
theorem BL {L : Smp} (hu : Up L) (t v p s : Int) : look (cO L t v p).1 s = if s = t then MW p (look L t) v else look L s := by
  have hu2 := pv hu t v p
  unfold cO at hu2 ⊢
  by_cases h : has L t = true
  · have hl : look L t = some (vAt L (plc L t)) := by unfold look; rw [if_pos h]
    rw [if_pos h] at hu2 ⊢
    rw [hl]
    show _ = if s = t then (if (a8 p (vAt L (plc L t)) v).2 ≠ 0 then _ else _) else _
    by_cases q : (a8 p (vAt L (plc L t)) v).2 ≠ 0
    · rw [if_pos q, if_pos q]
      split
      · rename_i e; subst e; exact hl
      · rfl
    · rw [if_neg q] at hu2 ⊢
      rw [if_neg q]
      split
      · rename_i e; subst e
        exact (gV hu2).2 ((nr hu h).2 (.inl rfl))
      · rename_i e
        refine look_eq hu2 hu fun w => ?_
        show (s, w) ∈ iJ L t _ ↔ _
        rw [nr hu h]
        exact ⟨fun q => q.elim (fun q => absurd (congrArg Prod.fst q) e) fun q => q.1, fun q => .inr ⟨q, e⟩⟩
  · have hl : look L t = none := by unfold look; rw [if_neg h]
    rw [if_neg h] at hu2 ⊢
    rw [hl]
    show _ = if s = t then some v else _
    split
    · rename_i e; subst e
      exact (gV hu2).2 (lj.2 (.inl rfl))
    · rename_i e
      refine look_eq hu2 hu fun w => ?_
      show (s, w) ∈ gx L t v ↔ _
      rw [lj]
      exact ⟨fun q => q.elim (fun q => absurd (congrArg Prod.fst q) e) fun q => q, fun q => .inr q⟩
theorem lL {L : Smp} {a b : Int} {x : Int × Int} : x ∈ aS L a b ↔ x ∈ L ∧ (x.1 < a ∨ b < x.1) := by unfold aS; rw [List.mem_filter]; simp
theorem gC {L : Smp} {a b : Int} (h : ∀ x ∈ L, a ≤ x.1 ∧ x.1 ≤ b) : aH a b L = L := by
  unfold aH
  exact List.filter_eq_self.2 fun x hx => by have := h x hx; simpa using this
theorem dD.up {S : Sr} {L : Smp} (h : dD S L) : Up L := by obtain ⟨C, h1, rfl⟩ := h; exact h1.gt.up
theorem dD.bS {S : Sr} {L : Smp} (h : dD S L) : ∀ x ∈ L, (0 ≤ x.1 ∧ x.1 < 1099511627776) ∧ aM x.2 := by
  obtain ⟨C, h1, rfl⟩ := h
  intro x hx
  obtain ⟨l, hl, hx⟩ := List.mem_flatten.1 hx
  obtain ⟨c, hc, rfl⟩ := List.mem_map.1 hl
  exact (h1.gt.bS c hc).2.1 x hx
theorem dD.num {S : Sr} {L : Smp} (h : dD S L) : gQ S := by obtain ⟨C, h1, rfl⟩ := h; exact h1.num
end Go.Proofs.Ythjggjhebbdkdaa
namespace Go.Proofs.Ythjggjhebbdkdaa
open Go Go.RowKit
theorem EV {L : Smp} {t v p : Int} (hL : ∀ x ∈ L, 0 ≤ x.1 ∧ x.1 < 1099511627776) (ht : 0 ≤ t ∧ t < 1099511627776) : ∀ x ∈ (cO L t v p).1, 0 ≤ x.1 ∧ x.1 < 1099511627776 := fun x hx => by
  unfold cO at hx
  split at hx
  · split at hx
    · exact hL x hx
    · have : x = (t, _) ∨ x ∈ L := List.mem_or_eq_of_mem_set hx |>.symm
      rcases this with rfl | hx
      · exact ht
      · exact hL x hx
  · rcases lj.1 hx with rfl | hx
    · exact ht
    · exact hL x hx
noncomputable def KOr : FuncId → EP := a9 12 yH KSq
theorem Je : bG KOr := aw yG ET
end Go.Proofs.Ythjggjhebbdkdaa
namespace Go.Proofs.Ythjggjhebbdkdaa
open Go Go.RowKit
section
variable {φ : Ph} {H : AH} {n : Nat} {h0 h : Hp}
theorem HR.KA (hr : HR φ H n h0 h) {p : Pl} {l : List AV} (hro : jx h p l) {ob : Obj} (hob : h0.f p.B = some ob) : ∃ ψ, PLe φ ψ ∧ ψ n = some p ∧ HR ψ (H.set (some (.ro l)) aa n) (n + 1) h0 h := by
  have hn0 : φ n = none := by
    cases e : φ n with
    | none => rfl
    | some q => exact absurd (hr.dom n q e).1 (Nat.lt_irrefl _)
  let ψ : Ph := ⟨fun x => if x = n then some p else φ x, φ.z, φ.y, φ.s⟩
  have ψn : ψ n = some p := if_pos rfl
  have ψo : ∀ x, x ≠ n → ψ x = φ x := fun x hx => if_neg hx
  have hle : PLe φ ψ := ⟨fun x q e => by rw [ψo x (fun q => by subst q; rw [hn0] at e; cases e)]; exact e, fun _ h => h, fun _ h => h⟩
  have cs : ∀ x o, (H.set (some (.ro l)) aa n).get x = some o → (x = n ∧ o = .ro l) ∨ (x ≠ n ∧ H.get x = some o) := fun x o hx => by
    rcases PM.ak aa H n x o hx with ⟨h1, h2⟩ | h2
    · injection h2 with h2; exact .inl ⟨h1, h2.symm⟩
    · exact .inr h2
  have old : ∀ x o q, (H.set (some (.ro l)) aa n).get x = some o → o.own = true → ψ x = some q → H.get x = some o ∧ φ x = some q := fun x o q hx ho hq => by
    rcases cs x o hx with ⟨_, rfl⟩ | ⟨h1, h2⟩
    · cases ho
    · rw [ψo x h1] at hq; exact ⟨h2, hq⟩
  refine ⟨ψ, hle, ψn, ⟨fun x q e => ?_, fun x o e => ?_, fun x y o o' q q' hx hy ho ho' hq hq' e => ?_, hr.base, hr.size, fun q hq => ⟨⟨FzR.mono (φ := φ) (ψ := ψ) hle.z (hr.frz q hq).1.1, (hr.frz q hq).1.2⟩, fun x o px hx ho hpx => ?_⟩, fun x Q hx => ?_⟩⟩
  · by_cases hxn : x = n
    · subst hxn; rw [ψn] at e; injection e with e; subst e
      exact ⟨Nat.lt_succ_self _, (hr.base _ _ hob).1⟩
    · rw [ψo x hxn] at e
      have := hr.dom x q e
      exact ⟨by omega, this.2⟩
  · rcases cs x o e with ⟨rfl, rfl⟩ | ⟨h1, h2⟩
    · obtain ⟨c, t, fz, g1, g2, g3, g4⟩ := hro
      have hob2 := (hr.base _ _ hob).2
      rw [g1] at hob2; injection hob2 with hob2; subst hob2
      exact .inr ⟨p, _, ψn, hob, g1, c, t, fz, rfl, g2, g3, g4 ψ⟩
    · rcases hr.live x o h2 with ⟨g1, g2⟩ | ⟨q, ob', g1, g2, g3, g4⟩
      · exact .inl ⟨by rw [ψo x h1]; exact g1, g2⟩
      · exact .inr ⟨q, ob', by rw [ψo x h1]; exact g1, g2, g3, g4.mono hle⟩
  · obtain ⟨a1, a2⟩ := old x o q hx ho hq
    obtain ⟨b1, b2⟩ := old y o' q' hy ho' hq'
    exact hr.inj x y o o' q q' a1 b1 ho ho' a2 b2 e
  · obtain ⟨a1, a2⟩ := old x o px hx ho hpx
    exact (hr.frz q hq).2 x o px a1 ho a2
  · rcases cs x _ hx with ⟨_, h2⟩ | ⟨h1, h2⟩
    · cases h2
    · obtain ⟨k1, k2⟩ := hr.sep x Q h2
      refine ⟨k1, fun B hB => ?_⟩
      obtain ⟨g1, g2, g3, g4⟩ := k2 B hB
      refine ⟨g1, fun y o q hy ho hq => ?_, g3, fun y Q2 hy hne => ?_⟩
      · obtain ⟨a1, a2⟩ := old y o q hy ho hq
        exact g2 y o q a1 ho a2
      · rcases cs y _ hy with ⟨_, q2⟩ | ⟨_, q2⟩
        · cases q2
        · exact g4 y Q2 q2 hne
theorem HR.EW : ∀ (R : List (Pl × List AV)) {φ : Ph} {H : AH} {n : Nat} (_ : HR φ H n h0 h) (_ : ∀ r ∈ R, jx h r.1 r.2 ∧ ∃ ob, h0.f r.1.B = some ob), ∃ ψ, PLe φ ψ ∧ (∀ (i : Nat) r, R[i]? = some r → ψ (n + i) = some r.1) ∧ HR ψ (xd (R.map fun r => AO.ro r.2) n H) (n + R.length) h0 h
  | [], φ, H, n, hr, _ => ⟨φ, .refl _, fun i r h => by simp at h, hr⟩
  | r :: R, φ, H, n, hr, hR => by
    obtain ⟨h1, ob, h2⟩ := hR r List.mem_cons_self
    obtain ⟨ψ, h3, h4, h5⟩ := hr.KA h1 h2
    obtain ⟨χ, h6, h7, h8⟩ := HR.EW R h5 fun q hq => hR q (List.mem_cons_of_mem _ hq)
    refine ⟨χ, h3.trans h6, fun i q hi => ?_, by rw [List.length_cons, show n + (R.length + 1) = n + 1 + R.length by omega]; exact h8⟩
    cases i with
    | zero => injection hi with hi; subst hi; exact h6.b _ _ h4
    | succ i =>
      have := h7 i q (by simpa using hi)
      rw [show n + (i + 1) = n + 1 + i by omega]; exact this
end
theorem rn {f : FuncId} {run : List AV → AH → Nat → PK → Prop} (hrun : aF f run) {φ : Ph} {H : AH} {n : Nat} {h0 hp : Hp} {S : List Nat} {O : List AO} {R : List (Pl × List AV)} {args0 : List AV} {κ : PK} {K : KH} {vs : Array Value} (hic : aj Try.prog f = true)
    (hr : HR φ H n h0 hp) (hh : fO H n S O) (hR : ∀ r ∈ R, jx hp r.1 r.2 ∧ ¬ rJ φ S O r.1.B) (hargs : ∀ ψ : Ph, SLe ⟨fun b => φ (bh S n b), φ.z, φ.z, fun b => φ.s (bh S n b)⟩ ψ → (∀ (i : Nat) r, R[i]? = some r → ψ (S.length + i) = some r.1) → VRs ψ args0 vs.toList) (hk : bV φ h0 κ K)
    {Q : PK} (h : run args0 (xd (R.map fun r => AO.ro r.2) S.length (mkH (eu O 0))) (S.length + R.length) Q) (hQ : ∀ u H' n', Q u H' n' → ∃ m H2, S.length ≤ m ∧ cG S n m H H' H2 ∧ ltV m u = true ∧ κ (ren (bh S n) u) H2 (n + (m - S.length))) : cL Try.prog f vs hp K := by
  have key : Wf hp → cL Try.prog f vs hp K := fun hw => by
    obtain ⟨ψ0, p1, p2, p3⟩ := (hr.small hh hw).EW R fun r hr2 => by
      obtain ⟨h1, h2⟩ := hR r hr2
      refine ⟨h1, ?_⟩
      obtain ⟨c, t, fz, g1, _⟩ := h1
      exact ⟨_, (ig h2).trans g1⟩
    exact hrun args0 _ _ _ h ψ0 (iY φ S O hp) hp vs K p3 (hargs ψ0 p1.s p2) fun ψ u H' n' w g hle hg hu hq => by
      obtain ⟨m, H2, hm, ha, hl, hκ⟩ := hQ u H' n' hq
      have hle2 := p1.trans hle
      exact hk _ _ _ _ w g (x8 hr hh hm hle2) (hr.after hh hm hle2 hg ha) ((VR.pull (χ := phA φ ψ S n m) u w).2 (VR.below (ψ := ψ) (m := m) (fun b p hb e => by
        show phA φ ψ S n m (bh S n b) = _
        rw [fD hh hb]; exact e) (fun _ h => Or.inr h) u w hl hu)) hκ
  exact ⟨hic, fun w hi => (key hi.wf).2 w hi⟩
end Go.Proofs.Ythjggjhebbdkdaa
namespace Go.Proofs.Ythjggjhebbdkdaa
open Go Go.RowKit
def dK (a b : Int) : Smp → Bool
  | [] => true
  | x :: M => decide (a < x.1) && (decide (x.1 ≤ b) && dK x.1 b M)
def eH (r most line : Int) : Prop := most < -1 ∨ 1099511627776 ≤ most ∨ line < 0 ∨ max 0 most < line ∨ (0 < r ∧ line < most - r)
instance (r most line : Int) : Decidable (eH r most line) := inferInstanceAs (Decidable (_ ∨ _ ∨ _ ∨ _ ∨ (_ ∧ _)))
def dF (S : Sr) (most line : Int) (M : Smp) : Option Sr := if eH S.ret most line then none else if dK (line - 1) most M = true then some ⟨S.sz, S.ret, S.pol, most, line⟩ else none
theorem nC : ∀ {M : Smp} {a b : Int}, dK a b M = true → Up M ∧ ∀ x ∈ M, a < x.1 ∧ x.1 ≤ b
  | [], a, b, _ => ⟨List.Pairwise.nil, fun x h => by cases h⟩
  | x :: M, a, b, h => by
    unfold dK at h
    simp only [Bool.and_eq_true, decide_eq_true_eq] at h
    obtain ⟨h1, h2, h3⟩ := h
    obtain ⟨k1, k2⟩ := nC h3
    refine ⟨List.pairwise_cons.2 ⟨fun y hy => (k2 y hy).1, k1⟩, fun y hy => ?_⟩
    rcases List.mem_cons.1 hy with rfl | hy
    · exact ⟨h1, h2⟩
    · have := k2 y hy; omega
def c8 (line : Int) (M : Smp) : Nat → Int
  | 0 => line - 1
  | i + 1 => tAt M i
theorem jH {M : Smp} {line most : Int} {i : Nat} (h : i < M.length) : dK (c8 line M i) most (M.drop i) = (decide (c8 line M i < M[i].1) && (decide (M[i].1 ≤ most) && dK (c8 line M (i + 1)) most (M.drop (i + 1)))) := by
  rw [List.drop_eq_getElem_cons h]
  show (_ && (_ && dK M[i].1 most _)) = _
  have : tAt M i = M[i].1 := by unfold tAt; rw [List.getElem?_eq_getElem h]; rfl
  show _ = (_ && (_ && dK (tAt M i) most _))
  rw [this]
theorem GF {L : Smp} {t : Int} (h : ∀ x ∈ L, x.1 < t) : plc L t = L.length := by
  have := wK (X := []) h
  rw [List.append_nil] at this
  rw [this]; rfl
theorem nD {L : Smp} {t v p : Int} (h : ∀ x ∈ L, x.1 < t) : cO L t v p = (L ++ [(t, v)], 0) := by
  have e := GF h
  have hh : ¬ has L t = true := fun q => by
    unfold has at q
    have := (of_decide_eq_true q).1
    rw [e] at this; exact absurd this (Nat.lt_irrefl _)
  unfold cO
  rw [if_neg hh]
  unfold gx
  rw [e, List.take_length, List.drop_length]
theorem pC {M : Smp} (hU : Up M) {i : Nat} (h : i < M.length) : ∀ x ∈ M.take i, x.1 < M[i].1 := fun x hx => by
  have : Up (M.take i ++ M.drop i) := by rw [List.take_append_drop]; exact hU
  have this : Up (M.take i ++ M[i] :: M.drop (i + 1)) := by rw [← List.drop_eq_getElem_cons h]; exact this
  exact (Up.app.1 this).2.2 x hx M[i] List.mem_cons_self
theorem iw {S : Sr} {M : Smp} {most line : Int} (h : ¬ eH S.ret most line) (hr : dK (line - 1) most M = true) : dF S most line M = some ⟨S.sz, S.ret, S.pol, most, line⟩ := by
  unfold dF
  rw [if_neg h, if_pos hr]
theorem dh {S : Sr} {M : Smp} {most line : Int} (h : ¬ eH S.ret most line) (hr : dK (line - 1) most M = false) : dF S most line M = none := by
  unfold dF
  rw [if_neg h, if_neg (by rw [hr]; decide)]
theorem rp {H : AH} {m k : Nat} {r : Nat → Nat} {a : AV} {j : Nat} (hk : k < m := by decide) (e : a = .tup [.ptr j 0, .int .i64 0] := by rfl) (hr : r k = j := by rfl) : ae H m r a (.tup [.ptr k 0, .int .i64 0]) := by
  subst e hr
  intro φ ψ v h1 h2 hv
  obtain ⟨cs, rfl, hc⟩ := hv.dt
  obtain ⟨w, us, q1, e1, r1⟩ := hc.cons_inv
  exact .tup (by rw [q1]; exact .cons (ae.ptr hk rfl φ ψ w h1 h2 e1) (gu rfl r1))
abbrev x5 (S : Sr) : List AV := [.si .i64 (S.sz : Int), .si .i64 S.ret, .si .i64 S.pol, .si .i64 S.mx, .si .i64 S.fl]
def GG : DT := [(13, [(some 0, [0]), (some 0, [75]), (some 0, [76]), (some 0, [77]), (some 0, [0]), (some 0, [79]), (some 0, [80]), (some 0, [81]), (some 0, [0]), (some 0, [83]), (some 0, [84]), (some 0, [85]), (some 0, [1]), (some 0, [2]), (some 0, [78, 82, 86, 87, 88])])]
noncomputable def BM : FuncId → EP := bK 19 GG (a9 50 pw (a9 48 nA evP))
theorem uL : bG BM := aL (aw (aw bd yq) El) (by kernel_rfl) (by kernel_rfl)
noncomputable def GH (S : Sr) (M : Smp) (most line : Int) (i : Nat) : AE × AH := (mkE [(0, .ptr 1 0), (1, .si .i64 most), (2, .si .i64 line), (3, .fr M.length 2 (smp M)), (10, .si .i64 (c8 line M i)), (56, .fr M.length 2 (smp M)), (57, .si .i64 (M.length : Int)), (58, .si .i64 (i : Int))], mkH [(0, bP S []), (1, .ro (x5 S))])
theorem nE {S : Sr} {M : Smp} {most line : Int} {i n : Nat} {σ : AE} {H : AH} (e0 : ay (pa 0) σ = .ptr 1 0) (e1 : mk (ay (pa 1) σ) = .si .i64 most) (e2 : mk (ay (pa 2) σ) = .si .i64 line) (e3 : ay (pa 3) σ = .fr M.length 2 (smp M)) (e10 : mk (ay (pa 10) σ) = .si .i64 (c8 line M i)) (e56 : ay (pa 56) σ = .fr M.length 2 (smp M)) (e57 : mk (ay (pa 57) σ) = .si .i64 (M.length : Int)) (e58 : mk (ay (pa 58) σ) = .si .i64 (i : Int))
    (h0 : PM.get H 0 = some (bP S [])) (h1 : PM.get H 1 = some (.ro (x5 S))) : Cov 2 σ H n ((GH S M most line i).1, (GH S M most line i).2, 2) := by
  refine Cov.ofR (m := 2) (p := 2) (fun c => c) (by decide) (fun b hb => rfl) (fun x hx => ?_) (fun x hx => ?_) (fun x hx y hy e => e)
  · simp only [List.mem_cons, List.not_mem_nil, or_false] at hx
    rcases hx with rfl | rfl | rfl | rfl | rfl | rfl | rfl | rfl
    · exact ae.ptr (by decide) e0
    · exact ae.int e1
    · exact ae.int e2
    · exact ae.frE e3
    · exact ae.int e10
    · exact ae.frE e56
    · exact ae.int e57
    · exact ae.int e58
  · simp only [List.mem_cons, List.not_mem_nil, or_false] at hx
    rcases hx with rfl | rfl
    · exact ⟨Nat.le_of_ble_eq_true rfl, .inl ⟨_, h0, aO.sep _⟩⟩
    · exact ⟨Nat.le_of_ble_eq_true rfl, .inl ⟨_, h1, aO.k9 rfl rfl⟩⟩
abbrev EX (M : Smp) (i : Nat) : List (Nat × AV) := [(13, .ptr 2 0), (91, .fr M.length 2 (smp M)), (92, .si .i64 (M.length : Int)), (93, .si .i64 (i : Int))]
noncomputable def BN (S S' : Sr) (M : Smp) (C : Ck5) : AH := mkH [(0, bP S' C), (1, .ro (x5 S)), (2, .cells (bO S' 3 (pts C).length) true), (3, .cells (aQ (pts C)) true)]
theorem lM (j k : Nat) {M : Smp} {i : Nat} {σ : AE} {H : AH} (hk : 2 ≤ k) (e13 : ay (pa 13) σ = .ptr j 0) (e91 : ay (pa 91) σ = .fr M.length 2 (smp M)) (e92 : mk (ay (pa 92) σ) = .si .i64 (M.length : Int)) (e93 : mk (ay (pa 93) σ) = .si .i64 (i : Int)) : ∀ x ∈ EX M i, ae H 4 (fun c => if c = 2 then j else if c = 3 then k else c) (ay (pa x.1) σ) x.2 := fun x hx => by
  simp only [List.mem_cons, List.not_mem_nil, or_false] at hx
  rcases hx with rfl | rfl | rfl | rfl
  · exact ae.ptr (by decide) e13
  · exact ae.frE e91
  · exact ae.int e92
  · exact ae.int e93
theorem jI (j k : Nat) (hj : 2 ≤ j ∧ 2 ≤ k ∧ j ≠ k) {S S' : Sr} {M : Smp} {C : Ck5} {n : Nat} {σ : AE} {H : AH} {a0 a1 a2 a3 a4 a5 : AV} (le : List (Nat × AV)) (he : ∀ x ∈ le, ae H 4 (fun c => if c = 2 then j else if c = 3 then k else c) (ay (pa x.1) σ) x.2)
    (h0 : PM.get H 0 = some (bP S' C)) (h1 : PM.get H 1 = some (.ro (x5 S))) (h3 : PM.get H j = some (.cells [a0, a1, a2, a3, a4, a5] true)) (g0 : mk a0 = .si .i64 (S'.sz : Int)) (g1 : mk a1 = .si .i64 S'.ret) (g2 : mk a2 = .si .i64 S'.pol) (g3 : mk a3 = .si .i64 S'.mx) (g4 : mk a4 = .si .i64 S'.fl) (g5 : ae H 4 (fun c => if c = 2 then j else if c = 3 then k else c) a5 (.rw 3 0 (pts C).length 1 0)) (h4 : (∃ l, PM.get H k = some (.cells l true) ∧ l.map mk = aQ (pts C)) ∨ (C = [] ∧ n ≤ k)) : Cov 2 σ H n (mkE le, BN S S' M C, 4) := by
  refine Cov.ofR (m := 4) (p := 2) (fun c => if c = 2 then j else if c = 3 then k else c) (by decide) (fun b hb => by rw [if_neg (by omega), if_neg (by omega)]) he (fun x hx => ?_) (fun x hx y hy e => ?_)
  · simp only [List.mem_cons, List.not_mem_nil, or_false] at hx
    rcases hx with rfl | rfl | rfl | rfl
    · exact ⟨Nat.le_of_ble_eq_true rfl, .inl ⟨_, h0, aO.sep _⟩⟩
    · exact ⟨Nat.le_of_ble_eq_true rfl, .inl ⟨_, h1, aO.k9 rfl rfl⟩⟩
    · exact ⟨Nat.le_of_ble_eq_true rfl, .inl ⟨_, h3, aO.bO g0 g1 g2 g3 g4 g5⟩⟩
    · exact ⟨Nat.le_of_ble_eq_true rfl, h4.elim (fun ⟨l, q1, q2⟩ => .inl ⟨_, q1, aO.aQ q2⟩) (fun q => .inr ⟨by rw [q.1]; rfl, q.2⟩)⟩
  · simp only [List.mem_cons, List.not_mem_nil, or_false] at hx hy
    rcases hx with rfl | rfl | rfl | rfl <;> rcases hy with rfl | rfl | rfl | rfl <;> simp at e ⊢ <;> omega
def KC (S : Sr) (most line : Int) (M : Smp) : PK := fun u H' m => (dF S most line M = none ∧ u = .tup [.nil, .int .i64 1] ∧ m = 2 ∧ H' = mkH []) ∨ ∃ S' C', dF S most line M = some S' ∧ dZ S' C' ∧ ab C' = M ∧ u = .tup [.ptr 2 0, .int .i64 0] ∧ m = 4 ∧ H' = BN S S' M C'
theorem ed {σ : AE} {H : AH} {n : Nat} (e : ay (pa 0) σ = .tup [.nil, .int .i64 1]) : Cov 2 σ H n (mkE [(0, .tup [.nil, .int .i64 1])], mkH [], 2) := by
  refine Cov.ofR (m := 2) (p := 2) (lh := []) (fun c => c) (by decide) (fun b hb => rfl) (fun x hx => ?_) (fun x hx => by cases hx) (fun x hx y hy e => e)
  simp only [List.mem_cons, List.not_mem_nil, or_false] at hx
  subst hx
  rw [e]
  exact ae.flat rfl rfl
theorem BO (S : Sr) (most line : Int) (M : Smp) (h1 : 128 ≤ S.sz) (h2 : S.sz ≤ 4096) (hn : gQ S) (hM : ∀ x ∈ M, aM x.1 ∧ aM x.2) (hl : M.length ≤ 40000) (hmo : aM most) (hli : aM line) : cf (az BM 5 19) [.ptr 1 0, .si .i64 most, .si .i64 line, .fr M.length 2 (smp M)] (PM.set (some (.ro (x5 S))) aa (mkH (eu [bP S []] 0)) 1) 2 (KC S most line M) := by
  have hno : eH S.ret most line → dF S most line M = none := fun q => if_pos q
  show az BM 5 _ _ _ _ _
  conv => whnf
  refine ag.dB (fun z => absurd (show (0 : Int) < (S.sz : Int) by omega) z) (fun _ => ?_)
  conv => whnf
  refine ag.dec (fun z1 => ?_) (fun z1 => ?_)
  focus
    conv => whnf
    exact ⟨.tup [.nil, .int .i64 1], mkH [], 2, ed rfl, .inl ⟨hno (by unfold eH; omega), rfl, rfl, rfl⟩⟩
  conv => whnf
  refine ag.dec (fun z2 => ?_) (fun z2 => ?_)
  focus
    conv => whnf
    exact ⟨.tup [.nil, .int .i64 1], mkH [], 2, ed rfl, .inl ⟨hno (by unfold eH; omega), rfl, rfl, rfl⟩⟩
  conv => whnf
  refine ag.dec (fun z3 => ?_) (fun z3 => ?_)
  focus
    conv => whnf
    exact ⟨.tup [.nil, .int .i64 1], mkH [], 2, ed rfl, .inl ⟨hno (by unfold eH; omega), rfl, rfl, rfl⟩⟩
  conv => whnf
  refine ag.dec (fun z4 => ?_) (fun z4 => ?_)
  focus
    have z8 : max 0 most < line := z4
    conv => whnf
    exact ⟨.tup [.nil, .int .i64 1], mkH [], 2, ed rfl, .inl ⟨hno (by unfold eH; omega), rfl, rfl, rfl⟩⟩
  have hlw : IntKind.i64.wrap (line - 1) = line - 1 := al (by omega) (by omega)
  conv => whnf
  refine ag.dec (fun z5 => ?_) (fun z5 => ?_)
  focus
    have hrw : IntKind.i64.wrap (most - S.ret) = most - S.ret := al (by have := hn.ret; omega) (by have := hn.ret; omega)
    conv => whnf
    refine ag.dec (fun z6 => ?_) (fun z6 => ?_)
    focus
      have z7 : line < most - S.ret := by rw [← hrw]; exact z6
      conv => whnf
      exact ⟨.tup [.nil, .int .i64 1], mkH [], 2, ed rfl, .inl ⟨hno (by unfold eH; omega), rfl, rfl, rfl⟩⟩
    have hg : ¬ eH S.ret most line := fun q => by
      have z7 : ¬ line < most - S.ret := by rw [← hrw]; exact z6
      have z8 : ¬ max 0 most < line := z4
      unfold eH at q; omega
    have hres := iw (S := S) (M := M) hg
    have hN5 : gQ (⟨S.sz, S.ret, S.pol, most, line⟩ : Sr) := ⟨hn.ret, hn.pol, ⟨by show -1 ≤ most; omega, by show most < 1099511627776; omega⟩, ⟨by show 0 ≤ line; omega, by show line ≤ 1099511627776; have z8 : ¬ max 0 most < line := z4; omega⟩⟩
    conv => whnf
    refine bg.mk { i : Nat // i ≤ M.length ∧ dK (line - 1) most M = dK (c8 line M i) most (M.drop i) } 2 (fun i => GH S M most line i.val) (fun i => M.length - i.val) ⟨0, Nat.zero_le _, rfl⟩ ?_ ?_
    focus
      exact nE rfl rfl rfl rfl (congrArg (AV.si .i64) hlw) rfl rfl rfl rfl rfl
    intro ⟨i, hi, hI⟩
    have hw : IntKind.i64.wrap ((i : Int) + 1) = ((i + 1 : Nat) : Int) := by rw [al (by omega) (by omega)]; omega
    conv => whnf
    refine ag.dec (fun h => ?_) (fun h => ?_)
    focus
      have hi2 : i < M.length := Int.ofNat_lt.1 h
      have hst := jH (line := line) (most := most) hi2
      have htA : M[i].1 = c8 line M (i + 1) := by show _ = tAt M i; unfold tAt; rw [List.getElem?_eq_getElem hi2]; rfl
      conv => whnf
      refine Idx.mk i rfl hi2 ?_
      conv => whnf
      refine ao (bT hi2 rfl) ?_
      conv => whnf
      refine ag.dec (fun y1 => ?_) (fun y1 => ?_)
      focus
        have hb := dh (S := S) hg (by rw [hI, hst, decide_eq_false (Int.not_lt.2 y1)]; rfl)
        conv => whnf
        exact ⟨.tup [.nil, .int .i64 1], mkH [], 2, ed rfl, .inl ⟨hb, rfl, rfl, rfl⟩⟩
      conv => whnf
      refine ag.dec (fun y2 => ?_) (fun y2 => ?_)
      focus
        have hb := dh (S := S) hg (by rw [hI, hst, decide_eq_false (Int.not_le.2 y2), Bool.false_and, Bool.and_false])
        conv => whnf
        exact ⟨.tup [.nil, .int .i64 1], mkH [], 2, ed rfl, .inl ⟨hb, rfl, rfl, rfl⟩⟩
      have hI2 : dK (line - 1) most M = dK (c8 line M (i + 1)) most (M.drop (i + 1)) := by rw [hI, hst, decide_eq_true (Int.not_le.1 y1), decide_eq_true (Int.not_lt.1 y2), Bool.true_and, Bool.true_and]
      conv => whnf
      exact ⟨⟨i + 1, hi2, hI2⟩, by show M.length - (i + 1) < M.length - i; omega, nE rfl rfl rfl rfl (congrArg (AV.si .i64) htA) rfl rfl (congrArg (AV.si .i64) hw) rfl rfl⟩
    have hE : dK (line - 1) most M = true := by
      have : i = M.length := by
        have h : ¬ (i : Int) < (M.length : Int) := h
        omega
      rw [hI, this, List.drop_length]; rfl
    obtain ⟨hU, hall⟩ := nC hE
    replace hres := hres hE
    conv => whnf
    refine bg.mk { x : Nat × Ck5 // x.1 ≤ M.length ∧ Gd ⟨S.sz, S.ret, S.pol, most, line⟩ x.2 ∧ ab x.2 = M.take x.1 } 4 (fun x => (mkE (EX M x.val.1), BN S ⟨S.sz, S.ret, S.pol, most, line⟩ M x.val.2)) (fun x => M.length - x.val.1) ⟨(0, []), Nat.zero_le _, ⟨h1, h2, List.Pairwise.nil, (fun c hc => by cases hc), (fun c hc => by cases hc), (fun c hc => by cases hc)⟩, rfl⟩ ?_ ?_
    focus
      exact jI (M := M) 2 3 (by decide) (C := []) _ (lM 2 3 (by decide) rfl rfl rfl rfl) rfl rfl rfl rfl rfl rfl rfl rfl (ae.ky rfl) (.inr ⟨rfl, Nat.le_refl _⟩)
    intro ⟨(i, C), hi, hG, hF⟩
    dsimp only at hi hG hF
    have hw : IntKind.i64.wrap ((i : Int) + 1) = ((i + 1 : Nat) : Int) := by rw [al (by omega) (by omega)]; omega
    have hfl : (ab C).length ≤ 80000 := by rw [hF, List.length_take]; omega
    conv => whnf
    refine ag.dec (fun h => ?_) (fun h => ?_)
    focus
      have hi2 : i < M.length := Int.ofNat_lt.1 h
      have hin := hM _ (List.getElem_mem hi2)
      have hal := hall _ (List.getElem_mem hi2)
      have hend := nD (p := 3) (v := M[i].2) (pC hU hi2)
      have htk : M.take (i + 1) = M.take i ++ [M[i]] := List.take_succ_eq_append_getElem hi2
      conv => whnf
      refine Idx.mk i rfl hi2 ?_
      conv => whnf
      refine ao (bT hi2 rfl) ?_
      conv => whnf
      refine ⟨2, 3, 0, ⟨S.sz, S.ret, S.pol, most, line⟩, C, M[i].1, M[i].2, 3, rfl, ⟨_, _, rfl, rfl, rfl⟩, rfl, ⟨⟨by decide, by decide, by decide⟩, ⟨by decide, by decide, by decide⟩, rfl, rfl, rfl⟩, hG, hfl, ⟨by omega, by omega⟩, hin.2, fun C' e hP => ?_⟩
      have hF2 : ab C' = M.take (i + 1) := by rw [hP.fl, hF, hend, htk]
      conv => whnf
      exact ⟨⟨(i + 1, C'), hi2, hP.gd, hF2⟩, by show M.length - (i + 1) < M.length - i; omega, jI (M := M) 2 5 (by decide) _ (lM 2 5 (by decide) rfl rfl rfl (congrArg (AV.si .i64) hw)) rfl rfl rfl rfl rfl rfl rfl rfl (ae.rw (by decide) rfl) (.inl ⟨_, rfl, ax _⟩)⟩
    have hi3 : i = M.length := by
      have h : ¬ (i : Int) < (M.length : Int) := h
      omega
    have hlC : C.length ≤ 100000 := by have := mI hG.ne; omega
    conv => whnf
    refine ⟨2, 3, 0, ⟨S.sz, S.ret, S.pol, most, line⟩, C, rfl, ⟨⟨by decide, by decide, by decide⟩, ⟨by decide, by decide, by decide⟩, rfl, rfl, rfl⟩, hG.pre, hlC, fun C' f1 f2 f3 => ?_⟩
    have hF3 : ab C' = M := by rw [f1, hF, hi3, List.take_length]
    have h5 : dZ ⟨S.sz, S.ret, S.pol, most, line⟩ C' := ⟨f2, f3, hN5, by rw [hF3]; omega⟩
    conv => whnf
    exact ⟨.tup [.ptr 2 0, .int .i64 0], BN S ⟨S.sz, S.ret, S.pol, most, line⟩ M C', 4, jI (M := M) 2 4 (by decide) [(0, .tup [.ptr 2 0, .int .i64 0])] (fun x hx => by
      simp only [List.mem_cons, List.not_mem_nil, or_false] at hx
      subst hx
      exact rp) rfl rfl rfl rfl rfl rfl rfl rfl (ae.rw (by decide) rfl) (.inl ⟨_, rfl, ax _⟩), .inr ⟨_, C', hres, h5, hF3, rfl, rfl, rfl⟩⟩
  have hg : ¬ eH S.ret most line := fun q => by
    have z8 : ¬ max 0 most < line := z4
    unfold eH at q; omega
  have hres := iw (S := S) (M := M) hg
  have hN5 : gQ (⟨S.sz, S.ret, S.pol, most, line⟩ : Sr) := ⟨hn.ret, hn.pol, ⟨by show -1 ≤ most; omega, by show most < 1099511627776; omega⟩, ⟨by show 0 ≤ line; omega, by show line ≤ 1099511627776; have z8 : ¬ max 0 most < line := z4; omega⟩⟩
  conv => whnf
  refine bg.mk { i : Nat // i ≤ M.length ∧ dK (line - 1) most M = dK (c8 line M i) most (M.drop i) } 2 (fun i => GH S M most line i.val) (fun i => M.length - i.val) ⟨0, Nat.zero_le _, rfl⟩ ?_ ?_
  focus
    exact nE rfl rfl rfl rfl (congrArg (AV.si .i64) hlw) rfl rfl rfl rfl rfl
  intro ⟨i, hi, hI⟩
  have hw : IntKind.i64.wrap ((i : Int) + 1) = ((i + 1 : Nat) : Int) := by rw [al (by omega) (by omega)]; omega
  conv => whnf
  refine ag.dec (fun h => ?_) (fun h => ?_)
  focus
    have hi2 : i < M.length := Int.ofNat_lt.1 h
    have hst := jH (line := line) (most := most) hi2
    have htA : M[i].1 = c8 line M (i + 1) := by show _ = tAt M i; unfold tAt; rw [List.getElem?_eq_getElem hi2]; rfl
    conv => whnf
    refine Idx.mk i rfl hi2 ?_
    conv => whnf
    refine ao (bT hi2 rfl) ?_
    conv => whnf
    refine ag.dec (fun y1 => ?_) (fun y1 => ?_)
    focus
      have hb := dh (S := S) hg (by rw [hI, hst, decide_eq_false (Int.not_lt.2 y1)]; rfl)
      conv => whnf
      exact ⟨.tup [.nil, .int .i64 1], mkH [], 2, ed rfl, .inl ⟨hb, rfl, rfl, rfl⟩⟩
    conv => whnf
    refine ag.dec (fun y2 => ?_) (fun y2 => ?_)
    focus
      have hb := dh (S := S) hg (by rw [hI, hst, decide_eq_false (Int.not_le.2 y2), Bool.false_and, Bool.and_false])
      conv => whnf
      exact ⟨.tup [.nil, .int .i64 1], mkH [], 2, ed rfl, .inl ⟨hb, rfl, rfl, rfl⟩⟩
    have hI2 : dK (line - 1) most M = dK (c8 line M (i + 1)) most (M.drop (i + 1)) := by rw [hI, hst, decide_eq_true (Int.not_le.1 y1), decide_eq_true (Int.not_lt.1 y2), Bool.true_and, Bool.true_and]
    conv => whnf
    exact ⟨⟨i + 1, hi2, hI2⟩, by show M.length - (i + 1) < M.length - i; omega, nE rfl rfl rfl rfl (congrArg (AV.si .i64) htA) rfl rfl (congrArg (AV.si .i64) hw) rfl rfl⟩
  have hE : dK (line - 1) most M = true := by
    have : i = M.length := by
      have h : ¬ (i : Int) < (M.length : Int) := h
      omega
    rw [hI, this, List.drop_length]; rfl
  obtain ⟨hU, hall⟩ := nC hE
  replace hres := hres hE
  conv => whnf
  refine bg.mk { x : Nat × Ck5 // x.1 ≤ M.length ∧ Gd ⟨S.sz, S.ret, S.pol, most, line⟩ x.2 ∧ ab x.2 = M.take x.1 } 4 (fun x => (mkE (EX M x.val.1), BN S ⟨S.sz, S.ret, S.pol, most, line⟩ M x.val.2)) (fun x => M.length - x.val.1) ⟨(0, []), Nat.zero_le _, ⟨h1, h2, List.Pairwise.nil, (fun c hc => by cases hc), (fun c hc => by cases hc), (fun c hc => by cases hc)⟩, rfl⟩ ?_ ?_
  focus
    exact jI (M := M) 2 3 (by decide) (C := []) _ (lM 2 3 (by decide) rfl rfl rfl rfl) rfl rfl rfl rfl rfl rfl rfl rfl (ae.ky rfl) (.inr ⟨rfl, Nat.le_refl _⟩)
  intro ⟨(i, C), hi, hG, hF⟩
  dsimp only at hi hG hF
  have hw : IntKind.i64.wrap ((i : Int) + 1) = ((i + 1 : Nat) : Int) := by rw [al (by omega) (by omega)]; omega
  have hfl : (ab C).length ≤ 80000 := by rw [hF, List.length_take]; omega
  conv => whnf
  refine ag.dec (fun h => ?_) (fun h => ?_)
  focus
    have hi2 : i < M.length := Int.ofNat_lt.1 h
    have hin := hM _ (List.getElem_mem hi2)
    have hal := hall _ (List.getElem_mem hi2)
    have hend := nD (p := 3) (v := M[i].2) (pC hU hi2)
    have htk : M.take (i + 1) = M.take i ++ [M[i]] := List.take_succ_eq_append_getElem hi2
    conv => whnf
    refine Idx.mk i rfl hi2 ?_
    conv => whnf
    refine ao (bT hi2 rfl) ?_
    conv => whnf
    refine ⟨2, 3, 0, ⟨S.sz, S.ret, S.pol, most, line⟩, C, M[i].1, M[i].2, 3, rfl, ⟨_, _, rfl, rfl, rfl⟩, rfl, ⟨⟨by decide, by decide, by decide⟩, ⟨by decide, by decide, by decide⟩, rfl, rfl, rfl⟩, hG, hfl, ⟨by omega, by omega⟩, hin.2, fun C' e hP => ?_⟩
    have hF2 : ab C' = M.take (i + 1) := by rw [hP.fl, hF, hend, htk]
    conv => whnf
    exact ⟨⟨(i + 1, C'), hi2, hP.gd, hF2⟩, by show M.length - (i + 1) < M.length - i; omega, jI (M := M) 2 5 (by decide) _ (lM 2 5 (by decide) rfl rfl rfl (congrArg (AV.si .i64) hw)) rfl rfl rfl rfl rfl rfl rfl rfl (ae.rw (by decide) rfl) (.inl ⟨_, rfl, ax _⟩)⟩
  have hi3 : i = M.length := by
    have h : ¬ (i : Int) < (M.length : Int) := h
    omega
  have hlC : C.length ≤ 100000 := by have := mI hG.ne; omega
  conv => whnf
  refine ⟨2, 3, 0, ⟨S.sz, S.ret, S.pol, most, line⟩, C, rfl, ⟨⟨by decide, by decide, by decide⟩, ⟨by decide, by decide, by decide⟩, rfl, rfl, rfl⟩, hG.pre, hlC, fun C' f1 f2 f3 => ?_⟩
  have hF3 : ab C' = M := by rw [f1, hF, hi3, List.take_length]
  have h5 : dZ ⟨S.sz, S.ret, S.pol, most, line⟩ C' := ⟨f2, f3, hN5, by rw [hF3]; omega⟩
  conv => whnf
  exact ⟨.tup [.ptr 2 0, .int .i64 0], BN S ⟨S.sz, S.ret, S.pol, most, line⟩ M C', 4, jI (M := M) 2 4 (by decide) [(0, .tup [.ptr 2 0, .int .i64 0])] (fun x hx => by
    simp only [List.mem_cons, List.not_mem_nil, or_false] at hx
    subst hx
    exact rp) rfl rfl rfl rfl rfl rfl rfl rfl (ae.rw (by decide) rfl) (.inl ⟨_, rfl, ax _⟩), .inr ⟨_, C', hres, h5, hF3, rfl, rfl, rfl⟩⟩
noncomputable def GI (S : Sr) (M : Smp) (cap : Nat) (most line : Int) (i : Nat) : AE × AH := (mkE [(0, .ptr 1 0), (1, .si .i64 most), (2, .si .i64 line), (3, .sy 2 0 M.length cap 0), (10, .si .i64 (c8 line M i)), (56, .sy 2 0 M.length cap 0), (57, .si .i64 (M.length : Int)), (58, .si .i64 (i : Int))], mkH [(0, bP S []), (1, .ro (x5 S)), (2, .ro (smp M))])
theorem nF {S : Sr} {M : Smp} {cap : Nat} {most line : Int} {i n : Nat} {σ : AE} {H : AH} (e0 : ay (pa 0) σ = .ptr 1 0) (e1 : mk (ay (pa 1) σ) = .si .i64 most) (e2 : mk (ay (pa 2) σ) = .si .i64 line) (e3 : ay (pa 3) σ = .sy 2 0 M.length cap 0) (e10 : mk (ay (pa 10) σ) = .si .i64 (c8 line M i)) (e56 : ay (pa 56) σ = .sy 2 0 M.length cap 0) (e57 : mk (ay (pa 57) σ) = .si .i64 (M.length : Int)) (e58 : mk (ay (pa 58) σ) = .si .i64 (i : Int))
    (h0 : PM.get H 0 = some (bP S [])) (h1 : PM.get H 1 = some (.ro (x5 S))) (h2 : PM.get H 2 = some (.ro (smp M))) : Cov 3 σ H n ((GI S M cap most line i).1, (GI S M cap most line i).2, 3) := by
  refine Cov.ofR (m := 3) (p := 3) (fun c => c) (by decide) (fun b hb => rfl) (fun x hx => ?_) (fun x hx => ?_) (fun x hx y hy e => e)
  · simp only [List.mem_cons, List.not_mem_nil, or_false] at hx
    rcases hx with rfl | rfl | rfl | rfl | rfl | rfl | rfl | rfl
    · exact ae.ptr (by decide) e0
    · exact ae.int e1
    · exact ae.int e2
    · exact ae.sy (by decide) (congrArg mk e3)
    · exact ae.int e10
    · exact ae.sy (by decide) (congrArg mk e56)
    · exact ae.int e57
    · exact ae.int e58
  · simp only [List.mem_cons, List.not_mem_nil, or_false] at hx
    rcases hx with rfl | rfl | rfl
    · exact ⟨Nat.le_of_ble_eq_true rfl, .inl ⟨_, h0, aO.sep _⟩⟩
    · exact ⟨Nat.le_of_ble_eq_true rfl, .inl ⟨_, h1, aO.k9 rfl rfl⟩⟩
    · exact ⟨Nat.le_of_ble_eq_true rfl, .inl ⟨_, h2, aO.k9 (ba _) rfl⟩⟩
abbrev EY (M : Smp) (cap : Nat) (i : Nat) : List (Nat × AV) := [(13, .ptr 3 0), (91, .sy 2 0 M.length cap 0), (92, .si .i64 (M.length : Int)), (93, .si .i64 (i : Int))]
noncomputable def BP (S S' : Sr) (M : Smp) (C : Ck5) : AH := mkH [(0, bP S' C), (1, .ro (x5 S)), (2, .ro (smp M)), (3, .cells (bO S' 4 (pts C).length) true), (4, .cells (aQ (pts C)) true)]
theorem lN (j k : Nat) {M : Smp} {cap : Nat} {i : Nat} {σ : AE} {H : AH} (hk : 3 ≤ k) (e13 : ay (pa 13) σ = .ptr j 0) (e91 : ay (pa 91) σ = .sy 2 0 M.length cap 0) (e92 : mk (ay (pa 92) σ) = .si .i64 (M.length : Int)) (e93 : mk (ay (pa 93) σ) = .si .i64 (i : Int)) : ∀ x ∈ EY M cap i, ae H 5 (fun c => if c = 3 then j else if c = 4 then k else c) (ay (pa x.1) σ) x.2 := fun x hx => by
  simp only [List.mem_cons, List.not_mem_nil, or_false] at hx
  rcases hx with rfl | rfl | rfl | rfl
  · exact ae.ptr (by decide) e13
  · exact ae.sy (by decide) (congrArg mk e91)
  · exact ae.int e92
  · exact ae.int e93
theorem jJ (j k : Nat) (hj : 3 ≤ j ∧ 3 ≤ k ∧ j ≠ k) {S S' : Sr} {M : Smp} {C : Ck5} {n : Nat} {σ : AE} {H : AH} {a0 a1 a2 a3 a4 a5 : AV} (le : List (Nat × AV)) (he : ∀ x ∈ le, ae H 5 (fun c => if c = 3 then j else if c = 4 then k else c) (ay (pa x.1) σ) x.2)
    (h0 : PM.get H 0 = some (bP S' C)) (h1 : PM.get H 1 = some (.ro (x5 S))) (h2 : PM.get H 2 = some (.ro (smp M))) (h3 : PM.get H j = some (.cells [a0, a1, a2, a3, a4, a5] true)) (g0 : mk a0 = .si .i64 (S'.sz : Int)) (g1 : mk a1 = .si .i64 S'.ret) (g2 : mk a2 = .si .i64 S'.pol) (g3 : mk a3 = .si .i64 S'.mx) (g4 : mk a4 = .si .i64 S'.fl) (g5 : ae H 5 (fun c => if c = 3 then j else if c = 4 then k else c) a5 (.rw 4 0 (pts C).length 1 0)) (h4 : (∃ l, PM.get H k = some (.cells l true) ∧ l.map mk = aQ (pts C)) ∨ (C = [] ∧ n ≤ k)) : Cov 3 σ H n (mkE le, BP S S' M C, 5) := by
  refine Cov.ofR (m := 5) (p := 3) (fun c => if c = 3 then j else if c = 4 then k else c) (by decide) (fun b hb => by rw [if_neg (by omega), if_neg (by omega)]) he (fun x hx => ?_) (fun x hx y hy e => ?_)
  · simp only [List.mem_cons, List.not_mem_nil, or_false] at hx
    rcases hx with rfl | rfl | rfl | rfl | rfl
    · exact ⟨Nat.le_of_ble_eq_true rfl, .inl ⟨_, h0, aO.sep _⟩⟩
    · exact ⟨Nat.le_of_ble_eq_true rfl, .inl ⟨_, h1, aO.k9 rfl rfl⟩⟩
    · exact ⟨Nat.le_of_ble_eq_true rfl, .inl ⟨_, h2, aO.k9 (ba _) rfl⟩⟩
    · exact ⟨Nat.le_of_ble_eq_true rfl, .inl ⟨_, h3, aO.bO g0 g1 g2 g3 g4 g5⟩⟩
    · exact ⟨Nat.le_of_ble_eq_true rfl, h4.elim (fun ⟨l, q1, q2⟩ => .inl ⟨_, q1, aO.aQ q2⟩) (fun q => .inr ⟨by rw [q.1]; rfl, q.2⟩)⟩
  · simp only [List.mem_cons, List.not_mem_nil, or_false] at hx hy
    rcases hx with rfl | rfl | rfl | rfl | rfl <;> rcases hy with rfl | rfl | rfl | rfl | rfl <;> simp at e ⊢ <;> omega
def KF (S : Sr) (most line : Int) (M : Smp) : PK := fun u H' m => (dF S most line M = none ∧ u = .tup [.nil, .int .i64 1] ∧ m = 3 ∧ H' = mkH []) ∨ ∃ S' C', dF S most line M = some S' ∧ dZ S' C' ∧ ab C' = M ∧ u = .tup [.ptr 3 0, .int .i64 0] ∧ m = 5 ∧ H' = BP S S' M C'
theorem eg {σ : AE} {H : AH} {n : Nat} (e : ay (pa 0) σ = .tup [.nil, .int .i64 1]) : Cov 3 σ H n (mkE [(0, .tup [.nil, .int .i64 1])], mkH [], 3) := by
  refine Cov.ofR (m := 3) (p := 3) (lh := []) (fun c => c) (by decide) (fun b hb => rfl) (fun x hx => ?_) (fun x hx => by cases hx) (fun x hx y hy e => e)
  simp only [List.mem_cons, List.not_mem_nil, or_false] at hx
  subst hx
  rw [e]
  exact ae.flat rfl rfl
theorem BQ (S : Sr) (most line : Int) (M : Smp) (cap : Nat) (h1 : 128 ≤ S.sz) (h2 : S.sz ≤ 4096) (hn : gQ S) (hM : ∀ x ∈ M, aM x.1 ∧ aM x.2) (hl : M.length ≤ 40000) (hmo : aM most) (hli : aM line) : cf (az BM 5 19) [.ptr 1 0, .si .i64 most, .si .i64 line, .sy 2 0 M.length cap 0] (PM.set (some (.ro (smp M))) aa (PM.set (some (.ro (x5 S))) aa (mkH (eu [bP S []] 0)) 1) 2) 3 (KF S most line M) := by
  have hno : eH S.ret most line → dF S most line M = none := fun q => if_pos q
  show az BM 5 _ _ _ _ _
  conv => whnf
  refine ag.dB (fun z => absurd (show (0 : Int) < (S.sz : Int) by omega) z) (fun _ => ?_)
  conv => whnf
  refine ag.dec (fun z1 => ?_) (fun z1 => ?_)
  focus
    conv => whnf
    exact ⟨.tup [.nil, .int .i64 1], mkH [], 3, eg rfl, .inl ⟨hno (by unfold eH; omega), rfl, rfl, rfl⟩⟩
  conv => whnf
  refine ag.dec (fun z2 => ?_) (fun z2 => ?_)
  focus
    conv => whnf
    exact ⟨.tup [.nil, .int .i64 1], mkH [], 3, eg rfl, .inl ⟨hno (by unfold eH; omega), rfl, rfl, rfl⟩⟩
  conv => whnf
  refine ag.dec (fun z3 => ?_) (fun z3 => ?_)
  focus
    conv => whnf
    exact ⟨.tup [.nil, .int .i64 1], mkH [], 3, eg rfl, .inl ⟨hno (by unfold eH; omega), rfl, rfl, rfl⟩⟩
  conv => whnf
  refine ag.dec (fun z4 => ?_) (fun z4 => ?_)
  focus
    have z8 : max 0 most < line := z4
    conv => whnf
    exact ⟨.tup [.nil, .int .i64 1], mkH [], 3, eg rfl, .inl ⟨hno (by unfold eH; omega), rfl, rfl, rfl⟩⟩
  have hlw : IntKind.i64.wrap (line - 1) = line - 1 := al (by omega) (by omega)
  conv => whnf
  refine ag.dec (fun z5 => ?_) (fun z5 => ?_)
  focus
    have hrw : IntKind.i64.wrap (most - S.ret) = most - S.ret := al (by have := hn.ret; omega) (by have := hn.ret; omega)
    conv => whnf
    refine ag.dec (fun z6 => ?_) (fun z6 => ?_)
    focus
      have z7 : line < most - S.ret := by rw [← hrw]; exact z6
      conv => whnf
      exact ⟨.tup [.nil, .int .i64 1], mkH [], 3, eg rfl, .inl ⟨hno (by unfold eH; omega), rfl, rfl, rfl⟩⟩
    have hg : ¬ eH S.ret most line := fun q => by
      have z7 : ¬ line < most - S.ret := by rw [← hrw]; exact z6
      have z8 : ¬ max 0 most < line := z4
      unfold eH at q; omega
    have hres := iw (S := S) (M := M) hg
    have hN5 : gQ (⟨S.sz, S.ret, S.pol, most, line⟩ : Sr) := ⟨hn.ret, hn.pol, ⟨by show -1 ≤ most; omega, by show most < 1099511627776; omega⟩, ⟨by show 0 ≤ line; omega, by show line ≤ 1099511627776; have z8 : ¬ max 0 most < line := z4; omega⟩⟩
    conv => whnf
    refine bg.mk { i : Nat // i ≤ M.length ∧ dK (line - 1) most M = dK (c8 line M i) most (M.drop i) } 3 (fun i => GI S M cap most line i.val) (fun i => M.length - i.val) ⟨0, Nat.zero_le _, rfl⟩ ?_ ?_
    focus
      exact nF rfl rfl rfl rfl (congrArg (AV.si .i64) hlw) rfl rfl rfl rfl rfl rfl
    intro ⟨i, hi, hI⟩
    have hw : IntKind.i64.wrap ((i : Int) + 1) = ((i + 1 : Nat) : Int) := by rw [al (by omega) (by omega)]; omega
    conv => whnf
    refine ag.dec (fun h => ?_) (fun h => ?_)
    focus
      have hi2 : i < M.length := Int.ofNat_lt.1 h
      have hst := jH (line := line) (most := most) hi2
      have htA : M[i].1 = c8 line M (i + 1) := by show _ = tAt M i; unfold tAt; rw [List.getElem?_eq_getElem hi2]; rfl
      conv => whnf
      refine Idx.mk i rfl hi2 ?_
      conv => whnf
      refine ao (bT hi2 (show 0 + i * 2 = i * 2 from Nat.zero_add _)) ?_
      conv => whnf
      refine ag.dec (fun y1 => ?_) (fun y1 => ?_)
      focus
        have hb := dh (S := S) hg (by rw [hI, hst, decide_eq_false (Int.not_lt.2 y1)]; rfl)
        conv => whnf
        exact ⟨.tup [.nil, .int .i64 1], mkH [], 3, eg rfl, .inl ⟨hb, rfl, rfl, rfl⟩⟩
      conv => whnf
      refine ag.dec (fun y2 => ?_) (fun y2 => ?_)
      focus
        have hb := dh (S := S) hg (by rw [hI, hst, decide_eq_false (Int.not_le.2 y2), Bool.false_and, Bool.and_false])
        conv => whnf
        exact ⟨.tup [.nil, .int .i64 1], mkH [], 3, eg rfl, .inl ⟨hb, rfl, rfl, rfl⟩⟩
      have hI2 : dK (line - 1) most M = dK (c8 line M (i + 1)) most (M.drop (i + 1)) := by rw [hI, hst, decide_eq_true (Int.not_le.1 y1), decide_eq_true (Int.not_lt.1 y2), Bool.true_and, Bool.true_and]
      conv => whnf
      exact ⟨⟨i + 1, hi2, hI2⟩, by show M.length - (i + 1) < M.length - i; omega, nF rfl rfl rfl rfl (congrArg (AV.si .i64) htA) rfl rfl (congrArg (AV.si .i64) hw) rfl rfl rfl⟩
    have hE : dK (line - 1) most M = true := by
      have : i = M.length := by
        have h : ¬ (i : Int) < (M.length : Int) := h
        omega
      rw [hI, this, List.drop_length]; rfl
    obtain ⟨hU, hall⟩ := nC hE
    replace hres := hres hE
    conv => whnf
    refine bg.mk { x : Nat × Ck5 // x.1 ≤ M.length ∧ Gd ⟨S.sz, S.ret, S.pol, most, line⟩ x.2 ∧ ab x.2 = M.take x.1 } 5 (fun x => (mkE (EY M cap x.val.1), BP S ⟨S.sz, S.ret, S.pol, most, line⟩ M x.val.2)) (fun x => M.length - x.val.1) ⟨(0, []), Nat.zero_le _, ⟨h1, h2, List.Pairwise.nil, (fun c hc => by cases hc), (fun c hc => by cases hc), (fun c hc => by cases hc)⟩, rfl⟩ ?_ ?_
    focus
      exact jJ (M := M) 3 4 (by decide) (C := []) _ (lN 3 4 (by decide) rfl rfl rfl rfl) rfl rfl rfl rfl rfl rfl rfl rfl rfl (ae.ky rfl) (.inr ⟨rfl, Nat.le_refl _⟩)
    intro ⟨(i, C), hi, hG, hF⟩
    dsimp only at hi hG hF
    have hw : IntKind.i64.wrap ((i : Int) + 1) = ((i + 1 : Nat) : Int) := by rw [al (by omega) (by omega)]; omega
    have hfl : (ab C).length ≤ 80000 := by rw [hF, List.length_take]; omega
    conv => whnf
    refine ag.dec (fun h => ?_) (fun h => ?_)
    focus
      have hi2 : i < M.length := Int.ofNat_lt.1 h
      have hin := hM _ (List.getElem_mem hi2)
      have hal := hall _ (List.getElem_mem hi2)
      have hend := nD (p := 3) (v := M[i].2) (pC hU hi2)
      have htk : M.take (i + 1) = M.take i ++ [M[i]] := List.take_succ_eq_append_getElem hi2
      conv => whnf
      refine Idx.mk i rfl hi2 ?_
      conv => whnf
      refine ao (bT hi2 (show 0 + i * 2 = i * 2 from Nat.zero_add _)) ?_
      conv => whnf
      refine ⟨3, 4, 0, ⟨S.sz, S.ret, S.pol, most, line⟩, C, M[i].1, M[i].2, 3, rfl, ⟨_, _, rfl, rfl, rfl⟩, rfl, ⟨⟨by decide, by decide, by decide⟩, ⟨by decide, by decide, by decide⟩, rfl, rfl, rfl⟩, hG, hfl, ⟨by omega, by omega⟩, hin.2, fun C' e hP => ?_⟩
      have hF2 : ab C' = M.take (i + 1) := by rw [hP.fl, hF, hend, htk]
      conv => whnf
      exact ⟨⟨(i + 1, C'), hi2, hP.gd, hF2⟩, by show M.length - (i + 1) < M.length - i; omega, jJ (M := M) 3 6 (by decide) _ (lN 3 6 (by decide) rfl rfl rfl (congrArg (AV.si .i64) hw)) rfl rfl rfl rfl rfl rfl rfl rfl rfl (ae.rw (by decide) rfl) (.inl ⟨_, rfl, ax _⟩)⟩
    have hi3 : i = M.length := by
      have h : ¬ (i : Int) < (M.length : Int) := h
      omega
    have hlC : C.length ≤ 100000 := by have := mI hG.ne; omega
    conv => whnf
    refine ⟨3, 4, 0, ⟨S.sz, S.ret, S.pol, most, line⟩, C, rfl, ⟨⟨by decide, by decide, by decide⟩, ⟨by decide, by decide, by decide⟩, rfl, rfl, rfl⟩, hG.pre, hlC, fun C' f1 f2 f3 => ?_⟩
    have hF3 : ab C' = M := by rw [f1, hF, hi3, List.take_length]
    have h5 : dZ ⟨S.sz, S.ret, S.pol, most, line⟩ C' := ⟨f2, f3, hN5, by rw [hF3]; omega⟩
    conv => whnf
    exact ⟨.tup [.ptr 3 0, .int .i64 0], BP S ⟨S.sz, S.ret, S.pol, most, line⟩ M C', 5, jJ (M := M) 3 5 (by decide) [(0, .tup [.ptr 3 0, .int .i64 0])] (fun x hx => by
      simp only [List.mem_cons, List.not_mem_nil, or_false] at hx
      subst hx
      exact rp) rfl rfl rfl rfl rfl rfl rfl rfl rfl (ae.rw (by decide) rfl) (.inl ⟨_, rfl, ax _⟩), .inr ⟨_, C', hres, h5, hF3, rfl, rfl, rfl⟩⟩
  have hg : ¬ eH S.ret most line := fun q => by
    have z8 : ¬ max 0 most < line := z4
    unfold eH at q; omega
  have hres := iw (S := S) (M := M) hg
  have hN5 : gQ (⟨S.sz, S.ret, S.pol, most, line⟩ : Sr) := ⟨hn.ret, hn.pol, ⟨by show -1 ≤ most; omega, by show most < 1099511627776; omega⟩, ⟨by show 0 ≤ line; omega, by show line ≤ 1099511627776; have z8 : ¬ max 0 most < line := z4; omega⟩⟩
  conv => whnf
  refine bg.mk { i : Nat // i ≤ M.length ∧ dK (line - 1) most M = dK (c8 line M i) most (M.drop i) } 3 (fun i => GI S M cap most line i.val) (fun i => M.length - i.val) ⟨0, Nat.zero_le _, rfl⟩ ?_ ?_
  focus
    exact nF rfl rfl rfl rfl (congrArg (AV.si .i64) hlw) rfl rfl rfl rfl rfl rfl
  intro ⟨i, hi, hI⟩
  have hw : IntKind.i64.wrap ((i : Int) + 1) = ((i + 1 : Nat) : Int) := by rw [al (by omega) (by omega)]; omega
  conv => whnf
  refine ag.dec (fun h => ?_) (fun h => ?_)
  focus
    have hi2 : i < M.length := Int.ofNat_lt.1 h
    have hst := jH (line := line) (most := most) hi2
    have htA : M[i].1 = c8 line M (i + 1) := by show _ = tAt M i; unfold tAt; rw [List.getElem?_eq_getElem hi2]; rfl
    conv => whnf
    refine Idx.mk i rfl hi2 ?_
    conv => whnf
    refine ao (bT hi2 (show 0 + i * 2 = i * 2 from Nat.zero_add _)) ?_
    conv => whnf
    refine ag.dec (fun y1 => ?_) (fun y1 => ?_)
    focus
      have hb := dh (S := S) hg (by rw [hI, hst, decide_eq_false (Int.not_lt.2 y1)]; rfl)
      conv => whnf
      exact ⟨.tup [.nil, .int .i64 1], mkH [], 3, eg rfl, .inl ⟨hb, rfl, rfl, rfl⟩⟩
    conv => whnf
    refine ag.dec (fun y2 => ?_) (fun y2 => ?_)
    focus
      have hb := dh (S := S) hg (by rw [hI, hst, decide_eq_false (Int.not_le.2 y2), Bool.false_and, Bool.and_false])
      conv => whnf
      exact ⟨.tup [.nil, .int .i64 1], mkH [], 3, eg rfl, .inl ⟨hb, rfl, rfl, rfl⟩⟩
    have hI2 : dK (line - 1) most M = dK (c8 line M (i + 1)) most (M.drop (i + 1)) := by rw [hI, hst, decide_eq_true (Int.not_le.1 y1), decide_eq_true (Int.not_lt.1 y2), Bool.true_and, Bool.true_and]
    conv => whnf
    exact ⟨⟨i + 1, hi2, hI2⟩, by show M.length - (i + 1) < M.length - i; omega, nF rfl rfl rfl rfl (congrArg (AV.si .i64) htA) rfl rfl (congrArg (AV.si .i64) hw) rfl rfl rfl⟩
  have hE : dK (line - 1) most M = true := by
    have : i = M.length := by
      have h : ¬ (i : Int) < (M.length : Int) := h
      omega
    rw [hI, this, List.drop_length]; rfl
  obtain ⟨hU, hall⟩ := nC hE
  replace hres := hres hE
  conv => whnf
  refine bg.mk { x : Nat × Ck5 // x.1 ≤ M.length ∧ Gd ⟨S.sz, S.ret, S.pol, most, line⟩ x.2 ∧ ab x.2 = M.take x.1 } 5 (fun x => (mkE (EY M cap x.val.1), BP S ⟨S.sz, S.ret, S.pol, most, line⟩ M x.val.2)) (fun x => M.length - x.val.1) ⟨(0, []), Nat.zero_le _, ⟨h1, h2, List.Pairwise.nil, (fun c hc => by cases hc), (fun c hc => by cases hc), (fun c hc => by cases hc)⟩, rfl⟩ ?_ ?_
  focus
    exact jJ (M := M) 3 4 (by decide) (C := []) _ (lN 3 4 (by decide) rfl rfl rfl rfl) rfl rfl rfl rfl rfl rfl rfl rfl rfl (ae.ky rfl) (.inr ⟨rfl, Nat.le_refl _⟩)
  intro ⟨(i, C), hi, hG, hF⟩
  dsimp only at hi hG hF
  have hw : IntKind.i64.wrap ((i : Int) + 1) = ((i + 1 : Nat) : Int) := by rw [al (by omega) (by omega)]; omega
  have hfl : (ab C).length ≤ 80000 := by rw [hF, List.length_take]; omega
  conv => whnf
  refine ag.dec (fun h => ?_) (fun h => ?_)
  focus
    have hi2 : i < M.length := Int.ofNat_lt.1 h
    have hin := hM _ (List.getElem_mem hi2)
    have hal := hall _ (List.getElem_mem hi2)
    have hend := nD (p := 3) (v := M[i].2) (pC hU hi2)
    have htk : M.take (i + 1) = M.take i ++ [M[i]] := List.take_succ_eq_append_getElem hi2
    conv => whnf
    refine Idx.mk i rfl hi2 ?_
    conv => whnf
    refine ao (bT hi2 (show 0 + i * 2 = i * 2 from Nat.zero_add _)) ?_
    conv => whnf
    refine ⟨3, 4, 0, ⟨S.sz, S.ret, S.pol, most, line⟩, C, M[i].1, M[i].2, 3, rfl, ⟨_, _, rfl, rfl, rfl⟩, rfl, ⟨⟨by decide, by decide, by decide⟩, ⟨by decide, by decide, by decide⟩, rfl, rfl, rfl⟩, hG, hfl, ⟨by omega, by omega⟩, hin.2, fun C' e hP => ?_⟩
    have hF2 : ab C' = M.take (i + 1) := by rw [hP.fl, hF, hend, htk]
    conv => whnf
    exact ⟨⟨(i + 1, C'), hi2, hP.gd, hF2⟩, by show M.length - (i + 1) < M.length - i; omega, jJ (M := M) 3 6 (by decide) _ (lN 3 6 (by decide) rfl rfl rfl (congrArg (AV.si .i64) hw)) rfl rfl rfl rfl rfl rfl rfl rfl rfl (ae.rw (by decide) rfl) (.inl ⟨_, rfl, ax _⟩)⟩
  have hi3 : i = M.length := by
    have h : ¬ (i : Int) < (M.length : Int) := h
    omega
  have hlC : C.length ≤ 100000 := by have := mI hG.ne; omega
  conv => whnf
  refine ⟨3, 4, 0, ⟨S.sz, S.ret, S.pol, most, line⟩, C, rfl, ⟨⟨by decide, by decide, by decide⟩, ⟨by decide, by decide, by decide⟩, rfl, rfl, rfl⟩, hG.pre, hlC, fun C' f1 f2 f3 => ?_⟩
  have hF3 : ab C' = M := by rw [f1, hF, hi3, List.take_length]
  have h5 : dZ ⟨S.sz, S.ret, S.pol, most, line⟩ C' := ⟨f2, f3, hN5, by rw [hF3]; omega⟩
  conv => whnf
  exact ⟨.tup [.ptr 3 0, .int .i64 0], BP S ⟨S.sz, S.ret, S.pol, most, line⟩ M C', 5, jJ (M := M) 3 5 (by decide) [(0, .tup [.ptr 3 0, .int .i64 0])] (fun x hx => by
    simp only [List.mem_cons, List.not_mem_nil, or_false] at hx
    subst hx
    exact rp) rfl rfl rfl rfl rfl rfl rfl rfl rfl (ae.rw (by decide) rfl) (.inl ⟨_, rfl, ax _⟩), .inr ⟨_, C', hres, h5, hF3, rfl, rfl, rfl⟩⟩
end Go.Proofs.Ythjggjhebbdkdaa
namespace Go.Proofs.Ythjggjhebbdkdaa
open Go Go.RowKit
section
variable {φ : Ph} {H : AH} {n : Nat} {h0 h : Hp}
theorem HR.KI (hr : HR φ H n h0 h) : ∃ ψ, PLe φ ψ ∧ (∀ B, ¬ ψ.s n B) ∧ HR ψ (H.set (some (.sep (pk []))) aa n) (n + 1) h0 h := by
  have cs : ∀ x o, (H.set (some (.sep (pk []))) aa n).get x = some o → (x = n ∧ o = .sep (pk [])) ∨ (x ≠ n ∧ H.get x = some o) := fun x o hx => by
    rcases PM.ak aa H n x o hx with ⟨h1, h2⟩ | h2
    · injection h2 with h2; exact .inl ⟨h1, h2.symm⟩
    · exact .inr h2
  have hno : φ n = none := by
    cases e : φ n with
    | none => rfl
    | some q => exact absurd (hr.dom n q e).1 (Nat.lt_irrefl _)
  let ψ : Ph := ⟨φ.f, φ.z, φ.y, fun x => if x = n then (fun _ => False) else φ.s x⟩
  have own : ∀ x o q, (H.set (some (.sep (pk []))) aa n).get x = some o → φ x = some q → H.get x = some o := fun x o q hx hq => by
    rcases cs x o hx with ⟨rfl, _⟩ | ⟨_, h3⟩
    · rw [hno] at hq; cases hq
    · exact h3
  have sle : SLe φ ψ := ⟨fun _ _ h => h, fun _ h => h⟩
  refine ⟨ψ, ⟨fun _ _ h => h, fun _ h => h, fun _ h => h⟩, (fun B hB => by have e : ψ.s n = fun _ => False := if_pos rfl; rw [e] at hB; exact hB), ⟨fun x q hx => ⟨by have := (hr.dom x q hx).1; omega, (hr.dom x q hx).2⟩, fun x o hx => ?_, fun x y o o' q q' hx hy ho ho' hq hq' e => hr.inj x y o o' q q' (own x o q hx hq) (own y o' q' hy hq') ho ho' hq hq' e, hr.base, hr.size, fun q hq => ⟨⟨FzR.mono (φ := φ) (ψ := ψ) sle.z (hr.frz q hq).1.1, (hr.frz q hq).1.2⟩, fun x o px hx ho hpx => (hr.frz q hq).2 x o px (own x o px hx hpx) ho hpx⟩, fun x Q2 hx => ?_⟩⟩
  · rcases cs x o hx with ⟨rfl, rfl⟩ | ⟨_, h4⟩
    · exact .inl ⟨hno, rfl⟩
    · rcases hr.live x o h4 with g | ⟨q, ob, g1, g2, g3, g4⟩
      · exact .inl g
      · exact .inr ⟨q, ob, g1, g2, g3, g4.cz sle⟩
  · rcases cs x _ hx with ⟨rfl, h2⟩ | ⟨h1, h4⟩
    · injection h2 with h2; subst h2
      have es : ψ.s x = fun _ => False := if_pos rfl
      rw [es]
      exact ⟨⟨(fun X hX => hX.elim), List.nodup_nil, fun c hc => by cases hc⟩, fun X hX => hX.elim⟩
    · obtain ⟨g0, g⟩ := hr.sep x Q2 h4
      have es : ψ.s x = φ.s x := if_neg h1
      rw [es]
      refine ⟨g0, fun X hX => ?_⟩
      obtain ⟨g1, g2, g3, g4⟩ := g X hX
      refine ⟨g1, fun y o q hy ho hq => g2 y o q (own y o q hy hq) ho hq, g3, fun y Q4 hy hne hs => ?_⟩
      rcases cs y _ hy with ⟨rfl, _⟩ | ⟨q1, q4⟩
      · have : ψ.s y = fun _ => False := if_pos rfl
        rw [this] at hs; exact hs
      · have : ψ.s y = φ.s y := if_neg q1
        rw [this] at hs
        exact g4 y Q4 q4 hne hs
theorem HR.KJ (hr : HR φ H n h0 h) {m : Nat} (hm : n ≤ m) : HR φ H m h0 h := ⟨fun b p e => ⟨Nat.lt_of_lt_of_le (hr.dom b p e).1 hm, (hr.dom b p e).2⟩, hr.live, hr.inj, hr.base, hr.size, hr.frz, hr.sep⟩
theorem Jf {p : Nat × Nat} {S : Sr} {L : Smp} {z : Fz → Prop} {X : Nat → Prop} (hP : (dy p S L).P z X h) : ∃ T, jx h ⟨p.1, p.2, T⟩ (x5 S) ∧ X p.1 ∧ 128 ≤ S.sz ∧ S.sz ≤ 4096 ∧ gQ S := by
  obtain ⟨C, ⟨h5, _⟩, χ, hz, ⟨T, h0⟩, l⟩ := hP
  obtain ⟨_, ⟨q1, _⟩ | ⟨q, ob, q1, q2, c, t, fz, q3, q4, q5, q6, q7, q8⟩⟩ := l.live 0 _ rfl
  · rw [h0] at q1; cases q1
  rw [h0] at q1; injection q1 with q1; subst q1 q3
  refine ⟨T, ⟨c, t, fz, q2, ?_, q5, fun ψ i a hi => ?_⟩, (l.dom 0 _ h0).2, h5.gt.lo, h5.gt.hi, h5.num⟩
  · have q4 : 6 ≤ T := q4
    show 5 ≤ T; omega
  · obtain ⟨v, w1, w2⟩ := q8 i a (by
      match i, hi with
      | 0, hi => exact hi
      | 1, hi => exact hi
      | 2, hi => exact hi
      | 3, hi => exact hi
      | 4, hi => exact hi
      | i + 5, hi => simp at hi)
    refine ⟨v, w1, ?_⟩
    match i, hi with
    | 0, hi => injection hi with hi; subst hi; exact w2
    | 1, hi => injection hi with hi; subst hi; exact w2
    | 2, hi => injection hi with hi; subst hi; exact w2
    | 3, hi => injection hi with hi; subst hi; exact w2
    | 4, hi => injection hi with hi; subst hi; exact w2
    | i + 5, hi => simp at hi
end
noncomputable def rsH (H : AH) (n a : Nat) (S' : Sr) (C' : Ck5) : AH := PM.set (some (bP S' C')) aa (PM.set (some (.cells (bO S' (n + a + 1) (pts C').length) true)) aa (PM.set (some (.cells (aQ (pts C')) true)) aa H (n + a + 1)) (n + a)) (n + 1)
theorem HK {H : AH} {n a x : Nat} {S' : Sr} {C' : Ck5} {o : AO} (hn : n < 800000) (ha : a ≤ 5) (hx : x ≠ n + 1 ∧ x ≠ n + a ∧ x ≠ n + a + 1) (h : PM.get H x = some o) : PM.get (rsH H n a S' C') x = some o := PM.gne (by omega) hx.1 (PM.gne (by omega) hx.2.1 (PM.gne (by omega) hx.2.2 h))
theorem Jg {H : AH} {n a : Nat} {S' : Sr} {C' : Ck5} (hn : n < 800000) (ha : 2 ≤ a ∧ a ≤ 5) : cZ (rsH H n a S' C') (n + a + 2) (n + a) (n + a + 1) (n + 1) S' (pts C') C' :=
  ⟨⟨by omega, by omega, by omega⟩, ⟨by omega, by omega, by omega⟩, PM.gne (by omega) (by omega) (PM.geq (by omega)), PM.gne (by omega) (by omega) (PM.gne (by omega) (by omega) (PM.geq (by omega))), PM.geq (by omega)⟩
def RsK (H : AH) (n a : Nat) (S : Sr) (most line : Int) (M : Smp) : PK := fun v H2 n2 => (dF S most line M = none ∧ v = .tup [.nil, .int .i64 1] ∧ H2 = H ∧ n2 = n + a) ∨ ∃ S' C', dF S most line M = some S' ∧ dZ S' C' ∧ ab C' = M ∧ v = .tup [.ptr (n + a) 0, .int .i64 0] ∧ H2 = rsH (PM.set (some (.sep (pk []))) aa (PM.set (some (.sep .emp)) aa H n) (n + 1)) n a S' C' ∧ n2 = n + a + 2
def KK (H : AH) (w : AV) (M : Smp) : Prop := w = .fr M.length 2 (smp M) ∨ cF H w M
def rq (args : List AV) (H : AH) (n : Nat) (κ : PK) : Prop := match args with
  | [x, y, z, w] => ∃ (b : Nat) (p : Nat × Nat) (S : Sr) (L : Smp) (most line : Int) (M : Smp) (r : Option Sr), x = bW p ∧ b < n ∧ PM.get H b = some (.sep (dy p S L)) ∧ fH H n ∧ fH H (n + 4) ∧ mk y = .si .i64 most ∧ mk z = .si .i64 line ∧ KK H w M ∧ (∀ x ∈ M, aM x.1 ∧ aM x.2) ∧ M.length ≤ 40000 ∧ aM most ∧ aM line ∧ dF S most line M = r ∧ match r with
    | none => κ (.tup [.nil, .int .i64 1]) H (n + 6)
    | some S' => ∀ p2, dD S' M → κ (.tup [bW p2, .int .i64 0]) (PM.set (some (.sep (dy p2 S' M))) aa H n) (n + 6)
  | _ => False
theorem BR {ψ : Ph} {H : AH} {n a : Nat} {h0 : Hp} {κ : PK} {K : KH} {S : Sr} {most line : Int} {M : Smp} (ha : 2 ≤ a ∧ a ≤ 4) (hR : fH H n) (hR2 : fH H (n + 4)) (hk : bV ψ h0 κ K)
    (hs : match dF S most line M with
    | none => κ (.tup [.nil, .int .i64 1]) H (n + 6)
    | some S' => ∀ p2, dD S' M → κ (.tup [bW p2, .int .i64 0]) (PM.set (some (.sep (dy p2 S' M))) aa H n) (n + 6)) : bV ψ h0 (RsK H n a S most line M) K := fun χ v H2 n2 u g hle hg hu hK => by
  have hn := hR.1
  rcases hK with ⟨e0, e1, e2, e3⟩ | ⟨S', C', e0, e1, e2, e3, e4, e5⟩
  · subst e1 e2 e3
    rw [e0] at hs
    exact hk χ _ _ _ u g hle (hg.KJ (by omega)) hu hs
  · subst e3 e4 e5
    rw [e0] at hs
    have hat := Jg (H := PM.set (some (.sep (pk []))) aa (PM.set (some (.sep .emp)) aa H n) (n + 1)) (S' := S') (C' := C') (a := a) hn (by omega)
    obtain ⟨cs, rfl, hc⟩ := hu.dt
    obtain ⟨w, us, q1, e6, r1⟩ := hc.cons_inv
    obtain ⟨pl, f1, f2⟩ := e6.ct
    have eq : pl = ⟨(pl.B, pl.s).1, (pl.B, pl.s).2, pl.T⟩ := rfl
    rw [eq] at f1
    obtain ⟨ω, _, k3, _, hr5⟩ := hg.I6 (O := eG S' (pts C') C') (S := [n + a, n + a + 1, n + 1]) (b := n) (p := (pl.B, pl.s)) (Q := dy (pl.B, pl.s) S' M) (H' := PM.set (some (.sep (dy (pl.B, pl.s) S' M))) aa H n) hat.xf (HK hn (by omega) (by omega) (PM.gne (by omega) (by omega) (PM.geq (by omega)))) (by simp; omega) rfl f1 (fun x o hx => by
      rcases PM.ak aa _ n x o hx with ⟨j1, j2⟩ | ⟨j1, j2⟩
      · injection j2 with j2; exact .inl ⟨j1, j2.symm⟩
      have := hR.ne j2
      have := hR2.ne j2
      exact .inr ⟨j1, by simp; omega, HK hn (by omega) (by omega) (PM.gne (by omega) (by omega) (PM.gne (by omega) j1 j2))⟩) fun z X h hh => ⟨C', ⟨e1, e2⟩, hh⟩
    refine hk ω (.tup [bW (pl.B, pl.s), .int .i64 0]) _ _ _ g (hle.trans k3) (hr5.KJ (by omega)) (.tup ?_) (hs (pl.B, pl.s) ⟨C', e1, e2⟩)
    rw [q1]
    exact .cons (by subst f2; exact rfl) (gu rfl r1)
theorem xk {H' H : AH} {n : Nat} {S : Sr} {most line : Int} {M : Smp} {u : AV} {m : Nat} (hn : n < 800000) (hR : fH H n) (hR2 : fH H (n + 4)) (hq : KC S most line M u H' m) : ∃ m2 H2, [n + 1].length ≤ m2 ∧ cG [n + 1] (n + 2) m2 (PM.set (some (.sep (pk []))) aa (PM.set (some (.sep .emp)) aa H n) (n + 1)) H' H2 ∧ ltV m2 u = true ∧ RsK H n 3 S most line M (ren (bh [n + 1] (n + 2)) u) H2 (n + 2 + (m2 - [n + 1].length)) := by
  rcases hq with ⟨e0, e1, e2, e3⟩ | ⟨S', C', e0, e1, e2, e3, e4, e5⟩
  · subst e1 e2 e3
    refine ⟨2, H, Nat.le_of_ble_eq_true rfl, fun b o hb => .inr ⟨?_, ?_, fun hS => ?_⟩, rfl, .inl ⟨e0, rfl, rfl, rfl⟩⟩
    · have := hR.ne hb
      have := hR2.ne hb
      show b < n + 2 ∨ n + 2 + (2 - 1) ≤ b
      omega
    · have := hR.ne hb
      exact PM.gne (by omega) (by omega) (PM.gne (by omega) (by omega) hb)
    · have := hR.ne hb
      rw [List.mem_singleton] at hS; omega
  · subst e3 e4 e5
    refine ⟨4, rsH (PM.set (some (.sep (pk []))) aa (PM.set (some (.sep .emp)) aa H n) (n + 1)) n 3 S' C', Nat.le_of_ble_eq_true rfl, fun b o hb => ?_, rfl, .inr ⟨S', C', e0, e1, e2, rfl, rfl, rfl⟩⟩
    rcases PM.ak aa _ _ b o hb with ⟨rfl, h2⟩ | ⟨h1, h2⟩
    · injection h2 with h2; subst h2
      exact .inl ⟨0, bP S' C', by decide, rfl, rfl, rfl, rfl, rfl⟩
    rcases PM.ak aa _ _ b o h2 with ⟨rfl, h3⟩ | ⟨h3, h4⟩
    · injection h3 with h3; subst h3
      exact .inl ⟨2, .cells (bO S' 3 (pts C').length) true, by decide, rfl, rfl, rfl, rfl, rfl⟩
    rcases PM.ak aa _ _ b o h4 with ⟨rfl, h5⟩ | ⟨h5, h6⟩
    · injection h5 with h5; subst h5
      exact .inl ⟨3, .cells (aQ (pts C')) true, by decide, rfl, rfl, rfl, kj _ _, by rw [ck, fF]⟩
    refine .inr ⟨?_, h6, fun q => absurd (List.mem_singleton.1 q) h1⟩
    rcases PM.ak aa _ _ b o h6 with ⟨h7, _⟩ | ⟨_, h7⟩
    · exact absurd h7 h1
    rcases PM.ak aa _ _ b o h7 with ⟨h8, _⟩ | ⟨_, h8⟩
    · exact .inl (by omega)
    have := hR.ne h8
    have := hR2.ne h8
    show b < n + 2 ∨ n + 2 + (4 - 1) ≤ b
    omega
theorem xl {H' H : AH} {n : Nat} {S : Sr} {most line : Int} {M : Smp} {u : AV} {m : Nat} (hn : n < 800000) (hR : fH H n) (hR2 : fH H (n + 4)) (hq : KF S most line M u H' m) : ∃ m2 H2, [n + 1].length ≤ m2 ∧ cG [n + 1] (n + 2) m2 (PM.set (some (.sep (pk []))) aa (PM.set (some (.sep .emp)) aa H n) (n + 1)) H' H2 ∧ ltV m2 u = true ∧ RsK H n 4 S most line M (ren (bh [n + 1] (n + 2)) u) H2 (n + 2 + (m2 - [n + 1].length)) := by
  rcases hq with ⟨e0, e1, e2, e3⟩ | ⟨S', C', e0, e1, e2, e3, e4, e5⟩
  · subst e1 e2 e3
    refine ⟨3, H, Nat.le_of_ble_eq_true rfl, fun b o hb => .inr ⟨?_, ?_, fun hS => ?_⟩, rfl, .inl ⟨e0, rfl, rfl, rfl⟩⟩
    · have := hR.ne hb
      have := hR2.ne hb
      show b < n + 2 ∨ n + 2 + (3 - 1) ≤ b
      omega
    · have := hR.ne hb
      exact PM.gne (by omega) (by omega) (PM.gne (by omega) (by omega) hb)
    · have := hR.ne hb
      rw [List.mem_singleton] at hS; omega
  · subst e3 e4 e5
    refine ⟨5, rsH (PM.set (some (.sep (pk []))) aa (PM.set (some (.sep .emp)) aa H n) (n + 1)) n 4 S' C', Nat.le_of_ble_eq_true rfl, fun b o hb => ?_, rfl, .inr ⟨S', C', e0, e1, e2, rfl, rfl, rfl⟩⟩
    rcases PM.ak aa _ _ b o hb with ⟨rfl, h2⟩ | ⟨h1, h2⟩
    · injection h2 with h2; subst h2
      exact .inl ⟨0, bP S' C', by decide, rfl, rfl, rfl, rfl, rfl⟩
    rcases PM.ak aa _ _ b o h2 with ⟨rfl, h3⟩ | ⟨h3, h4⟩
    · injection h3 with h3; subst h3
      exact .inl ⟨3, .cells (bO S' 4 (pts C').length) true, by decide, rfl, rfl, rfl, rfl, rfl⟩
    rcases PM.ak aa _ _ b o h4 with ⟨rfl, h5⟩ | ⟨h5, h6⟩
    · injection h5 with h5; subst h5
      exact .inl ⟨4, .cells (aQ (pts C')) true, by decide, rfl, rfl, rfl, kj _ _, by rw [ck, fF]⟩
    refine .inr ⟨?_, h6, fun q => absurd (List.mem_singleton.1 q) h1⟩
    rcases PM.ak aa _ _ b o h6 with ⟨h7, _⟩ | ⟨_, h7⟩
    · exact absurd h7 h1
    rcases PM.ak aa _ _ b o h7 with ⟨h8, _⟩ | ⟨_, h8⟩
    · exact .inl (by omega)
    have := hR.ne h8
    have := hR2.ne h8
    show b < n + 2 ∨ n + 2 + (5 - 1) ≤ b
    omega
theorem GJ : aF 19 rq := fun args H n κ hs φ h0' hp vs K hr hargs hk => by
  unfold rq at hs
  split at hs
  · obtain ⟨b, p, S, L, most, line, M, r, rfl, hbn, hb, hR, hR2, hy, hz, hw, hM, hl, hmo, hli, hres, hs⟩ := hs
    subst hres
    have hn := hR.1
    obtain ⟨w1, us1, q1, e1, r1⟩ := hargs.cons_inv
    obtain ⟨w2, us2, q2, e2, r2⟩ := r1.cons_inv
    obtain ⟨w3, us3, q3, e3, r3⟩ := r2.cons_inv
    obtain ⟨w4, us4, q4, e4, r4⟩ := r3.cons_inv
    have e1 : w1 = oW p := e1
    subst e1
    have hvs : vs.toList = [oW p, w2, w3, w4] := by rw [q1, q2, q3, q4, r4.aW]
    obtain ⟨T, hro, hX, s1, s2, s3⟩ := Jf (hr.sep b _ hb).1
    obtain ⟨ψ1, l1, hr1⟩ := hr.hole
    obtain ⟨ψ2, l2, hno, hr2⟩ := hr1.KI
    have hh : fO (PM.set (some (.sep (pk []))) aa (PM.set (some (.sep .emp)) aa H n) (n + 1)) (n + 2) [n + 1] [bP S []] := ⟨by simp, rfl, fun i s o h1 h2 => by
      match i, h1, h2 with
      | 0, h1, h2 => injection h1 with h1; injection h2 with h2; subst h1 h2; exact ⟨by omega, PM.geq (by omega), .inr rfl⟩⟩
    have hng : ∀ B, ¬ rJ ψ2 [n + 1] [bP S []] B := fun B q => by
      rcases q with ⟨i, s, o, pl, g1, g2, g3, g4, _⟩ | ⟨i, s, Q, g1, g2, g3⟩
      · match i, g1, g2 with
        | 0, g1, g2 =>
          injection g1 with g1; subst g1
          rw [hr2.my (PM.geq (by omega))] at g4; cases g4
      · match i, g1 with
        | 0, g1 => injection g1 with g1; subst g1; exact hno B g3
    have hk2 : bV ψ2 h0' κ K := fun χ v H2 n2 u g hle hg hu hκ => hk χ v H2 n2 u g ((l1.trans l2).trans hle) hg hu hκ
    have hth := fun (a : Nat) (ha : 2 ≤ a ∧ a ≤ 4) => BR (a := a) ha hR hR2 hk2 hs
    have hF : VR ψ2 (.fr M.length 2 (smp M)) w4 → cL Try.prog _ vs hp K := fun hv => by
      refine rn (S := [n + 1]) (O := [bP S []]) (R := [(⟨p.1, p.2, T⟩, x5 S)]) (args0 := [.ptr 1 0, .si .i64 most, .si .i64 line, .fr M.length 2 (smp M)]) (aB uL 5 _).cf (by kernel_rfl) hr2 hh (fun r hr3 => ?_) (fun ψ hψ hpl => ?_) (hth 3 (by decide)) (BO S most line M s1 s2 s3 hM hl hmo hli) fun u H' n' hq => ?_
      · rw [List.mem_singleton.1 hr3]; exact ⟨hro, hng _⟩
      · rw [hvs]
        refine .cons (VR.mz (hpl 0 _ rfl)) (.cons (aA rfl (hy ▸ e2.mk)) (.cons (aA rfl (hz ▸ e3.mk)) (.cons ?_ .nil)))
        exact m3 hψ.z rfl hv
      · exact xk hn hR hR2 hq
    rcases hw with rfl | hw
    · exact hF (VR.mono (l1.trans l2) _ _ e4)
    · rcases hw.open hr e4 with ⟨rfl, hv⟩ | ⟨pr, cp, hcp, hro2, hv⟩
      · exact hF (by rw [(hv ψ2).cg]; exact VR.fre fun _ => rfl)
      · refine rn (S := [n + 1]) (O := [bP S []]) (R := [(⟨p.1, p.2, T⟩, x5 S), (pr, smp M)]) (args0 := [.ptr 1 0, .si .i64 most, .si .i64 line, .sy 2 0 M.length cp 0]) (aB uL 5 _).cf (by kernel_rfl) hr2 hh (fun r hr3 => ?_) (fun ψ hψ hpl => ?_) (hth 4 (by decide)) (BQ S most line M cp s1 s2 s3 hM hl hmo hli) fun u H' n' hq => ?_
        · simp only [List.mem_cons, List.not_mem_nil, or_false] at hr3
          rcases hr3 with rfl | rfl
          · exact ⟨hro, hng _⟩
          · exact ⟨hro2, hng _⟩
        · rw [hvs]
          exact .cons (VR.mz (hpl 0 _ rfl)) (.cons (aA rfl (hy ▸ e2.mk)) (.cons (aA rfl (hz ▸ e3.mk)) (.cons (hv _ 2 (hpl 1 _ rfl)) .nil)))
        · exact xl hn hR hR2 hq
  · exact hs.elim
end Go.Proofs.Ythjggjhebbdkdaa
namespace Go.Proofs.Ythjggjhebbdkdaa
open Go Go.RowKit
structure LnI (X : Sr) (L : Smp) : Prop where
  ok : dD X L
  fl : X.fl = aR X
  lt : aR X < 1099511627776
  up : ∀ x ∈ L, aR X ≤ x.1
theorem lO (X : Sr) : aR { X with fl := aR X } = aR X := by
  unfold aR
  dsimp only
  by_cases h : X.ret = 0
  · rw [if_pos h, if_pos h]
  · rw [if_neg h, if_neg h]; omega
theorem Jh {X : Sr} {L : Smp} (hp : ∀ x ∈ L, 0 ≤ x.1) (hlt : aR X < 1099511627776) (hok : dD (gR X L).1 (gR X L).2) : LnI (gR X L).1 (gR X L).2 :=
  ⟨hok, (lO X).symm, by show aR { X with fl := aR X } < _; rw [lO]; exact hlt, fun x hx => by
    show aR { X with fl := aR X } ≤ _
    rw [lO]
    obtain ⟨h1, h2⟩ := lL.1 hx
    have := hp x h1
    omega⟩
section
variable {X : Sr} {L : Smp}
theorem LnI.pos (h : LnI X L) : ∀ x ∈ L, 0 ≤ x.1 := fun x hx => (h.ok.bS x hx).1.1
theorem LnI.Ji (h : LnI X L) : 0 ≤ aR X := h.ok.num.line.1
theorem LnI.del (h : LnI X L) {a b : Int} {L' : Smp} (e : aS L a b = L') (hk : dD X L') : LnI X L' := by
  subst e
  exact ⟨hk, h.fl, h.lt, fun x hx => h.up x (lL.1 hx).1⟩
end
end Go.Proofs.Ythjggjhebbdkdaa
namespace Go.Proofs.Ythjggjhebbdkdaa
open Go Go.RowKit
def bt (S : Sr) (L : Smp) (K T V P : Int) : (Sr × Smp) × Int := if K = 0 then gS S L T V P else if K = 2 then kl S L T P else ((S, aS L T V), ((L.length - (aS L T V).length : Nat) : Int))
theorem lP (S : Sr) (L : Smp) (K T V P : Int) : (bt S L K T V P).1.2.length ≤ L.length + 1 := by
  unfold bt
  split
  · exact xb S L T V P
  · split
    · exact Nat.le_succ_of_le (xc S L T P)
    · exact Nat.le_succ_of_le (jE L T V)
def rr (args : List AV) (H : AH) (n : Nat) (κ : PK) : Prop := match args with
  | [x, y] => ∃ (b : Nat) (p : Nat × Nat) (S : Sr) (L : Smp) (K T V P : Int) (S' : Sr) (L' : Smp) (e : Int), x = bW p ∧ y = .agg [.si .i64 K, .si .i64 T, .si .i64 V, .si .i64 P] ∧ b < n ∧ PM.get H b = some (.sep (dy p S L)) ∧ aM V ∧ L.length ≤ 40000 ∧ bt S L K T V P = ((S', L'), e) ∧ (dD S' L' → κ (.si .i64 e) (PM.set (some (.sep (dy p S' L'))) aa H b) n)
  | _ => False
noncomputable def KM : FuncId → EP := bK 23 [] KSq
theorem GK : bG KM := aL yG (by kernel_rfl) (by kernel_rfl)
def PlP (p : Nat × Nat) (S' : Sr) (L' : Smp) (e : Int) : PK := fun u H' _ => u = .si .i64 e ∧ dD S' L' ∧ PM.get H' 0 = some (.sep (dy p S' L'))
theorem BS (p : Nat × Nat) (S : Sr) (L : Smp) (K T V P : Int) (S' : Sr) (L' : Smp) (e : Int) (hV : aM V) (hl : L.length ≤ 40000) (hp : bt S L K T V P = ((S', L'), e)) : az KM 4 23 [bW p, .agg [.si .i64 K, .si .i64 T, .si .i64 V, .si .i64 P]] (mkH [(0, .sep (dy p S L))]) 1 (PlP p S' L' e) := by
  have h0 : K = 0 → gS S L T V P = ((S', L'), e) := fun q => by unfold bt at hp; rw [if_pos q] at hp; exact hp
  have h2 : ¬ K = 0 → K = 2 → kl S L T P = ((S', L'), e) := fun q q2 => by unfold bt at hp; rw [if_neg q, if_pos q2] at hp; exact hp
  have h3 : ¬ K = 0 → ¬ K = 2 → S = S' ∧ aS L T V = L' ∧ ((L.length - (aS L T V).length : Nat) : Int) = e := fun q q2 => by
    unfold bt at hp; rw [if_neg q, if_neg q2] at hp
    injection hp with e1 e2
    injection e1 with e3 e4
    exact ⟨e3, e4, e2⟩
  conv => whnf
  refine ag.dec (fun k0 => ?_) (fun k0 => ?_)
  focus
    conv => whnf
    refine ⟨0, p, S, L, T, V, P, S', L', e, rfl, by decide, rfl, ⟨by decide, rfl, rfl, rfl, rfl⟩, ⟨_, _, rfl, rfl, rfl⟩, rfl, hV, hl, h0 k0, fun hk => ?_⟩
    conv => whnf
    exact ⟨rfl, hk, rfl⟩
  conv => whnf
  refine ag.dec (fun k2 => ?_) (fun k2 => ?_)
  focus
    conv => whnf
    refine ⟨0, p, S, L, T, P, S', L', e, rfl, by decide, rfl, ⟨by decide, rfl, rfl, rfl, rfl⟩, rfl, rfl, hl, h2 k0 k2, fun hk => ?_⟩
    conv => whnf
    exact ⟨rfl, hk, rfl⟩
  obtain ⟨rfl, rfl, rfl⟩ := h3 k0 k2
  conv => whnf
  refine ⟨0, p, S, L, T, V, aS L T V, _, rfl, by decide, rfl, ⟨by decide, rfl, rfl, rfl, rfl⟩, rfl, rfl, hl, rfl, rfl, fun hk => ?_⟩
  conv => whnf
  exact ⟨rfl, hk, rfl⟩
theorem EZ {H H' : AH} {b n : Nat} {Q : HP} (hb : b < n) (hg : PM.get H' 0 = some (.sep Q)) : cG [b] n 1 H H' (PM.set (some (.sep Q)) aa H b) := fun x o hx => by
  rcases PM.ak aa H b x o hx with ⟨rfl, h2⟩ | ⟨h1, h2⟩
  · injection h2 with h2; subst h2
    exact .inl ⟨0, .sep Q, by decide, rfl, hg, rfl, rfl, rfl⟩
  · refine .inr ⟨?_, h2, fun q => absurd (List.mem_singleton.1 q) h1⟩
    show x < n ∨ n + 0 ≤ x
    omega
theorem GL : aF 23 rr := fun args H n κ hs φ h0' hp vs K hr hargs hk => by
  unfold rr at hs
  split at hs
  · obtain ⟨b, p, S, L, K', T, V, P, S', L', e, rfl, rfl, hbn, hb, hV, hl, hpl, hs⟩ := hs
    obtain ⟨w1, us1, q1, e1, r1⟩ := hargs.cons_inv
    obtain ⟨w2, us2, q2, e2, r2⟩ := r1.cons_inv
    refine cw (S := [b]) (O := [.sep (dy p S L)]) (args0 := [bW p, .agg [.si .i64 K', .si .i64 T, .si .i64 V, .si .i64 P]]) (aB GK 4 _) (by kernel_rfl) hr (jo hbn hb (.inr rfl)) ?_ hk (BS p S L K' T V P S' L' e hV hl hpl) fun u H' n' ⟨g1, g2, g3⟩ => ?_
    · rw [q1, q2, r2.aW]
      refine .cons e1 (.cons ?_ .nil)
      obtain ⟨cs, rfl, hc⟩ := e2.eJ
      exact .agg (gu rfl hc)
    · subst g1
      exact ⟨1, _, Nat.le_refl _, EZ hbn g3, rfl, hs g2⟩
  · exact hs.elim
noncomputable def Jj : FuncId → EP := bK 22 [] (cq 54 (sQ EB) (cq 53 (dC yA) evP))
theorem GM : bG Jj := aL (aY (aY bd yB (iN _)) HI (EA _)) (by kernel_rfl) (by kernel_rfl)
abbrev who (S : Sr) (C : Ck5) (i : Nat) : List (Nat × AV) := [(0, .ptr 0 0), (1, .si .i64 (S.sz : Int)), (5, .rw 3 0 (dU C).length 1 0), (6, .si .i64 (i : Int))]
theorem pD {H : AH} {σ : AE} {S : Sr} {C : Ck5} {i : Nat} (e0 : ay (pa 0) σ = .ptr 0 0) (e1 : mk (ay (pa 1) σ) = .si .i64 (S.sz : Int)) (e5 : ay (pa 5) σ = .rw 3 0 (dU C).length 1 0) (e6 : mk (ay (pa 6) σ) = .si .i64 (i : Int)) : ∀ x ∈ who S C i, ae H 4 (fun c => if c = 3 then 3 else c) (ay (pa x.1) σ) x.2 := fun x hx => by
  simp only [List.mem_cons, List.not_mem_nil, or_false] at hx
  rcases hx with rfl | rfl | rfl | rfl
  · exact ae.ptr (by decide) e0
  · exact ae.int e1
  · exact ae.rw (by decide) e5
  · exact ae.int e6
theorem Jk {S : Sr} {C : Ck5} (h : dZ S C) {i : Nat} (hi : i < C.length) : 1 ≤ usd C[i].2 ∧ usd C[i].2 ≤ S.sz := by
  have h1 := lK C[i].2
  have h2 := h.gt.fit _ (List.getElem_mem hi)
  have h3 := h.gt.all _ (List.getElem_mem hi)
  have h4 : 128 ≤ (aU C[i].2).length := by
    have h5 : 0 < C[i].2.length := List.length_pos_iff.2 h3
    have h6 := (gy C[i].2 0).2.2 rfl
    have mono : ∀ (X : Smp) (k j : Nat), (aE X k).length ≤ (aE X (k + j)).length := fun X k j => by
      induction j with
      | zero => exact Nat.le_refl _
      | succ j ih =>
        have e5 : aE X (k + (j + 1)) = aE X (k + j) ++ bM X (k + j) := rfl
        rw [e5, List.length_append]; omega
    have h7 := mono C[i].2 1 (C[i].2.length - 1)
    have h8 : aE C[i].2 1 = [] ++ bM C[i].2 0 := rfl
    rw [h8, List.nil_append, h6, show 1 + (C[i].2.length - 1) = C[i].2.length by omega] at h7
    exact h7
  omega
theorem BT (S : Sr) (C : Ck5) (h5 : dZ S C) : cf (az Jj 5 22) [.ptr 0 0, .si .i64 (S.sz : Int)] (mkH (eu (eG S (pts C) C) 0)) 3 (RoP (fun u => u = .sb true) S (pts C) C) := by
  have hO := h5.okc
  have hfew := h5.few
  have hlC := h5.gt.few
  have hgu : ∀ (i : Nat) (h : i < (dU C).length), (dU C)[i] = ((usd (C[i]'(by rw [gT] at h; exact h)).2 : Nat) : Int) := fun i h => by simp only [dU, List.getElem_map]
  have hul := gT C
  show az Jj 5 _ _ _ _ _
  conv => whnf
  refine ⟨0, 1, 2, S, C, dU C, rfl, ⟨⟨by decide, by decide, by decide⟩, ⟨by decide, by decide, by decide⟩, rfl, rfl, rfl⟩, ⟨by decide, rfl⟩, ⟨hO, rfl⟩, ?_⟩
  conv => whnf
  refine bg.mk { i : Nat // i ≤ C.length } 4 (fun i => (mkE (who S C i.val), csM S C (dU C))) (fun i => C.length - i.val) ⟨0, Nat.zero_le _⟩ ?_ ?_
  focus
    exact ri 3 _ (Nat.le_refl _) (pD rfl rfl rfl rfl) rfl rfl rfl (.inl ⟨_, rfl, jy _⟩)
  intro ⟨i, hi⟩
  have hw : IntKind.i64.wrap ((i : Int) + 1) = ((i + 1 : Nat) : Int) := by rw [al (by omega) (by omega)]; omega
  conv => whnf
  refine ag.dec (fun h => ?_) (fun h => ?_)
  focus
    have h2 : i < C.length := by
      have h : (i : Int) < ((dU C).length : Int) := h
      omega
    have h2u : i < (dU C).length := by omega
    obtain ⟨u1, u2⟩ := Jk h5 h2
    have n1 : ¬ (dU C)[i] < 1 := by rw [hgu]; omega
    have n2 : ¬ (S.sz : Int) < (dU C)[i] := by rw [hgu]; omega
    conv => whnf
    refine Idx.mk i rfl h2u ?_
    conv => whnf
    refine ao (nf h2u (show 0 + i * 1 = i by omega)) ?_
    conv => whnf
    refine ag.dec (fun z => absurd z n1) (fun _ => ?_)
    conv => whnf
    refine Idx.mk i rfl h2u ?_
    conv => whnf
    refine ao (nf h2u (show 0 + i * 1 = i by omega)) ?_
    conv => whnf
    refine ag.dec (fun z => absurd z n2) (fun _ => ?_)
    conv => whnf
    refine ag.dec (fun hp => ?_) (fun hp => ?_)
    focus
      have hp2 : 0 < i := by have hp : (0 : Int) < (i : Int) := hp; omega
      have hm1 : IntKind.i64.wrap ((i : Int) - 1) = ((i - 1 : Nat) : Int) := by rw [al (by omega) (by omega)]; omega
      have h3u : i - 1 < (dU C).length := by omega
      have hwh : IntKind.i64.wrap (4 * (dU C)[i]) < (S.sz : Int) → ¬ IntKind.i64.wrap (4 * (dU C)[i - 1]) < (S.sz : Int) := fun z1 z2 => by
        rw [hgu] at z1 z2
        have := h5.wh (i - 1) (by omega) (by omega)
        refine this ⟨z2, ?_⟩
        have e : i - 1 + 1 = i := by omega
        have e2 : C[i - 1 + 1]'(by omega) = C[i] := by congr 1
        rw [e2]; exact z1
      conv => whnf
      refine Idx.mk i rfl h2u ?_
      conv => whnf
      refine ao (nf h2u (show 0 + i * 1 = i by omega)) ?_
      conv => whnf
      refine ag.dec (fun z => ?_) (fun z => ?_)
      focus
        conv => whnf
        refine Idx.mk (i - 1) hm1 h3u ?_
        conv => whnf
        refine ao (nf h3u (show 0 + (i - 1) * 1 = i - 1 by omega)) ?_
        conv => whnf
        refine ag.dec (fun z2 => absurd z2 (hwh z)) (fun _ => ?_)
        conv => whnf
        exact ⟨⟨i + 1, h2⟩, by show C.length - (i + 1) < C.length - i; omega, ri 3 _ (Nat.le_refl _) (pD rfl rfl rfl (congrArg (AV.si .i64) hw)) rfl rfl rfl (.inl ⟨_, rfl, jy _⟩)⟩
      conv => whnf
      exact ⟨⟨i + 1, h2⟩, by show C.length - (i + 1) < C.length - i; omega, ri 3 _ (Nat.le_refl _) (pD rfl rfl rfl (congrArg (AV.si .i64) hw)) rfl rfl rfl (.inl ⟨_, rfl, jy _⟩)⟩
    conv => whnf
    exact ⟨⟨i + 1, h2⟩, by show C.length - (i + 1) < C.length - i; omega, ri 3 _ (Nat.le_refl _) (pD rfl rfl rfl (congrArg (AV.si .i64) hw)) rfl rfl rfl (.inl ⟨_, rfl, jy _⟩)⟩
  have hb : (decide ((0 : Int) < ((dU C).length : Int)) == decide ((0 : Int) < ((ab C).length : Int))) = true := by
    have : ((0 : Int) < ((dU C).length : Int)) ↔ ((0 : Int) < ((ab C).length : Int)) := by
      rw [hul]
      constructor
      · intro q; omega
      · intro q
        by_cases hC : C = []
        · subst hC; exact absurd q (by decide)
        · have := List.length_pos_iff.2 hC; omega
    have e2 : decide ((0 : Int) < ((dU C).length : Int)) = decide ((0 : Int) < ((ab C).length : Int)) := decide_eq_decide.2 this
    rw [e2]; simp
  conv => whnf
  refine ⟨0, 1, 2, S, C, .si .i64 ((ab C).length : Int), rfl, ⟨⟨by decide, by decide, by decide⟩, ⟨by decide, by decide, by decide⟩, rfl, rfl, rfl⟩, ⟨rfl, hO, by omega, rfl⟩, ?_⟩
  conv => whnf
  exact jF _ (congrArg AV.sb hb) (VTo.mk5 rfl) (fun φ ψ w h => h) rfl rfl rfl
def KO (S : Sr) (C : Ck5) (ar : List AV) (v : AV) : Prop := ∃ y, ar = [y] ∧ mk y = .si .i64 (S.sz : Int) ∧ dZ S C ∧ v = .sb true
theorem E0 : aF 22 (dC KO) := fG (aB GM 5 _) (by kernel_rfl) fun S C ar v ⟨y, h1, h2, h3, h4⟩ => by
  subst h1 h4
  exact ⟨[.si .i64 (S.sz : Int)], fun φ vs => ur h2, fun _ => rfl, ⟨fun _ => rfl, rfl⟩, BT S C h3⟩
def KQ (S : Sr) (_ : Smp) (ar : List AV) (v : AV) : Prop := ∃ y, ar = [y] ∧ mk y = .si .i64 (S.sz : Int) ∧ v = .sb true
theorem E1 : aF 22 (ff KQ) := gU E0 fun S C L ar v h5 _ ⟨y, h1, h2, h3⟩ => ⟨y, h1, h2, h5, h3⟩
end Go.Proofs.Ythjggjhebbdkdaa
namespace Go.Proofs.Ythjggjhebbdkdaa
open Go Go.RowKit
def xm (args : List AV) (H : AH) (n : Nat) (κ : PK) : Prop := match args with
  | [x] => ∃ L, cF H x L ∧ L.length ≤ 1000000 ∧ (n < 900000 ∧ PM.get H n = none ∧ PM.get H (n + 1) = none) ∧ κ (.rw (n + 1) 0 L.length 2 0) (PM.set (some (.cells (smp L.reverse) true)) aa H (n + 1)) (n + 2)
  | _ => False
theorem Jl : iW xm := fun args H n κ hs => by
  unfold xm at *
  split at hs
  · obtain ⟨L, h1, h2, h3, h4⟩ := hs
    exact ⟨_, _, _, h4, fun b o hb => PM.gne (by omega) (fun e => by rw [e, h3.2.2] at hb; cases hb) hb, Nat.le_add_right _ _, fun κ' h => ⟨L, h1, h2, h3, h⟩⟩
  · exact hs.elim
noncomputable def KTn : FuncId → EP := bK 17 [] evP
theorem E2 : bG KTn := aL bd (by kernel_rfl) (by kernel_rfl)
noncomputable def Jm (L : Smp) (cap k : Nat) : AE × AH := (mkE [(0, .sy 0 0 L.length cap 0), (3, .rw 1 0 (L.length - k) 2 0), (4, .si .i64 (((k : Nat) : Int) - 1))], mkH [(0, .ro (smp (L))), (1, .cells (smp ((L.drop k).reverse)) true)])
theorem xn {L : Smp} {cap k : Nat} {p n : Nat} {σ : AE} {H : AH} (j1 : Nat) (hj : j1 ≠ 0) (hp : p ≤ 1) (e0 : mk (ay (pa 0) σ) = .sy 0 0 L.length cap 0) (e3 : ae H 2 (fun b => if b = 1 then j1 else b) (ay (pa 3) σ) (.rw 1 0 (L.length - k) 2 0)) (e4 : mk (ay (pa 4) σ) = .si .i64 (((k : Nat) : Int) - 1)) (h0 : H.get 0 = some (.ro (smp (L)))) (h1 : (∃ l, H.get j1 = some (.cells l true) ∧ l.map mk = smp ((L.drop k).reverse)) ∨ (((L.drop k).reverse) = [] ∧ n ≤ j1)) : Cov p σ H n ((Jm L cap k).1, (Jm L cap k).2, 2) := by
  refine Cov.ofR (fun b => if b = 1 then j1 else b) (by omega) (fun b hb => by repeat' rw [if_neg (by omega)]) ?_ ?_ ?_
  · intro x hx
    simp only [List.mem_cons, List.not_mem_nil, or_false] at hx
    rcases hx with rfl | rfl | rfl
    · exact .sy (by decide) e0
    · exact e3
    · exact .int e4
  · intro x hx
    simp only [List.mem_cons, List.not_mem_nil, or_false] at hx
    rcases hx with rfl | rfl
    · exact ⟨by simp, .inl ⟨_, h0, aO.k9 (ba _) rfl⟩⟩
    · exact ⟨by simp, h1.elim (fun ⟨l, h, g⟩ => .inl ⟨_, h, aO.bz (ba _) (by rw [g, aV]) (fun q => q)⟩) (fun h => .inr ⟨by rw [h.1]; rfl, h.2⟩)⟩
  · intro x hx y hy
    simp only [List.mem_cons, List.not_mem_nil, or_false] at hx hy
    rcases hx with rfl | rfl <;> rcases hy with rfl | rfl <;> simp <;> omega
def TnP (L : Smp) : PK := fun u H' m => u = .rw 1 0 L.length 2 0 ∧ m = 2 ∧ PM.get H' 1 = some (.cells (smp L.reverse) true)
theorem yI (L : Smp) (cap : Nat) (hL : L.length ≤ 1000000) : cf (az KTn 3 17) [.sy 0 0 L.length cap 0] (mkH [(0, .ro (smp L))]) 1 (TnP L) := by
  have hlw : IntKind.i64.wrap ((L.length : Int) - 1) = (L.length : Int) - 1 := al (by omega) (by omega)
  show az KTn 3 _ _ _ _ _
  conv => whnf
  refine bg.mk { k : Nat // k ≤ L.length } 2 (fun k => Jm L cap k.val) (fun k => k.val) ⟨L.length, Nat.le_refl _⟩ ?_ ?_
  focus
    exact xn (k := L.length) 1 (by decide) (Nat.le_refl _) rfl (ae.ky rfl (Nat.sub_self _)) (congrArg (AV.si .i64) hlw) rfl (.inr ⟨by rw [List.drop_length]; rfl, Nat.le_refl _⟩)
  intro ⟨k, hk⟩
  conv => whnf
  refine ag.dec (fun h => ?_) (fun h => ?_)
  focus
    obtain ⟨j, rfl⟩ : ∃ j, k = j + 1 := by
      have h : (0 : Int) ≤ (k : Int) - 1 := h
      exact ⟨k - 1, by omega⟩
    have hj : j < L.length := by omega
    have hix : ((j + 1 : Nat) : Int) - 1 = (j : Int) := by omega
    have hw : IntKind.i64.wrap (((j + 1 : Nat) : Int) - 1 - 1) = (j : Int) - 1 := by rw [al (by omega) (by omega)]; omega
    have hrev : (L.drop j).reverse = (L.drop (j + 1)).reverse ++ [L[j]] := by rw [List.drop_eq_getElem_cons hj, List.reverse_cons]
    have hM : (smp (L.drop (j + 1)).reverse ++ [AV.si .i64 L[j].1, .si .i64 L[j].2]).map mk = smp (L.drop j).reverse := by rw [hrev, ki, List.map_append, aV]; rfl
    have hlen : (smp (L.drop (j + 1)).reverse).length = (L.length - (j + 1)) * 2 := by rw [aG, List.length_reverse, List.length_drop]
    have hln : L.length - (j + 1) + 1 = L.length - j := by omega
    conv => whnf
    refine Idx.mk j hix hj ?_
    conv => whnf
    refine ao (bT hj (show 0 + j * 2 = j * 2 from Nat.zero_add _)) ?_
    conv => whnf
    refine fk.grow 2 16 1 (L.length - (j + 1)) [.si .i64 L[j].1, .si .i64 L[j].2] (smp (L.drop (j + 1)).reverse) _ true oY (.old rfl) rfl rfl (.rw rfl (cD hlen)) (by omega) ?_
    conv => whnf
    exact ⟨⟨j, by omega⟩, Nat.lt_succ_self j, xn 3 (by decide) (Nat.le_refl _) rfl (ae.rw (by decide) (congrArg (fun m => AV.rw 3 0 m 2 0) hln)) (congrArg (AV.si .i64) hw) rfl (.inl ⟨_, rfl, hM⟩)⟩
  have h0 : k = 0 := by
    have h : ¬ (0 : Int) ≤ (k : Int) - 1 := h
    omega
  subst h0
  conv => whnf
  refine ⟨.rw 1 0 L.length 2 0, mkH [(0, .ro (smp L)), (1, .cells (smp L.reverse) true)], 2, ?_, rfl, rfl, rfl⟩
  refine Cov.ofR (m := 2) (p := 1) (fun c => c) (by decide) (fun b hb => rfl) (fun x hx => ?_) (fun x hx => ?_) (fun x hx y hy e => e)
  · simp only [List.mem_cons, List.not_mem_nil, or_false] at hx
    subst hx
    exact ae.rw (by decide) rfl
  · simp only [List.mem_cons, List.not_mem_nil, or_false] at hx
    rcases hx with rfl | rfl
    · exact ⟨Nat.le_of_ble_eq_true rfl, .inl ⟨_, rfl, aO.k9 (ba _) rfl⟩⟩
    · exact ⟨Nat.le_of_ble_eq_true rfl, .inl ⟨_, rfl, aO.bz (ba _) (by rw [List.drop_zero]) id⟩⟩
theorem yJ : az KTn 3 17 [.nsl] .nil 0 fun u _ _ => u = .nsl := by
  conv => whnf
  refine bg.roll 1 ?_
  conv => whnf
  rfl
theorem E3 : aF 17 xm := fun args H n κ hs φ h0' hp vs K hr hargs hk => by
  unfold xm at hs
  split at hs
  · obtain ⟨L, hS, hL, hn, hs⟩ := hs
    obtain ⟨w1, us1, q1, e1, r1⟩ := hargs.cons_inv
    rcases hS.open hr e1 with ⟨rfl, hv⟩ | ⟨p, C, _, hro, hv⟩
    · refine cw (S := []) (O := []) (args0 := [.nsl]) (aB E2 3 _) (by kernel_rfl) hr ⟨List.nodup_nil, rfl, fun i s o h => by simp at h⟩ (by rw [q1, r1.aW]; exact .cons (hv _) .nil) (κ := fun v H2 n2 => v = .nsl ∧ H2 = H ∧ n2 = n) ?_ yJ fun u H' n' g => ?_
      · intro χ v H2 n2 u g hle hg hu ⟨g1, g2, g3⟩
        subst g1 g2 g3
        have h2 := (hg.ng (o := .cells [] true) rfl).ng (o := .cells [] true) rfl
        refine hk χ (.rw (n2 + 1) 0 0 2 0) _ (n2 + 2) u g hle (h2.less fun x o hx => ?_) (by rw [hu.cg]; exact .rwn) hs
        rcases PM.ak aa H2 (n2 + 1) x o hx with ⟨rfl, e⟩ | ⟨e1, e2⟩
        · exact (PM.geq (by omega)).trans e
        · exact PM.gne (by omega) e1 (PM.gne (by omega) (fun q => by rw [q, hn.2.1] at e2; cases e2) e2)
      · subst g
        exact ⟨0, H, Nat.le_refl _, cG.same fun i s o h3 => by simp at h3, rfl, rfl, rfl, rfl⟩
    · refine rn (S := []) (O := []) (R := [(p, smp L)]) (args0 := [.sy 0 0 L.length C 0]) (aB E2 3 _).cf (by kernel_rfl) hr ⟨List.nodup_nil, rfl, fun i s o h => by simp at h⟩ (fun r hr2 => ?_) (fun ψ _ h => by rw [q1, r1.aW]; exact .cons (hv _ 0 (h 0 _ rfl)) .nil) hk (yI L C hL) fun u H' n' ⟨g1, g2, g3⟩ => ?_
      · rw [List.mem_singleton.1 hr2]
        refine ⟨hro, fun q => ?_⟩
        rcases q with ⟨i, s, o, pl, h, _⟩ | ⟨i, s, Q, h, _⟩ <;> simp at h
      · subst g1 g2
        refine ⟨2, PM.set (some (.cells (smp L.reverse) true)) aa H (n + 1), by decide, fun b o hb => ?_, rfl, hs⟩
        rcases PM.ak aa H (n + 1) b o hb with ⟨rfl, h2⟩ | ⟨h1, h2⟩
        · injection h2 with h2; subst h2
          exact .inl ⟨1, .cells (smp L.reverse) true, by decide, rfl, g3, rfl, mM _ _, by rw [ck, il]⟩
        · have : b ≠ n := fun q => by rw [q, hn.2.1] at h2; cases h2
          exact .inr ⟨by show b < n ∨ n + 2 ≤ b; omega, h2, fun q => by cases q⟩
  · exact hs.elim
theorem im (L : Smp) : (smp L).all mf = true := by
  induction L with
  | nil => rfl
  | cons c L ih => exact ih
end Go.Proofs.Ythjggjhebbdkdaa
namespace Go.Proofs.Ythjggjhebbdkdaa
open Go Go.RowKit
def iO (S : Sr) (k : Nat) (L : Smp) : List AV := [.si .i64 S.ret, .si .i64 S.pol, .si .i64 S.mx, .si .i64 S.fl, .rw k 0 L.length 2 0]
abbrev kA : List AV := [.int .i64 40, .int .i64 3, .int .i64 (-1), .int .i64 0, .nsl]
abbrev S40 : Sr := ⟨128, 40, 3, -1, 0⟩
def KR : DT := [(8, [(some 1000000, [3, 10, 3, 12, 7, 10, 7, 12]), (none, [0, 1, 2, 3, 4, 5, 6, 7, 8, 9, 10, 11, 12, 13, 14, 15, 16]), (none, [0, 1, 2, 3, 4, 5, 6, 8, 9, 10, 7, 11, 12, 13, 14, 15, 16]), (none, [0, 1, 2, 3, 4, 5, 6, 8, 9, 10, 11, 12, 7, 13, 14, 15, 16]), (none, [0, 1, 2, 4, 5, 6, 7, 8, 9, 10, 3, 11, 12, 13, 14, 15, 16]), (none, [0, 1, 2, 4, 5, 6, 8, 9, 10, 3, 7, 11, 12, 13, 14, 15, 16]), (none, [0, 1, 2, 4, 5, 6, 8, 9, 10, 3, 11, 12, 7, 13, 14, 15, 16]), (none, [0, 1, 2, 4, 5, 6, 7, 8, 9, 10, 11, 12, 3, 13, 14, 15, 16]), (none, [0, 1, 2, 4, 5, 6, 8, 9, 10, 7, 11, 12, 3, 13, 14, 15, 16]), (none, [0, 1, 2, 4, 5, 6, 8, 9, 10, 11, 12, 3, 7, 13, 14, 15, 16])])]
noncomputable def Jn : FuncId → EP := bK 20 KR evP
theorem GN : bG Jn := aL bd (by kernel_rfl) (by kernel_rfl)
noncomputable def Jo (M : Smp) (most line : Int) (i : Nat) : AE × AH := (mkE [(0, .ptr 0 0), (1, .si .i64 most), (2, .si .i64 line), (3, .fr M.length 2 (smp M)), (10, .si .i64 (i : Int))], mkH [(0, .cells kA true)])
theorem rv {M : Smp} {most line : Int} {i n : Nat} {σ : AE} {H : AH} (e0 : ay (pa 0) σ = .ptr 0 0) (e1 : mk (ay (pa 1) σ) = .si .i64 most) (e2 : mk (ay (pa 2) σ) = .si .i64 line) (e3 : ay (pa 3) σ = .fr M.length 2 (smp M)) (e10 : mk (ay (pa 10) σ) = .si .i64 (i : Int)) (h0 : PM.get H 0 = some (.cells kA true)) : Cov 1 σ H n ((Jo M most line i).1, (Jo M most line i).2, 1) := by
  refine Cov.ofR (m := 1) (p := 1) (fun c => c) (by decide) (fun b hb => rfl) (fun x hx => ?_) (fun x hx => ?_) (fun x hx y hy e => e)
  · simp only [List.mem_cons, List.not_mem_nil, or_false] at hx
    rcases hx with rfl | rfl | rfl | rfl | rfl
    · exact ae.ptr (by decide) e0
    · exact ae.int e1
    · exact ae.int e2
    · exact ae.frE e3
    · exact ae.int e10
  · simp only [List.mem_cons, List.not_mem_nil, or_false] at hx
    subst hx
    exact ⟨Nat.le_of_ble_eq_true rfl, .inl ⟨_, h0, aO.bz rfl rfl id⟩⟩
def RrP (most line : Int) (M : Smp) : PK := fun u H' m => (dF S40 most line M = none ∧ u = .tup [.nil, .int .i64 1] ∧ m = 1 ∧ PM.get H' 0 = some (.cells kA true)) ∨ ∃ S', dF S40 most line M = some S' ∧ u = .tup [.ptr 1 0, .int .i64 0] ∧ m = 3 ∧ H' = mkH [(0, .cells kA true), (1, .cells (iO S' 2 M) true), (2, .cells (smp M) true)]
theorem jd {H : AH} {n : Nat} {most line : Int} {M : Smp} {u : AV} (hr : dF S40 most line M = none) (e : u = .tup [.nil, .int .i64 1] := by rfl) (h0 : PM.get H 0 = some (.cells kA true) := by rfl) : ∃ v H2 m, Cov 1 (mkE [(0, u)]) H n (mkE [(0, v)], H2, m) ∧ RrP most line M v H2 m := by
  subst e
  refine ⟨.tup [.nil, .int .i64 1], mkH [(0, .cells kA true)], 1, ?_, .inl ⟨hr, rfl, rfl, rfl⟩⟩
  refine Cov.ofR (m := 1) (p := 1) (fun c => c) (by decide) (fun b hb => rfl) (fun x hx => ?_) (fun x hx => ?_) (fun x hx y hy e => e)
  · simp only [List.mem_cons, List.not_mem_nil, or_false] at hx
    subst hx
    exact ae.flat rfl rfl
  · simp only [List.mem_cons, List.not_mem_nil, or_false] at hx
    subst hx
    exact ⟨Nat.le_of_ble_eq_true rfl, .inl ⟨_, h0, aO.bz rfl rfl id⟩⟩
theorem iq {H : AH} {n : Nat} {most line : Int} {M : Smp} {u : AV} {S' : Sr} {l : List AV} (hr : dF S40 most line M = some S') (e : u = .tup [.ptr 3 0, .int .i64 0]) (h0 : PM.get H 0 = some (.cells kA true)) {b0 b1 b2 b3 : AV} (h1 : PM.get H 3 = some (.cells [b0, b1, b2, b3, .rw 2 0 (0 + M.length) 2 0] true)) (g0 : mk b0 = .si .i64 S'.ret) (g1 : mk b1 = .si .i64 S'.pol) (g2 : mk b2 = .si .i64 S'.mx) (g3 : mk b3 = .si .i64 S'.fl) (h2 : PM.get H 2 = some (.cells l true)) (hl : l = [] ++ smp M) : ∃ v H2 m, Cov 1 (mkE [(0, u)]) H n (mkE [(0, v)], H2, m) ∧ RrP most line M v H2 m := by
  subst e hl
  refine ⟨.tup [.ptr 1 0, .int .i64 0], mkH [(0, .cells kA true), (1, .cells (iO S' 2 M) true), (2, .cells (smp M) true)], 3, ?_, .inr ⟨S', hr, rfl, rfl, rfl⟩⟩
  refine Cov.ofR (m := 3) (p := 1) (fun c => if c = 1 then 3 else c) (by decide) (fun b hb => if_neg (by omega)) (fun x hx => ?_) (fun x hx => ?_) (fun x hx y hy e => ?_)
  · simp only [List.mem_cons, List.not_mem_nil, or_false] at hx
    subst hx
    exact rp
  · simp only [List.mem_cons, List.not_mem_nil, or_false] at hx
    rcases hx with rfl | rfl | rfl
    · exact ⟨Nat.le_of_ble_eq_true rfl, .inl ⟨_, h0, aO.bz rfl rfl id⟩⟩
    · refine ⟨Nat.le_of_ble_eq_true rfl, .inl ⟨_, h1, aO.cells (Nat.le_refl _) (fun q => q) fun i a' hi => ?_⟩⟩
      match i, hi with
      | 0, hi => injection hi with hi; subst hi; exact ⟨_, rfl, ae.int g0⟩
      | 1, hi => injection hi with hi; subst hi; exact ⟨_, rfl, ae.int g1⟩
      | 2, hi => injection hi with hi; subst hi; exact ⟨_, rfl, ae.int g2⟩
      | 3, hi => injection hi with hi; subst hi; exact ⟨_, rfl, ae.int g3⟩
      | 4, hi => injection hi with hi; subst hi; exact ⟨_, rfl, ae.rw (Nat.le_of_ble_eq_true rfl) rfl (Nat.zero_add _)⟩
      | i + 5, hi => simp [iO] at hi
    · exact ⟨Nat.le_of_ble_eq_true rfl, .inl ⟨_, h2, aO.bz (ba _) (by rw [List.nil_append]) id⟩⟩
  · simp only [List.mem_cons, List.not_mem_nil, or_false] at hx hy
    rcases hx with rfl | rfl | rfl <;> rcases hy with rfl | rfl | rfl <;> simp at e ⊢
theorem Jp (most line : Int) (M : Smp) (hl : M.length ≤ 40000) (hmo : aM most) (hli : aM line) : cf (az Jn 4 20) [.ptr 0 0, .si .i64 most, .si .i64 line, .fr M.length 2 (smp M)] (mkH [(0, .cells kA true)]) 1 (RrP most line M) := by
  have hno : eH S40.ret most line → dF S40 most line M = none := fun q => if_pos q
  show az Jn 4 _ _ _ _ _
  conv => whnf
  refine ag.dec (fun z1 => ?_) (fun z1 => ?_)
  focus
    conv => whnf
    exact jd (hno (by unfold eH; omega))
  conv => whnf
  refine ag.dec (fun z2 => ?_) (fun z2 => ?_)
  focus
    conv => whnf
    exact jd (hno (by unfold eH; omega))
  conv => whnf
  refine ag.dec (fun z3 => ?_) (fun z3 => ?_)
  focus
    conv => whnf
    exact jd (hno (by unfold eH; omega))
  conv => whnf
  refine ag.dec (fun z4 => ?_) (fun z4 => ?_)
  focus
    have z8 : max 0 most < line := z4
    conv => whnf
    exact jd (hno (by unfold eH; omega))
  have hrw : IntKind.i64.wrap (most - 40) = most - 40 := al (by omega) (by omega)
  conv => whnf
  refine ag.dec (fun z6 => ?_) (fun z6 => ?_)
  focus
    have z7 : line < most - 40 := by rw [← hrw]; exact z6
    have z9 : dF S40 most line M = none := hno (.inr (.inr (.inr (.inr ⟨by decide, z7⟩))))
    conv => whnf
    exact jd z9
  have hg : ¬ eH S40.ret most line := fun q => by
    have z7 : ¬ line < most - 40 := by rw [← hrw]; exact z6
    have z8 : ¬ max 0 most < line := z4
    have e40 : S40.ret = 40 := rfl
    unfold eH at q
    rw [e40] at q
    omega
  have hres := iw (S := S40) (M := M) hg
  conv => whnf
  refine bg.mk { i : Nat // i ≤ M.length ∧ dK (line - 1) most M = dK (c8 line M i) most (M.drop i) ∧ line - 1 ≤ c8 line M i } 1 (fun i => Jo M most line i.val) (fun i => M.length - i.val) ⟨0, Nat.zero_le _, rfl, Int.le_refl _⟩ ?_ ?_
  focus
    exact rv rfl rfl rfl rfl rfl rfl
  intro ⟨i, hi, hI, hlo⟩
  have hw : IntKind.i64.wrap ((i : Int) + 1) = ((i + 1 : Nat) : Int) := by rw [al (by omega) (by omega)]; omega
  conv => whnf
  refine ag.dec (fun h => ?_) (fun h => ?_)
  focus
    have hi2 : i < M.length := Int.ofNat_lt.1 h
    have hst := jH (line := line) (most := most) hi2
    have htA : M[i].1 = c8 line M (i + 1) := by show _ = tAt M i; unfold tAt; rw [List.getElem?_eq_getElem hi2]; rfl
    conv => whnf
    refine Idx.mk i rfl hi2 ?_
    conv => whnf
    refine ao (fy hi2 rfl) ?_
    conv => whnf
    refine ag.dec (fun y1 => ?_) (fun y1 => ?_)
    focus
      have hb := dh (S := S40) hg (by rw [hI, hst, decide_eq_false (show ¬ c8 line M i < M[i].1 by omega)]; rfl)
      conv => whnf
      exact jd hb
    conv => whnf
    refine Idx.mk i rfl hi2 ?_
    conv => whnf
    refine ao (fy hi2 rfl) ?_
    conv => whnf
    refine ag.dec (fun y2 => ?_) (fun y2 => ?_)
    focus
      have hb := dh (S := S40) hg (by rw [hI, hst, decide_eq_false (Int.not_le.2 y2), Bool.false_and, Bool.and_false])
      conv => whnf
      exact jd hb
    have nx : c8 line M i < M[i].1 → dK (line - 1) most M = dK (c8 line M (i + 1)) most (M.drop (i + 1)) ∧ line - 1 ≤ c8 line M (i + 1) := fun q => ⟨by rw [hI, hst, decide_eq_true q, decide_eq_true (Int.not_lt.1 y2), Bool.true_and, Bool.true_and], by rw [← htA]; omega⟩
    conv => whnf
    refine ag.dec (fun y3 => ?_) (fun y3 => ?_)
    focus
      have hp2 : 0 < i := by have y3 : (0 : Int) < (i : Int) := y3; omega
      have hm1 : IntKind.i64.wrap ((i : Int) - 1) = ((i - 1 : Nat) : Int) := by rw [al (by omega) (by omega)]; omega
      have hi3 : i - 1 < M.length := by omega
      have hla : c8 line M i = M[i - 1].1 := by
        obtain ⟨j, rfl⟩ : ∃ j, i = j + 1 := ⟨i - 1, by omega⟩
        show tAt M j = _
        unfold tAt; rw [List.getElem?_eq_getElem (by omega)]; rfl
      conv => whnf
      refine Idx.mk (i - 1) hm1 hi3 ?_
      conv => whnf
      refine ao (fy hi3 rfl) ?_
      conv => whnf
      refine Idx.mk i rfl hi2 ?_
      conv => whnf
      refine ao (fy hi2 rfl) ?_
      conv => whnf
      refine ag.dec (fun y4 => ?_) (fun y4 => ?_)
      focus
        have hb := dh (S := S40) hg (by rw [hI, hst, decide_eq_false (show ¬ c8 line M i < M[i].1 by rw [hla]; exact Int.not_lt.2 y4)]; rfl)
        conv => whnf
        exact jd hb
      have hn2 := nx (by rw [hla]; exact Int.not_le.1 y4)
      conv => whnf
      exact ⟨⟨i + 1, hi2, hn2⟩, by show M.length - (i + 1) < M.length - i; omega, rv rfl rfl rfl rfl (congrArg (AV.si .i64) hw) rfl⟩
    have hn2 := nx (by
      have : i = 0 := by
        have y3 : ¬ (0 : Int) < (i : Int) := y3
        omega
      subst this
      show line - 1 < _
      omega)
    conv => whnf
    exact ⟨⟨i + 1, hi2, hn2⟩, by show M.length - (i + 1) < M.length - i; omega, rv rfl rfl rfl rfl (congrArg (AV.si .i64) hw) rfl⟩
  have hE : dK (line - 1) most M = true := by
    have : i = M.length := by
      have h : ¬ (i : Int) < (M.length : Int) := h
      omega
    rw [hI, this, List.drop_length]; rfl
  replace hres := hres hE
  conv => whnf
  refine ⟨?_, ?_, ?_, ?_, ?_, ?_, ?_, ?_, ?_, trivial⟩
  focus
    conv => whnf
    refine fk.grow 2 16 M.length 0 (smp M) [] _ true oY .fr (aG _) (im _) (.sl rfl rfl (Nat.le_refl _) (Nat.le_refl _)) (by omega) ?_
    conv => whnf
    exact iq hres rfl rfl rfl rfl rfl rfl rfl rfl rfl
  focus
    conv => whnf
    refine fk.grow 2 16 M.length 0 (smp M) [] _ true oY .fr (aG _) (im _) (.sl rfl rfl (Nat.le_refl _) (Nat.le_refl _)) (by omega) ?_
    conv => whnf
    exact iq hres rfl rfl rfl rfl rfl rfl rfl rfl rfl
  focus
    conv => whnf
    refine fk.grow 2 16 M.length 0 (smp M) [] _ true oY .fr (aG _) (im _) (.sl rfl rfl (Nat.le_refl _) (Nat.le_refl _)) (by omega) ?_
    conv => whnf
    exact iq hres rfl rfl rfl rfl rfl rfl rfl rfl rfl
  focus
    conv => whnf
    refine fk.grow 2 16 M.length 0 (smp M) [] _ true oY .fr (aG _) (im _) (.sl rfl rfl (Nat.le_refl _) (Nat.le_refl _)) (by omega) ?_
    conv => whnf
    exact iq hres rfl rfl rfl rfl rfl rfl rfl rfl rfl
  focus
    conv => whnf
    refine fk.grow 2 16 M.length 0 (smp M) [] _ true oY .fr (aG _) (im _) (.sl rfl rfl (Nat.le_refl _) (Nat.le_refl _)) (by omega) ?_
    conv => whnf
    exact iq hres rfl rfl rfl rfl rfl rfl rfl rfl rfl
  focus
    conv => whnf
    refine fk.grow 2 16 M.length 0 (smp M) [] _ true oY .fr (aG _) (im _) (.sl rfl rfl (Nat.le_refl _) (Nat.le_refl _)) (by omega) ?_
    conv => whnf
    exact iq hres rfl rfl rfl rfl rfl rfl rfl rfl rfl
  focus
    conv => whnf
    refine fk.grow 2 16 M.length 0 (smp M) [] _ true oY .fr (aG _) (im _) (.sl rfl rfl (Nat.le_refl _) (Nat.le_refl _)) (by omega) ?_
    conv => whnf
    exact iq hres rfl rfl rfl rfl rfl rfl rfl rfl rfl
  focus
    conv => whnf
    refine fk.grow 2 16 M.length 0 (smp M) [] _ true oY .fr (aG _) (im _) (.sl rfl rfl (Nat.le_refl _) (Nat.le_refl _)) (by omega) ?_
    conv => whnf
    exact iq hres rfl rfl rfl rfl rfl rfl rfl rfl rfl
  conv => whnf
  refine fk.grow 2 16 M.length 0 (smp M) [] _ true oY .fr (aG _) (im _) (.sl rfl rfl (Nat.le_refl _) (Nat.le_refl _)) (by omega) ?_
  conv => whnf
  exact iq hres rfl rfl rfl rfl rfl rfl rfl rfl rfl
def yK (args : List AV) (H : AH) (n : Nat) (κ : PK) : Prop := match args with
  | [x, y, z, w] => ∃ (r : Nat) (most line : Int) (M : Smp) (q : Option Sr), x = .ptr r 0 ∧ r < n ∧ PM.get H r = some (.cells kA true) ∧ n < 800000 ∧ PM.get H n = none ∧ PM.get H (n + 1) = none ∧ mk y = .si .i64 most ∧ mk z = .si .i64 line ∧ w = .fr M.length 2 (smp M) ∧ M.length ≤ 40000 ∧ aM most ∧ aM line ∧ dF S40 most line M = q ∧ match q with
    | none => κ (.tup [.nil, .int .i64 1]) H n
    | some S' => κ (.tup [.ptr n 0, .int .i64 0]) (PM.set (some (.cells (iO S' (n + 1) M) true)) aa (PM.set (some (.cells (smp M) true)) aa H (n + 1)) n) (n + 2)
  | _ => False
theorem KS : aF 20 yK := fun args H n κ hs φ h0' hp vs K hr hargs hk => by
  unfold yK at hs
  split at hs
  · obtain ⟨r, most, line, M, q, rfl, hrn, hget, hn, hn0, hn1, hy, hz, rfl, hl, hmo, hli, hres, hs⟩ := hs
    subst hres
    obtain ⟨w1, us1, q1, e1, r1⟩ := hargs.cons_inv
    obtain ⟨w2, us2, q2, e2, r2⟩ := r1.cons_inv
    obtain ⟨w3, us3, q3, e3, r3⟩ := r2.cons_inv
    obtain ⟨w4, us4, q4, e4, r4⟩ := r3.cons_inv
    refine cw (S := [r]) (O := [.cells kA true]) (args0 := [.ptr 0 0, .si .i64 most, .si .i64 line, .fr M.length 2 (smp M)]) (aB GN 4 _).cf (by kernel_rfl) hr (jo hrn hget (.inr rfl)) (by rw [q1, q2, q3, q4]; exact .cons e1 (.cons (aA rfl (hy ▸ e2.mk)) (.cons (aA rfl (hz ▸ e3.mk)) (.cons e4 r4)))) hk (Jp most line M hl hmo hli) fun u H' n' hq => ?_
    rcases hq with ⟨f0, f1, f2, f3⟩ | ⟨S', f0, f1, f2, f3⟩
    · subst f1 f2
      rw [f0] at hs
      refine ⟨1, H, Nat.le_refl _, cG.same fun i s o h3 h4 _ => ?_, rfl, hs⟩
      match i, h3 with
      | 0, h3 =>
        injection h3 with h3; subst h3
        rw [hget] at h4; injection h4 with h4; subst h4
        exact ⟨_, f3, rfl, rfl, rfl⟩
    · subst f1 f2 f3
      rw [f0] at hs
      refine ⟨3, _, Nat.le_of_ble_eq_true rfl, fun b o hb => ?_, rfl, hs⟩
      rcases PM.ak aa _ _ b o hb with ⟨rfl, h2⟩ | ⟨h1, h2⟩
      · injection h2 with h2; subst h2
        exact .inl ⟨1, .cells (iO S' 2 M) true, by decide, rfl, rfl, rfl, rfl, rfl⟩
      rcases PM.ak aa _ _ b o h2 with ⟨rfl, h3⟩ | ⟨h3, h4⟩
      · injection h3 with h3; subst h3
        exact .inl ⟨2, .cells (smp M) true, by decide, rfl, rfl, rfl, mM _ _, by rw [ck, il]⟩
      by_cases hbr : b = r
      · subst hbr
        rw [hget] at h4; injection h4 with h4; subst h4
        exact .inl ⟨0, .cells kA true, by decide, rfl, rfl, rfl, rfl, rfl⟩
      · refine .inr ⟨?_, h4, fun q => absurd (List.mem_singleton.1 q) hbr⟩
        show b < n ∨ n + 2 ≤ b
        omega
  · exact hs.elim
theorem xo {S : Sr} {k : Nat} {L : Smp} {H : AH} {m : Nat} {r : Nat → Nat} (hk : k < m := by decide) (hr : r k = k := by rfl) : aO H m r (.cells (iO S k L) true) (.cells (iO S k L) true) :=
  aO.cells (Nat.le_refl _) (fun q => q) fun i a' hi => by
    match i, hi with
    | 0, hi => injection hi with hi; subst hi; exact ⟨_, rfl, ae.int rfl⟩
    | 1, hi => injection hi with hi; subst hi; exact ⟨_, rfl, ae.int rfl⟩
    | 2, hi => injection hi with hi; subst hi; exact ⟨_, rfl, ae.int rfl⟩
    | 3, hi => injection hi with hi; subst hi; exact ⟨_, rfl, ae.int rfl⟩
    | 4, hi => injection hi with hi; subst hi; exact ⟨_, rfl, ae.rw hk (by rw [hr])⟩
    | i + 5, hi => simp [iO] at hi
theorem ry {H : AH} {n r k : Nat} {S : Sr} {L : Smp} (hr : r < n) (hk : k < n) (hne : r ≠ k) (h1 : PM.get H r = some (.cells (iO S k L) true)) (h2 : PM.get H k = some (.cells (smp L) true)) : fO H n [r, k] [.cells (iO S 1 L) true, .cells (smp L) true] := ⟨by simp [hne], rfl, fun i s o e1 e2 => by
  match i, e1, e2 with
  | 0, e1, e2 => injection e1 with e1; injection e2 with e2; subst e1 e2; exact ⟨hr, h1, .inr rfl⟩
  | 1, e1, e2 => injection e1 with e1; injection e2 with e2; subst e1 e2; exact ⟨hk, by rw [ck, il]; exact h2, .inr rfl⟩⟩
noncomputable def rfM (S : Sr) (L : Smp) : AH := mkH [(0, .cells (iO S 1 L) true), (1, .cells (smp L) true)]
structure Ag (H : AH) (n r k : Nat) (S : Sr) (L : Smp) : Prop where
  ne : r ≠ k
  lt : r < n ∧ k < n
  hr : PM.get H r = some (.cells (iO S k L) true)
  hk : PM.get H k = some (.cells (smp L) true)
theorem BU {H H' : AH} {n r k : Nat} {S : Sr} {L : Smp} (h : Ag H n r k S L) (g0 : PM.get H' 0 = some (.cells (iO S 1 L) true)) (g1 : PM.get H' 1 = some (.cells (smp L) true)) : cG [r, k] n 2 H H' H := cG.same fun i s o h3 h4 _ => by
  match i, h3 with
  | 0, h3 =>
    injection h3 with h3; subst h3
    rw [h.hr] at h4; injection h4 with h4; subst h4
    exact ⟨_, g0, rfl, rfl, rfl⟩
  | 1, h3 =>
    injection h3 with h3; subst h3
    rw [h.hk] at h4; injection h4 with h4; subst h4
    exact ⟨_, g1, rfl, mM _ _, by rw [ck, il]⟩
noncomputable def KT : FuncId → EP := bK 59 [] evP
theorem GO : bG KT := aL bd (by kernel_rfl) (by kernel_rfl)
theorem Jq (S : Sr) (L : Smp) (h1 : 0 ≤ S.ret ∧ S.ret ≤ 1099511627776) (h2 : -1 ≤ S.mx ∧ S.mx < 1099511627776) : az KT 4 59 [.ptr 0 0] (rfM S L) 2 (fun u H' _ => u = .si .i64 (aR S) ∧ PM.get H' 0 = some (.cells (iO S 1 L) true) ∧ PM.get H' 1 = some (.cells (smp L) true)) := by
  have hw : IntKind.i64.wrap (S.mx - S.ret) = S.mx - S.ret := al (by omega) (by omega)
  have e1 : S.ret = 0 → S.fl = aR S := fun q => by unfold aR; rw [if_pos q]
  have e2 : ¬ S.ret = 0 → max S.fl (IntKind.i64.wrap (S.mx - S.ret)) = aR S := fun q => by unfold aR; rw [if_neg q, hw]
  conv => whnf
  refine ag.dec (fun q => ?_) (fun q => ?_)
  focus
    conv => whnf
    exact ⟨congrArg (AV.si .i64) (e1 q), rfl, rfl⟩
  conv => whnf
  exact ⟨congrArg (AV.si .i64) (e2 q), rfl, rfl⟩
def rz (args : List AV) (H : AH) (n : Nat) (κ : PK) : Prop := match args with
  | [x] => ∃ (r k : Nat) (S : Sr) (L : Smp), x = .ptr r 0 ∧ Ag H n r k S L ∧ (0 ≤ S.ret ∧ S.ret ≤ 1099511627776) ∧ (-1 ≤ S.mx ∧ S.mx < 1099511627776) ∧ κ (.si .i64 (aR S)) H n
  | _ => False
theorem Jr : iW rz := .pure fun args H n κ hs => by
  unfold rz at *
  split at hs
  · obtain ⟨r, k, S, L, h1, h2, h3, h4, h5⟩ := hs
    exact ⟨_, h5, fun κ' h => ⟨r, k, S, L, h1, h2, h3, h4, h⟩⟩
  · exact hs.elim
theorem KV : aF 59 rz := fun args H n κ hs φ h0' hp vs K hr hargs hk => by
  unfold rz at hs
  split at hs
  · obtain ⟨r, k, S, L, rfl, hR, g1, g2, hs⟩ := hs
    obtain ⟨w1, us1, q1, e1, r1⟩ := hargs.cons_inv
    refine cw (S := [r, k]) (O := [.cells (iO S 1 L) true, .cells (smp L) true]) (args0 := [.ptr 0 0]) (aB GO 4 _) (by kernel_rfl) hr (ry hR.lt.1 hR.lt.2 hR.ne hR.hr hR.hk) hargs hk (Jq S L g1 g2) fun u H' n' ⟨f1, f2, f3⟩ => ?_
    subst f1
    exact ⟨2, H, Nat.le_refl _, BU hR f2 f3, rfl, hs⟩
  · exact hs.elim
noncomputable def Js : FuncId → EP := bK 58 [] evP
theorem GP : bG Js := aL bd (by kernel_rfl) (by kernel_rfl)
noncomputable def E4 (S : Sr) (L : Smp) (a b : Int) (i : Nat) : AE × AH := (mkE [(0, .ptr 0 (0)), (1, .si .i64 (a)), (2, .si .i64 (b)), (7, .rw 2 0 (aH a b (L.take i)).length 2 0), (8, .si .i64 ((i : Int)))], mkH [(0, .cells (iO S 1 L) true), (1, .cells (smp (L)) true), (2, .cells (smp ((aH a b (L.take i)))) true)])
theorem lQ {S : Sr} {L : Smp} {a b : Int} {i : Nat} {p n : Nat} {σ : AE} {H : AH} {l1 : List AV} (j2 : Nat) (hj : j2 ≠ 0 ∧ j2 ≠ 1) (hp : p ≤ 2) (e0 : ay (pa 0) σ = .ptr 0 (0)) (e1 : mk (ay (pa 1) σ) = .si .i64 (a)) (e2 : mk (ay (pa 2) σ) = .si .i64 (b)) (e7 : ae H 3 (fun b => if b = 2 then j2 else b) (ay (pa 7) σ) (.rw 2 0 (aH a b (L.take i)).length 2 0)) (e8 : mk (ay (pa 8) σ) = .si .i64 ((i : Int))) (h0 : H.get 0 = some (.cells (iO S 1 L) true)) (h1 : H.get 1 = some (.cells l1 true)) (g1 : l1.map mk = smp (L)) (h2 : (∃ l, H.get j2 = some (.cells l true) ∧ l.map mk = smp ((aH a b (L.take i)))) ∨ (((aH a b (L.take i))) = [] ∧ n ≤ j2)) : Cov p σ H n ((E4 S L a b i).1, (E4 S L a b i).2, 3) := by
  refine Cov.ofR (fun b => if b = 2 then j2 else b) (by omega) (fun b hb => by repeat' rw [if_neg (by omega)]) ?_ ?_ ?_
  · intro x hx
    simp only [List.mem_cons, List.not_mem_nil, or_false] at hx
    rcases hx with rfl | rfl | rfl | rfl | rfl
    · exact .ptr (by decide) e0
    · exact .int e1
    · exact .int e2
    · exact e7
    · exact .int e8
  · intro x hx
    simp only [List.mem_cons, List.not_mem_nil, or_false] at hx
    rcases hx with rfl | rfl | rfl
    · exact ⟨by simp, .inl ⟨_, h0, xo⟩⟩
    · exact ⟨by simp, .inl ⟨_, h1, aO.bz (ba _) (by rw [g1, aV]) (fun q => q)⟩⟩
    · exact ⟨by simp, h2.elim (fun ⟨l, h, g⟩ => .inl ⟨_, h, aO.bz (ba _) (by rw [g, aV]) (fun q => q)⟩) (fun h => .inr ⟨by rw [h.1]; rfl, h.2⟩)⟩
  · intro x hx y hy
    simp only [List.mem_cons, List.not_mem_nil, or_false] at hx hy
    rcases hx with rfl | rfl | rfl <;> rcases hy with rfl | rfl | rfl <;> simp <;> omega
theorem GQ (S : Sr) (L : Smp) (a b : Int) (hl : L.length ≤ 100000) : cf (az Js 4 58) [.ptr 0 0, .si .i64 a, .si .i64 b] (rfM S L) 2 (fun u H' m => u = .rw 2 0 (aH a b L).length 2 0 ∧ m = 3 ∧ PM.get H' 0 = some (.cells (iO S 1 L) true) ∧ PM.get H' 1 = some (.cells (smp L) true) ∧ PM.get H' 2 = some (.cells (smp (aH a b L)) true)) := by
  show az Js 4 _ _ _ _ _
  conv => whnf
  refine bg.mk { i : Nat // i ≤ L.length } 3 (fun i => E4 S L a b i.val) (fun i => L.length - i.val) ⟨0, Nat.zero_le _⟩ ?_ ?_
  focus
    exact lQ (i := 0) 2 (by decide) (Nat.le_refl _) rfl rfl rfl (ae.ky rfl) rfl rfl rfl (aV _) (.inr ⟨rfl, Nat.le_refl _⟩)
  intro ⟨i, hi⟩
  have hw : IntKind.i64.wrap ((i : Int) + 1) = ((i + 1 : Nat) : Int) := by rw [al (by omega) (by omega)]; omega
  conv => whnf
  refine ag.dec (fun h => ?_) (fun h => ?_)
  focus
    have h2 : i < L.length := Int.ofNat_lt.1 h
    have hT : L.take (i + 1) = L.take i ++ [L[i]] := List.take_succ_eq_append_getElem h2
    have hy : a ≤ L[i].1 → L[i].1 ≤ b → aH a b (L.take (i + 1)) = aH a b (L.take i) ++ [L[i]] := fun z1 z2 => by
      rw [hT]; unfold aH
      rw [List.filter_append, List.filter_cons_of_pos (by simpa using ⟨z1, z2⟩), List.filter_nil]
    have hn : ¬ (a ≤ L[i].1 ∧ L[i].1 ≤ b) → aH a b (L.take i) = aH a b (L.take (i + 1)) := fun z => by
      rw [hT]; unfold aH
      rw [List.filter_append, List.filter_cons_of_neg (by simpa using z), List.filter_nil, List.append_nil]
    have hM : a ≤ L[i].1 → L[i].1 ≤ b → (smp (aH a b (L.take i)) ++ [AV.si .i64 L[i].1, .si .i64 L[i].2]).map mk = smp (aH a b (L.take (i + 1))) ∧ (aH a b (L.take i)).length + 1 = (aH a b (L.take (i + 1))).length := fun z1 z2 => by
      rw [hy z1 z2, List.map_append, aV, ki]
      exact ⟨rfl, by simp⟩
    have hbig : ((aH a b (L.take i)).length + 1) * 16 ≤ 140737488355328 := by
      have h5 : (aH a b (L.take i)).length ≤ (L.take i).length := List.length_filter_le _ _
      rw [List.length_take] at h5
      omega
    conv => whnf
    refine Idx.mk i rfl h2 ?_
    conv => whnf
    refine ao (fy h2 (show 0 + i * 2 = i * 2 from Nat.zero_add _)) ?_
    conv => whnf
    refine ag.dec (fun z1 => ?_) (fun z1 => ?_)
    focus
      conv => whnf
      refine Idx.mk i rfl h2 ?_
      conv => whnf
      refine ao (fy h2 (show 0 + i * 2 = i * 2 from Nat.zero_add _)) ?_
      conv => whnf
      refine ag.dec (fun z2 => ?_) (fun z2 => ?_)
      focus
        obtain ⟨m1, m2⟩ := hM z1 z2
        conv => whnf
        refine Idx.mk i rfl h2 ?_
        conv => whnf
        refine ao (bT h2 (show 0 + i * 2 = i * 2 from Nat.zero_add _)) ?_
        conv => whnf
        refine fk.grow 2 16 1 (aH a b (L.take i)).length [.si .i64 L[i].1, .si .i64 L[i].2] (smp (aH a b (L.take i))) _ true oY (.old rfl) rfl rfl (.rw rfl (dd _)) hbig ?_
        conv => whnf
        exact ⟨⟨i + 1, h2⟩, by show L.length - (i + 1) < L.length - i; omega, lQ (i := i + 1) 4 (by decide) (Nat.le_refl _) rfl rfl rfl (ae.rw (by decide) rfl m2) (congrArg (AV.si .i64) hw) rfl rfl (aV _) (.inl ⟨_, rfl, m1⟩)⟩
      have e := hn fun q => z2 q.2
      conv => whnf
      exact ⟨⟨i + 1, h2⟩, by show L.length - (i + 1) < L.length - i; omega, lQ (i := i + 1) 2 (by decide) (Nat.le_refl _) rfl rfl rfl (ae.rw (by decide) rfl (congrArg List.length e)) (congrArg (AV.si .i64) hw) rfl rfl (aV _) (.inl ⟨_, rfl, (aV _).trans (congrArg smp e)⟩)⟩
    have e := hn fun q => z1 q.1
    conv => whnf
    exact ⟨⟨i + 1, h2⟩, by show L.length - (i + 1) < L.length - i; omega, lQ (i := i + 1) 2 (by decide) (Nat.le_refl _) rfl rfl rfl (ae.rw (by decide) rfl (congrArg List.length e)) (congrArg (AV.si .i64) hw) rfl rfl (aV _) (.inl ⟨_, rfl, (aV _).trans (congrArg smp e)⟩)⟩
  have hE : L.take i = L := List.take_of_length_le (by
    have h : ¬ (i : Int) < (L.length : Int) := h
    omega)
  conv => whnf
  refine ⟨.rw 2 0 (aH a b L).length 2 0, mkH [(0, .cells (iO S 1 L) true), (1, .cells (smp L) true), (2, .cells (smp (aH a b L)) true)], 3, ?_, rfl, rfl, rfl, rfl, rfl⟩
  refine Cov.ofR (m := 3) (p := 2) (fun c => c) (by decide) (fun b hb => rfl) (fun x hx => ?_) (fun x hx => ?_) (fun x hx y hy e => e)
  · simp only [List.mem_cons, List.not_mem_nil, or_false] at hx
    subst hx
    exact ae.rw (by decide) rfl (congrArg (fun X => (aH a b X).length) hE)
  · simp only [List.mem_cons, List.not_mem_nil, or_false] at hx
    rcases hx with rfl | rfl | rfl
    · exact ⟨Nat.le_of_ble_eq_true rfl, .inl ⟨_, rfl, xo⟩⟩
    · exact ⟨Nat.le_of_ble_eq_true rfl, .inl ⟨_, rfl, aO.bz (ba _) rfl id⟩⟩
    · exact ⟨Nat.le_of_ble_eq_true rfl, .inl ⟨_, rfl, aO.bz (ba _) (congrArg (fun X => (smp (aH a b X)).map mk) hE) id⟩⟩
def uM (args : List AV) (H : AH) (n : Nat) (κ : PK) : Prop := match args with
  | [x, y, z] => ∃ (r k : Nat) (S : Sr) (L : Smp) (a b : Int), x = .ptr r 0 ∧ Ag H n r k S L ∧ mk y = .si .i64 a ∧ mk z = .si .i64 b ∧ L.length ≤ 100000 ∧ n < 800000 ∧ PM.get H n = none ∧ κ (.rw n 0 (aH a b L).length 2 0) (PM.set (some (.cells (smp (aH a b L)) true)) aa H n) (n + 1)
  | _ => False
theorem Jt : aF 58 uM := fun args H n κ hs φ h0' hp vs K hr hargs hk => by
  unfold uM at hs
  split at hs
  · obtain ⟨r, k, S, L, a, b, rfl, hR, hy, hz, hl, hn, hn0, hs⟩ := hs
    obtain ⟨w1, us1, q1, e1, r1⟩ := hargs.cons_inv
    obtain ⟨w2, us2, q2, e2, r2⟩ := r1.cons_inv
    obtain ⟨w3, us3, q3, e3, r3⟩ := r2.cons_inv
    refine cw (S := [r, k]) (O := [.cells (iO S 1 L) true, .cells (smp L) true]) (args0 := [.ptr 0 0, .si .i64 a, .si .i64 b]) (aB GP 4 _).cf (by kernel_rfl) hr (ry hR.lt.1 hR.lt.2 hR.ne hR.hr hR.hk) (by rw [q1, q2, q3]; exact .cons e1 (.cons (aA rfl (hy ▸ e2.mk)) (.cons (aA rfl (hz ▸ e3.mk)) r3))) hk (GQ S L a b hl) fun u H' n' ⟨f1, f2, f3, f4, f5⟩ => ?_
    subst f1 f2
    refine ⟨3, _, Nat.le_of_ble_eq_true rfl, fun c o hc => ?_, rfl, hs⟩
    rcases PM.ak aa _ _ c o hc with ⟨rfl, h2⟩ | ⟨h1, h2⟩
    · injection h2 with h2; subst h2
      exact .inl ⟨2, _, by decide, rfl, f5, rfl, mM _ _, by rw [ck, il]⟩
    by_cases hcr : c = r
    · subst hcr
      rw [hR.hr] at h2; injection h2 with h2; subst h2
      exact .inl ⟨0, _, by decide, rfl, f3, rfl, rfl, rfl⟩
    by_cases hck : c = k
    · subst hck
      rw [hR.hk] at h2; injection h2 with h2; subst h2
      exact .inl ⟨1, _, by decide, rfl, f4, rfl, mM _ _, by rw [ck, il]⟩
    refine .inr ⟨?_, h2, fun q => ?_⟩
    · show c < n ∨ n + 1 ≤ c
      omega
    · simp only [List.mem_cons, List.not_mem_nil, or_false] at q
      rcases q with q | q
      · exact absurd q hcr
      · exact absurd q hck
  · exact hs.elim
end Go.Proofs.Ythjggjhebbdkdaa
