/- Texts of our own, joined: the engine, the machine that runs code, and what is known of the functions. -/
import Derived.Test.YthjggjhebbdkdaaRows
import Derived.WalkKit
import Derived.Deep.Quiet
import Derived.ProofKit
import Derived.Laws.StructEq
import Derived.LaidEql
import Derived.Laws.BytesArg
import Derived.Maps.RangeRun
import Derived.RangeFuncSeq
import Derived.Scope
import Derived.Laws.Strings
import Derived.Laws.Strings2
import Derived.Below
import Derived.Carry
import Derived.OpenShut
import Derived.ChangeMaps5
import Derived.Deep.Slices
import Derived.Deep.SlicePairs
import Derived.SizedLaws
import Derived.Laws.BitsAllLaws
import Derived.RangeFuncRecord
import Derived.Test.YthjggjhebbdkdaaJe
import Derived.Test.YthjggjhebbdkdaaJd
set_option linter.unusedSimpArgs false
set_option linter.unusedVariables false
set_option maxHeartbeats 16000000
set_option maxRecDepth 100000
namespace Go.Proofs.Ythjggjhebbdkdaa
open Go Go.RowKit
noncomputable def KRf : FuncId → EP := bh 31 s9 evP
theorem na : bH KRf := au bg GD
abbrev cRg : CP := aC KRf 5
theorem yO {t v : Int} : ∀ (φ ψ : Ph) (u : Value), VR φ (.agg [.si .i64 t, .si .i64 v]) u → VR ψ (.agg [.si .i64 t, .si .i64 v]) u := fun φ ψ u h => by
  obtain ⟨cs, rfl, h1⟩ := h.eR
  exact .agg (kP rfl h1)
noncomputable def rgI (a b : Int) (O : Smp) : AH := mkH [(3, .cells [.si .i64 a] true), (4, .cells [.si .i64 b] true), (5, .cells [.rw 6 0 O.length 2 0] true), (6, .cells (smp O) true)]
noncomputable def rgE : AE := mkE [(4, .ptr 3 0), (5, .ptr 4 0), (7, .ptr 5 0)]
noncomputable def ecM (S : Sr) (C : Ck5) (Q : HP) : AH := mkH [(0, .cells (bV S 1 (pts C).length) true), (1, .cells (aQ (pts C)) true), (2, cF S C), (6, .sep Q)]
theorem cG {l : List (Nat × AO)} (h : (l.all fun x => x.2.own) = true) : cj (mkH l) := fun b o e => List.all_eq_true.1 h _ (bI e)
theorem cj.set {H : AH} {d n : Nat} {o : AO} (h : cj H) (ho : o.own = true) : cj (PM.set (some o) d H n) := fun b o' e => by
  rcases PM.ao d H n b o' e with ⟨_, q⟩ | ⟨_, q⟩
  · injection q with q; subst q; exact ho
  · exact h b o' q
theorem cj.del {H : AH} {d n : Nat} (h : cj H) : cj (PM.set none d H n) := fun b o' e => by
  rcases PM.ao d H n b o' e with ⟨_, q⟩ | ⟨_, q⟩
  · cases q
  · exact h b o' q
theorem yP {σ : AE} {H : AH} {n k : Nat} {a b : Int} {O : Smp} {l3 l4 : List AV} {l : AV} (e4 : aE (pa 4) σ = .ptr 3 0) (e5 : aE (pa 5) σ = .ptr 4 0) (e7 : aE (pa 7) σ = .ptr 5 0) (h3 : PM.get H 3 = some (.cells l3 true)) (g3 : l3.map mk = [.si .i64 a]) (h4 : PM.get H 4 = some (.cells l4 true)) (g4 : l4.map mk = [.si .i64 b])
    (h5 : PM.get H 5 = some (.cells [l] true)) (hl : ai H 7 (fun c => if c = 6 then k else c) l (.rw 6 0 O.length 2 0)) (h6 : (∃ l6, PM.get H k = some (.cells l6 true) ∧ l6.map mk = smp O) ∨ (O = [] ∧ n ≤ k)) (hk : k ≠ 3 ∧ k ≠ 4 ∧ k ≠ 5) : Cov 0 σ H n (rgE, rgI a b O, 7) := by
  refine Cov.ofR (m := 7) (p := 0) (fun c => if c = 6 then k else c) (Nat.zero_le _) (fun b hb => absurd hb (Nat.not_lt_zero b)) (fun x hx => ?_) (fun x hx => ?_) (fun x hx y hy e => ?_)
  · simp only [List.mem_cons, List.not_mem_nil, or_false] at hx
    rcases hx with rfl | rfl | rfl
    · exact ai.ptr (by decide) e4
    · exact ai.ptr (by decide) e5
    · exact ai.ptr (by decide) e7
  · simp only [List.mem_cons, List.not_mem_nil, or_false] at hx
    rcases hx with rfl | rfl | rfl | rfl
    · exact ⟨Nat.le_of_ble_eq_true rfl, .inl ⟨_, h3, aX.b7 rfl g3 id⟩⟩
    · exact ⟨Nat.le_of_ble_eq_true rfl, .inl ⟨_, h4, aX.b7 rfl g4 id⟩⟩
    · refine ⟨Nat.le_of_ble_eq_true rfl, .inl ⟨_, h5, aX.cells (Nat.le_refl _) id fun i a' hi => ?_⟩⟩
      match i, hi with
      | 0, hi => injection hi with hi; subst hi; exact ⟨_, rfl, hl⟩
      | i + 1, hi => simp at hi
    · refine ⟨Nat.le_of_ble_eq_true rfl, h6.elim (fun ⟨l6, q1, q2⟩ => .inl ⟨_, q1, aX.b7 (bA _) (by rw [q2, aR]) id⟩) (fun q => .inr ⟨by rw [q.1]; rfl, q.2⟩)⟩
  · simp only [List.mem_cons, List.not_mem_nil, or_false] at hx hy
    rcases hx with rfl | rfl | rfl | rfl <;> rcases hy with rfl | rfl | rfl | rfl <;> simp at e ⊢ <;> omega
theorem vL {σ : AE} {H : AH} {n : Nat} {S : Sr} {C : Ck5} {Q : HP} (le : List (Nat × AV)) (he : ∀ x ∈ le, ai H 7 (fun b => b) (aE (pa x.1) σ) x.2) (h0 : PM.get H 0 = some (.cells (bV S 1 (pts C).length) true)) (h1 : PM.get H 1 = some (.cells (aQ (pts C)) true)) (h2 : PM.get H 2 = some (cF S C)) (h6 : PM.get H 6 = some (.sep Q)) : Cov 7 σ H n (mkE le, ecM S C Q, 7) := by
  refine Cov.ofR (m := 7) (p := 7) (fun b => b) (Nat.le_refl _) (fun b hb => rfl) he ?_ (fun x hx y hy e => e)
  intro x hx
  simp only [List.mem_cons, List.not_mem_nil, or_false] at hx
  rcases hx with rfl | rfl | rfl | rfl
  · exact ⟨Nat.le_of_ble_eq_true rfl, .inl ⟨_, h0, aX.bV rfl rfl rfl rfl rfl (ai.rw (Nat.le_of_ble_eq_true rfl) rfl)⟩⟩
  · exact ⟨Nat.le_of_ble_eq_true rfl, .inl ⟨_, h1, aX.aQ (aw _)⟩⟩
  · exact ⟨Nat.le_of_ble_eq_true rfl, .inl ⟨_, h2, aX.sep _⟩⟩
  · exact ⟨Nat.le_of_ble_eq_true rfl, .inl ⟨_, h6, aX.sep _⟩⟩
def qs (L : Nat) : AV := .any (.func (.yield L) #[] #[])
abbrev lo1 (C : Ck5) (L i : Nat) : List (Nat × AV) := [(1, qs L), (14, .rw 1 0 (pts C).length 1 0), (15, .si .i64 ((pts C).length : Int)), (16, .si .i64 (i : Int))]
abbrev lo2 (C : Ck5) (L i : Nat) (X : Smp) (j : Nat) : List (Nat × AV) := [(1, qs L), (14, .rw 1 0 (pts C).length 1 0), (15, .si .i64 ((pts C).length : Int)), (16, .si .i64 (i : Int)), (21, .fr X.length 2 (smp X)), (22, .si .i64 (X.length : Int)), (23, .si .i64 (j : Int))]
theorem yQ {H : AH} {σ : AE} {C : Ck5} {L i : Nat} (e1 : aE (pa 1) σ = qs L) (e14 : aE (pa 14) σ = .rw 1 0 (pts C).length 1 0) (e15 : mk (aE (pa 15) σ) = .si .i64 ((pts C).length : Int)) (e16 : mk (aE (pa 16) σ) = .si .i64 (i : Int)) : ∀ x ∈ lo1 C L i, ai H 7 (fun b => b) (aE (pa x.1) σ) x.2 := fun x hx => by
  simp only [List.mem_cons, List.not_mem_nil, or_false] at hx
  rcases hx with rfl | rfl | rfl | rfl
  · show ai H 7 _ (aE (pa 1) σ) (qs L)
    rw [e1]; exact fun _ _ _ _ _ h => h
  · exact ai.rw (Nat.le_of_ble_eq_true rfl) e14
  · exact ai.int e15
  · exact ai.int e16
theorem tu {H : AH} {σ : AE} {C : Ck5} {L i j : Nat} {X : Smp} (e1 : aE (pa 1) σ = qs L) (e14 : aE (pa 14) σ = .rw 1 0 (pts C).length 1 0) (e15 : mk (aE (pa 15) σ) = .si .i64 ((pts C).length : Int)) (e16 : mk (aE (pa 16) σ) = .si .i64 (i : Int)) (e21 : aE (pa 21) σ = .fr X.length 2 (smp X)) (e22 : mk (aE (pa 22) σ) = .si .i64 (X.length : Int)) (e23 : mk (aE (pa 23) σ) = .si .i64 (j : Int)) : ∀ x ∈ lo2 C L i X j, ai H 7 (fun b => b) (aE (pa x.1) σ) x.2 := fun x hx => by
  simp only [List.mem_cons, List.not_mem_nil, or_false] at hx
  rcases hx with rfl | rfl | rfl | rfl | rfl | rfl | rfl
  · show ai H 7 _ (aE (pa 1) σ) (qs L)
    rw [e1]; exact fun _ _ _ _ _ h => h
  · exact ai.rw (Nat.le_of_ble_eq_true rfl) e14
  · exact ai.int e15
  · exact ai.int e16
  · exact ai.frE e21
  · exact ai.int e22
  · exact ai.int e23
def geF (a : Int) (X : Smp) : Smp := X.filter fun x => decide (a ≤ x.1)
noncomputable abbrev rgQ (L D : Nat) (rec : Loop) (ρ : Env) (a b : Int) (X : Smp) : HP := vK (ij L D rec .ready none) rgE ρ (rgI a b (geF a X)) 7
theorem nc {S : Sr} {C : Ck5} {i : Nat} (h : i < C.length) : cF S C = .sep (pk (chs S.sz (C.take i ++ (C[i].1, C[i].2) :: C.drop (i + 1)))) := by
  have := cY h
  unfold cF
  rw [this]
def ak (a b : Int) (X : Smp) : Smp := X.filter fun x => decide (a ≤ x.1) && decide (x.1 ≤ b)
def RgP (S : Sr) (C : Ck5) (O : Smp) : PK := fun u H' m => u = .rw 3 0 O.length 2 0 ∧ H' = mkH [(0, .cells (bV S 1 (pts C).length) true), (1, .cells (aQ (pts C)) true), (2, cF S C), (3, .cells (smp O) true)] ∧ m = 4
theorem C8 {H : AH} {n N : Nat} {S : Sr} {C : Ck5} {O X : Smp} (hN : 3 ≤ N) (hO : X = O) (h0 : PM.get H 0 = some (.cells (bV S 1 (pts C).length) true)) (h1 : PM.get H 1 = some (.cells (aQ (pts C)) true)) (h2 : PM.get H 2 = some (cF S C)) (h3 : PM.get H N = some (.cells (smp X) true)) : ∃ (v2 : AV) (H2 : AH) (m : Nat), Cov 3 (mkE [(0, .rw N 0 X.length 2 0)]) H n (mkE [(0, v2)], H2, m) ∧ RgP S C O v2 H2 m := by
  subst hO
  refine ⟨.rw 3 0 X.length 2 0, _, 4, ?_, rfl, rfl, rfl⟩
  refine Cov.ofR (m := 4) (p := 3) (fun c => if c = 3 then N else c) (by decide) (fun b hb => if_neg (by omega)) (fun x hx => ?_) (fun x hx => ?_) (fun x hx y hy e => ?_)
  · simp only [List.mem_cons, List.not_mem_nil, or_false] at hx
    subst hx
    exact ai.rw (Nat.le_of_ble_eq_true rfl) rfl
  · simp only [List.mem_cons, List.not_mem_nil, or_false] at hx
    rcases hx with rfl | rfl | rfl | rfl
    · exact ⟨Nat.le_of_ble_eq_true rfl, .inl ⟨_, h0, aX.bV rfl rfl rfl rfl rfl (ai.rw (Nat.le_of_ble_eq_true rfl) rfl)⟩⟩
    · exact ⟨Nat.le_of_ble_eq_true rfl, .inl ⟨_, h1, aX.aQ (aw _)⟩⟩
    · exact ⟨Nat.le_of_ble_eq_true rfl, .inl ⟨_, h2, aX.sep _⟩⟩
    · exact ⟨Nat.le_of_ble_eq_true rfl, .inl ⟨_, h3, aX.b7 (bA _) rfl id⟩⟩
  · simp only [List.mem_cons, List.not_mem_nil, or_false] at hx hy
    rcases hx with rfl | rfl | rfl | rfl <;> rcases hy with rfl | rfl | rfl | rfl <;> simp at e ⊢ <;> omega
theorem Ap : RTy 35 35 2 16 := ⟨_, _, _, rfl, rfl, (fun q h => by cases h), rfl, rfl, rfl, rfl, by decide, by decide⟩
theorem yR {a b : Int} {X : Smp} (h : ∀ x ∈ X, x.1 ≤ b) : geF a X = ak a b X := by
  refine List.filter_congr fun x hx => ?_
  have := h x hx
  simp [this]
theorem xu {a b : Int} {X Y : Smp} {x : Int × Int} (hU : Up (X ++ x :: Y)) (h : ∀ y ∈ X, y.1 ≤ b) (hx : b < x.1) : geF a X = ak a b (X ++ x :: Y) := by
  unfold ak
  rw [List.filter_append, yR h]
  have : (x :: Y).filter (fun y => decide (a ≤ y.1) && decide (y.1 ≤ b)) = [] := List.filter_eq_nil_iff.2 fun y hy => by
    have h2 := (List.pairwise_append.1 hU).2.1
    have : x.1 ≤ y.1 := by
      rcases List.mem_cons.1 hy with rfl | hy
      · exact Int.le_refl _
      · exact Int.le_of_lt (List.rel_of_pairwise_cons h2 hy)
    simp only [Bool.and_eq_true, decide_eq_true_eq]; omega
  rw [this, List.append_nil]; rfl
theorem p9 {C : Ck5} {i : Nat} (h : i < C.length) : ab (C.take (i + 1)) = ab (C.take i) ++ C[i].2 := by
  rw [List.take_succ_eq_append_getElem h, fD]
  congr 1
  simp [ab, cnt]
theorem vM {C : Ck5} {i j : Nat} (h : i < C.length) (hj : j < C[i].2.length) : ab C = (ab (C.take i) ++ C[i].2.take j) ++ C[i].2[j] :: (C[i].2.drop (j + 1) ++ ab (C.drop (i + 1))) := by
  have h1 := cY h
  have h2 : C[i].2 = C[i].2.take j ++ C[i].2[j] :: C[i].2.drop (j + 1) := by rw [← List.drop_eq_getElem_cons hj, List.take_append_drop]
  have h3 : ab C = ab (C.take i) ++ (C[i].2 ++ ab (C.drop (i + 1))) := by
    have := congrArg ab h1
    rw [← this, fD, bp]
  rw [h3]
  have h4 : C[i].2 ++ ab (C.drop (i + 1)) = (C[i].2.take j ++ C[i].2[j] :: C[i].2.drop (j + 1)) ++ ab (C.drop (i + 1)) := by rw [← h2]
  rw [h4]; simp only [List.append_assoc, List.cons_append]
theorem Aq (S : Sr) (C : Ck5) (a b : Int) (hO : Okc S C) (hU : Up (ab C)) (hf : (ab C).length ≤ 100000) : cP (RfG cRg (oZ KRf) 13) [.ptr 0 0, .si .i64 a, .si .i64 b] (mkH (eG (eH S (pts C) C) 0)) 3 (RgP S C (ak a b (ab C))) := by
  have hl := hO.few
  have hlo := hO.lo
  show RfG cRg _ _ _ _ _ _
  conv => whnf
  refine ⟨by kernel_rfl, Nat.le_of_ble_eq_true rfl, ?_⟩
  conv => whnf
  refine ⟨by decide, 55, [.ptr 0 0], [4, 5, 7], mkH [(3, .cells [.si .i64 a] true), (4, .cells [.si .i64 b] true), (5, .cells [.nsl] true)], mkH [(0, .cells (bV S 1 (pts C).length) true), (1, .cells (aQ (pts C)) true), (2, cF S C)], rgE, rgI a b [], 7, rfl, rfl, fun c o h => ?_, fun c o h => ?_, fun c o h => ?_, ?_, fun L D rec ρ hY => ?_⟩
  · have hm := bI h
    simp only [List.mem_cons, List.not_mem_nil, or_false] at hm
    rcases hm with hm | hm | hm <;> (injection hm with h1 h2; subst h1 h2; rfl)
  · have hm := bI h
    simp only [List.mem_cons, List.not_mem_nil, or_false] at hm
    rcases hm with hm | hm | hm <;> (injection hm with h1 h2; subst h1 h2; rfl)
  · have hm := bI h
    simp only [List.mem_cons, List.not_mem_nil, or_false] at hm
    rcases hm with hm | hm | hm <;> (injection hm with h1 h2; subst h1 h2; exact ⟨rfl, rfl⟩)
  · exact yP (k := 6) rfl rfl rfl rfl rfl rfl rfl rfl (ai.pe rfl) (.inr ⟨rfl, Nat.le_refl _⟩) (by decide)
  conv => whnf
  refine aj.dA (fun z => absurd (show (0 : Int) < (S.sz : Int) by omega) z) (fun _ => ?_)
  conv => whnf
  refine bC.mk { i : Nat // i ≤ C.length ∧ ∀ x ∈ ab (C.take i), x.1 ≤ b } 7 (fun i => (mkE (lo1 C L i.val), ecM S C (rgQ L D rec ρ a b (ab (C.take i.val))))) (fun i => C.length - i.val) ⟨0, Nat.zero_le _, fun x hx => by cases hx⟩ ?_ ?_
  focus
    exact vL _ (yQ rfl rfl rfl rfl) rfl rfl rfl rfl
  intro ⟨i, hi, hI⟩
  have hw : IntKind.i64.wrap ((i : Int) + 1) = ((i + 1 : Nat) : Int) := by rw [aA (by omega) (by omega)]; omega
  conv => whnf
  refine aj.dec (fun h => ?_) (fun h => ?_)
  focus
    have h2 : i < C.length := by
      have h : (i : Int) < ((pts C).length : Int) := h
      rw [an] at h; omega
    conv => whnf
    refine Idx.mk i rfl (by rw [an]; exact h2) ?_
    conv => whnf
    refine az (cm h2 (show 0 + i * 1 = i by omega)) ?_
    conv => whnf
    refine ⟨2, S.sz, C.take i, C.drop (i + 1), C[i].1, C[i].2, rfl, congrArg some (nc h2), by omega, hO.fine _ (List.getElem_mem h2), ?_⟩
    conv => whnf
    refine bC.mk { j : Nat // j ≤ C[i].2.length ∧ ∀ x ∈ ab (C.take i) ++ C[i].2.take j, x.1 ≤ b } 7 (fun j => (mkE (lo2 C L i C[i].2 j.val), ecM S C (rgQ L D rec ρ a b (ab (C.take i) ++ C[i].2.take j.val)))) (fun j => C[i].2.length - j.val) ⟨0, Nat.zero_le _, by simpa using hI⟩ ?_ ?_
    focus
      exact vL _ (tu rfl rfl rfl rfl rfl rfl rfl) rfl rfl rfl (congrArg (fun X => some (AO.sep (rgQ L D rec ρ a b X))) (List.append_nil _).symm)
    have hF := (hO.fine _ (List.getElem_mem h2)).2.2
    have fE : ∀ {j : Nat}, j = C[i].2.length → ab (C.take i) ++ C[i].2.take j = ab (C.take (i + 1)) := fun {j} e => by rw [p9 h2, e, List.take_length]
    have hI2 : ∀ {j : Nat}, j = C[i].2.length → (∀ x ∈ ab (C.take i) ++ C[i].2.take j, x.1 ≤ b) → ∀ x ∈ ab (C.take (i + 1)), x.1 ≤ b := fun {j} e k => by rw [← fE e]; exact k
    intro ⟨j, hj, hJ⟩
    have hw2 : IntKind.i64.wrap ((j : Int) + 1) = ((j + 1 : Nat) : Int) := by rw [aA (by omega) (by omega)]; omega
    conv => whnf
    refine aj.dec (fun h => ?_) (fun h => ?_)
    focus
      have h3 : j < C[i].2.length := by
        have h : (j : Int) < (C[i].2.length : Int) := h
        omega
      have hat := vM h2 h3
      have fT : C[i].2.take (j + 1) = C[i].2.take j ++ [C[i].2[j]] := List.take_succ_eq_append_getElem h3
      have fS : b < C[i].2[j].1 → geF a (ab (C.take i) ++ C[i].2.take j) = ak a b (ab C) := fun z => (xu (hat ▸ hU) hJ z).trans (congrArg (ak a b) hat.symm)
      have hJ2 : ¬ b < C[i].2[j].1 → ∀ x ∈ ab (C.take i) ++ C[i].2.take (j + 1), x.1 ≤ b := fun z x hx => by
        rw [fT, ← List.append_assoc] at hx
        rcases List.mem_append.1 hx with q | q
        · exact hJ x q
        · rw [List.mem_singleton.1 q]; omega
      have fY : a ≤ C[i].2[j].1 → (smp (geF a (ab (C.take i) ++ C[i].2.take j)) ++ [AV.si .i64 C[i].2[j].1, AV.si .i64 C[i].2[j].2]).map mk = smp (geF a (ab (C.take i) ++ C[i].2.take (j + 1))) ∧ (geF a (ab (C.take i) ++ C[i].2.take j)).length + 1 = (geF a (ab (C.take i) ++ C[i].2.take (j + 1))).length := fun z => by
        have : geF a (ab (C.take i) ++ C[i].2.take (j + 1)) = geF a (ab (C.take i) ++ C[i].2.take j) ++ [C[i].2[j]] := by
          rw [fT, ← List.append_assoc]
          unfold geF
          rw [List.filter_append, List.filter_cons_of_pos (by simpa using z), List.filter_nil]
        rw [this, List.map_append, aR]
        exact ⟨by rw [iz]; rfl, by simp⟩
      have fN : ¬ a ≤ C[i].2[j].1 → geF a (ab (C.take i) ++ C[i].2.take j) = geF a (ab (C.take i) ++ C[i].2.take (j + 1)) := fun z => by
        rw [fT, ← List.append_assoc]
        generalize ab (C.take i) ++ C[i].2.take j = X
        unfold geF
        rw [List.filter_append, List.filter_cons_of_neg (by simpa using z), List.filter_nil, List.append_nil]
      have hbig : ((geF a (ab (C.take i) ++ C[i].2.take j)).length + 1) * 16 ≤ 140737488355328 := by
        have h5 : (geF a (ab (C.take i) ++ C[i].2.take j)).length ≤ (ab (C.take i) ++ C[i].2.take j).length := List.length_filter_le _ _
        have h6 := congrArg List.length hat
        rw [List.length_append, List.length_cons] at h6
        omega
      conv => whnf
      refine Idx.mk j rfl h3 ?_
      conv => whnf
      refine az (du h3 rfl) ?_
      conv => whnf
      refine Yld.mk _ hY ⟨rgI a b (geF a (ab (C.take i) ++ C[i].2.take j)), 7, _, rfl, rfl, yO, cG rfl, ?_⟩
      conv => whnf
      refine ⟨((cG rfl).set rfl).set rfl, ?_⟩
      conv => whnf
      refine aj.dec (fun z => ?_) (fun z => ?_)
      focus
        conv => whnf
        refine ⟨((cG rfl).set rfl).set rfl, rgI a b (geF a (ab (C.take i) ++ C[i].2.take j)), 7, yP (k := 6) rfl rfl rfl rfl rfl rfl rfl rfl (ai.rw (Nat.le_of_ble_eq_true rfl) rfl) (.inl ⟨_, rfl, aR _⟩) (by decide), cG rfl, ?_⟩
        conv => whnf
        refine ⟨.done, some (.exit 0), rgI a b (geF a (ab (C.take i) ++ C[i].2.take j)), 7, rfl, (fun q => by cases q), .inr rfl, cG rfl, ?_⟩
        conv => whnf
        refine ⟨cG rfl, ?_⟩
        conv => whnf
        exact .inr ⟨6, 0, _, 2, 0, smp _, true, rfl, rfl, bA _, C8 (N := 8) (by decide) (fS z) rfl rfl rfl rfl⟩
      conv => whnf
      refine aj.dec (fun z2 => ?_) (fun z2 => ?_)
      focus
        conv => whnf
        refine gE.grow 2 16 1 (geF a (ab (C.take i) ++ C[i].2.take j)).length [.si .i64 C[i].2[j].1, .si .i64 C[i].2[j].2] (smp (geF a (ab (C.take i) ++ C[i].2.take j))) _ true Ap (.old rfl) rfl rfl (.rw rfl (bG _)) hbig ?_
        conv => whnf
        refine ⟨?_, rgI a b (geF a (ab (C.take i) ++ C[i].2.take (j + 1))), 7, yP (k := 9) rfl rfl rfl rfl rfl rfl rfl rfl (ai.rw (Nat.le_of_ble_eq_true rfl) rfl (fY z2).2) (.inl ⟨_, rfl, (fY z2).1⟩) (by decide), cG rfl, ?_⟩
        · repeat first | exact cG rfl | refine cj.set ?_ rfl | refine cj.del ?_
        conv => whnf
        exact ⟨⟨j + 1, h3, hJ2 z⟩, by show C[i].2.length - (j + 1) < C[i].2.length - j; omega, vL _ (tu rfl rfl rfl rfl rfl rfl (congrArg (AV.si .i64) hw2)) rfl rfl rfl rfl⟩
      conv => whnf
      refine ⟨?_, rgI a b (geF a (ab (C.take i) ++ C[i].2.take (j + 1))), 7, yP (k := 6) rfl rfl rfl rfl rfl rfl rfl rfl (ai.rw (Nat.le_of_ble_eq_true rfl) rfl (congrArg List.length (fN z2))) (.inl ⟨_, rfl, (aR _).trans (congrArg smp (fN z2))⟩) (by decide), cG rfl, ?_⟩
      · exact ((cG rfl).set rfl).set rfl
      conv => whnf
      exact ⟨⟨j + 1, h3, hJ2 z⟩, by show C[i].2.length - (j + 1) < C[i].2.length - j; omega, vL _ (tu rfl rfl rfl rfl rfl rfl (congrArg (AV.si .i64) hw2)) rfl rfl rfl rfl⟩
    have h4 : j = C[i].2.length := by
      have h : ¬ (j : Int) < (C[i].2.length : Int) := h
      omega
    conv => whnf
    exact ⟨⟨i + 1, h2, hI2 h4 hJ⟩, by show C.length - (i + 1) < C.length - i; omega, vL _ (yQ rfl rfl rfl (congrArg (AV.si .i64) hw)) rfl rfl rfl (congrArg (fun X => some (AO.sep (rgQ L D rec ρ a b X))) (fE h4))⟩
  have h2 : i = C.length := by
    have h : ¬ (i : Int) < ((pts C).length : Int) := h
    rw [an] at h; omega
  have fZ : geF a (ab (C.take i)) = ak a b (ab C) := by
    rw [yR hI, h2, List.take_length]
  conv => whnf
  refine ⟨.ready, none, rgI a b (geF a (ab (C.take i))), 7, rfl, (fun q => by cases q), .inl rfl, cG rfl, ?_⟩
  conv => whnf
  refine ⟨cG rfl, ?_⟩
  conv => whnf
  exact .inr ⟨6, 0, _, 2, 0, smp _, true, rfl, rfl, bA _, C8 (N := 7) (by decide) fZ rfl rfl rfl rfl⟩
theorem yS (f : Nat → Nat) (L : Smp) : dF f (smp L) = smp L := by
  induction L with
  | nil => rfl
  | cons c L ih =>
    show AV.si .i64 c.1 :: AV.si .i64 c.2 :: dF f (smp L) = _
    rw [ih]; rfl
theorem C9 (m : Nat) (L : Smp) : jJ m (smp L) = true := by
  induction L with
  | nil => rfl
  | cons c L ih => exact ih
theorem qa {f : FuncId} {run : List AV → AH → Nat → PK → Prop} (hrun : aH f run) (hic : ah Try.prog f = true) {ar0 : List AV} {S : Sr} {C : Ck5} {O : Smp} (h : cP run (.ptr 0 0 :: ar0) (mkH (eG (eH S (pts C) C) 0)) 3 (RgP S C O)) (har : ∀ r, dF r ar0 = ar0)
    {φ : Ph} {H : AH} {n : Nat} {h0 hp : Hp} {vs : Array Value} {κ : PK} {K : KH} {r k q : Nat} (hr : HR φ H n h0 hp) (hR : cX H n r k q S (pts C) C) (hargs : VRs φ (.ptr r 0 :: ar0) vs.toList) (hk : bX φ h0 κ K) (hs : κ (.rw n 0 O.length 2 0) (PM.set (some (.cells (smp O) true)) aa H n) (n + 1)) : cz Try.prog f vs hp K := by
  refine de (S := [r, k, q]) (O := eH S (pts C) C) (args0 := .ptr 0 0 :: ar0) (aH.cP hrun) hic hr hR.yA (by show VRs φ (ren _ _ :: dF _ ar0) vs.toList; rw [har]; exact hargs) hk h fun u H' n' ⟨g0, g1, g2⟩ => ?_
  subst g0 g1 g2
  refine ⟨4, PM.set (some (.cells (smp O) true)) aa H n, Nat.le_of_ble_eq_true rfl, fun b o hb => ?_, rfl, hs⟩
  rcases PM.ao aa H n b o hb with ⟨rfl, h2⟩ | ⟨h1, h2⟩
  · injection h2 with h2; subst h2
    exact .inl ⟨3, .cells (smp O) true, by decide, rfl, rfl, rfl, C9 _ _, by rw [cI, yS]⟩
  · by_cases hb : b ∈ [r, k, q]
    · left
      simp only [List.mem_cons, List.not_mem_nil, or_false] at hb
      rcases hb with rfl | rfl | rfl
      · rw [hR.hr] at h2; injection h2 with h2; subst h2
        exact ⟨0, _, by decide, rfl, rfl, rfl, rfl, rfl⟩
      · rw [hR.hk] at h2; injection h2 with h2; subst h2
        exact ⟨1, _, by decide, rfl, rfl, rfl, mE _ _, by rw [cI, ib]⟩
      · rw [hR.hq] at h2; injection h2 with h2; subst h2
        exact ⟨2, _, by decide, rfl, rfl, rfl, rfl, rfl⟩
    · exact .inr ⟨by show b < n ∨ n + 1 ≤ b; omega, h2, fun q => absurd q hb⟩
def la (A : Sr → Ck5 → List AV → Smp → Prop) (args : List AV) (H : AH) (n : Nat) (κ : PK) : Prop := match args with
  | x :: ar => ∃ (r k q : Nat) (S : Sr) (C : Ck5) (O : Smp), x = .ptr r 0 ∧ cX H n r k q S (pts C) C ∧ (n < 900000 ∧ PM.get H n = none) ∧ A S C ar O ∧ κ (.rw n 0 O.length 2 0) (PM.set (some (.cells (smp O) true)) aa H n) (n + 1)
  | _ => False
theorem xw (A : Sr → Ck5 → List AV → Smp → Prop) : iR (la A) := fun args H n κ hs => by
  unfold la at *
  split at hs
  · obtain ⟨r, k, q, S, C, O, h1, h2, h3, h4, h5⟩ := hs
    exact ⟨_, _, _, h5, fun b o hb => PM.gne (by omega) (fun e => by subst e; rw [h3.2] at hb; cases hb) hb, Nat.le_succ n, fun κ' h => ⟨r, k, q, S, C, O, h1, h2, h3, h4, h⟩⟩
  · exact hs.elim
def Da (S : Sr) (C : Ck5) (ar : List AV) (O : Smp) : Prop := ∃ y z a b, ar = [y, z] ∧ mk y = .si .i64 a ∧ mk z = .si .i64 b ∧ Okc S C ∧ Up (ab C) ∧ (ab C).length ≤ 100000 ∧ O = ak a b (ab C)
theorem FL : ah Try.prog 13 = true := by kernel_rfl
theorem Db : aH 13 (la Da) := fun args H n κ hs φ h0' hp vs K hr hargs hk => by
  unfold la at hs
  split at hs
  · obtain ⟨w1, us1, q1, e1, r1⟩ := hargs.cons_inv
    obtain ⟨r, k, q, S, C, O, rfl, hR, hn, ⟨y, z, a, b, rfl, hy, hz, hO, hU, hf, rfl⟩, hs⟩ := hs
    obtain ⟨w2, us2, q2, e2, r2⟩ := r1.cons_inv
    obtain ⟨w3, us3, q3, e3, r3⟩ := r2.cons_inv
    exact qa (FK FL (cv tab.mixed na 5) (pc na) (lD na)) FL (Aq S C a b hO hU hf) (fun _ => rfl) hr hR (by rw [q1, q2, q3]; exact .cons e1 (.cons (aL rfl (hy ▸ e2.mk)) (.cons (aL rfl (hz ▸ e3.mk)) r3))) hk hs
  · exact hs.elim
end Go.Proofs.Ythjggjhebbdkdaa
namespace Go.Proofs.Ythjggjhebbdkdaa
open Go Go.RowKit
noncomputable def lnI (m : Nat) : AH := mkH [(3, .cells [.si .i64 (m : Int)] true)]
noncomputable def lnE : AE := mkE [(3, .ptr 3 0)]
noncomputable def lcM (S : Sr) (C : Ck5) (Q : HP) : AH := mkH [(0, .cells (bV S 1 (pts C).length) true), (1, .cells (aQ (pts C)) true), (2, cF S C), (4, .sep Q)]
noncomputable abbrev lnQ (L D : Nat) (rec : Loop) (ρ : Env) (X : Smp) : HP := vK (ij L D rec .ready none) lnE ρ (lnI X.length) 4
theorem FM {σ : AE} {H : AH} {n m : Nat} {l3 : List AV} (e3 : aE (pa 3) σ = .ptr 3 0) (h3 : PM.get H 3 = some (.cells l3 true)) (g3 : l3.map mk = [.si .i64 (m : Int)]) : Cov 0 σ H n (lnE, lnI m, 4) := by
  refine Cov.ofR (m := 4) (p := 0) (fun c => c) (Nat.zero_le _) (fun b hb => rfl) (fun x hx => ?_) (fun x hx => ?_) (fun x hx y hy e => e)
  · simp only [List.mem_cons, List.not_mem_nil, or_false] at hx
    subst hx
    exact ai.ptr (by decide) e3
  · simp only [List.mem_cons, List.not_mem_nil, or_false] at hx
    subst hx
    exact ⟨Nat.le_of_ble_eq_true rfl, .inl ⟨_, h3, aX.b7 rfl g3 id⟩⟩
theorem yT {σ : AE} {H : AH} {n : Nat} {S : Sr} {C : Ck5} {Q : HP} (le : List (Nat × AV)) (he : ∀ x ∈ le, ai H 5 (fun b => b) (aE (pa x.1) σ) x.2) (h0 : PM.get H 0 = some (.cells (bV S 1 (pts C).length) true)) (h1 : PM.get H 1 = some (.cells (aQ (pts C)) true)) (h2 : PM.get H 2 = some (cF S C)) (h6 : PM.get H 4 = some (.sep Q)) : Cov 5 σ H n (mkE le, lcM S C Q, 5) := by
  refine Cov.ofR (m := 5) (p := 5) (fun b => b) (Nat.le_refl _) (fun b hb => rfl) he ?_ (fun x hx y hy e => e)
  intro x hx
  simp only [List.mem_cons, List.not_mem_nil, or_false] at hx
  rcases hx with rfl | rfl | rfl | rfl
  · exact ⟨Nat.le_of_ble_eq_true rfl, .inl ⟨_, h0, aX.bV rfl rfl rfl rfl rfl (ai.rw (Nat.le_of_ble_eq_true rfl) rfl)⟩⟩
  · exact ⟨Nat.le_of_ble_eq_true rfl, .inl ⟨_, h1, aX.aQ (aw _)⟩⟩
  · exact ⟨Nat.le_of_ble_eq_true rfl, .inl ⟨_, h2, aX.sep _⟩⟩
  · exact ⟨Nat.le_of_ble_eq_true rfl, .inl ⟨_, h6, aX.sep _⟩⟩
theorem vN {H : AH} {σ : AE} {C : Ck5} {L i : Nat} (e1 : aE (pa 1) σ = qs L) (e14 : aE (pa 14) σ = .rw 1 0 (pts C).length 1 0) (e15 : mk (aE (pa 15) σ) = .si .i64 ((pts C).length : Int)) (e16 : mk (aE (pa 16) σ) = .si .i64 (i : Int)) : ∀ x ∈ lo1 C L i, ai H 5 (fun b => b) (aE (pa x.1) σ) x.2 := fun x hx => by
  simp only [List.mem_cons, List.not_mem_nil, or_false] at hx
  rcases hx with rfl | rfl | rfl | rfl
  · show ai H 5 _ (aE (pa 1) σ) (qs L)
    rw [e1]; exact fun _ _ _ _ _ h => h
  · exact ai.rw (Nat.le_of_ble_eq_true rfl) e14
  · exact ai.int e15
  · exact ai.int e16
theorem vO {H : AH} {σ : AE} {C : Ck5} {L i j : Nat} {X : Smp} (e1 : aE (pa 1) σ = qs L) (e14 : aE (pa 14) σ = .rw 1 0 (pts C).length 1 0) (e15 : mk (aE (pa 15) σ) = .si .i64 ((pts C).length : Int)) (e16 : mk (aE (pa 16) σ) = .si .i64 (i : Int)) (e21 : aE (pa 21) σ = .fr X.length 2 (smp X)) (e22 : mk (aE (pa 22) σ) = .si .i64 (X.length : Int)) (e23 : mk (aE (pa 23) σ) = .si .i64 (j : Int)) : ∀ x ∈ lo2 C L i X j, ai H 5 (fun b => b) (aE (pa x.1) σ) x.2 := fun x hx => by
  simp only [List.mem_cons, List.not_mem_nil, or_false] at hx
  rcases hx with rfl | rfl | rfl | rfl | rfl | rfl | rfl
  · show ai H 5 _ (aE (pa 1) σ) (qs L)
    rw [e1]; exact fun _ _ _ _ _ h => h
  · exact ai.rw (Nat.le_of_ble_eq_true rfl) e14
  · exact ai.int e15
  · exact ai.int e16
  · exact ai.frE e21
  · exact ai.int e22
  · exact ai.int e23
theorem EY (S : Sr) (C : Ck5) (hO : Okc S C) (hf : (ab C).length ≤ 100000) : cP (RfG cRg (oZ KRf) 53) [.ptr 0 0] (mkH (eG (eH S (pts C) C) 0)) 3 (RoP (fun u => u = .si .i64 ((ab C).length : Int)) S (pts C) C) := by
  have hl := hO.few
  have hlo := hO.lo
  show RfG cRg _ _ _ _ _ _
  conv => whnf
  refine ⟨by kernel_rfl, Nat.le_of_ble_eq_true rfl, ?_⟩
  conv => whnf
  refine ⟨by decide, 55, [.ptr 0 0], [3], mkH [(3, .cells [.int .i64 0] true)], mkH [(0, .cells (bV S 1 (pts C).length) true), (1, .cells (aQ (pts C)) true), (2, cF S C)], lnE, lnI 0, 4, rfl, rfl, fun c o h => ?_, fun c o h => ?_, fun c o h => ?_, ?_, fun L D rec ρ hY => ?_⟩
  · have hm := bI h
    simp only [List.mem_cons, List.not_mem_nil, or_false] at hm
    injection hm with h1 h2; subst h1 h2; rfl
  · have hm := bI h
    simp only [List.mem_cons, List.not_mem_nil, or_false] at hm
    rcases hm with hm | hm | hm <;> (injection hm with h1 h2; subst h1 h2; rfl)
  · have hm := bI h
    simp only [List.mem_cons, List.not_mem_nil, or_false] at hm
    injection hm with h1 h2; subst h1 h2; exact ⟨rfl, rfl⟩
  · exact FM rfl rfl rfl
  conv => whnf
  refine aj.dA (fun z => absurd (show (0 : Int) < (S.sz : Int) by omega) z) (fun _ => ?_)
  conv => whnf
  refine bC.mk { i : Nat // i ≤ C.length } 5 (fun i => (mkE (lo1 C L i.val), lcM S C (lnQ L D rec ρ (ab (C.take i.val))))) (fun i => C.length - i.val) ⟨0, Nat.zero_le _⟩ ?_ ?_
  focus
    exact yT _ (vN rfl rfl rfl rfl) rfl rfl rfl rfl
  intro ⟨i, hi⟩
  have hw : IntKind.i64.wrap ((i : Int) + 1) = ((i + 1 : Nat) : Int) := by rw [aA (by omega) (by omega)]; omega
  conv => whnf
  refine aj.dec (fun h => ?_) (fun h => ?_)
  focus
    have h2 : i < C.length := by
      have h : (i : Int) < ((pts C).length : Int) := h
      rw [an] at h; omega
    conv => whnf
    refine Idx.mk i rfl (by rw [an]; exact h2) ?_
    conv => whnf
    refine az (cm h2 (show 0 + i * 1 = i by omega)) ?_
    conv => whnf
    refine ⟨2, S.sz, C.take i, C.drop (i + 1), C[i].1, C[i].2, rfl, congrArg some (nc h2), by omega, hO.fine _ (List.getElem_mem h2), ?_⟩
    conv => whnf
    refine bC.mk { j : Nat // j ≤ C[i].2.length } 5 (fun j => (mkE (lo2 C L i C[i].2 j.val), lcM S C (lnQ L D rec ρ (ab (C.take i) ++ C[i].2.take j.val)))) (fun j => C[i].2.length - j.val) ⟨0, Nat.zero_le _⟩ ?_ ?_
    focus
      exact yT _ (vO rfl rfl rfl rfl rfl rfl rfl) rfl rfl rfl (congrArg (fun X => some (AO.sep (lnQ L D rec ρ X))) (List.append_nil _).symm)
    have hF := (hO.fine _ (List.getElem_mem h2)).2.2
    have fE : ∀ {j : Nat}, j = C[i].2.length → ab (C.take i) ++ C[i].2.take j = ab (C.take (i + 1)) := fun {j} e => by rw [p9 h2, e, List.take_length]
    intro ⟨j, hj⟩
    have hw2 : IntKind.i64.wrap ((j : Int) + 1) = ((j + 1 : Nat) : Int) := by rw [aA (by omega) (by omega)]; omega
    conv => whnf
    refine aj.dec (fun h => ?_) (fun h => ?_)
    focus
      have h3 : j < C[i].2.length := by
        have h : (j : Int) < (C[i].2.length : Int) := h
        omega
      have hat := vM h2 h3
      have fT : C[i].2.take (j + 1) = C[i].2.take j ++ [C[i].2[j]] := List.take_succ_eq_append_getElem h3
      have fW : IntKind.i64.wrap (((ab (C.take i) ++ C[i].2.take j).length : Int) + 1) = ((ab (C.take i) ++ C[i].2.take (j + 1)).length : Int) := by
        have h6 := congrArg List.length hat
        rw [List.length_append, List.length_cons] at h6
        rw [fT, ← List.append_assoc, List.length_append (bs := [_]), aA (by omega) (by omega)]
        simp
      conv => whnf
      refine Idx.mk j rfl h3 ?_
      conv => whnf
      refine az (du h3 rfl) ?_
      conv => whnf
      refine Yld.mk _ hY ⟨lnI (ab (C.take i) ++ C[i].2.take j).length, 4, _, rfl, rfl, yO, cG rfl, ?_⟩
      conv => whnf
      refine ⟨cG rfl, ?_⟩
      conv => whnf
      refine ⟨?_, lnI (ab (C.take i) ++ C[i].2.take (j + 1)).length, 4, FM rfl rfl (congrArg (fun q => [AV.si .i64 q]) fW), cG rfl, ?_⟩
      · repeat first | exact cG rfl | refine cj.set ?_ rfl | refine cj.del ?_
      conv => whnf
      exact ⟨⟨j + 1, h3⟩, by show C[i].2.length - (j + 1) < C[i].2.length - j; omega, yT _ (vO rfl rfl rfl rfl rfl rfl (congrArg (AV.si .i64) hw2)) rfl rfl rfl rfl⟩
    have h4 : j = C[i].2.length := by
      have h : ¬ (j : Int) < (C[i].2.length : Int) := h
      omega
    conv => whnf
    exact ⟨⟨i + 1, h2⟩, by show C.length - (i + 1) < C.length - i; omega, yT _ (vN rfl rfl rfl (congrArg (AV.si .i64) hw)) rfl rfl rfl (congrArg (fun X => some (AO.sep (lnQ L D rec ρ X))) (fE h4))⟩
  have h2 : i = C.length := by
    have h : ¬ (i : Int) < ((pts C).length : Int) := h
    rw [an] at h; omega
  have fZ : ab (C.take i) = ab C := by rw [h2, List.take_length]
  conv => whnf
  refine ⟨.ready, none, lnI (ab (C.take i)).length, 4, rfl, (fun q => by cases q), .inl rfl, cG rfl, ?_⟩
  conv => whnf
  refine ⟨cG rfl, ?_⟩
  conv => whnf
  exact .inl ⟨fun φ ψ u h => h, jH _ (congrArg (fun X : Smp => AV.si .i64 (X.length : Int)) fZ) (VTo.mk5 rfl) VR.cQ rfl rfl rfl⟩
def Dc (S : Sr) (C : Ck5) (ar : List AV) (v : AV) : Prop := ar = [] ∧ Okc S C ∧ (ab C).length ≤ 100000 ∧ v = .si .i64 ((ab C).length : Int)
theorem FN : ah Try.prog 53 = true := by kernel_rfl
theorem Dd : aH 53 (dH Dc) := gi (FK FN (cv tab.mixed na 5) (pc na) (lD na)) FN fun S C ar v hA => by
  obtain ⟨h1, h2, h3, h4⟩ := hA
  subst h1 h4
  exact ⟨[], fun φ vs h => h, fun _ => rfl, ⟨fun _ => rfl, rfl⟩, EY S C h2 h3⟩
end Go.Proofs.Ythjggjhebbdkdaa
namespace Go.Proofs.Ythjggjhebbdkdaa
open Go Go.RowKit
def G5 : DT := [(5, [(some 1000000, []), (none, [0, 1, 2, 3, 4, 5, 6, 7, 8, 9, 10, 11, 12, 13, 14, 15])])]
noncomputable def G6 : FuncId → EP := bY 16 G5 (cw 13 (la Da) evP)
theorem EZ : bH G6 := aP (aZ bg Db (xw _)) (by kernel_rfl) (by kernel_rfl)
theorem KQ (S : Sr) (C : Ck5) : cX (mkH (eG (eH S (pts C) C) 0)) 3 0 1 2 S (pts C) C := ⟨⟨by decide, by decide, by decide⟩, ⟨by decide, by decide, by decide⟩, rfl, rfl, rfl⟩
def at5 (L : Smp) (i : Nat) : Int × Int := L.getD i (0, 0)
theorem nd {L : Smp} {i : Nat} (h : i < L.length) : L[i] = at5 L i := by simp [at5, h]
theorem qb {p : Int × Int} : ∀ {X : Smp} {i o : Nat}, i < X.length → o = i * 2 → dO (smp X) o [.si .i64 p.1, .si .i64 p.2] = some (smp (X.set i p))
  | [], i, o, h, _ => by simp at h
  | x :: X, 0, o, h, ho => by
    subst ho
    show dO (AV.si .i64 x.1 :: AV.si .i64 x.2 :: smp X) 0 _ = some (AV.si .i64 p.1 :: AV.si .i64 p.2 :: smp X)
    cases smp X <;> rfl
  | x :: X, i + 1, o, h, ho => by
    have := qb (p := p) (X := X) (i := i) (o := i * 2) (by simpa using h) rfl
    subst ho
    rw [show (i + 1) * 2 = i * 2 + 1 + 1 from by omega]
    show dO (AV.si .i64 x.1 :: AV.si .i64 x.2 :: smp X) (i * 2 + 1 + 1) _ = some (AV.si .i64 x.1 :: AV.si .i64 x.2 :: smp (X.set i p))
    simp only [dO] at this ⊢
    rw [this]; rfl
def bkF (O : Smp) : Nat → Smp
  | 0 => O
  | i + 1 => ((bkF O i).set i (at5 (bkF O i) (O.length - 1 - i))).set (O.length - 1 - i) (at5 (bkF O i) i)
theorem df (O : Smp) : ∀ i, (bkF O i).length = O.length
  | 0 => rfl
  | i + 1 => by simp [bkF, df O i]
noncomputable def bkM (S : Sr) (C : Ck5) (X : Smp) : AH := mkH [(0, .cells (bV S 1 (pts C).length) true), (1, .cells (aQ (pts C)) true), (2, cF S C), (3, .cells (smp X) true)]
abbrev bo (n i : Nat) : List (Nat × AV) := [(7, .rw 3 0 n 2 0), (8, .si .i64 (i : Int)), (9, .si .i64 ((n : Int) - 1 - i))]
theorem FO {σ : AE} {H : AH} {n : Nat} {S : Sr} {C : Ck5} {X : Smp} (le : List (Nat × AV)) {l : List AV} (he : ∀ x ∈ le, ai H 4 (fun b => b) (aE (pa x.1) σ) x.2) (h0 : PM.get H 0 = some (.cells (bV S 1 (pts C).length) true)) (h1 : PM.get H 1 = some (.cells (aQ (pts C)) true)) (h2 : PM.get H 2 = some (cF S C)) (h3 : PM.get H 3 = some (.cells l true)) (hl : l.map mk = smp X) : Cov 3 σ H n (mkE le, bkM S C X, 4) := by
  refine Cov.ofR (m := 4) (p := 3) (fun b => b) (by decide) (fun b hb => rfl) he ?_ (fun x hx y hy e => e)
  intro x hx
  simp only [List.mem_cons, List.not_mem_nil, or_false] at hx
  rcases hx with rfl | rfl | rfl | rfl
  · exact ⟨Nat.le_of_ble_eq_true rfl, .inl ⟨_, h0, aX.bV rfl rfl rfl rfl rfl (ai.rw (Nat.le_of_ble_eq_true rfl) rfl)⟩⟩
  · exact ⟨Nat.le_of_ble_eq_true rfl, .inl ⟨_, h1, aX.aQ (aw _)⟩⟩
  · exact ⟨Nat.le_of_ble_eq_true rfl, .inl ⟨_, h2, aX.sep _⟩⟩
  · exact ⟨Nat.le_of_ble_eq_true rfl, .inl ⟨_, h3, aX.b7 (bA _) (by rw [hl, aR]) id⟩⟩
theorem yU {X : Smp} {i p : Nat} {v : Int × Int} (h : p < X.length) : at5 (X.set i v) p = if i = p then v else at5 X p := by
  rw [← nd (by rw [List.length_set]; exact h), List.getElem_set, nd h]
theorem De (O : Smp) : ∀ (i : Nat), 2 * i ≤ O.length + 1 → ∀ p, p < O.length → at5 (bkF O i) p = if p < i ∨ O.length - 1 - i < p then at5 O (O.length - 1 - p) else at5 O p
  | 0, _, p, hp => by
    rw [if_neg (by omega)]; rfl
  | i + 1, h, p, hp => by
    have ih := De O i (by omega)
    have h1 : i < (bkF O i).length := by rw [df]; omega
    have h2 : O.length - 1 - i < (bkF O i).length := by rw [df]; omega
    have hpl : p < (bkF O i).length := by rw [df]; exact hp
    have e : at5 (bkF O (i + 1)) p = if O.length - 1 - i = p then at5 (bkF O i) i else if i = p then at5 (bkF O i) (O.length - 1 - i) else at5 (bkF O i) p := by
      show at5 (((bkF O i).set i (at5 (bkF O i) (O.length - 1 - i))).set (O.length - 1 - i) (at5 (bkF O i) i)) p = _
      rw [yU (by rw [List.length_set]; exact hpl), yU hpl]
    rw [e]
    by_cases c1 : O.length - 1 - i = p
    · rw [if_pos c1, ih i (by omega), if_neg (by omega), if_pos (by omega)]
      congr 1; omega
    · rw [if_neg c1]
      by_cases c2 : i = p
      · subst c2
        rw [if_pos rfl, ih _ (by omega), if_neg (by omega), if_pos (by omega)]
      · rw [if_neg c2, ih p hp]
        by_cases c3 : p < i ∨ O.length - 1 - i < p
        · rw [if_pos c3, if_pos (by omega)]
        · rw [if_neg c3, if_neg (by omega)]
theorem E0 {O : Smp} {i : Nat} (h1 : 2 * i ≤ O.length + 1) (h2 : O.length - 1 ≤ 2 * i) : bkF O i = O.reverse := by
  refine List.ext_getElem (by rw [df, List.length_reverse]) fun p hp hq => ?_
  have hp' : p < O.length := by rw [df] at hp; exact hp
  rw [nd hp, De O i h1 p hp', List.getElem_reverse, nd (by omega)]
  by_cases c : p < i ∨ O.length - 1 - i < p
  · rw [if_pos c]
  · rw [if_neg c]; congr 1; omega
theorem Ih {H : AH} {n N : Nat} {S : Sr} {C : Ck5} {O X : Smp} (hO : X = O) (hN : N = X.length) (h0 : PM.get H 0 = some (.cells (bV S 1 (pts C).length) true)) (h1 : PM.get H 1 = some (.cells (aQ (pts C)) true)) (h2 : PM.get H 2 = some (cF S C)) (h3 : PM.get H 3 = some (.cells (smp X) true)) : ∃ (v2 : AV) (H2 : AH) (m : Nat), Cov 3 (mkE [(0, .rw 3 0 N 2 0)]) H n (mkE [(0, v2)], H2, m) ∧ RgP S C O v2 H2 m := by
  subst hN
  exact C8 (by decide) hO h0 h1 h2 h3
theorem Dg {H : AH} {σ : AE} {n i : Nat} (e7 : aE (pa 7) σ = .rw 3 0 n 2 0) (e8 : mk (aE (pa 8) σ) = .si .i64 (i : Int)) (e9 : mk (aE (pa 9) σ) = .si .i64 ((n : Int) - 1 - i)) : ∀ x ∈ bo n i, ai H 4 (fun b => b) (aE (pa x.1) σ) x.2 := fun x hx => by
  simp only [List.mem_cons, List.not_mem_nil, or_false] at hx
  rcases hx with rfl | rfl | rfl
  · exact ai.rw (Nat.le_of_ble_eq_true rfl) e7
  · exact ai.int e8
  · exact ai.int e9
theorem Dh (S : Sr) (C : Ck5) (a b : Int) (O : Smp) (hOe : O = ak a b (ab C)) (hO : Okc S C) (hU : Up (ab C)) (hf : (ab C).length ≤ 100000) : cP (aC G6 5 16) [.ptr 0 0, .si .i64 a, .si .i64 b] (mkH (eG (eH S (pts C) C) 0)) 3 (RgP S C O.reverse) := by
  have hol : O.length ≤ 100000 := by
    rw [hOe]
    exact Nat.le_trans (List.length_filter_le _ _) hf
  show aC G6 5 _ _ _ _ _
  conv => whnf
  refine ⟨0, 1, 2, S, C, O, rfl, KQ S C, ⟨by decide, rfl⟩, ⟨_, _, a, b, rfl, rfl, rfl, hO, hU, hf, hOe⟩, ?_⟩
  have hw0 : IntKind.i64.wrap ((O.length : Int) - 1) = (O.length : Int) - 1 - (0 : Nat) := by rw [aA (by omega) (by omega)]; simp
  conv => whnf
  refine bC.mk { i : Nat // 2 * i ≤ O.length + 1 } 4 (fun i => (mkE (bo O.length i.val), bkM S C (bkF O i.val))) (fun i => O.length + 1 - 2 * i.val) ⟨0, Nat.zero_le _⟩ ?_ ?_
  focus
    exact FO _ (Dg rfl rfl (congrArg (AV.si .i64) hw0)) rfl rfl rfl rfl (aR _)
  intro ⟨i, hi⟩
  conv => whnf
  refine aj.dec (fun h => ?_) (fun h => ?_)
  focus
    have h : (i : Int) < (O.length : Int) - 1 - i := h
    have hk : (((O.length - 1 - i : Nat)) : Int) = (O.length : Int) - 1 - i := by omega
    have h1 : i < (bkF O i).length := by rw [df]; omega
    have h2 : O.length - 1 - i < (bkF O i).length := by rw [df]; omega
    have h1' : i < O.length := by omega
    have h2' : O.length - 1 - i < O.length := by omega
    have he : ∀ q : Nat, 0 + q * 2 = q * 2 := fun q => by omega
    have hw1 : IntKind.i64.wrap ((i : Int) + 1) = ((i + 1 : Nat) : Int) := by rw [aA (by omega) (by omega)]; omega
    have hw2 : IntKind.i64.wrap ((O.length : Int) - 1 - i - 1) = (O.length : Int) - 1 - (i + 1 : Nat) := by rw [aA (by omega) (by omega)]; omega
    have fB : smp (((bkF O i).set i (bkF O i)[O.length - 1 - i]).set (O.length - 1 - i) (bkF O i)[i]) = smp (bkF O (i + 1)) := by
      rw [nd h1, nd h2]; rfl
    conv => whnf
    refine ⟨?_, trivial⟩
    conv => whnf
    refine Idx.mk (O.length - 1 - i) hk.symm h2' ?_
    conv => whnf
    refine az (du h2 (he _)) ?_
    conv => whnf
    refine Idx.mk i rfl h1' ?_
    conv => whnf
    refine az (du h1 (he _)) ?_
    conv => whnf
    refine Idx.mk i rfl h1' ?_
    conv => whnf
    refine az (qb h1 (he _)) ?_
    conv => whnf
    refine Idx.mk (O.length - 1 - i) hk.symm h2' ?_
    conv => whnf
    refine az (qb (by rw [List.length_set]; exact h2) (he _)) ?_
    conv => whnf
    exact ⟨⟨i + 1, by omega⟩, by show O.length + 1 - 2 * (i + 1) < O.length + 1 - 2 * i; omega, FO _ (Dg rfl (congrArg (AV.si .i64) hw1) (congrArg (AV.si .i64) hw2)) rfl rfl rfl rfl ((aR _).trans fB)⟩
  have h : ¬ (i : Int) < (O.length : Int) - 1 - i := h
  have fR : bkF O i = O.reverse := E0 (by omega) (by omega)
  conv => whnf
  exact Ih fR (df O i).symm rfl rfl rfl rfl
def FP (S : Sr) (C : Ck5) (ar : List AV) (O : Smp) : Prop := ∃ y z a b, ar = [y, z] ∧ mk y = .si .i64 a ∧ mk z = .si .i64 b ∧ Okc S C ∧ Up (ab C) ∧ (ab C).length ≤ 100000 ∧ O = (ak a b (ab C)).reverse
theorem FQ : aH 16 (la FP) := fun args H n κ hs φ h0' hp vs K hr hargs hk => by
  unfold la at hs
  split at hs
  · obtain ⟨w1, us1, q1, e1, r1⟩ := hargs.cons_inv
    obtain ⟨r, k, q, S, C, O, rfl, hR, hn, ⟨y, z, a, b, rfl, hy, hz, hO, hU, hf, rfl⟩, hs⟩ := hs
    obtain ⟨w2, us2, q2, e2, r2⟩ := r1.cons_inv
    obtain ⟨w3, us3, q3, e3, r3⟩ := r2.cons_inv
    exact qa (aI EZ 5 _) (by kernel_rfl) (Dh S C a b _ rfl hO hU hf) (fun _ => rfl) hr hR (by rw [q1, q2, q3]; exact .cons e1 (.cons (aL rfl (hy ▸ e2.mk)) (.cons (aL rfl (hz ▸ e3.mk)) r3))) hk hs
  · exact hs.elim
end Go.Proofs.Ythjggjhebbdkdaa
namespace Go.Proofs.Ythjggjhebbdkdaa
open Go Go.RowKit
noncomputable def G7 : FuncId → EP := cw 35 (ko yu) evP
theorem E1 : bH G7 := aZ bg s8 (s7 _)
theorem KR : RTy 82 82 1 8 := ⟨_, _, _, rfl, rfl, (fun q h => by cases h), rfl, rfl, rfl, rfl, by decide, by decide⟩
def jL (C : Ck5) : List Int := C.map fun c => ((usd c.2 : Nat) : Int)
theorem kz (C : Ck5) : (jL C).length = C.length := List.length_map _
def RiP (S : Sr) (C : Ck5) (O : List Int) : PK := fun u H' m => u = .rw 3 0 O.length 1 0 ∧ H' = mkH [(0, .cells (bV S 1 (pts C).length) true), (1, .cells (aQ (pts C)) true), (2, cF S C), (3, .cells (ints O) true)] ∧ m = 4
noncomputable def csM (S : Sr) (C : Ck5) (X : List Int) : AH := mkH [(0, .cells (bV S 1 (pts C).length) true), (1, .cells (aQ (pts C)) true), (2, cF S C), (3, .cells (ints X) true)]
abbrev cso (C : Ck5) (i : Nat) : List (Nat × AV) := [(3, .rw 3 0 i 1 0), (12, .rw 1 0 (pts C).length 1 0), (13, .si .i64 ((pts C).length : Int)), (14, .si .i64 (i : Int))]
theorem Di (k : Nat) {σ : AE} {H : AH} {n : Nat} {S : Sr} {C : Ck5} {X : List Int} (le : List (Nat × AV)) (hk : 3 ≤ k) (he : ∀ x ∈ le, ai H 4 (fun c => if c = 3 then k else c) (aE (pa x.1) σ) x.2) (h0 : PM.get H 0 = some (.cells (bV S 1 (pts C).length) true)) (h1 : PM.get H 1 = some (.cells (aQ (pts C)) true)) (h2 : PM.get H 2 = some (cF S C)) (h3 : (∃ l, PM.get H k = some (.cells l true) ∧ l.map mk = ints X) ∨ (X = [] ∧ n ≤ k)) : Cov 3 σ H n (mkE le, csM S C X, 4) := by
  refine Cov.ofR (m := 4) (p := 3) (fun c => if c = 3 then k else c) (by decide) (fun b hb => if_neg (by omega)) he ?_ (fun x hx y hy e => ?_)
  · intro x hx
    simp only [List.mem_cons, List.not_mem_nil, or_false] at hx
    rcases hx with rfl | rfl | rfl | rfl
    · exact ⟨Nat.le_of_ble_eq_true rfl, .inl ⟨_, h0, aX.bV rfl rfl rfl rfl rfl (ai.rw (Nat.le_of_ble_eq_true rfl) rfl)⟩⟩
    · exact ⟨Nat.le_of_ble_eq_true rfl, .inl ⟨_, h1, aX.aQ (aw _)⟩⟩
    · exact ⟨Nat.le_of_ble_eq_true rfl, .inl ⟨_, h2, aX.sep _⟩⟩
    · exact ⟨Nat.le_of_ble_eq_true rfl, h3.elim (fun ⟨l, q1, q2⟩ => .inl ⟨_, q1, aX.b7 (qW _) (by rw [q2, po]) id⟩) (fun q => .inr ⟨by rw [q.1]; rfl, q.2⟩)⟩
  · simp only [List.mem_cons, List.not_mem_nil, or_false] at hx hy
    rcases hx with rfl | rfl | rfl | rfl <;> rcases hy with rfl | rfl | rfl | rfl <;> simp at e ⊢ <;> omega
theorem yV {H : AH} {σ : AE} {C : Ck5} {k i : Nat} (e3 : ai H 4 (fun c => if c = 3 then k else c) (aE (pa 3) σ) (.rw 3 0 i 1 0)) (e12 : aE (pa 12) σ = .rw 1 0 (pts C).length 1 0) (e13 : mk (aE (pa 13) σ) = .si .i64 ((pts C).length : Int)) (e14 : mk (aE (pa 14) σ) = .si .i64 (i : Int)) : ∀ x ∈ cso C i, ai H 4 (fun c => if c = 3 then k else c) (aE (pa x.1) σ) x.2 := fun x hx => by
  simp only [List.mem_cons, List.not_mem_nil, or_false] at hx
  rcases hx with rfl | rfl | rfl | rfl
  · exact e3
  · exact ai.rw (Nat.le_of_ble_eq_true rfl) e12
  · exact ai.int e13
  · exact ai.int e14
theorem Ii {H : AH} {n N m : Nat} {S : Sr} {C : Ck5} {O X : List Int} (hN : 3 ≤ N) (hO : X = O) (hm : m = X.length) (h0 : PM.get H 0 = some (.cells (bV S 1 (pts C).length) true)) (h1 : PM.get H 1 = some (.cells (aQ (pts C)) true)) (h2 : PM.get H 2 = some (cF S C)) (h3 : PM.get H N = some (.cells (ints X) true)) : ∃ (v2 : AV) (H2 : AH) (q : Nat), Cov 3 (mkE [(0, .rw N 0 m 1 0)]) H n (mkE [(0, v2)], H2, q) ∧ RiP S C O v2 H2 q := by
  subst hO hm
  exact ⟨.rw 3 0 X.length 1 0, _, 4, Di N [(0, .rw 3 0 X.length 1 0)] hN (fun x hx => by
    simp only [List.mem_cons, List.not_mem_nil, or_false] at hx
    subst hx
    exact ai.rw (Nat.le_of_ble_eq_true rfl) rfl) h0 h1 h2 (.inl ⟨_, h3, po _⟩), rfl, rfl, rfl⟩
theorem xx (S : Sr) (C : Ck5) (hO : Okc S C) : cP (aC G7 5 54) [.ptr 0 0] (mkH (eG (eH S (pts C) C) 0)) 3 (RiP S C (jL C)) := by
  have hl := hO.few
  have hlo := hO.lo
  show aC G7 5 _ _ _ _ _
  conv => whnf
  refine aj.dA (fun z => absurd (show (0 : Int) < (S.sz : Int) by omega) z) (fun _ => ?_)
  conv => whnf
  refine bC.mk { i : Nat // i ≤ C.length } 4 (fun i => (mkE (cso C i.val), csM S C (jL (C.take i.val)))) (fun i => C.length - i.val) ⟨0, Nat.zero_le _⟩ ?_ ?_
  focus
    exact Di 3 _ (Nat.le_refl _) (yV (ai.pe rfl) rfl rfl rfl) rfl rfl rfl (.inr ⟨rfl, Nat.le_refl _⟩)
  intro ⟨i, hi⟩
  have hw : IntKind.i64.wrap ((i : Int) + 1) = ((i + 1 : Nat) : Int) := by rw [aA (by omega) (by omega)]; omega
  conv => whnf
  refine aj.dec (fun h => ?_) (fun h => ?_)
  focus
    have h2 : i < C.length := by
      have h : (i : Int) < ((pts C).length : Int) := h
      rw [an] at h; omega
    have hT : jL (C.take (i + 1)) = jL (C.take i) ++ [((usd C[i].2 : Nat) : Int)] := by
      rw [List.take_succ_eq_append_getElem h2]; unfold jL; rw [List.map_append]; rfl
    have hlt : (jL (C.take i)).length = i := by rw [kz, List.length_take]; omega
    have hM : (ints (jL (C.take i)) ++ [AV.si .i64 ((usd C[i].2 : Nat) : Int)]).map mk = ints (jL (C.take (i + 1))) := by rw [hT]; exact zH _ _
    conv => whnf
    refine Idx.mk i rfl (by rw [an]; exact h2) ?_
    conv => whnf
    refine az (cm h2 (show 0 + i * 1 = i by omega)) ?_
    conv => whnf
    refine ⟨2, S.sz, C.take i, C.drop (i + 1), C[i].1, C[i].2, rfl, congrArg some (nc h2), ?_⟩
    conv => whnf
    refine gE.grow 1 8 1 i [.si .i64 ((usd C[i].2 : Nat) : Int)] (ints (jL (C.take i))) _ true KR (.old rfl) rfl rfl (.rw rfl (ck (by rw [uP, hlt, Nat.mul_one]))) (by omega) ?_
    conv => whnf
    exact ⟨⟨i + 1, h2⟩, by show C.length - (i + 1) < C.length - i; omega, Di 5 _ (by decide) (yV (ai.rw (Nat.le_of_ble_eq_true rfl) rfl) rfl rfl (congrArg (AV.si .i64) hw)) rfl rfl rfl (.inl ⟨_, rfl, hM⟩)⟩
  have h2 : i = C.length := by
    have h : ¬ (i : Int) < ((pts C).length : Int) := h
    rw [an] at h; omega
  have hE : jL (C.take i) = jL C := by rw [h2, List.take_length]
  have hE2 : i = (jL (C.take i)).length := by rw [kz, List.length_take]; omega
  conv => whnf
  exact Ii (Nat.le_refl 3) hE hE2 rfl rfl rfl rfl
theorem Dj (f : Nat → Nat) (L : List Int) : dF f (ints L) = ints L := by
  induction L with
  | nil => rfl
  | cons c L ih =>
    show AV.si .i64 c :: dF f (ints L) = _
    rw [ih]; rfl
theorem E2 (m : Nat) (L : List Int) : jJ m (ints L) = true := by
  induction L with
  | nil => rfl
  | cons c L ih => exact ih
def vQ (A : Sr → Ck5 → List Int → Prop) (args : List AV) (H : AH) (n : Nat) (κ : PK) : Prop := match args with
  | [x] => ∃ (r k q : Nat) (S : Sr) (C : Ck5) (O : List Int), x = .ptr r 0 ∧ cX H n r k q S (pts C) C ∧ (n < 900000 ∧ PM.get H n = none) ∧ A S C O ∧ κ (.rw n 0 O.length 1 0) (PM.set (some (.cells (ints O) true)) aa H n) (n + 1)
  | _ => False
theorem G8 (A : Sr → Ck5 → List Int → Prop) : iR (vQ A) := fun args H n κ hs => by
  unfold vQ at *
  split at hs
  · obtain ⟨r, k, q, S, C, O, h1, h2, h3, h4, h5⟩ := hs
    exact ⟨_, _, _, h5, fun b o hb => PM.gne (by omega) (fun e => by subst e; rw [h3.2] at hb; cases hb) hb, Nat.le_succ n, fun κ' h => ⟨r, k, q, S, C, O, h1, h2, h3, h4, h⟩⟩
  · exact hs.elim
def FT (S : Sr) (C : Ck5) (O : List Int) : Prop := Okc S C ∧ O = jL C
theorem Ij : aH 54 (vQ FT) := fun args H n κ hs φ h0' hp vs K hr hargs hk => by
  unfold vQ at hs
  split at hs
  · obtain ⟨w1, us1, q1, e1, r1⟩ := hargs.cons_inv
    obtain ⟨r, k, q, S, C, O, rfl, hR, hn, ⟨hO, rfl⟩, hs⟩ := hs
    refine de (S := [r, k, q]) (O := eH S (pts C) C) (args0 := [.ptr 0 0]) (aH.cP (aI E1 5 _)) (by kernel_rfl) hr hR.yA (by rw [q1]; exact .cons e1 r1) hk (xx S C hO) fun u H' n' ⟨g0, g1, g2⟩ => ?_
    subst g0 g1 g2
    refine ⟨4, PM.set (some (.cells (ints (jL C)) true)) aa H n, Nat.le_of_ble_eq_true rfl, fun b o hb => ?_, rfl, hs⟩
    rcases PM.ao aa H n b o hb with ⟨rfl, h2⟩ | ⟨h1, h2⟩
    · injection h2 with h2; subst h2
      exact .inl ⟨3, .cells (ints (jL C)) true, by decide, rfl, rfl, rfl, E2 _ _, by rw [cI, Dj]⟩
    · by_cases hb : b ∈ [r, k, q]
      · left
        simp only [List.mem_cons, List.not_mem_nil, or_false] at hb
        rcases hb with rfl | rfl | rfl
        · rw [hR.hr] at h2; injection h2 with h2; subst h2
          exact ⟨0, _, by decide, rfl, rfl, rfl, rfl, rfl⟩
        · rw [hR.hk] at h2; injection h2 with h2; subst h2
          exact ⟨1, _, by decide, rfl, rfl, rfl, mE _ _, by rw [cI, ib]⟩
        · rw [hR.hq] at h2; injection h2 with h2; subst h2
          exact ⟨2, _, by decide, rfl, rfl, rfl, rfl, rfl⟩
      · exact .inr ⟨by show b < n ∨ n + 1 ≤ b; omega, h2, fun q => absurd q hb⟩
  · exact hs.elim
end Go.Proofs.Ythjggjhebbdkdaa
namespace Go.Proofs.Ythjggjhebbdkdaa
open Go Go.RowKit
noncomputable def Dk : FuncId → EP := bY 15 [] evP
theorem E3 : bH Dk := aP bg (by kernel_rfl) (by kernel_rfl)
def qc (B : Nat) (f : Smp → Smp → Bool) (args : List AV) (H : AH) (n : Nat) (κ : PK) : Prop := match args with
  | [x, y] => ∃ L M, dw H x L ∧ dw H y M ∧ L.length ≤ B ∧ M.length ≤ B ∧ κ (.sb (f L M)) H n
  | _ => False
theorem Dl {B : Nat} {f : Smp → Smp → Bool} : iR (qc B f) := .pure fun args H n κ hs => by
  unfold qc at *
  split at hs
  · obtain ⟨L, M, h1, h2, h3, h4, h5⟩ := hs
    exact ⟨_, h5, fun κ' h => ⟨L, M, h1, h2, h3, h4, h⟩⟩
  · exact hs.elim
theorem Dm {B : Nat} {F : FuncId → EP} (hF : bH F) {d : Nat} {f : FuncId} {g : Smp → Smp → Bool} (hic : ah Try.prog f = true) (h00 : aC F d f [.nsl, .nsl] .nil 0 fun u _ _ => mkT u = mkT (.bool (g [] [])))
    (h01 : ∀ M cap, M.length ≤ B → aC F d f [.nsl, .sy 0 0 M.length cap 0] (mkH [(0, .ro (smp M))]) 1 fun u _ _ => mkT u = mkT (.bool (g [] M)))
    (h10 : ∀ L cap, L.length ≤ B → aC F d f [.sy 0 0 L.length cap 0, .nsl] (mkH [(0, .ro (smp L))]) 1 fun u _ _ => mkT u = mkT (.bool (g L [])))
    (h11 : ∀ L M c1 c2, L.length ≤ B → M.length ≤ B → aC F d f [.sy 0 0 L.length c1 0, .sy 1 0 M.length c2 0] (mkH [(0, .ro (smp L)), (1, .ro (smp M))]) 2 fun u _ _ => mkT u = mkT (.bool (g L M))) : aH f (qc B g) := fun args H n κ hs φ h0' hp vs K hr hargs hk => by
  unfold qc at hs
  split at hs
  · obtain ⟨x, y, rfl, e1, e2⟩ := vs2 hargs
    obtain ⟨L, M, hS, hT, hL, hM, hs2⟩ := hs
    rcases hS.open hr e1 with ⟨rfl, hv⟩ | ⟨p, C, _, hro, hv⟩ <;> rcases hT.open hr e2 with ⟨rfl, hw⟩ | ⟨p', C', _, hro', hw⟩
    · exact gX (v := .bool (g [] [])) hF rfl h00 hs2 hr hk hic HR.ro0 (.cons (hv _) (.cons (hw _) .nil))
    · exact gX (v := .bool (g [] M)) hF rfl (h01 M C' hM) hs2 hr hk hic (fun hw => HR.ro1 hw hro') (.cons (hv _) (.cons (hw _ 0 rfl) .nil))
    · exact gX (v := .bool (g L [])) hF rfl (h10 L C hL) hs2 hr hk hic (fun hw => HR.ro1 hw hro) (.cons (hv _ 0 rfl) (.cons (hw _) .nil))
    · exact gX (v := .bool (g L M)) hF rfl (h11 L M C C' hL hM) hs2 hr hk hic (fun hw => HR.ro2 hw hro hro') (.cons (hv _ 0 rfl) (.cons (hw _ 1 rfl) .nil))
  · exact hs.elim
theorem tv : dW Try.prog 29 = some [(0, 0), (0, 1)] := by kernel_rfl
def gA (L M : Smp) : Bool := decide (L = M)
noncomputable def xy (L M : Smp) (c1 c2 i : Nat) : AE × AH := (mkE [(0, .sy 0 0 L.length c1 0), (1, .sy 1 0 M.length c2 0), (5, .si .i64 i)], mkH [(0, .ro (smp L)), (1, .ro (smp M))])
theorem vR {L M : Smp} {c1 c2 i p n : Nat} {σ : AE} {H : AH} (hp : p ≤ 2) (e0 : mk (aE (pa 0) σ) = .sy 0 0 L.length c1 0) (e1 : mk (aE (pa 1) σ) = .sy 1 0 M.length c2 0) (e5 : mk (aE (pa 5) σ) = .si .i64 i)
    (h0 : H.get 0 = some (.ro (smp L))) (h1 : H.get 1 = some (.ro (smp M))) : Cov p σ H n ((xy L M c1 c2 i).1, (xy L M c1 c2 i).2, 2) := by
  refine Cov.of (fun b => b) hp (fun b hb => rfl) ?_ ?_ ?_
  · intro x hx
    simp only [List.mem_cons, List.not_mem_nil, or_false] at hx
    rcases hx with rfl | rfl | rfl
    · exact .sy (by decide) e0
    · exact .sy (by decide) e1
    · exact .int e5
  · intro x hx
    simp only [List.mem_cons, List.not_mem_nil, or_false] at hx
    rcases hx with rfl | rfl
    · exact ⟨by simp, _, h0, aX.uN (bA L) rfl⟩
    · exact ⟨by simp, _, h1, aX.uN (bA M) rfl⟩
  · intro x hx y hy
    simp only [List.mem_cons, List.not_mem_nil, or_false] at hx hy
    rcases hx with rfl | rfl <;> rcases hy with rfl | rfl <;> exact fun q => q
theorem od {L M : Smp} (h : L ≠ M) : AV.sb false = mkT (.bool (gA L M)) := by simp [gA, h, mkT, mk]
theorem Dn {L M : Smp} (h : L = M) : AV.sb true = mkT (.bool (gA L M)) := by simp [gA, h, mkT, mk]
theorem Ar (L M : Smp) (c1 c2 : Nat) (hL : L.length ≤ 1000000) (hM : M.length ≤ 1000000) : aC Dk 3 15 [.sy 0 0 L.length c1 0, .sy 1 0 M.length c2 0] (mkH [(0, .ro (smp L)), (1, .ro (smp M))]) 2 fun u _ _ => mkT u = mkT (.bool (gA L M)) := by
  conv => whnf
  refine aj.dA (fun h1 => ?_) (fun h1 => ?_)
  · conv => whnf
    exact (show mkT _ = AV.sb false from rfl).trans (od fun e => h1 (by rw [e]))
  have hlen : L.length = M.length := by have : (L.length : Int) = (M.length : Int) := h1; omega
  conv => whnf
  refine bC.mk { i : Nat // i < L.length + 1 ∧ L.take i = M.take i } 2 (fun a => xy L M c1 c2 a.val) (fun a => L.length - a.val) ⟨0, by omega, rfl⟩ ?_ ?_
  · exact vR (i := 0) (Nat.le_refl 2) rfl rfl rfl rfl rfl
  · intro ⟨i, hi, he⟩
    conv => whnf
    refine aj.dec (fun h2 => ?_) (fun h2 => ?_)
    · have h3 : i < L.length := Int.ofNat_lt.1 h2
      have h4 : i < M.length := by omega
      have hlt : L.length - (i + 1) < L.length - i := by omega
      have hw : IntKind.i64.wrap ((i : Int) + 1) = ((i + 1 : Nat) : Int) := by rw [aA (x := (i : Int) + 1) (by omega) (by omega)]; omega
      conv => whnf
      refine Idx.mk i rfl h3 ?_
      conv => whnf
      refine az (du h3 (by show 0 + i * 2 = i * 2; omega)) ?_
      conv => whnf
      refine Idx.mk i rfl h4 ?_
      conv => whnf
      refine az (du h4 (by show 0 + i * 2 = i * 2; omega)) ?_
      conv => whnf
      refine az (Aa tv) ?_
      conv => whnf
      refine aj.nsb (fun h5 => ?_) (fun h5 => ?_)
      · conv => whnf
        refine (show mkT _ = AV.sb false from rfl).trans (od fun e => ?_)
        subst e
        have h5 : (decide (L[i].1 = L[i].1) && (decide (L[i].2 = L[i].2) && true)) = false := h5
        simp at h5
      · conv => whnf
        have h5 : (decide (L[i].1 = M[i].1) && (decide (L[i].2 = M[i].2) && true)) = true := h5
        simp only [Bool.and_true, Bool.and_eq_true, decide_eq_true_eq] at h5
        refine ⟨⟨i + 1, by omega, ?_⟩, hlt, vR (Nat.le_refl 2) rfl rfl (congrArg (AV.si .i64) hw) rfl rfl⟩
        rw [List.take_succ_eq_append_getElem h3, List.take_succ_eq_append_getElem h4, he, Prod.ext h5.1 h5.2]
    · conv => whnf
      have h3 : i = L.length := by have : ¬ (i : Int) < (L.length : Int) := h2; omega
      subst h3
      refine (show mkT _ = AV.sb true from rfl).trans (Dn ?_)
      rw [List.take_length, hlen, List.take_length] at he
      exact he
theorem E4 : aC Dk 3 15 [.nsl, .nsl] .nil 0 fun u _ _ => mkT u = mkT (.bool (gA [] [])) := by
  conv => whnf
  refine bC.roll 1 ?_
  conv => whnf
  rfl
theorem E5 (M : Smp) (cap : Nat) : aC Dk 3 15 [.nsl, .sy 0 0 M.length cap 0] (mkH [(0, .ro (smp M))]) 1 fun u _ _ => mkT u = mkT (.bool (gA [] M)) := by
  conv => whnf
  refine aj.dA (fun h1 => ?_) (fun h1 => ?_)
  · conv => whnf
    exact (show mkT _ = AV.sb false from rfl).trans (od fun e => h1 (by rw [← e]; rfl))
  · conv => whnf
    have h2 : M = [] := List.eq_nil_of_length_eq_zero (by have : (0 : Int) = (M.length : Int) := h1; omega)
    subst h2
    refine bC.roll 1 ?_
    conv => whnf
    rfl
theorem E6 (L : Smp) (cap : Nat) : aC Dk 3 15 [.sy 0 0 L.length cap 0, .nsl] (mkH [(0, .ro (smp L))]) 1 fun u _ _ => mkT u = mkT (.bool (gA L [])) := by
  conv => whnf
  refine aj.dA (fun h1 => ?_) (fun h1 => ?_)
  · conv => whnf
    exact (show mkT _ = AV.sb false from rfl).trans (od fun e => h1 (by rw [e]; rfl))
  · conv => whnf
    have h2 : L = [] := List.eq_nil_of_length_eq_zero (by have : (L.length : Int) = (0 : Int) := h1; omega)
    subst h2
    refine bC.roll 1 ?_
    conv => whnf
    refine aj.dec (fun h => absurd h (by decide)) (fun _ => ?_)
    conv => whnf
    rfl
theorem yW : aH 15 (qc 1000000 gA) := Dm E3 (by kernel_rfl) E4 (fun M cap _ => E5 M cap) (fun L cap _ => E6 L cap) Ar
end Go.Proofs.Ythjggjhebbdkdaa
namespace Go.Proofs.Ythjggjhebbdkdaa
open Go Go.RowKit
theorem vS (S : Sr) (L : Smp) (t v p : Int) : (fF S L t v p).1.2.length ≤ L.length + 1 := by
  unfold fF
  generalize (if p = 0 then S.pol else p) = q
  split
  · exact Nat.le_succ _
  · split
    · exact Nat.le_succ _
    · split
      · exact Nat.le_trans (iY _ _ _) (pW _ _ _ _).1
      · exact Nat.le_succ _
theorem Dp (S : Sr) (L : Smp) (ret p : Int) : (kV S L ret p).1.2.length ≤ L.length := by
  unfold kV
  split
  · exact iY _ _ _
  · exact Nat.le_refl _
def tw (args : List AV) (H : AH) (n : Nat) (κ : PK) : Prop := match args with
  | [x, y, z] => ∃ (r k q : Nat) (S : Sr) (C : Ck5) (t v p : Int) (L : Smp) (S' : Sr) (L' : Smp) (e : Int), x = .ptr r 0 ∧ ke y t v ∧ mk z = .si .i64 p ∧ cX H n r k q S (pts C) C ∧ gG S C ∧ a9 v ∧ ab C = L ∧ L.length ≤ 40000 ∧ fF S L t v p = ((S', L'), e) ∧ ∀ C', gG S' C' → ab C' = L' → κ (.si .i64 e) (dG H n r k q S' (pts C') C') (n + 1)
  | _ => False
theorem Dq : aH 11 tw := fun args H n κ hs => GY args H n κ (by
  unfold tw at hs
  unfold tj
  split at hs
  · obtain ⟨r, k, q, S, C, t, v, p, L, S', L', e, h1, h2, h3, h4, h5, h6, h7, h8, h9, h10⟩ := hs
    subst h7
    refine ⟨r, k, q, S, C, t, v, p, h1, h2, h3, h4, h5, h6, h8, fun C' f1 f2 f3 f4 => ?_⟩
    have hl := vS S (ab C) t v p
    rw [h9] at f1 f2 f3 f4 hl
    have := h10 C' ⟨f2, f3, f4, by rw [f1]; dsimp only at hl ⊢; omega⟩ f1
    rw [h9]; exact this
  · exact hs.elim)
def tz (args : List AV) (H : AH) (n : Nat) (κ : PK) : Prop := match args with
  | [x, y, z] => ∃ (r k q : Nat) (S : Sr) (C : Ck5) (a b : Int) (L L' : Smp) (m : Nat), x = .ptr r 0 ∧ mk y = .si .i64 a ∧ mk z = .si .i64 b ∧ cX H n r k q S (pts C) C ∧ gG S C ∧ ab C = L ∧ L.length ≤ 40000 ∧ aS L a b = L' ∧ L.length - L'.length = m ∧ ∀ C', gG S C' → ab C' = L' → κ (.si .i64 (m : Int)) (dG H n r k q S (pts C') C') (n + 1)
  | _ => False
theorem Dr : aH 10 tz := fun args H n κ hs => CX args H n κ (by
  unfold tz at hs
  unfold oc
  split at hs
  · obtain ⟨r, k, q, S, C, a, b, L, L', m, h1, h2, h3, h4, h5, h6, h7, h8, h9, h10⟩ := hs
    subst h6 h8 h9
    have e1 := tg C
    have e2 := h5.gt.few
    have e3 := iY (ab C) a b
    exact ⟨r, k, q, S, C, a, b, h1, h2, h3, h4, h5.gt.gd.pf, by omega, by omega, fun C' f1 f2 f3 => h10 C' ⟨f2, f3, h5.num, by rw [f1]; omega⟩ f1⟩
  · exact hs.elim)
def tA (args : List AV) (H : AH) (n : Nat) (κ : PK) : Prop := match args with
  | [x, y, z] => ∃ (r k q : Nat) (S : Sr) (C : Ck5) (ret p : Int) (L : Smp) (S' : Sr) (L' : Smp) (e : Int), x = .ptr r 0 ∧ mk y = .si .i64 ret ∧ mk z = .si .i64 p ∧ cX H n r k q S (pts C) C ∧ gG S C ∧ ab C = L ∧ L.length ≤ 40000 ∧ kV S L ret p = ((S', L'), e) ∧ ∀ C', gG S' C' → ab C' = L' → κ (.si .i64 e) (dG H n r k q S' (pts C') C') (n + 1)
  | _ => False
theorem Dt : aH 60 tA := fun args H n κ hs => G0 args H n κ (by
  unfold tA at hs
  unfold tk
  split at hs
  · obtain ⟨r, k, q, S, C, ret, p, L, S', L', e, h1, h2, h3, h4, h5, h7, h8, h9, h10⟩ := hs
    subst h7
    refine ⟨r, k, q, S, C, ret, p, h1, h2, h3, h4, h5, h8, fun C' f1 f2 f3 f4 => ?_⟩
    have hl := Dp S (ab C) ret p
    rw [h9] at f1 f2 f3 f4 hl
    have := h10 C' ⟨f2, f3, f4, by rw [f1]; dsimp only at hl ⊢; omega⟩ f1
    rw [h9]; exact this
  · exact hs.elim)
theorem Du {S : Sr} (h1 : 128 ≤ S.sz) (h2 : S.sz ≤ 4096) (hn : jK S) : gG S [] := ⟨⟨⟨h1, h2, List.Pairwise.nil, (fun c hc => by cases hc), (fun c hc => by cases hc)⟩, (fun c hc => by cases hc)⟩, (fun j h => by simp at h), hn, Nat.zero_le _⟩
theorem E7 {sz ret p : Int} {S : Sr} (h : lO sz ret p = some S) : gG S [] ∧ S = ⟨sz.toNat, ret, p, -1, 0⟩ := by
  unfold lO at h
  split at h
  · rename_i k
    injection h with h
    subst h
    exact ⟨Du (by show 128 ≤ sz.toNat; omega) (by show sz.toNat ≤ 4096; omega) ⟨k.2.1, k.2.2, ⟨(show (-1 : Int) ≤ -1 by decide), (show (-1 : Int) < 1099511627776 by decide)⟩, ⟨(show (0 : Int) ≤ 0 by decide), (show (0 : Int) ≤ 1099511627776 by decide)⟩⟩, rfl⟩
  · cases h
theorem gG.okc {S : Sr} {C : Ck5} (h : gG S C) : Okc S C := h.gt.toPre5.okc (by have := h.gt.few; have := h.few; omega)
def tB (args : List AV) (H : AH) (n : Nat) (κ : PK) : Prop := match args with
  | [x, y, z] => ∃ (sz ret p : Int) (r : Option Sr), mk x = .si .i64 sz ∧ mk y = .si .i64 ret ∧ mk z = .si .i64 p ∧ n < 900000 ∧ lO sz ret p = r ∧ match r with
    | none => κ (.tup [.nil, .int .i64 1]) H n
    | some S => gG S [] → κ (.tup [.ptr n 0, .int .i64 0]) (p7 H n S) (n + 3)
  | _ => False
theorem Dv : aH 9 tB := fun args H n κ hs => G1 args H n κ (by
  unfold tB at hs
  unfold tl
  split at hs
  · obtain ⟨sz, ret, p, r, h1, h2, h3, h4, h5, h6⟩ := hs
    refine ⟨sz, ret, p, h1, h2, h3, h4, fun q => ?_, fun S q => ?_⟩
    · rw [h5] at q; subst q; exact h6
    · have := (E7 q).1
      rw [h5] at q; subst q; exact h6 this
  · exact hs.elim)
end Go.Proofs.Ythjggjhebbdkdaa
namespace Go.Proofs.Ythjggjhebbdkdaa
open Go Go.RowKit
def HP.emp : HP where
  P _ X _ := ∀ B, ¬ X B
  loc _ _ _ _ _ _ h := h
  mono _ _ _ _ _ h := h
  ex _ _ _ B h hB := absurd hB (h B)
def HP.exi {α : Type} (c : α → Prop) (Q : α → HP) : HP where
  P z X h := ∃ a, c a ∧ (Q a).P z X h
  loc z X h g hn e := fun ⟨a, h1, h2⟩ => ⟨a, h1, (Q a).loc z X h g hn e h2⟩
  mono z z' X h hz := fun ⟨a, h1, h2⟩ => ⟨a, h1, (Q a).mono z z' X h hz h2⟩
  ex z X h B := fun ⟨a, _, h2⟩ hB => (Q a).ex z X h B h2 hB
structure Loc (χ : Ph) (O : List AO) (X : Nat → Prop) (h : Hp) : Prop where
  dom : ∀ i q, χ i = some q → i < O.length ∧ X q.B
  live : ∀ i o, O[i]? = some o → o.own = true ∧ ((χ i = none ∧ o.free = true) ∨ ∃ q ob, χ i = some q ∧ h.f q.B = some ob ∧ OR χ q o ob)
  inj : ∀ i j q q', χ i = some q → χ j = some q' → q.B = q'.B → i = j
  ex : ∀ B, X B → ∃ o, h.f B = some o
  sep : ∀ i Q, O[i]? = some (.sep Q) → Q.P χ.z (χ.s i) h ∧ ∀ B, χ.s i B → X B ∧ (∀ j q, χ j = some q → q.B ≠ B) ∧ ∀ j Q', O[j]? = some (.sep Q') → j ≠ i → ¬ χ.s j B
theorem Loc.to {χ : Ph} {O : List AO} {X : Nat → Prop} {h g : Hp} (l : Loc χ O X h) (hn : h.n ≤ g.n) (e : ∀ B, X B → g.f B = h.f B) : Loc χ O X g :=
  ⟨l.dom, fun i o hi => ⟨(l.live i o hi).1, (l.live i o hi).2.imp id fun ⟨q, ob, h1, h2, h3⟩ => ⟨q, ob, h1, (e _ (l.dom i q h1).2).trans h2, h3⟩⟩, l.inj, fun B hB => by rw [e B hB]; exact l.ex B hB,
    fun i Q hi => ⟨Q.loc _ _ _ _ hn (fun B hB => e B ((l.sep i Q hi).2 B hB).1) (l.sep i Q hi).1, (l.sep i Q hi).2⟩⟩
def rr (O : List AO) (p : Nat × Nat) : HP where
  P z X h := ∃ χ : Ph, (∀ q, χ.z q → z q) ∧ (∃ T, χ 0 = some ⟨p.1, p.2, T⟩) ∧ Loc χ O X h
  loc _ _ _ _ hn e := fun ⟨χ, h1, h2, h3⟩ => ⟨χ, h1, h2, h3.to hn e⟩
  mono _ _ _ _ hz := fun ⟨χ, h1, h2, h3⟩ => ⟨χ, fun q hq => hz q (h1 q hq), h2, h3⟩
  ex _ _ _ B := fun ⟨_, _, _, h3⟩ hB => h3.ex B hB
section
variable {φ : Ph} {H H' : AH} {n : Nat} {h0 h : Hp} {b : Nat} {O : List AO} {p : Nat × Nat} {Q : HP} {S : List Nat}
theorem HR.G9 (hr : HR φ H n h0 h) (hbn : b < n) (hb : H.get b = some (.sep Q)) (hP : (rr O p).P φ.z (φ.s b) h)
    (hH : ∀ x o, H'.get x = some o → (∃ i o', x = n + i ∧ O[i]? = some o' ∧ o = cI (fun c => n + c) o') ∨ (x = b ∧ o = .sep .emp) ∨ (x ≠ b ∧ (x < n ∨ n + O.length ≤ x) ∧ H.get x = some o)) :
    ∃ ψ T, PLe φ ψ ∧ ψ n = some ⟨p.1, p.2, T⟩ ∧ HR ψ H' (n + O.length) h0 h := by
  obtain ⟨χ, hz, ⟨T, h00⟩, l⟩ := hP
  have hS := (hr.sep b Q hb).2
  have hbo := hr.m1 hb
  have φn : ∀ x, n ≤ x → φ x = none := fun x hx => by
    cases e : φ x with
    | none => rfl
    | some q => have := (hr.dom x q e).1; omega
  have χn : ∀ i, O.length ≤ i → χ i = none := fun i hi => by
    cases e : χ i with
    | none => rfl
    | some q => have := (l.dom i q e).1; omega
  let ψ : Ph := ⟨fun x => if n ≤ x then χ (x - n) else φ x, φ.z, φ.y, fun x => if n ≤ x ∧ x < n + O.length then χ.s (x - n) else if x = b then (fun _ => False) else φ.s x⟩
  have ψn : ∀ i, ψ (n + i) = χ i := fun i => by
    show (if n ≤ n + i then χ (n + i - n) else _) = _
    rw [if_pos (Nat.le_add_right n i), Nat.add_sub_cancel_left]
  have ψo : ∀ x, (x < n ∨ n + O.length ≤ x) → ψ x = φ x := fun x hx => by
    show (if n ≤ x then χ (x - n) else φ x) = φ x
    split
    · rw [φn x (by omega), χn _ (by omega)]
    · rfl
  have sn : ∀ {i : Nat} {o : AO}, O[i]? = some o → ψ.s (n + i) = χ.s i := fun {i o} hi => by
    have := (List.getElem?_eq_some_iff.1 hi).1
    show (if n ≤ n + i ∧ n + i < n + O.length then χ.s (n + i - n) else _) = _
    rw [if_pos ⟨Nat.le_add_right n i, by omega⟩, Nat.add_sub_cancel_left]
  have sb : ψ.s b = fun _ => False := by
    show (if n ≤ b ∧ b < n + O.length then _ else if b = b then _ else _) = _
    rw [if_neg (by omega), if_pos rfl]
  have so : ∀ x, (x < n ∨ n + O.length ≤ x) → x ≠ b → ψ.s x = φ.s x := fun x hx hxb => by
    show (if n ≤ x ∧ x < n + O.length then _ else if x = b then _ else _) = _
    rw [if_neg (by omega), if_neg hxb]
  have hle : PLe φ ψ := ⟨fun x q e => by rw [ψo x (.inl (hr.dom x q e).1)]; exact e, fun _ h => h, fun _ h => h⟩
  have sle : SLe χ (ψ.pull (fun c => n + c)) := ⟨fun i q e => by show ψ (n + i) = _; rw [ψn]; exact e, hz⟩
  have cs : ∀ x o q, H'.get x = some o → o.own = true → ψ x = some q → (∃ i, x = n + i ∧ χ i = some q ∧ φ.s b q.B) ∨ ((x < n ∨ n + O.length ≤ x) ∧ x ≠ b ∧ H.get x = some o ∧ φ x = some q) := fun x o q hx ho hq => by
    rcases hH x o hx with ⟨i, o', rfl, h1, rfl⟩ | ⟨rfl, rfl⟩ | ⟨h1, h2, h3⟩
    · rw [ψn] at hq; exact .inl ⟨i, rfl, hq, (l.dom i q hq).2⟩
    · rw [ψo _ (.inl hbn), hbo] at hq; cases hq
    · rw [ψo _ h2] at hq; exact .inr ⟨h2, h1, h3, hq⟩
  refine ⟨ψ, T, hle, by have := ψn 0; rw [Nat.add_zero] at this; rw [this]; exact h00, ⟨fun x q e => ?_, fun x o e => ?_, fun x y o o' q q' hx hy ho ho' hq hq' e => ?_, hr.base, hr.size, fun q hq => ?_, fun x Q' hx => ?_⟩⟩
  · by_cases hxn : n ≤ x
    · obtain ⟨i, rfl⟩ : ∃ i, x = n + i := ⟨x - n, by omega⟩
      rw [ψn] at e
      have := l.dom i q e
      exact ⟨by omega, (hS q.B this.2).1.1⟩
    · rw [ψo x (.inl (by omega))] at e
      have := hr.dom x q e
      exact ⟨by omega, this.2⟩
  · rcases hH x o e with ⟨i, o', rfl, h1, rfl⟩ | ⟨rfl, rfl⟩ | ⟨h1, h2, h3⟩
    · obtain ⟨g1, ⟨g2, g3⟩ | ⟨q, ob, g2, g3, g4⟩⟩ := l.live i o' h1
      · exact .inl ⟨by rw [ψn]; exact g2, by rw [gK]; exact g3⟩
      · refine .inr ⟨q, ob, by rw [ψn]; exact g2, ?_, g3, (OR.pull (χ := ψ)).2 (g4.cu sle)⟩
        rw [jz, AO.bd g1]
        exact (hS q.B (l.dom i q g2).2).1.2
    · exact .inl ⟨by rw [ψo _ (.inl hbn)]; exact hbo, rfl⟩
    · rcases hr.live x o h3 with ⟨g1, g2⟩ | ⟨q, ob, g1, g2, g3, g4⟩
      · exact .inl ⟨by rw [ψo _ h2]; exact g1, g2⟩
      · exact .inr ⟨q, ob, by rw [ψo _ h2]; exact g1, g2, g3, g4.mono hle⟩
  · rcases cs x o q hx ho hq with ⟨i, rfl, a1, a2⟩ | ⟨a1, a2, a3, a4⟩ <;> rcases cs y o' q' hy ho' hq' with ⟨j, rfl, b1, b2⟩ | ⟨b1, b2, b3, b4⟩
    · rw [l.inj i j q q' a1 b1 e]
    · exact absurd e.symm ((hS _ a2).2.1 y o' q' b3 ho' b4)
    · exact absurd e ((hS _ b2).2.1 x o q a3 ho a4)
    · exact hr.inj x y o o' q q' a3 b3 ho ho' a4 b4 e
  · refine ⟨⟨FzR.mono (φ := φ) (ψ := ψ) hle.z (hr.frz q hq).1.1, (hr.frz q hq).1.2⟩, fun x o px hx ho hpx => ?_⟩
    rcases cs x o px hx ho hpx with ⟨i, rfl, a1, a2⟩ | ⟨a1, a2, a3, a4⟩
    · exact fun e => (hS _ a2).2.2.1 q hq e.symm
    · exact (hr.frz q hq).2 x o px a3 ho a4
  · rcases hH x _ hx with ⟨i, o', rfl, h1, h2⟩ | ⟨rfl, h2⟩ | ⟨h1, h2, h3⟩
    · have h2 := iS h2.symm
      subst h2
      obtain ⟨g1, g2⟩ := l.sep i Q' h1
      rw [sn h1]
      refine ⟨Q'.mono _ _ _ _ hz g1, fun B hB => ?_⟩
      obtain ⟨k1, k2, k3⟩ := g2 B hB
      obtain ⟨f1, f2, f3, f4⟩ := hS B k1
      refine ⟨f1, fun y o q hy ho hq => ?_, f3, fun y Q2 hy hne hs => ?_⟩
      · rcases cs y o q hy ho hq with ⟨j, rfl, a1, a2⟩ | ⟨a1, a2, a3, a4⟩
        · exact k2 j q a1
        · exact f2 y o q a3 ho a4
      · rcases hH y _ hy with ⟨j, o', rfl, j1, j2⟩ | ⟨rfl, j2⟩ | ⟨j1, j2, j3⟩
        · have j2 := iS j2.symm
          subst j2
          rw [sn j1] at hs
          exact k3 j Q2 j1 (fun q => hne (by rw [q])) hs
        · rw [sb] at hs; exact hs
        · rw [so y j2 j1] at hs
          exact f4 y Q2 j3 j1 hs
    · injection h2 with h2; subst h2
      rw [sb]
      exact ⟨fun _ h => h, fun _ h => h.elim⟩
    · obtain ⟨g1, g2⟩ := hr.sep x Q' h3
      rw [so x h2 h1]
      refine ⟨g1, fun B hB => ?_⟩
      obtain ⟨f1, f2, f3, f4⟩ := g2 B hB
      refine ⟨f1, fun y o q hy ho hq => ?_, f3, fun y Q2 hy hne hs => ?_⟩
      · rcases cs y o q hy ho hq with ⟨j, rfl, a1, a2⟩ | ⟨a1, a2, a3, a4⟩
        · exact fun e => f4 b Q hb (fun q => h1 q.symm) (by rw [← e]; exact a2)
        · exact f2 y o q a3 ho a4
      · rcases hH y _ hy with ⟨j, o', rfl, j1, j2⟩ | ⟨rfl, j2⟩ | ⟨j1, j2, j3⟩
        · have j2 := iS j2.symm
          subst j2
          rw [sn j1] at hs
          exact f4 b Q hb (fun q => h1 q.symm) ((l.sep j Q2 j1).2 B hs).1
        · rw [sb] at hs; exact hs
        · rw [so y j2 j1] at hs
          exact f4 y Q2 j3 hne hs
def yX (H : AH) (S : List Nat) (O : List AO) : Prop := S.Nodup ∧ S.length = O.length ∧ ∀ (i s : Nat) (o : AO), S[i]? = some s → O[i]? = some o → H.get s = some (cI (ba S 0) o) ∧ o.own = true ∧ ltO O.length o = true
theorem HR.Ik (hr : HR φ H n h0 h) (hs : yX H S O) (hb : H.get b = some (.sep .emp)) (hbS : b ∉ S) {s0 T : Nat} (hs0 : S[0]? = some s0) (hp : φ s0 = some ⟨p.1, p.2, T⟩)
    (hH : ∀ x o, H'.get x = some o → (x = b ∧ o = .sep Q) ∨ (x ≠ b ∧ x ∉ S ∧ H.get x = some o)) (hQ : ∀ z X h, (rr O p).P z X h → Q.P z X h) :
    ∃ ψ, SLe φ ψ ∧ PLe φ ψ ∧ ψ.f = φ.f ∧ HR ψ H' n h0 h := by
  have hbo := hr.m1 hb
  have ofS : ∀ {i s}, S[i]? = some s → ∃ o, O[i]? = some o ∧ H.get s = some (cI (ba S 0) o) ∧ o.own = true ∧ ltO O.length o = true := fun {i s} e => by
    have hlt : i < O.length := by rw [← hs.2.1]; exact (List.getElem?_eq_some_iff.1 e).1
    exact ⟨O[i], List.getElem?_eq_getElem hlt, hs.2.2 i s O[i] e (List.getElem?_eq_getElem hlt)⟩
  have ofO : ∀ {i o}, O[i]? = some o → ∃ s, S[i]? = some s := fun {i o} e => by
    have := (List.getElem?_eq_some_iff.1 e).1
    rw [← hs.2.1] at this
    exact ⟨S[i], List.getElem?_eq_getElem this⟩
  let X : Nat → Prop := fun B => (∃ (i s : Nat) (q : Pl), S[i]? = some s ∧ φ s = some q ∧ q.B = B) ∨ ∃ (i s : Nat) (Q' : HP), S[i]? = some s ∧ O[i]? = some (AO.sep Q') ∧ φ.s s B
  let χ : Ph := ⟨fun i => match S[i]? with | some s => φ s | none => none, φ.z, φ.y, fun i => match S[i]? with | some s => φ.s s | none => fun _ => False⟩
  have χf : ∀ {i s}, S[i]? = some s → χ i = φ s := fun {i s} e => by
    show (match S[i]? with | some s => φ s | none => none) = _
    rw [e]
  have χs : ∀ {i s}, S[i]? = some s → χ.s i = φ.s s := fun {i s} e => by
    show (match S[i]? with | some s => φ.s s | none => fun _ => False) = _
    rw [e]
  have χi : ∀ {i q}, χ i = some q → ∃ s, S[i]? = some s ∧ φ s = some q := fun {i q} e => by
    have e : (match S[i]? with | some s => φ s | none => none) = some q := e
    cases hi : S[i]? with
    | none => rw [hi] at e; cases e
    | some s => rw [hi] at e; exact ⟨s, rfl, e⟩
  have own : ∀ {i s q}, S[i]? = some s → φ s = some q → ∃ o, O[i]? = some o ∧ H.get s = some (cI (ba S 0) o) ∧ (cI (ba S 0) o).own = true := fun {i s q} e1 _ => by
    obtain ⟨o, h1, h2, h3, _⟩ := ofS e1
    exact ⟨o, h1, h2, by rw [eV]; exact h3⟩
  have hl : Loc χ O X h := by
    refine ⟨fun i q e => ?_, fun i o e => ?_, fun i j q q' e e' hB => ?_, fun B hB => ?_, fun i Q' e => ?_⟩
    · obtain ⟨s, h1, h2⟩ := χi e
      exact ⟨by rw [← hs.2.1]; exact (List.getElem?_eq_some_iff.1 h1).1, .inl ⟨i, s, q, h1, h2, rfl⟩⟩
    · obtain ⟨s, h1⟩ := ofO e
      obtain ⟨h2, h3, h4⟩ := hs.2.2 i s o h1 e
      refine ⟨h3, ?_⟩
      rcases hr.live s _ h2 with ⟨g1, g2⟩ | ⟨q, ob, g1, g2, g3, g4⟩
      · exact .inl ⟨by rw [χf h1]; exact g1, by rw [gK] at g2; exact g2⟩
      · refine .inr ⟨q, ob, by rw [χf h1]; exact g1, g3, ?_⟩
        have g5 := (OR.pull (χ := φ) (r := ba S 0)).1 g4
        refine OR.below (m := O.length) (χ := χ) (ψ := φ.pull (ba S 0)) (fun b' p' hb' e' => ?_) (fun _ h => h) h4 g5
        have e' : φ (ba S 0 b') = some p' := e'
        have hlt : b' < S.length := by rw [hs.2.1]; exact hb'
        have hg : S[b']? = some S[b'] := List.getElem?_eq_getElem hlt
        rw [bW hg] at e'
        rw [χf hg]; exact e'
    · obtain ⟨s, h1, h2⟩ := χi e
      obtain ⟨s', h1', h2'⟩ := χi e'
      obtain ⟨o, _, g2, g3⟩ := own h1 h2
      obtain ⟨o', _, g2', g3'⟩ := own h1' h2'
      have := hr.inj s s' _ _ q q' g2 g2' g3 g3' h2 h2' hB
      subst this
      exact iT hs.1 h1 h1'
    · rcases hB with ⟨i, s, q, h1, h2, rfl⟩ | ⟨i, s, Q', h1, h2, h3⟩
      · obtain ⟨o, _, g2, _⟩ := own h1 h2
        obtain ⟨ob, _, g3, _⟩ := hr.of g2 h2
        exact ⟨ob, g3⟩
      · exact Q'.ex _ _ _ B (hr.sep s Q' (hs.2.2 i s _ h1 h2).1).1 h3
    · obtain ⟨s, h1⟩ := ofO e
      obtain ⟨k1, k2⟩ := hr.sep s Q' (hs.2.2 i s _ h1 e).1
      rw [χs h1]
      refine ⟨k1, fun B hB => ?_⟩
      obtain ⟨g1, g2, g3, g4⟩ := k2 B hB
      refine ⟨.inr ⟨i, s, Q', h1, e, hB⟩, fun j q hj => ?_, fun j Q2 hj hne hsj => ?_⟩
      · obtain ⟨s', f1, f2⟩ := χi hj
        obtain ⟨o, _, f3, f4⟩ := own f1 f2
        exact g2 s' _ q f3 f4 f2
      · obtain ⟨s', f1⟩ := ofO hj
        rw [χs f1] at hsj
        exact g4 s' Q2 (hs.2.2 j s' _ f1 hj).1 (fun q => hne (by subst q; exact iT hs.1 f1 h1)) hsj
  let ψ : Ph := ⟨φ.f, φ.z, φ.y, fun x => if x = b then X else φ.s x⟩
  have sle : SLe φ ψ := ⟨fun _ _ h => h, fun _ h => h⟩
  have old : ∀ x o q, H'.get x = some o → o.own = true → φ x = some q → x ≠ b ∧ x ∉ S ∧ H.get x = some o := fun x o q hx ho hq => by
    rcases hH x o hx with ⟨rfl, _⟩ | h
    · rw [hbo] at hq; cases hq
    · exact h
  refine ⟨ψ, sle, ⟨fun _ _ h => h, fun _ h => h, fun _ h => h⟩, rfl, ⟨hr.dom, fun x o hx => ?_, fun x y o o' q q' hx hy ho ho' hq hq' e => hr.inj x y o o' q q' (old x o q hx ho hq).2.2 (old y o' q' hy ho' hq').2.2 ho ho' hq hq' e, hr.base, hr.size, fun q hq => ⟨⟨FzR.mono (φ := φ) (ψ := ψ) sle.z (hr.frz q hq).1.1, (hr.frz q hq).1.2⟩, fun x o px hx ho hpx => (hr.frz q hq).2 x o px (old x o px hx ho hpx).2.2 ho hpx⟩, fun x Q' hx => ?_⟩⟩
  · rcases hH x o hx with ⟨rfl, rfl⟩ | ⟨_, _, h3⟩
    · exact .inl ⟨hbo, rfl⟩
    · rcases hr.live x o h3 with g | ⟨q, ob, g1, g2, g3, g4⟩
      · exact .inl g
      · exact .inr ⟨q, ob, g1, g2, g3, g4.cu sle⟩
  · rcases hH x _ hx with ⟨rfl, h2⟩ | ⟨h1, h2, h3⟩
    · injection h2 with h2; subst h2
      have es : ψ.s x = X := if_pos rfl
      rw [es]
      refine ⟨hQ _ _ _ ⟨χ, fun _ h => h, ⟨T, by rw [χf hs0]; exact hp⟩, hl⟩, fun B hB => ?_⟩
      rcases hB with ⟨i, s, q, h1, h2, rfl⟩ | ⟨i, s, Q2, h1, h2, h3⟩
      · obtain ⟨o, _, g2, g3⟩ := own h1 h2
        obtain ⟨ob, g4, _⟩ := hr.of g2 h2
        rw [AO.bd g3] at g4
        refine ⟨⟨(hr.dom s q h2).2, g4⟩, fun y o' q' hy ho' hq' e => ?_, fun q2 hq2 e => (hr.frz q2 hq2).2 s _ q g2 g3 h2 e.symm, fun y Q2 hy hne hsy => ?_⟩
        · obtain ⟨_, a2, a3⟩ := old y o' q' hy ho' hq'
          have := hr.inj y s o' _ q' q a3 g2 ho' g3 hq' h2 e
          subst this
          exact a2 (List.mem_of_getElem? h1)
        · rcases hH y _ hy with ⟨q1, _⟩ | ⟨q1, _, q3⟩
          · exact hne q1
          · have : ψ.s y = φ.s y := if_neg q1
            rw [this] at hsy
            exact ((hr.sep y Q2 q3).2 _ hsy).2.1 s _ q g2 g3 h2 rfl
      · obtain ⟨f1, f2, f3, f4⟩ := (hr.sep s Q2 (hs.2.2 i s _ h1 h2).1).2 B h3
        refine ⟨f1, fun y o' q' hy ho' hq' => f2 y o' q' (old y o' q' hy ho' hq').2.2 ho' hq', f3, fun y Q3 hy hne hsy => ?_⟩
        rcases hH y _ hy with ⟨q1, _⟩ | ⟨q1, q2, q3⟩
        · exact hne q1
        · have : ψ.s y = φ.s y := if_neg q1
          rw [this] at hsy
          exact f4 y Q3 q3 (fun e => q2 (e ▸ List.mem_of_getElem? h1)) hsy
    · obtain ⟨k1, k2⟩ := hr.sep x Q' h3
      have es : ψ.s x = φ.s x := if_neg h1
      rw [es]
      refine ⟨k1, fun B hB => ?_⟩
      obtain ⟨f1, f2, f3, f4⟩ := k2 B hB
      refine ⟨f1, fun y o' q' hy ho' hq' => f2 y o' q' (old y o' q' hy ho' hq').2.2 ho' hq', f3, fun y Q3 hy hne hsy => ?_⟩
      rcases hH y _ hy with ⟨rfl, _⟩ | ⟨q1, q2, q3⟩
      · have : ψ.s y = X := if_pos rfl
        rw [this] at hsy
        rcases hsy with ⟨i, s, q, g1, g2, g3⟩ | ⟨i, s, Q2, g1, g2, g3⟩
        · obtain ⟨o, _, j2, j3⟩ := own g1 g2
          exact f2 s _ q j2 j3 g2 g3
        · exact f4 s Q2 (hs.2.2 i s _ g1 g2).1 (fun e => h2 (e ▸ List.mem_of_getElem? g1)) g3
      · have : ψ.s y = φ.s y := if_neg q1
        rw [this] at hsy
        exact f4 y Q3 q3 hne hsy
theorem HR.hole (hr : HR φ H n h0 h) : ∃ ψ, PLe φ ψ ∧ HR ψ (H.set (some (.sep .emp)) aa n) (n + 1) h0 h := by
  have cs : ∀ x o, (H.set (some (.sep .emp)) aa n).get x = some o → (x = n ∧ o = .sep .emp) ∨ (x ≠ n ∧ H.get x = some o) := fun x o hx => by
    rcases PM.ao aa H n x o hx with ⟨h1, h2⟩ | h2
    · injection h2 with h2; exact .inl ⟨h1, h2.symm⟩
    · exact .inr h2
  have hno : φ n = none := by
    cases e : φ n with
    | none => rfl
    | some q => exact absurd (hr.dom n q e).1 (Nat.lt_irrefl _)
  let ψ : Ph := ⟨φ.f, φ.z, φ.y, fun x => if x = n then (fun _ => False) else φ.s x⟩
  have own : ∀ x o q, (H.set (some (.sep .emp)) aa n).get x = some o → φ x = some q → H.get x = some o := fun x o q hx hq => by
    rcases cs x o hx with ⟨rfl, _⟩ | ⟨_, h3⟩
    · rw [hno] at hq; cases hq
    · exact h3
  have sle : SLe φ ψ := ⟨fun _ _ h => h, fun _ h => h⟩
  refine ⟨ψ, ⟨fun _ _ h => h, fun _ h => h, fun _ h => h⟩, ⟨fun x q hx => ⟨by have := (hr.dom x q hx).1; omega, (hr.dom x q hx).2⟩, fun x o hx => ?_, fun x y o o' q q' hx hy ho ho' hq hq' e => hr.inj x y o o' q q' (own x o q hx hq) (own y o' q' hy hq') ho ho' hq hq' e, hr.base, hr.size, fun q hq => ⟨⟨FzR.mono (φ := φ) (ψ := ψ) sle.z (hr.frz q hq).1.1, (hr.frz q hq).1.2⟩, fun x o px hx ho hpx => (hr.frz q hq).2 x o px (own x o px hx hpx) ho hpx⟩, fun x Q2 hx => ?_⟩⟩
  · rcases cs x o hx with ⟨rfl, rfl⟩ | ⟨_, h4⟩
    · exact .inl ⟨hno, rfl⟩
    · rcases hr.live x o h4 with g | ⟨q, ob, g1, g2, g3, g4⟩
      · exact .inl g
      · exact .inr ⟨q, ob, g1, g2, g3, g4.cu sle⟩
  · rcases cs x _ hx with ⟨rfl, h2⟩ | ⟨h1, h4⟩
    · injection h2 with h2; subst h2
      have es : ψ.s x = fun _ => False := if_pos rfl
      rw [es]
      exact ⟨fun _ h => h, fun X hX => hX.elim⟩
    · obtain ⟨g0, g⟩ := hr.sep x Q2 h4
      have es : ψ.s x = φ.s x := if_neg h1
      rw [es]
      refine ⟨g0, fun X hX => ?_⟩
      obtain ⟨g1, g2, g3, g4⟩ := g X hX
      refine ⟨g1, fun y o q hy ho hq => g2 y o q (own y o q hy hq) ho hq, g3, fun y Q4 hy hne hs => ?_⟩
      rcases cs y _ hy with ⟨rfl, _⟩ | ⟨q1, q4⟩
      · have : ψ.s y = fun _ => False := if_pos rfl
        rw [this] at hs; exact hs
      · have : ψ.s y = φ.s y := if_neg q1
        rw [this] at hs
        exact g4 y Q4 q4 hne hs
end
noncomputable def vT : List AO → Nat → AH → AH
  | [], _, H => H
  | o :: O, k, H => vT O (k + 1) (H.set (some o) aa k)
theorem vU : ∀ {O : List AO} {k : Nat} {H : AH} {x : Nat} {o : AO}, (vT O k H).get x = some o → (∃ i, x = k + i ∧ O[i]? = some o) ∨ ((x < k ∨ k + O.length ≤ x) ∧ H.get x = some o)
  | [], k, H, x, o, h => .inr ⟨by simp only [List.length_nil]; omega, h⟩
  | a :: O, k, H, x, o, h => by
    rcases vU (O := O) h with ⟨i, rfl, h1⟩ | ⟨h1, h2⟩
    · exact .inl ⟨i + 1, by omega, h1⟩
    · rcases PM.ao aa H k x o h2 with ⟨rfl, h3⟩ | ⟨h3, h4⟩
      · injection h3 with h3; subst h3; exact .inl ⟨0, rfl, rfl⟩
      · exact .inr ⟨by simp only [List.length_cons]; omega, h4⟩
def Il (b n : Nat) (p : Nat × Nat) (κ : PK) : PK := fun v H2 n2 => ∃ (S : List Nat) (O2 : List AO) (Q2 : HP) (H3 : AH), yX H2 S O2 ∧ H2.get b = some (.sep .emp) ∧ b ∉ S ∧ S[0]? = some n ∧ (∀ z X h, (rr O2 p).P z X h → Q2.P z X h) ∧ (∀ x o, H3.get x = some o → (x = b ∧ o = .sep Q2) ∨ (x ≠ b ∧ x ∉ S ∧ H2.get x = some o)) ∧ κ v H3 n2
section
variable {φ : Ph} {H : AH} {n : Nat} {h0 hp : Hp} {vs : Array Value} {κ : PK} {K : KH} {b : Nat} {O : List AO} {p : Nat × Nat} {Q : HP} {rest : List AV}
theorem aH.Dw {f : FuncId} {run : List AV → AH → Nat → PK → Prop} (hrun : aH f run) (hr : HR φ H n h0 hp) (hbn : b < n) (hb : H.get b = some (.sep Q)) (hP : (rr O p).P φ.z (φ.s b) hp) (hargs : VRs φ (cS p :: rest) vs.toList) (hk : bX φ h0 κ K)
    (hs : run (.ptr n 0 :: rest) (vT (O.map (cI fun c => n + c)) n (H.set (some (.sep .emp)) aa b)) (n + O.length) (Il b n p κ)) : cz Try.prog f vs hp K := by
  obtain ⟨ψ, T, hle, hψ, hr2⟩ := hr.G9 (H' := vT (O.map (cI fun c => n + c)) n (H.set (some (.sep .emp)) aa b)) hbn hb hP fun x o hx => by
    rcases vU hx with ⟨i, h1, h2⟩ | ⟨h1, h2⟩
    · rw [List.getElem?_map, Option.map_eq_some_iff] at h2
      obtain ⟨o', h2, h3⟩ := h2
      exact .inl ⟨i, o', h1, h2, h3.symm⟩
    · rcases PM.ao aa H b x o h2 with ⟨h3, h4⟩ | ⟨h3, h4⟩
      · injection h4 with h4; exact .inr (.inl ⟨h3, h4.symm⟩)
      · exact .inr (.inr ⟨h3, by rw [List.length_map] at h1; exact h1, h4⟩)
  obtain ⟨w1, us1, q1, e1, r1⟩ := hargs.cons_inv
  have e1 : w1 = qq p := e1
  subst e1
  refine hrun _ _ _ _ hs ψ h0 hp vs K hr2 (by rw [q1]; exact .cons (VR.pw hψ) (VRs.mono hle _ _ r1)) fun χ v H2 n2 u g hle2 hg hu ⟨S, O2, Q2, H3, g1, g2, g3, g4, g5, g6, g7⟩ => ?_
  obtain ⟨ω, _, hle3, _, hr3⟩ := hg.Ik g1 g2 g3 g4 (hle2.b _ _ hψ) g6 g5
  exact hk ω v _ n2 u g ((hle.trans hle2).trans hle3) hr3 (VR.mono hle3 _ _ hu) g7
def Im (b : Nat) (κ : PK) : PK := fun v H2 n2 => ∃ (S : List Nat) (O2 : List AO) (Q2 : Nat × Nat → HP) (H3 : Nat × Nat → AH) (v2 : Nat × Nat → AV) (s0 : Nat) (o0 : AO), yX H2 S O2 ∧ H2.get b = some (.sep .emp) ∧ b ∉ S ∧ S[0]? = some s0 ∧ O2[0]? = some o0 ∧ o0.free = false ∧ (∀ p z X h, (rr O2 p).P z X h → (Q2 p).P z X h) ∧ (∀ p x o, (H3 p).get x = some o → (x = b ∧ o = .sep (Q2 p)) ∨ (x ≠ b ∧ x ∉ S ∧ H2.get x = some o)) ∧ (∀ p φ T u, φ.f s0 = some ⟨p.1, p.2, T⟩ → VR φ v u → VR φ (v2 p) u) ∧ ∀ p, κ (v2 p) (H3 p) n2
theorem aH.Io {f : FuncId} {run : List AV → AH → Nat → PK → Prop} (hrun : aH f run) {args : List AV} (hr : HR φ H n h0 hp) (hargs : VRs φ args vs.toList) (hk : bX φ h0 κ K)
    (hs : run args (H.set (some (.sep .emp)) aa n) (n + 1) fun v H2 n2 => Im n κ v H2 n2 ∨ ∃ H3, (∀ x o, H3.get x = some o → H2.get x = some o) ∧ κ v H3 n2) : cz Try.prog f vs hp K := by
  obtain ⟨ψ, hle, hr2⟩ := hr.hole
  refine hrun _ _ _ _ hs ψ h0 hp vs K hr2 (VRs.mono hle _ _ hargs) fun χ v H2 n2 u g hle2 hg hu hR => ?_
  rcases hR with ⟨S, O2, Q2, H3, v2, s0, o0, g1, g2, g3, g4, g5, g6, g7, g8, g9, g10⟩ | ⟨H3, g1, g2⟩
  · obtain ⟨j1, j2, j3⟩ := g1.2.2 0 s0 o0 g4 g5
    rcases hg.live s0 _ j1 with ⟨_, k2⟩ | ⟨q, ob, k1, _⟩
    · rw [gK, g6] at k2; cases k2
    · have e : q = ⟨(q.B, q.s).1, (q.B, q.s).2, q.T⟩ := rfl
      rw [e] at k1
      obtain ⟨ω, _, hle3, _, hr3⟩ := hg.Ik (Q := Q2 (q.B, q.s)) g1 g2 g3 g4 k1 (g8 _) (g7 _)
      exact hk ω _ _ n2 u g ((hle.trans hle2).trans hle3) hr3 (VR.mono hle3 _ _ (g9 _ _ _ _ k1 hu)) (g10 _)
  · exact hk χ v H3 n2 u g (hle.trans hle2) (hg.less g1) hu g2
end
end Go.Proofs.Ythjggjhebbdkdaa
namespace Go.Proofs.Ythjggjhebbdkdaa
open Go Go.RowKit
def iZ (p : Nat × Nat) (S : Sr) (L : Smp) : HP := HP.exi (fun C : Ck5 => gG S C ∧ ab C = L) fun C => rr (eH S (pts C) C) p
def nH (S : Sr) (L : Smp) : Prop := ∃ C, gG S C ∧ ab C = L
def kA (H : AH) (n : Nat) : Prop := n < 800000 ∧ PM.get H n = none ∧ PM.get H (n + 1) = none ∧ PM.get H (n + 2) = none ∧ PM.get H (n + 3) = none
noncomputable def opS (H : AH) (n b : Nat) (S : Sr) (C : Ck5) : AH := PM.set (some (cF S C)) aa (PM.set (some (.cells (aQ (pts C)) true)) aa (PM.set (some (.cells (bV S (n + 1) (pts C).length) true)) aa (PM.set (some (.sep .emp)) aa H b) n) (n + 1)) (n + 2)
theorem xz (H : AH) (n b : Nat) (S : Sr) (C : Ck5) : vT ((eH S (pts C) C).map (cI fun c => n + c)) n (PM.set (some (.sep .emp)) aa H b) = opS H n b S C := by
  show vT [cI _ (.cells (bV S 1 (pts C).length) true), cI _ (.cells (aQ (pts C)) true), cI _ (cF S C)] n _ = _
  (try simp only [cI, ib])
  rfl
section
variable {H : AH} {n b : Nat} {S : Sr} {C : Ck5}
theorem lP (hn : n < 800000) : cX (opS H n b S C) (n + 3) n (n + 1) (n + 2) S (pts C) C :=
  ⟨⟨by omega, by omega, by omega⟩, ⟨by omega, by omega, by omega⟩,
   PM.ax aa _ _ _ (ay (by omega)) (by omega) (PM.ax aa _ _ _ (ay (by omega)) (by omega) (PM.bj aa _ _ (ay (by omega)))),
   PM.ax aa _ _ _ (ay (by omega)) (by omega) (PM.bj aa _ _ (ay (by omega))), PM.bj aa _ _ (ay (by omega))⟩
theorem Dx (hbn : b < n) (hn : n < 800000) : PM.get (opS H n b S C) b = some (.sep .emp) :=
  PM.ax aa _ _ _ (ay (by omega)) (by omega) (PM.ax aa _ _ _ (ay (by omega)) (by omega) (PM.ax aa _ _ _ (ay (by omega)) (by omega) (PM.bj aa _ _ (ay (by omega)))))
theorem Dy (hn : n < 800000) {x : Nat} {o : AO} (hx : x < n ∨ n + 3 ≤ x) (hxb : x ≠ b) (hbn : b < n) (h : PM.get H x = some o) : PM.get (opS H n b S C) x = some o :=
  PM.ax aa _ _ _ (ay (by omega)) (by omega) (PM.ax aa _ _ _ (ay (by omega)) (by omega) (PM.ax aa _ _ _ (ay (by omega)) (by omega) (PM.ax aa _ _ _ (ay (by omega)) hxb h)))
theorem kA.ne (hR : kA H n) {x : Nat} {o : AO} (h : PM.get H x = some o) : x ≠ n ∧ x ≠ n + 1 ∧ x ≠ n + 2 ∧ x ≠ n + 3 :=
  have key : ∀ m, PM.get H m = none → x ≠ m := fun m hm e => by rw [e, hm] at h; cases h
  ⟨key _ hR.2.1, key _ hR.2.2.1, key _ hR.2.2.2.1, key _ hR.2.2.2.2⟩
theorem cX.yY {H2 : AH} {n2 r k q : Nat} (h : cX H2 n2 r k q S (pts C) C) : yX H2 [r, k, q] (eH S (pts C) C) :=
  ⟨by simp [h.ne.1, h.ne.2.1, h.ne.2.2], rfl, fun i s o h1 h2 => by
    match i, h1, h2 with
    | 0, h1, h2 => injection h1 with h1; injection h2 with h2; subst h1 h2; exact ⟨h.hr, rfl, rfl⟩
    | 1, h1, h2 => injection h1 with h1; injection h2 with h2; subst h1 h2; exact ⟨by rw [cI, ib]; exact h.hk, rfl, mE _ _⟩
    | 2, h1, h2 => injection h1 with h1; injection h2 with h2; subst h1 h2; exact ⟨h.hq, rfl, rfl⟩⟩
theorem As {n2 r k q : Nat} {S' : Sr} {C' : Ck5} {H2 : AH} (hR : r < n2 ∧ k < n2 ∧ q < n2) (hne : r ≠ k ∧ r ≠ q ∧ k ≠ q) (hn : n2 < 890000) : cX (dG H2 n2 r k q S' (pts C') C') (n2 + 1) r n2 q S' (pts C') C' :=
  ⟨⟨by omega, by omega, by omega⟩, ⟨by omega, by omega, by omega⟩, PM.bj aa _ _ (ay (by omega)),
   PM.ax aa _ _ _ (ay (by omega)) (by omega) (PM.ax aa _ _ _ (ay (by omega)) (by omega) (PM.ax aa _ _ _ (ay (by omega)) (by omega) (PM.bj aa _ _ (ay (by omega))))),
   PM.ax aa _ _ _ (ay (by omega)) (by omega) (PM.ax aa _ _ _ (ay (by omega)) (by omega) (PM.bj aa _ _ (ay (by omega))))⟩
theorem vV {n2 r k q : Nat} {S' : Sr} {C' : Ck5} {H2 : AH} (hn : n2 < 890000) (hR : r < n2 ∧ k < n2 ∧ q < n2) {x : Nat} {o : AO} (hx : x ≠ r ∧ x ≠ k ∧ x ≠ q ∧ x ≠ n2) (h : PM.get H2 x = some o) : PM.get (dG H2 n2 r k q S' (pts C') C') x = some o :=
  PM.ax aa _ _ _ (ay (by omega)) hx.1 (PM.ax aa _ _ _ (ay (by omega)) hx.2.1 (PM.ax aa _ _ _ (ay (by omega)) hx.2.2.1 (PM.ax aa _ _ _ (ay (by omega)) hx.2.2.2 h)))
end
section
variable {f : FuncId} {run : List AV → AH → Nat → PK → Prop} {φ : Ph} {H : AH} {n : Nat} {h0 hp : Hp} {vs : Array Value} {κ : PK} {K : KH} {b : Nat} {p : Nat × Nat} {S : Sr} {L : Smp} {rest : List AV}
theorem Au (hrun : aH f run) (hr : HR φ H n h0 hp) (hbn : b < n) (hb : PM.get H b = some (.sep (iZ p S L))) (hR : kA H n) (hargs : VRs φ (cS p :: rest) vs.toList) (hk : bX φ h0 κ K)
    (hs : ∀ C, gG S C → ab C = L → ∃ v, run (.ptr n 0 :: rest) (opS H n b S C) (n + 3) (fun u H2 n2 => u = v ∧ H2 = opS H n b S C ∧ n2 = n + 3) ∧ κ v H (n + 3)) : cz Try.prog f vs hp K := by
  obtain ⟨C, ⟨h5, hf⟩, hP⟩ := (hr.sep b _ hb).1
  obtain ⟨v, h1, h2⟩ := hs C h5 hf
  have h3 : aH f fun args H n κ => ∃ κ0 : PK, run args H n κ0 ∧ ∀ v H' n', κ0 v H' n' → κ v H' n' := fun args H n κ ⟨κ0, a1, a2⟩ φ h0 h vs K b1 b2 b3 => hrun args H n κ0 a1 φ h0 h vs K b1 b2 fun ψ v H' n' u g c1 c2 c3 c4 => b3 ψ v H' n' u g c1 c2 c3 (a2 _ _ _ c4)
  refine h3.Dw hr hbn hb hP hargs hk ?_
  rw [xz]
  refine ⟨_, h1, fun u H2 n2 ⟨e1, e2, e3⟩ => ?_⟩
  subst e1 e2 e3
  refine ⟨[n, n + 1, n + 2], _, iZ p S L, H, (lP hR.1).yY, Dx hbn hR.1, by simp; omega, rfl, fun z X h hh => ⟨C, ⟨h5, hf⟩, hh⟩, fun x o hx => ?_, h2⟩
  by_cases hxb : x = b
  · subst hxb; rw [hb] at hx; injection hx with hx; exact .inl ⟨rfl, hx.symm⟩
  · have := hR.ne hx
    exact .inr ⟨hxb, by simp; omega, Dy hR.1 (by omega) hxb hbn hx⟩
theorem Av (hrun : aH f run) (hr : HR φ H n h0 hp) (hbn : b < n) (hb : PM.get H b = some (.sep (iZ p S L))) (hR : kA H n) (hargs : VRs φ (cS p :: rest) vs.toList) (hk : bX φ h0 κ K)
    (hs : ∀ C, gG S C → ab C = L → ∃ v o, run (.ptr n 0 :: rest) (opS H n b S C) (n + 3) (fun u H2 n2 => u = v ∧ H2 = PM.set (some o) aa (opS H n b S C) (n + 3) ∧ n2 = n + 4) ∧ κ v (PM.set (some o) aa H (n + 3)) (n + 4)) : cz Try.prog f vs hp K := by
  obtain ⟨C, ⟨h5, hf⟩, hP⟩ := (hr.sep b _ hb).1
  obtain ⟨v, o0, h1, h2⟩ := hs C h5 hf
  have h3 : aH f fun args H n κ => ∃ κ0 : PK, run args H n κ0 ∧ ∀ v H' n', κ0 v H' n' → κ v H' n' := fun args H n κ ⟨κ0, a1, a2⟩ φ h0 h vs K b1 b2 b3 => hrun args H n κ0 a1 φ h0 h vs K b1 b2 fun ψ v H' n' u g c1 c2 c3 c4 => b3 ψ v H' n' u g c1 c2 c3 (a2 _ _ _ c4)
  refine h3.Dw hr hbn hb hP hargs hk ?_
  rw [xz]
  refine ⟨_, h1, fun u H2 n2 ⟨e1, e2, e3⟩ => ?_⟩
  subst e1 e2 e3
  have hat : cX (PM.set (some o0) aa (opS H n b S C) (n + 3)) (n + 4) n (n + 1) (n + 2) S (pts C) C := by
    have := lP (H := H) (b := b) (S := S) (C := C) hR.1
    have hn := hR.1
    exact ⟨this.ne, ⟨by omega, by omega, by omega⟩, PM.ax aa _ _ _ (ay (by omega)) (by omega) this.hr, PM.ax aa _ _ _ (ay (by omega)) (by omega) this.hk, PM.ax aa _ _ _ (ay (by omega)) (by omega) this.hq⟩
  have hn := hR.1
  refine ⟨[n, n + 1, n + 2], _, iZ p S L, _, hat.yY, PM.ax aa _ _ _ (ay (by omega)) (by omega) (Dx hbn hR.1), by simp; omega, rfl, fun z X h hh => ⟨C, ⟨h5, hf⟩, hh⟩, fun x o hx => ?_, h2⟩
  rcases PM.ao aa H (n + 3) x o hx with ⟨rfl, h6⟩ | ⟨h6, h7⟩
  · injection h6 with h6; subst h6
    exact .inr ⟨by omega, by simp, PM.bj aa _ _ (ay (by omega))⟩
  · by_cases hxb : x = b
    · subst hxb; rw [hb] at h7; injection h7 with h7; exact .inl ⟨rfl, h7.symm⟩
    · have := hR.ne h7
      exact .inr ⟨hxb, by simp; omega, PM.ax aa _ _ _ (ay (by omega)) h6 (Dy hR.1 (by omega) hxb hbn h7)⟩
theorem qd (hrun : aH f run) (hr : HR φ H n h0 hp) (hbn : b < n) (hb : PM.get H b = some (.sep (iZ p S L))) (hR : kA H n) (hargs : VRs φ (cS p :: rest) vs.toList) (hk : bX φ h0 κ K) {v : AV} {S' : Sr} {L' : Smp}
    (hs : ∀ C, gG S C → ab C = L → run (.ptr n 0 :: rest) (opS H n b S C) (n + 3) (fun u H2 n2 => u = v ∧ ∃ C', gG S' C' ∧ ab C' = L' ∧ H2 = dG (opS H n b S C) (n + 3) n (n + 1) (n + 2) S' (pts C') C' ∧ n2 = n + 4))
    (hκ : nH S' L' → κ v (PM.set (some (.sep (iZ p S' L'))) aa H b) (n + 4)) : cz Try.prog f vs hp K := by
  obtain ⟨C, ⟨h5, hf⟩, hP⟩ := (hr.sep b _ hb).1
  have h1 := hs C h5 hf
  have h3 : aH f fun args H n κ => ∃ κ0 : PK, run args H n κ0 ∧ ∀ v H' n', κ0 v H' n' → κ v H' n' := fun args H n κ ⟨κ0, a1, a2⟩ φ h0 h vs K b1 b2 b3 => hrun args H n κ0 a1 φ h0 h vs K b1 b2 fun ψ v H' n' u g c1 c2 c3 c4 => b3 ψ v H' n' u g c1 c2 c3 (a2 _ _ _ c4)
  refine h3.Dw hr hbn hb hP hargs hk ?_
  rw [xz]
  refine ⟨_, h1, fun u H2 n2 ⟨e1, C', f1, f2, e2, e3⟩ => ?_⟩
  subst e1 e2 e3
  have hn := hR.1
  refine ⟨[n, n + 3, n + 2], _, iZ p S' L', _, (As (by omega) (by omega) (by omega)).yY, vV (by omega) (by omega) (by omega) (Dx hbn hR.1), by simp; omega, rfl, fun z X h hh => ⟨C', ⟨f1, f2⟩, hh⟩, fun x o hx => ?_, hκ ⟨C', f1, f2⟩⟩
  rcases PM.ao aa H b x o hx with ⟨rfl, h6⟩ | ⟨h6, h7⟩
  · injection h6 with h6; exact .inl ⟨rfl, h6.symm⟩
  · have := hR.ne h7
    exact .inr ⟨h6, by simp; omega, vV (by omega) (by omega) (by omega) (Dy hR.1 (by omega) h6 hbn h7)⟩
end
end Go.Proofs.Ythjggjhebbdkdaa
namespace Go.Proofs.Ythjggjhebbdkdaa
open Go Go.RowKit
def Ip : DT := [(15, [(some 0, [4]), (some 0, [66]), (some 0, [67]), (some 0, [5, 68]), (some 0, [69, 68]), (some 0, [68, 70]), (some 0, [71]), (some 0, [6, 72]), (some 0, [73, 72]), (some 0, [72, 74]), (some 0, [75]), (some 0, [7, 76]), (some 0, [77, 76]), (some 0, [76, 78]), (some 0, [79]), (some 0, [8, 80]), (some 0, [81, 80]), (some 0, [80, 82]), (some 0, [83]), (some 0, [9, 84]), (some 0, [85, 84]), (some 0, [84, 86]), (some 0, [87]), (some 0, [10, 88]), (some 0, [89, 88]), (some 0, [88, 90]), (some 0, [91]), (some 0, [11, 92]), (some 0, [93, 92]), (some 0, [92, 94]), (some 0, [95]), (some 0, [13, 96]), (some 0, [97, 96]), (some 0, [96, 98]), (some 0, [99]), (some 0, [14, 100]), (some 0, [100]), (some 0, [101, 102, 100]), (some 0, [100, 103]), (some 0, [104]), (some 0, [15, 105]), (some 0, [105, 106]), (some 0, [107]), (some 0, [16, 108]), (some 0, [108]), (some 0, [108]), (none, [110, 111, 108]), (none, [109, 112, 108]), (some 0, [108, 113]), (some 0, [114]), (some 0, [17, 115]), (some 0, [116, 115]), (some 0, [115, 117]), (some 0, [118]), (some 0, [1, 119]), (none, [120, 119]), (some 0, [121, 119]), (some 0, [119, 122]), (some 0, [123]), (some 0, [1, 124]), (none, [125, 124]), (some 0, [126, 124]), (some 0, [124, 127]), (some 0, [128]), (some 0, [1, 129]), (none, [130, 129]), (some 0, [131, 129]), (some 0, [129, 132]), (some 0, [133]), (some 0, [1, 134]), (none, [135, 134]), (some 0, [136, 134]), (some 0, [137, 134]), (some 0, [134, 138]), (some 0, [139]), (some 0, [1, 140]), (none, [141, 140]), (some 0, [142, 140]), (some 0, [140, 143]), (some 0, [144]), (some 0, [1, 145]), (none, [146, 145]), (some 0, [147, 145]), (some 0, [145, 148]), (some 0, [149]), (some 0, [1, 150]), (none, [151, 150]), (some 1, [16, 150]), (some 2, [153, 150]), (none, [152, 154, 150]), (some 0, [150, 155])]), (1000015, [])]
noncomputable def KSr : FuncId → EP := bh 9 tB (bh 60 tA (bh 11 tw (bh 10 tz (cw 14 (dH FG) (cw 52 (dH FH) (cw 16 (la FP) (cw 15 (qc 1000000 gA) (cw 24 (dH FA) (cw 25 (dH yJ) (cw 53 (dH Dc) (cw 54 (vQ FT) (cw 27 (dH FC) (cw 26 (dH FE) (cw 13 (la Da) evP))))))))))))))
theorem Ha : bH KSr := au (au (au (au (aZ (aZ (aZ (aZ (aZ (aZ (aZ (aZ (aZ (aZ (aZ bg Db (xw _)) FF (iK _)) FD (iK _)) Ij (G8 _)) Dd (iK _)) yK (iK _)) FB (iK _)) yW Dl) FQ (xw _)) yL (iK _)) CW (iK _)) Dr) Dq) Dt) Dv
noncomputable def Iq : FuncId → EP := bY 12 Ip KSr
theorem E8 : bH Iq := aP Ha (by kernel_rfl) (by kernel_rfl)
abbrev s0 : Sr := ⟨128, 10, 3, -1, 0⟩
abbrev s1 : Sr := ⟨128, 10, 3, 5, 0⟩
abbrev s2 : Sr := ⟨128, 10, 3, 20, 10⟩
theorem Ir : lO 128 10 3 = some s0 := if_pos (by decide)
theorem KS : lO 128 (-1) 3 = none := if_neg (by decide)
theorem k_a : fF s0 [] 5 1 0 = ((s1, [(5, 1)]), 0) := by kernel_rfl
theorem k_b : fF s1 [(5, 1)] 20 2 0 = ((s2, [(20, 2)]), 0) := by kernel_rfl
theorem k_c : fF s2 [(20, 2)] 9 3 0 = ((s2, [(20, 2)]), 7) := by kernel_rfl
theorem k_d : fF s2 [(20, 2)] 10 3 0 = ((s2, [(10, 3), (20, 2)]), 0) := by kernel_rfl
theorem k_g : fF s2 [(10, 3), (20, 2)] 20 7 1 = ((s2, [(10, 3), (20, 2)]), 8) := by kernel_rfl
theorem k_n : aS [(10, 3), (20, 2)] 20 30 = [(10, 3)] := by kernel_rfl
theorem lQ {P : Program} {t : TypeId} {H : AH} {a b c d : Int} (hp : dW P t = some [(0, 0), (0, 1)]) : oJ P .eql t (.agg [.int .i64 a, .int .i64 b]) (.agg [.int .i64 c, .int .i64 d]) H = some (.bool (decide (a = c) && (decide (b = d) && true))) := by
  simp [oJ, hp, np, nth, l8]
abbrev kE : List (Nat × AV) := [(0, .bool false), (1, .ptr 0 0), (4, .si .i64 1), (5, .si .i64 0), (6, .si .i64 0), (7, .si .i64 7), (8, .si .i64 0), (9, .si .i64 8), (10, .si .i64 2), (11, .si .i64 0), (13, .si .i64 5), (14, .ptr 3 0), (15, .sb true), (16, .rw 4 0 2 2 0), (17, .si .i64 1)]
noncomputable def kM (C : Ck5) : AH := mkH [(0, .cells (bV s2 1 (pts C).length) true), (1, .cells (aQ (pts C)) true), (2, cF s2 C), (3, .cells [.int .i64 20, .int .i64 2] true), (4, .cells (smp [(20, 2), (10, 3)]) true)]
theorem It {σ : AE} {H : AH} {n : Nat} {C : Ck5} {l3 l4 : List AV} (e0 : mk (aE (pa 0) σ) = .sb false) (e1 : aE (pa 1) σ = .ptr 0 0) (e4 : mk (aE (pa 4) σ) = .si .i64 1) (e5 : mk (aE (pa 5) σ) = .si .i64 0) (e6 : mk (aE (pa 6) σ) = .si .i64 0) (e7 : mk (aE (pa 7) σ) = .si .i64 7) (e8 : mk (aE (pa 8) σ) = .si .i64 0) (e9 : mk (aE (pa 9) σ) = .si .i64 8) (e10 : mk (aE (pa 10) σ) = .si .i64 2) (e11 : mk (aE (pa 11) σ) = .si .i64 0) (e13 : mk (aE (pa 13) σ) = .si .i64 5) (e14 : aE (pa 14) σ = .ptr 8 0) (e15 : mk (aE (pa 15) σ) = .sb true) (e16 : aE (pa 16) σ = .rw 9 0 2 2 0) (e17 : mk (aE (pa 17) σ) = .si .i64 1)
    (h0 : PM.get H 0 = some (.cells (bV s2 10 (pts C).length) true)) (h1 : PM.get H 10 = some (.cells (aQ (pts C)) true)) (h2 : PM.get H 2 = some (cF s2 C)) (h3 : PM.get H 8 = some (.cells l3 true)) (g3 : l3.map mk = [.si .i64 20, .si .i64 2]) (h4 : PM.get H 9 = some (.cells l4 true)) (g4 : l4.map mk = smp [(20, 2), (10, 3)]) : Cov 0 σ H n (mkE kE, kM C, 5) := by
  refine Cov.ofR (m := 5) (p := 0) (fun c => if c = 1 then 10 else if c = 3 then 8 else if c = 4 then 9 else c) (by decide) (fun b hb => absurd hb (Nat.not_lt_zero b)) (fun x hx => ?_) (fun x hx => ?_) (fun x hx y hy e => ?_)
  · simp only [List.mem_cons, List.not_mem_nil, or_false] at hx
    rcases hx with rfl | rfl | rfl | rfl | rfl | rfl | rfl | rfl | rfl | rfl | rfl | rfl | rfl | rfl | rfl
    · exact ai.flat rfl e0
    · exact ai.ptr (by decide) e1
    · exact ai.flat rfl e4
    · exact ai.flat rfl e5
    · exact ai.flat rfl e6
    · exact ai.flat rfl e7
    · exact ai.flat rfl e8
    · exact ai.flat rfl e9
    · exact ai.flat rfl e10
    · exact ai.flat rfl e11
    · exact ai.flat rfl e13
    · exact ai.ptr (by decide) e14
    · exact ai.flat rfl e15
    · exact ai.rw (by decide) e16
    · exact ai.flat rfl e17
  · simp only [List.mem_cons, List.not_mem_nil, or_false] at hx
    rcases hx with rfl | rfl | rfl | rfl | rfl
    · exact ⟨Nat.le_of_ble_eq_true rfl, .inl ⟨_, h0, aX.bV rfl rfl rfl rfl rfl (ai.rw (Nat.le_of_ble_eq_true rfl) rfl)⟩⟩
    · exact ⟨Nat.le_of_ble_eq_true rfl, .inl ⟨_, h1, aX.aQ (aw _)⟩⟩
    · exact ⟨Nat.le_of_ble_eq_true rfl, .inl ⟨_, h2, aX.sep _⟩⟩
    · exact ⟨Nat.le_of_ble_eq_true rfl, .inl ⟨_, h3, aX.b7 rfl g3 id⟩⟩
    · exact ⟨Nat.le_of_ble_eq_true rfl, .inl ⟨_, h4, aX.b7 rfl g4 id⟩⟩
  · simp only [List.mem_cons, List.not_mem_nil, or_false] at hx hy
    rcases hx with rfl | rfl | rfl | rfl | rfl <;> rcases hy with rfl | rfl | rfl | rfl | rfl <;> simp at e ⊢
theorem Iu {o : Op} {σ : AE} {H : AH} {κ : AV → Prop} {v : AV} (hs : ∀ κ : AV → Prop, κ v → qP o σ H κ) (K : κ v) : qP o σ H κ := hs κ K
theorem vW {ops : Array Oper} {o : Oper} {b : DB} {cd : CP} {hist : List (AH × Nat)} {σ : AE} {H : AH} {n : Nat} {k : KP} {j t i : Nat} {w : Bool} {r : AH × Nat} {v : AV} (hg : o.guard = some (j, w)) (hgs : fe ops j = some t) (hq : aE (pa t) σ = .bool w) (hb : b.1 = some i) (hr : nth ((H, n) :: hist) i = some r) (hs : ∀ κ : AV → Prop, κ v → qP o.op (gx σ b.2) r.1 κ) (K : k (bU σ o.dst v) H n) : uC ops o b cd hist σ H n k := by
  unfold uC
  rw [hg]; dsimp only
  rw [hgs]; dsimp only
  rw [hq]; dsimp only
  have e : (w == w) = true := by cases w <;> rfl
  rw [e, hb]; dsimp only
  rw [hr]
  exact hs (fun v => k (bU σ o.dst v) H n) K
theorem Iv {σ : AE} {H : AH} {κ : AV → Prop} {ty r : TypeId} {x y : Operand} {a b c d : Int} (hp : dW Try.prog ty = some [(0, 0), (0, 1)]) (hx : eev σ x = .agg [.int .i64 a, .int .i64 b]) (hy : eev σ y = .agg [.int .i64 c, .int .i64 d]) (K : κ (.bool (decide (a = c) && (decide (b = d) && true)))) : qP (.binOp .eql ty x y r) σ H κ := by
  show wL .eql ty (eev σ x) (eev σ y) H κ
  rw [hx, hy]
  show bN (oJ Try.prog .eql ty (.agg [.int .i64 a, .int .i64 b]) (.agg [.int .i64 c, .int .i64 d]) H) κ
  exact az (lQ hp) K
theorem Hb : gA [(20, 2), (10, 3)] [(20, 2), (10, 3)] = true := by kernel_rfl
theorem E9 : gA [(10, 3)] [(10, 3)] = true := by kernel_rfl
theorem Dz : aC Iq 6 12 [] .nil 0 (fun u _ _ => mkT u = AV.sb true) := by
  conv => whnf
  refine ⟨128, 10, 3, some s0, rfl, rfl, rfl, by decide, Ir, fun h5 => ?_⟩
  conv => whnf
  refine ⟨128, -1, 3, none, rfl, rfl, rfl, by decide, KS, ?_⟩
  conv => whnf
  refine ⟨0, 1, 2, s0, [], 5, 1, 0, [], s1, [(5, 1)], 0, rfl, ⟨_, _, rfl, rfl, rfl⟩, rfl, ⟨⟨by decide, by decide, by decide⟩, ⟨by decide, by decide, by decide⟩, rfl, rfl, rfl⟩, h5, ⟨by decide, by decide⟩, rfl, by decide, k_a, fun Ca ha fa => ?_⟩
  conv => whnf
  refine ⟨0, 3, 2, s1, Ca, 20, 2, 0, [(5, 1)], s2, [(20, 2)], 0, rfl, ⟨_, _, rfl, rfl, rfl⟩, rfl, ⟨⟨by decide, by decide, by decide⟩, ⟨by decide, by decide, by decide⟩, rfl, rfl, rfl⟩, ha, ⟨by decide, by decide⟩, fa, by decide, k_b, fun Cb hb fb => ?_⟩
  conv => whnf
  refine ⟨0, 4, 2, s2, Cb, 9, 3, 0, [(20, 2)], s2, [(20, 2)], 7, rfl, ⟨_, _, rfl, rfl, rfl⟩, rfl, ⟨⟨by decide, by decide, by decide⟩, ⟨by decide, by decide, by decide⟩, rfl, rfl, rfl⟩, hb, ⟨by decide, by decide⟩, fb, by decide, k_c, fun Cc hc fc => ?_⟩
  conv => whnf
  refine ⟨0, 5, 2, s2, Cc, 10, 3, 0, [(20, 2)], s2, [(10, 3), (20, 2)], 0, rfl, ⟨_, _, rfl, rfl, rfl⟩, rfl, ⟨⟨by decide, by decide, by decide⟩, ⟨by decide, by decide, by decide⟩, rfl, rfl, rfl⟩, hc, ⟨by decide, by decide⟩, fc, by decide, k_d, fun Cd hd fd => ?_⟩
  conv => whnf
  refine ⟨0, 6, 2, s2, Cd, 20, 7, 1, [(10, 3), (20, 2)], s2, [(10, 3), (20, 2)], 8, rfl, ⟨_, _, rfl, rfl, rfl⟩, rfl, ⟨⟨by decide, by decide, by decide⟩, ⟨by decide, by decide, by decide⟩, rfl, rfl, rfl⟩, hd, ⟨by decide, by decide⟩, fd, by decide, k_g, fun Cg hg fg => ?_⟩
  conv => whnf
  refine ⟨0, 7, 2, s2, Cg, .tup [.si .i64 2, .si .i64 0], rfl, ⟨⟨by decide, by decide, by decide⟩, ⟨by decide, by decide, by decide⟩, rfl, rfl, rfl⟩, ⟨_, 20, rfl, rfl, hg.gt, by rw [fg]; decide, by rw [fg]; kernel_rfl⟩, ?_⟩
  conv => whnf
  refine ⟨0, 7, 2, s2, Cg, .tup [.si .i64 0, .si .i64 5], rfl, ⟨⟨by decide, by decide, by decide⟩, ⟨by decide, by decide, by decide⟩, rfl, rfl, rfl⟩, ⟨_, 5, rfl, rfl, hg.gt, by rw [fg]; decide, by rw [fg]; kernel_rfl⟩, ?_⟩
  conv => whnf
  refine ⟨0, 7, 2, s2, Cg, .tup [.agg [.si .i64 20, .si .i64 2], .sb true], rfl, ⟨⟨by decide, by decide, by decide⟩, ⟨by decide, by decide, by decide⟩, rfl, rfl, rfl⟩, ⟨rfl, hg.gt, by rw [fg]; decide, by rw [fg]; kernel_rfl⟩, ?_⟩
  conv => whnf
  refine ⟨0, 7, 2, s2, Cg, [(20, 2), (10, 3)], rfl, ⟨⟨by decide, by decide, by decide⟩, ⟨by decide, by decide, by decide⟩, rfl, rfl, rfl⟩, ⟨by decide, rfl⟩, ⟨_, _, 0, 100, rfl, rfl, rfl, hg.okc, hg.gt.up, by rw [fg]; decide, by rw [fg]; kernel_rfl⟩, ?_⟩
  conv => whnf
  refine xM.mk { C : Ck5 // gG s2 C ∧ ab C = [(10, 3)] } 5 (fun C => (mkE kE, kM C.val)) ?_ ?_
  focus
    conv => whnf
    refine ⟨0, 7, 2, s2, Cg, 20, 30, [(10, 3), (20, 2)], [(10, 3)], 1, rfl, rfl, rfl, ⟨⟨by decide, by decide, by decide⟩, ⟨by decide, by decide, by decide⟩, rfl, rfl, rfl⟩, hg, fg, by decide, k_n, rfl, fun Cn hn fn => ?_⟩
    conv => whnf
    exact ⟨⟨Cn, hn, fn⟩, It rfl rfl rfl rfl rfl rfl rfl rfl rfl rfl rfl rfl rfl rfl rfl rfl rfl rfl rfl rfl rfl rfl⟩
  intro ⟨C, hC, fC⟩
  have hU : ((jL C).length : Int) = 1 := by
    rw [kz]
    have h1 := hC.gt.few
    rw [fC] at h1
    have h2 : C ≠ [] := fun e => by rw [e] at fC; cases fC
    have h3 : C.length ≤ 1 := h1
    have h4 : 0 < C.length := List.length_pos_iff.2 h2
    omega
  conv => whnf
  iterate 8
    refine aj.dec (fun _ => ?_) (fun z => absurd (by decide) z)
    conv => whnf
  refine aj.dec (fun _ => ?_) (fun z => absurd (by decide) z)
  refine az (a := (kM C, 5)) rfl ?_
  refine Iu (v := .agg [.int .i64 20, .int .i64 2]) (fun κ h => h) ?_
  refine vW (v := .agg [.int .i64 20, .int .i64 2]) rfl rfl rfl rfl rfl (fun κ h => h) ?_
  refine vW (v := .bool true) rfl rfl rfl rfl rfl (fun κ h => Iv tv rfl rfl h) ?_
  conv => whnf
  refine aj.sb (fun _ => ?_) (fun z => absurd z (by decide))
  conv => whnf
  refine ⟨[(20, 2), (10, 3)], [(20, 2), (10, 3)], (.inr (.inl (.inl ⟨4, 0, 0, smp [(20, 2), (10, 3)], smp [(20, 2), (10, 3)], ⟨rfl, by decide⟩, .inr ⟨true, rfl⟩, rfl, rfl⟩))), (.inr (.inr ⟨_, _, _, _, _, _, rfl, .inr ⟨_, rfl⟩, rfl, rfl, by decide⟩)), by decide, by decide, ?_⟩
  conv => whnf
  refine aj.sb (fun _ => ?_) (fun z => absurd (Hb.symm.trans z) (by decide))
  conv => whnf
  refine aj.dec (fun _ => ?_) (fun z => absurd (by decide) z)
  conv => whnf
  refine ⟨0, 1, 2, s2, C, .si .i64 20, rfl, ⟨⟨by decide, by decide, by decide⟩, ⟨by decide, by decide, by decide⟩, rfl, rfl, rfl⟩, ⟨rfl, by decide, rfl⟩, ?_⟩
  conv => whnf
  refine aj.dec (fun _ => ?_) (fun z => absurd (by decide) z)
  conv => whnf
  refine ⟨0, 1, 2, s2, C, .si .i64 10, rfl, ⟨⟨by decide, by decide, by decide⟩, ⟨by decide, by decide, by decide⟩, rfl, rfl, rfl⟩, ⟨rfl, by decide, by decide, by decide, rfl⟩, ?_⟩
  conv => whnf
  refine aj.dec (fun _ => ?_) (fun z => absurd (by decide) z)
  conv => whnf
  refine ⟨0, 1, 2, s2, C, .si .i64 1, rfl, ⟨⟨by decide, by decide, by decide⟩, ⟨by decide, by decide, by decide⟩, rfl, rfl, rfl⟩, ⟨rfl, hC.okc, by rw [fC]; decide, by rw [fC]; rfl⟩, ?_⟩
  conv => whnf
  refine aj.dec (fun _ => ?_) (fun z => absurd (by decide) z)
  conv => whnf
  refine ⟨0, 1, 2, s2, C, jL C, rfl, ⟨⟨by decide, by decide, by decide⟩, ⟨by decide, by decide, by decide⟩, rfl, rfl, rfl⟩, ⟨by decide, rfl⟩, ⟨hC.okc, rfl⟩, ?_⟩
  conv => whnf
  refine aj.dec (fun _ => ?_) (fun z => absurd hU z)
  conv => whnf
  refine ⟨0, 1, 2, s2, C, .si .i64 10, rfl, ⟨⟨by decide, by decide, by decide⟩, ⟨by decide, by decide, by decide⟩, rfl, rfl, rfl⟩, ⟨rfl, by decide, rfl⟩, ?_⟩
  conv => whnf
  refine aj.dec (fun _ => ?_) (fun z => absurd (by decide) z)
  conv => whnf
  refine ⟨0, 1, 2, s2, C, .si .i64 3, rfl, ⟨⟨by decide, by decide, by decide⟩, ⟨by decide, by decide, by decide⟩, rfl, rfl, rfl⟩, ⟨rfl, by decide, rfl⟩, ?_⟩
  conv => whnf
  refine aj.dec (fun _ => ?_) (fun z => absurd (by decide) z)
  conv => whnf
  refine ⟨0, 1, 2, s2, C, [(10, 3)], rfl, ⟨⟨by decide, by decide, by decide⟩, ⟨by decide, by decide, by decide⟩, rfl, rfl, rfl⟩, ⟨by decide, rfl⟩, ⟨_, _, 0, 50, rfl, rfl, rfl, hC.okc, hC.gt.up, by rw [fC]; decide, by rw [fC]; kernel_rfl⟩, ?_⟩
  conv => whnf
  refine RSl.mk 1 2 rfl rfl (.inl rfl) (by decide) (by decide) ?_
  conv => whnf
  refine ⟨[(10, 3)], [(10, 3)], (.inr (.inl (.inl ⟨_, _, _, smp [(10, 3)], smp [(10, 3)], ⟨rfl, by decide⟩, .inr ⟨true, rfl⟩, rfl, rfl⟩))), (.inr (.inl (.inl ⟨4, 2, 0, smp [(20, 2), (10, 3)], smp [(10, 3)], ⟨rfl, by decide⟩, .inr ⟨true, rfl⟩, rfl, rfl⟩))), by decide, by decide, ?_⟩
  conv => whnf
  exact Eq.trans (b := AV.sb (gA [(10, 3)] [(10, 3)])) rfl (congrArg AV.sb E9)
end Go.Proofs.Ythjggjhebbdkdaa
namespace Go.Proofs.Ythjggjhebbdkdaa
open Go Go.RowKit
def ff (B : Sr → Smp → List AV → AV → Prop) (args : List AV) (H : AH) (n : Nat) (κ : PK) : Prop := match args with
  | x :: ar => ∃ (b : Nat) (p : Nat × Nat) (S : Sr) (L : Smp) (v : AV), x = cS p ∧ b < n ∧ PM.get H b = some (.sep (iZ p S L)) ∧ kA H n ∧ B S L ar v ∧ κ v H (n + 3)
  | _ => False
theorem lR (B : Sr → Smp → List AV → AV → Prop) : iR (ff B) := fun args H n κ hs => by
  unfold ff at *
  split at hs
  · obtain ⟨b, p, S, L, v, h1, h2, h3, h4, h5, h6⟩ := hs
    exact ⟨_, _, _, h6, fun _ _ h => h, Nat.le_add_right _ _, fun κ' h => ⟨b, p, S, L, v, h1, h2, h3, h4, h5, h⟩⟩
  · exact hs.elim
theorem ic {f : FuncId} {A : Sr → Ck5 → List AV → AV → Prop} {B : Sr → Smp → List AV → AV → Prop} (hA : aH f (dH A)) (h : ∀ S C L ar v, gG S C → ab C = L → B S L ar v → A S C ar v) : aH f (ff B) := fun args H n κ hs φ h0' hp vs K hr hargs hk => by
  unfold ff at hs
  split at hs
  · obtain ⟨b, p, S, L, v, rfl, h2, h3, h4, h5, h6⟩ := hs
    exact Au hA hr h2 h3 h4 hargs hk fun C h7 h8 => ⟨v, ⟨n, n + 1, n + 2, S, C, v, rfl, lP h4.1, h S C L _ v h7 h8 h5, rfl, rfl, rfl⟩, h6⟩
  · exact hs.elim
def Iw (S : Sr) (_ : Smp) (ar : List AV) (v : AV) : Prop := ar = [] ∧ v = .si .i64 S.mx
def Ix (S : Sr) (_ : Smp) (ar : List AV) (v : AV) : Prop := ar = [] ∧ v = .si .i64 S.ret
def Iy (S : Sr) (_ : Smp) (ar : List AV) (v : AV) : Prop := ar = [] ∧ v = .si .i64 S.pol
def Iz (S : Sr) (_ : Smp) (ar : List AV) (v : AV) : Prop := ar = [] ∧ v = .si .i64 (cn S)
def IA (_ : Sr) (L : Smp) (ar : List AV) (v : AV) : Prop := ∃ y t, ar = [y] ∧ mk y = .si .i64 t ∧ v = .tup [.si .i64 (eX L t).1, .si .i64 (eX L t).2]
def IB (_ : Sr) (L : Smp) (ar : List AV) (v : AV) : Prop := ar = [] ∧ v = nG L
def FU (_ : Sr) (L : Smp) (ar : List AV) (v : AV) : Prop := ar = [] ∧ v = .si .i64 (L.length : Int)
theorem IC : aH 24 (ff Iw) := ic FB fun S C L ar v h5 _ ⟨h1, h2⟩ => ⟨h1, h5.gt.lo, h2⟩
theorem ID : aH 27 (ff Ix) := ic FD fun S C L ar v h5 _ ⟨h1, h2⟩ => ⟨h1, h5.gt.lo, h2⟩
theorem IE : aH 26 (ff Iy) := ic FF fun S C L ar v h5 _ ⟨h1, h2⟩ => ⟨h1, h5.gt.lo, h2⟩
theorem IF : aH 25 (ff Iz) := ic yK fun S C L ar v h5 _ ⟨h1, h2⟩ => ⟨h1, h5.gt.lo, h5.num.ret, h5.num.mx, h2⟩
theorem IG : aH 14 (ff IA) := ic CW fun S C L ar v h5 hf ⟨y, t, h1, h2, h3⟩ => by
  subst hf
  exact ⟨y, t, h1, h2, h5.gt, by have := h5.few; omega, h3⟩
theorem IH : aH 52 (ff IB) := ic yL fun S C L ar v h5 hf ⟨h1, h2⟩ => by
  subst hf
  exact ⟨h1, h5.gt, by have := h5.few; omega, h2⟩
theorem Hc : aH 53 (ff FU) := ic Dd fun S C L ar v h5 hf ⟨h1, h2⟩ => by
  subst hf
  exact ⟨h1, h5.okc, by have := h5.few; omega, h2⟩
def nI (B : Smp → List AV → Smp → Prop) (args : List AV) (H : AH) (n : Nat) (κ : PK) : Prop := match args with
  | x :: ar => ∃ (b : Nat) (p : Nat × Nat) (S : Sr) (L O : Smp), x = cS p ∧ b < n ∧ PM.get H b = some (.sep (iZ p S L)) ∧ kA H n ∧ B L ar O ∧ κ (.rw (n + 3) 0 O.length 2 0) (PM.set (some (.cells (smp O) true)) aa H (n + 3)) (n + 4)
  | _ => False
theorem DA (B : Smp → List AV → Smp → Prop) : iR (nI B) := fun args H n κ hs => by
  unfold nI at *
  split at hs
  · obtain ⟨b, p, S, L, O, h1, h2, h3, h4, h5, h6⟩ := hs
    exact ⟨_, _, _, h6, fun x o hb => PM.gne (by have := h4.1; omega) (h4.ne hb).2.2.2 hb, Nat.le_add_right _ _, fun κ' h => ⟨b, p, S, L, O, h1, h2, h3, h4, h5, h⟩⟩
  · exact hs.elim
theorem vX {f : FuncId} {A : Sr → Ck5 → List AV → Smp → Prop} {B : Smp → List AV → Smp → Prop} (hA : aH f (la A)) (h : ∀ S C L ar O, gG S C → ab C = L → B L ar O → A S C ar O) : aH f (nI B) := fun args H n κ hs φ h0' hp vs K hr hargs hk => by
  unfold nI at hs
  split at hs
  · obtain ⟨b, p, S, L, O, rfl, h2, h3, h4, h5, h6⟩ := hs
    refine Av hA hr h2 h3 h4 hargs hk fun C h7 h8 => ⟨_, _, ⟨n, n + 1, n + 2, S, C, O, rfl, lP h4.1, ⟨by have := h4.1; omega, ?_⟩, h S C L _ O h7 h8 h5, rfl, rfl, rfl⟩, h6⟩
    cases e : PM.get (opS H n b S C) (n + 3) with
    | none => rfl
    | some o =>
      have hn := h4.1
      rcases PM.ao aa _ _ _ _ e with ⟨q, _⟩ | ⟨_, e⟩
      · omega
      rcases PM.ao aa _ _ _ _ e with ⟨q, _⟩ | ⟨_, e⟩
      · omega
      rcases PM.ao aa _ _ _ _ e with ⟨q, _⟩ | ⟨_, e⟩
      · omega
      rcases PM.ao aa _ _ _ _ e with ⟨q, _⟩ | ⟨_, e⟩
      · omega
      rw [h4.2.2.2.2] at e; cases e
  · exact hs.elim
def II (L : Smp) (ar : List AV) (O : Smp) : Prop := ∃ y z a b, ar = [y, z] ∧ mk y = .si .i64 a ∧ mk z = .si .i64 b ∧ O = ak a b L
def IJ (L : Smp) (ar : List AV) (O : Smp) : Prop := ∃ y z a b, ar = [y, z] ∧ mk y = .si .i64 a ∧ mk z = .si .i64 b ∧ O = (ak a b L).reverse
theorem IK : aH 13 (nI II) := vX Db fun S C L ar O h5 hf ⟨y, z, a, b, h1, h2, h3, h4⟩ => by
  subst hf
  exact ⟨y, z, a, b, h1, h2, h3, h5.okc, h5.gt.up, by have := h5.few; omega, h4⟩
theorem IL : aH 16 (nI IJ) := vX FQ fun S C L ar O h5 hf ⟨y, z, a, b, h1, h2, h3, h4⟩ => by
  subst hf
  exact ⟨y, z, a, b, h1, h2, h3, h5.okc, h5.gt.up, by have := h5.few; omega, h4⟩
def tC (args : List AV) (H : AH) (n : Nat) (κ : PK) : Prop := match args with
  | [x, y, z] => ∃ (b : Nat) (p : Nat × Nat) (S : Sr) (L : Smp) (t v q : Int) (S' : Sr) (L' : Smp) (e : Int), x = cS p ∧ b < n ∧ PM.get H b = some (.sep (iZ p S L)) ∧ kA H n ∧ ke y t v ∧ mk z = .si .i64 q ∧ a9 v ∧ L.length ≤ 40000 ∧ fF S L t v q = ((S', L'), e) ∧ (nH S' L' → κ (.si .i64 e) (PM.set (some (.sep (iZ p S' L'))) aa H b) (n + 4))
  | _ => False
theorem Hd : aH 11 tC := fun args H n κ hs φ h0' hp vs K hr hargs hk => by
  unfold tC at hs
  split at hs
  · obtain ⟨b, p, S, L, t, v, q, S', L', e, rfl, h2, h3, h4, h5, h6, h7, h8, h9, h10⟩ := hs
    exact qd Dq hr h2 h3 h4 hargs hk (fun C g5 gf => ⟨n, n + 1, n + 2, S, C, t, v, q, L, S', L', e, rfl, h5, h6, lP h4.1, g5, h7, gf, h8, h9, fun C' f1 f2 => ⟨rfl, C', f1, f2, rfl, rfl⟩⟩) h10
  · exact hs.elim
def tD (args : List AV) (H : AH) (n : Nat) (κ : PK) : Prop := match args with
  | [x, y, z] => ∃ (b : Nat) (p : Nat × Nat) (S : Sr) (L : Smp) (a c : Int) (L' : Smp) (m : Nat), x = cS p ∧ b < n ∧ PM.get H b = some (.sep (iZ p S L)) ∧ kA H n ∧ mk y = .si .i64 a ∧ mk z = .si .i64 c ∧ L.length ≤ 40000 ∧ aS L a c = L' ∧ L.length - L'.length = m ∧ (nH S L' → κ (.si .i64 (m : Int)) (PM.set (some (.sep (iZ p S L'))) aa H b) (n + 4))
  | _ => False
theorem Hf : aH 10 tD := fun args H n κ hs φ h0' hp vs K hr hargs hk => by
  unfold tD at hs
  split at hs
  · obtain ⟨b, p, S, L, a, c, L', m, rfl, h2, h3, h4, h5, h6, h8, h9, h11, h10⟩ := hs
    exact qd Dr hr h2 h3 h4 hargs hk (fun C g5 gf => ⟨n, n + 1, n + 2, S, C, a, c, L, L', m, rfl, h5, h6, lP h4.1, g5, gf, h8, h9, h11, fun C' f1 f2 => ⟨rfl, C', f1, f2, rfl, rfl⟩⟩) h10
  · exact hs.elim
def tE (args : List AV) (H : AH) (n : Nat) (κ : PK) : Prop := match args with
  | [x, y, z] => ∃ (b : Nat) (p : Nat × Nat) (S : Sr) (L : Smp) (r q : Int) (S' : Sr) (L' : Smp) (e : Int), x = cS p ∧ b < n ∧ PM.get H b = some (.sep (iZ p S L)) ∧ kA H n ∧ mk y = .si .i64 r ∧ mk z = .si .i64 q ∧ L.length ≤ 40000 ∧ kV S L r q = ((S', L'), e) ∧ (nH S' L' → κ (.si .i64 e) (PM.set (some (.sep (iZ p S' L'))) aa H b) (n + 4))
  | _ => False
theorem Hg : aH 60 tE := fun args H n κ hs φ h0' hp vs K hr hargs hk => by
  unfold tE at hs
  split at hs
  · obtain ⟨b, p, S, L, r, q, S', L', e, rfl, h2, h3, h4, h5, h6, h8, h9, h10⟩ := hs
    exact qd Dt hr h2 h3 h4 hargs hk (fun C g5 gf => ⟨n, n + 1, n + 2, S, C, r, q, L, S', L', e, rfl, h5, h6, lP h4.1, g5, gf, h8, h9, fun C' f1 f2 => ⟨rfl, C', f1, f2, rfl, rfl⟩⟩) h10
  · exact hs.elim
theorem Aw {H : AH} {n : Nat} {S : Sr} (hn : n < 900000) : cX (p7 H n S) (n + 3) n (n + 1) (n + 2) S (pts []) [] :=
  ⟨⟨by omega, by omega, by omega⟩, ⟨by omega, by omega, by omega⟩, PM.gne (by omega) (by omega) (PM.gne (by omega) (by omega) (PM.geq (by omega))), PM.gne (by omega) (by omega) (PM.geq (by omega)), PM.geq (by omega)⟩
theorem vY {H : AH} {n x : Nat} {S : Sr} {o : AO} (hn : n < 900000) (hx : x ≠ n ∧ x ≠ n + 1 ∧ x ≠ n + 2) (h : PM.get H x = some o) : PM.get (p7 H n S) x = some o :=
  PM.gne (by omega) hx.2.2 (PM.gne (by omega) hx.2.1 (PM.gne (by omega) hx.1 h))
def tF (args : List AV) (H : AH) (n : Nat) (κ : PK) : Prop := match args with
  | [x, y, z] => ∃ (sz ret q : Int) (r : Option Sr), mk x = .si .i64 sz ∧ mk y = .si .i64 ret ∧ mk z = .si .i64 q ∧ kA H n ∧ lO sz ret q = r ∧ match r with
    | none => κ (.tup [.nil, .int .i64 1]) H (n + 1)
    | some S => ∀ p, nH S [] → κ (.tup [cS p, .int .i64 0]) (PM.set (some (.sep (iZ p S []))) aa H n) (n + 4)
  | _ => False
theorem Hh : aH 9 tF := fun args H n κ hs φ h0' hp vs K hr hargs hk => by
  unfold tF at hs
  split at hs
  · obtain ⟨sz, ret, q, r, h1, h2, h3, h4, h5, h6⟩ := hs
    have h9 := h4.1
    refine Dv.Io hr hargs hk ?_
    refine ⟨sz, ret, q, r, h1, h2, h3, by omega, h5, ?_⟩
    cases r with
    | none =>
      refine .inr ⟨H, fun x o hx => PM.gne (by omega) (h4.ne hx).1 hx, h6⟩
    | some S =>
      intro h5'
      refine .inl ⟨[n + 1, n + 2, n + 3], eH S (pts []) [], fun p => iZ p S [], fun p => PM.set (some (.sep (iZ p S []))) aa H n, fun p => .tup [cS p, .int .i64 0], n + 1, _, (Aw (by omega)).yY, vY (by omega) (by omega) (PM.geq (by omega)), by simp, rfl, rfl, rfl, fun p z X h hh => ⟨[], ⟨h5', rfl⟩, hh⟩, fun p x o hx => ?_, fun p φ T u hφ hu => ?_, fun p => h6 p ⟨[], h5', rfl⟩⟩
      · rcases PM.ao aa H n x o hx with ⟨rfl, e⟩ | ⟨e1, e2⟩
        · injection e with e; exact .inl ⟨rfl, e.symm⟩
        · have := h4.ne e2
          exact .inr ⟨e1, by simp; omega, vY (by omega) (by omega) (PM.gne (by omega) e1 e2)⟩
      · obtain ⟨cs, rfl, hc⟩ := hu.dJ
        obtain ⟨w, us, q1, e1, r1⟩ := hc.cons_inv
        obtain ⟨pl, e2, e3⟩ := e1.cr
        rw [hφ] at e2; injection e2 with e2; subst e2
        exact .tup (by rw [q1]; exact .cons (by subst e3; exact rfl) r1)
  · exact hs.elim
noncomputable def KSq : FuncId → EP := bh 9 tF (bh 60 tE (bh 11 tC (bh 10 tD (cw 14 (ff IA) (cw 52 (ff IB) (cw 16 (nI IJ) (cw 15 (qc 1000000 gA) (cw 24 (ff Iw) (cw 25 (ff Iz) (cw 53 (ff FU) (cw 27 (ff Ix) (cw 26 (ff Iy) (cw 13 (nI II) evP)))))))))))))
theorem Hk : bH KSq := au (au (au (au (aZ (aZ (aZ (aZ (aZ (aZ (aZ (aZ (aZ (aZ bg IK (DA _)) IE (lR _)) ID (lR _)) Hc (lR _)) IF (lR _)) IC (lR _)) yW Dl) IL (DA _)) IH (lR _)) IG (lR _)) Hf) Hd) Hg) Hh
def xA (args : List AV) (H : AH) (n : Nat) (κ : PK) : Prop := match args with
  | [] => κ (.sb true) H n
  | _ => False
theorem DC : aH 12 xA := fun args H n κ hs φ h0' hp vs K hr hargs hk => by
  unfold xA at hs
  split at hs
  · exact gX (v := .bool true) E8 rfl Dz hs hr hk (by kernel_rfl) HR.ro0 (by rw [hargs.aV]; exact .nil)
  · exact hs.elim
end Go.Proofs.Ythjggjhebbdkdaa
namespace Go.Proofs.Ythjggjhebbdkdaa
open Go Go.RowKit Go.ChangeShapes Go.WideShapes
section
variable {H : Type} {enc : TypeId × Value → H} {P : Program} {W : World} {held : Bool}
def nJ : List Value → Op4
  | [a, b, c, d] => (intOf a, intOf b, intOf c, intOf d)
  | _ => (0, 0, 0, 0)
theorem vZ {Tr : TypeId → Value → Prop} : ∀ {rows : List (List Value)}, (∀ r ∈ rows, gY Tr [.int .i64, .int .i64, .int .i64, .int .i64] r) → Cp (rows.map nJ) ∧ ∀ φ : Ph, VRs φ (iW (rows.map nJ)) rows.flatten
  | [], _ => ⟨(fun o h => by cases h), fun φ => .nil⟩
  | r :: rows, h => by
    obtain ⟨g1, g2⟩ := h r List.mem_cons_self
    obtain ⟨k1, k2⟩ := vZ (rows := rows) fun x hx => h x (List.mem_cons_of_mem _ hx)
    match r, g1, g2 with
    | [v, w, x, y], _, g2 =>
      obtain ⟨a, rfl, ha⟩ := g2 0 _ v rfl rfl
      obtain ⟨b, rfl, hb⟩ := g2 1 _ w rfl rfl
      obtain ⟨c, rfl, hc⟩ := g2 2 _ x rfl rfl
      obtain ⟨d, rfl, hd⟩ := g2 3 _ y rfl rfl
      refine ⟨fun o ho => ?_, fun φ => .cons (.si _ _) (.cons (.si _ _) (.cons (.si _ _) (.cons (.si _ _) (k2 φ))))⟩
      rcases List.mem_cons.1 ho with rfl | ho
      · exact ⟨.of ha, .of hb, .of hc, .of hd⟩
      · exact k1 o ho
theorem Fa {t e : TypeId} {d : Nat} {v : Value} {D : DataW H} {ps : List MemPlace} (ht : P.underlying t = some (.slice e)) (hk : zK P d e = some [.int .i64, .int .i64, .int .i64, .int .i64]) (hc2 : P.cellsOf e = 4) (hcell : v.cells.toList = [v]) (hd : DataW.Trod enc P W 0 (fun _ => true) held t v D ps) :
    ∃ (S : List Op4) (z : Fz → Prop), Cp S ∧ sF W z ∧ (∀ χ : Ph, (∀ q, z q → χ.z q) → VR χ (.fr S.length 4 (iW S)) v) ∧ (S = [] ∨ ∃ E F, D = .slice ((List.range S.length).map F) E) ∧ S.length ≤ maxLen := by
  obtain ⟨fuel, hf⟩ := hd
  rw [hcell] at hf
  obtain ⟨rows, h1, h2, h3, h4⟩ := wY ht hk rfl hc2 (by decide) hf
  obtain ⟨g2, g3⟩ := vZ fun r hr => (h1 r hr).1
  rcases h4 with ⟨rfl, a, C, rfl, hC⟩ | ⟨b, off, cap, cc, u, fz, rfl, hcap, hb, hsz, hcell⟩
  · exact ⟨[], fun _ => False, (fun x h => by cases h), .none, fun χ _ => .fre hC, .inl rfl, Nat.zero_le _⟩
  · have hst : (iW (rows.map nJ)).all rZ = true := by
      rw [List.all_eq_true]
      intro y hy
      have := List.all_eq_true.1 (z9 (rows.map nJ)) y hy
      cases y <;> first | rfl | cases this
    obtain ⟨k1, k2⟩ := D5 (m := rows.length) (k := 4) (L := iW (rows.map nJ)) (z := fun q => q = ⟨b, off, iW (rows.map nJ)⟩) hb hcap (by rw [nD, List.length_map]) hsz hst rfl (g3 _) hcell
    exact ⟨rows.map nJ, fun q => q = ⟨b, off, iW (rows.map nJ)⟩, g2, fun q hq => by subst hq; exact k1, fun χ hχ => by rw [List.length_map]; exact k2 χ hχ, by rw [List.length_map]; exact h2.imp (fun q => by rw [q]; rfl) id, by rw [List.length_map]; exact h3⟩
end
end Go.Proofs.Ythjggjhebbdkdaa
namespace Go.Proofs.Ythjggjhebbdkdaa
open Go Go.RowKit
theorem ai.cS {H : AH} {m : Nat} {r : Nat → Nat} {a : AV} {p : Nat × Nat} (e : a = Go.Proofs.Ythjggjhebbdkdaa.cS p) : ai H m r a (Go.Proofs.Ythjggjhebbdkdaa.cS p) := by
  subst e
  exact fun φ ψ v _ _ h => h
theorem dw.nP {H : AH} {a : AV} {O : Smp} {b : Nat} (ha : a = .rw b 0 O.length 2 0) (hb : PM.get H b = some (.cells (smp O) true)) : dw H a O := .inr (.inl (.inl ⟨b, 0, 0, smp O, smp O, ⟨ha, by decide⟩, .inr ⟨true, hb⟩, bG O, aR O⟩))
theorem eE (L : Smp) : gA L L = true := by unfold gA; exact decide_eq_true rfl
def look (L : Smp) (t : Int) : Option Int := if has L t then some (vAt L (plc L t)) else none
theorem Up.uniq {L : Smp} (h : Up L) {t a b : Int} (ha : (t, a) ∈ L) (hb : (t, b) ∈ L) : a = b := by
  induction L with
  | nil => cases ha
  | cons x L ih =>
    obtain ⟨h1, h2⟩ := List.pairwise_cons.1 h
    rcases List.mem_cons.1 ha with ha | ha <;> rcases List.mem_cons.1 hb with hb | hb
    · rw [← ha] at hb; injection hb with _ hb; exact hb.symm
    · have := h1 _ hb; rw [← ha] at this; exact absurd this (Int.lt_irrefl _)
    · have := h1 _ ha; rw [← hb] at this; exact absurd this (Int.lt_irrefl _)
    · exact ih h2 ha hb
theorem qe {L : Smp} (h : Up L) {t v : Int} : look L t = some v ↔ (t, v) ∈ L := by
  unfold look
  constructor
  · intro e
    split at e
    · rename_i q; injection e with e; rw [← e]; exact sL q
    · cases e
  · intro hm
    have hh := (D8 h t).2 ⟨_, hm, rfl⟩
    rw [if_pos hh, h.uniq (sL hh) hm]
theorem Ax {L : Smp} (h : Up L) {t : Int} : look L t = none ↔ ∀ v, (t, v) ∉ L := by
  constructor
  · intro e v hm; rw [(qe h).2 hm] at e; cases e
  · intro hn
    cases e : look L t with
    | none => rfl
    | some v => exact absurd ((qe h).1 e) (hn v)
theorem rv (L : Smp) (t : Int) : eX L t = match look L t with | some v => (v, 0) | none => (0, 5) := by
  unfold eX look
  split <;> rfl
theorem kT {L : Smp} (hu : Up L) (a b : Int) : Up (ak a b L) := hu.sublist List.filter_sublist
theorem fH {L : Smp} {a b : Int} {x : Int × Int} : x ∈ ak a b L ↔ x ∈ L ∧ (a ≤ x.1 ∧ x.1 ≤ b) := by unfold ak; rw [List.mem_filter]; simp
theorem ry {L : Smp} {a b : Int} (h : ∀ x ∈ L, ¬ (a ≤ x.1 ∧ x.1 ≤ b)) : ak a b L = [] := by
  unfold ak
  exact List.filter_eq_nil_iff.2 fun x hx => by have := h x hx; simpa using this
theorem nH.up {S : Sr} {L : Smp} (h : nH S L) : Up L := by obtain ⟨C, h1, rfl⟩ := h; exact h1.gt.up
end Go.Proofs.Ythjggjhebbdkdaa
namespace Go.Proofs.Ythjggjhebbdkdaa
open Go Go.RowKit
noncomputable def KOr : FuncId → EP := bh 12 xA KSq
theorem Hl : bH KOr := au Hk DC
end Go.Proofs.Ythjggjhebbdkdaa
namespace Go.Proofs.Ythjggjhebbdkdaa
open Go Go.RowKit
theorem Ay {S : List Op4} {i o : Nat} (h : i < S.length) (ho : o = i * 4 + 1) : bl (iW S) o 2 = some [.si .i64 S[i].2.1, .si .i64 S[i].2.2.1] := by
  subst ho
  unfold bl
  rw [Nat.ble_eq_true_of_le (by rw [nD]; omega), ← List.drop_drop, yo h]; rfl
end Go.Proofs.Ythjggjhebbdkdaa
namespace Go.Proofs.Ythjggjhebbdkdaa
open Go Go.RowKit
theorem rz {L : Smp} {t v : Int} (h : look L t = some v) : eX L t = (v, 0) := by rw [rv, h]
theorem rA {L : Smp} {t : Int} (h : look L t = none) : eX L t = (0, 5) := by rw [rv, h]
end Go.Proofs.Ythjggjhebbdkdaa
namespace Go.Proofs.Ythjggjhebbdkdaa
open Go Go.RowKit
section
variable {φ : Ph} {H : AH} {n : Nat} {h0 h : Hp}
theorem HR.IM (hr : HR φ H n h0 h) {p : Pl} {l : List AV} (hro : jx h p l) {ob : Obj} (hob : h0.f p.B = some ob) : ∃ ψ, PLe φ ψ ∧ ψ n = some p ∧ HR ψ (H.set (some (.ro l)) aa n) (n + 1) h0 h := by
  have hn0 : φ n = none := by
    cases e : φ n with
    | none => rfl
    | some q => exact absurd (hr.dom n q e).1 (Nat.lt_irrefl _)
  let ψ : Ph := ⟨fun x => if x = n then some p else φ x, φ.z, φ.y, φ.s⟩
  have ψn : ψ n = some p := if_pos rfl
  have ψo : ∀ x, x ≠ n → ψ x = φ x := fun x hx => if_neg hx
  have hle : PLe φ ψ := ⟨fun x q e => by rw [ψo x (fun q => by subst q; rw [hn0] at e; cases e)]; exact e, fun _ h => h, fun _ h => h⟩
  have cs : ∀ x o, (H.set (some (.ro l)) aa n).get x = some o → (x = n ∧ o = .ro l) ∨ (x ≠ n ∧ H.get x = some o) := fun x o hx => by
    rcases PM.ao aa H n x o hx with ⟨h1, h2⟩ | h2
    · injection h2 with h2; exact .inl ⟨h1, h2.symm⟩
    · exact .inr h2
  have old : ∀ x o q, (H.set (some (.ro l)) aa n).get x = some o → o.own = true → ψ x = some q → H.get x = some o ∧ φ x = some q := fun x o q hx ho hq => by
    rcases cs x o hx with ⟨_, rfl⟩ | ⟨h1, h2⟩
    · cases ho
    · rw [ψo x h1] at hq; exact ⟨h2, hq⟩
  refine ⟨ψ, hle, ψn, ⟨fun x q e => ?_, fun x o e => ?_, fun x y o o' q q' hx hy ho ho' hq hq' e => ?_, hr.base, hr.size, fun q hq => ⟨⟨FzR.mono (φ := φ) (ψ := ψ) hle.z (hr.frz q hq).1.1, (hr.frz q hq).1.2⟩, fun x o px hx ho hpx => ?_⟩, fun x Q hx => ?_⟩⟩
  · by_cases hxn : x = n
    · subst hxn; rw [ψn] at e; injection e with e; subst e
      exact ⟨Nat.lt_succ_self _, (hr.base _ _ hob).1⟩
    · rw [ψo x hxn] at e
      have := hr.dom x q e
      exact ⟨by omega, this.2⟩
  · rcases cs x o e with ⟨rfl, rfl⟩ | ⟨h1, h2⟩
    · obtain ⟨c, t, fz, g1, g2, g3, g4⟩ := hro
      have hob2 := (hr.base _ _ hob).2
      rw [g1] at hob2; injection hob2 with hob2; subst hob2
      exact .inr ⟨p, _, ψn, hob, g1, c, t, fz, rfl, g2, g3, g4 ψ⟩
    · rcases hr.live x o h2 with ⟨g1, g2⟩ | ⟨q, ob', g1, g2, g3, g4⟩
      · exact .inl ⟨by rw [ψo x h1]; exact g1, g2⟩
      · exact .inr ⟨q, ob', by rw [ψo x h1]; exact g1, g2, g3, g4.mono hle⟩
  · obtain ⟨a1, a2⟩ := old x o q hx ho hq
    obtain ⟨b1, b2⟩ := old y o' q' hy ho' hq'
    exact hr.inj x y o o' q q' a1 b1 ho ho' a2 b2 e
  · obtain ⟨a1, a2⟩ := old x o px hx ho hpx
    exact (hr.frz q hq).2 x o px a1 ho a2
  · rcases cs x _ hx with ⟨_, h2⟩ | ⟨h1, h2⟩
    · cases h2
    · obtain ⟨k1, k2⟩ := hr.sep x Q h2
      refine ⟨k1, fun B hB => ?_⟩
      obtain ⟨g1, g2, g3, g4⟩ := k2 B hB
      refine ⟨g1, fun y o q hy ho hq => ?_, g3, fun y Q2 hy hne => ?_⟩
      · obtain ⟨a1, a2⟩ := old y o q hy ho hq
        exact g2 y o q a1 ho a2
      · rcases cs y _ hy with ⟨_, q2⟩ | ⟨_, q2⟩
        · cases q2
        · exact g4 y Q2 q2 hne
theorem HR.DD : ∀ (R : List (Pl × List AV)) {φ : Ph} {H : AH} {n : Nat} (_ : HR φ H n h0 h) (_ : ∀ r ∈ R, jx h r.1 r.2 ∧ ∃ ob, h0.f r.1.B = some ob), ∃ ψ, PLe φ ψ ∧ (∀ (i : Nat) r, R[i]? = some r → ψ (n + i) = some r.1) ∧ HR ψ (vT (R.map fun r => AO.ro r.2) n H) (n + R.length) h0 h
  | [], φ, H, n, hr, _ => ⟨φ, .refl _, fun i r h => by simp at h, hr⟩
  | r :: R, φ, H, n, hr, hR => by
    obtain ⟨h1, ob, h2⟩ := hR r List.mem_cons_self
    obtain ⟨ψ, h3, h4, h5⟩ := hr.IM h1 h2
    obtain ⟨χ, h6, h7, h8⟩ := HR.DD R h5 fun q hq => hR q (List.mem_cons_of_mem _ hq)
    refine ⟨χ, h3.trans h6, fun i q hi => ?_, by rw [List.length_cons, show n + (R.length + 1) = n + 1 + R.length by omega]; exact h8⟩
    cases i with
    | zero => injection hi with hi; subst hi; exact h6.b _ _ h4
    | succ i =>
      have := h7 i q (by simpa using hi)
      rw [show n + (i + 1) = n + 1 + i by omega]; exact this
end
theorem DE {f : FuncId} {run : List AV → AH → Nat → PK → Prop} (hrun : aH f run) {φ : Ph} {H : AH} {n : Nat} {h0 hp : Hp} {S : List Nat} {O : List AO} {R : List (Pl × List AV)} {args0 : List AV} {κ : PK} {K : KH} {vs : Array Value} (hic : ah Try.prog f = true)
    (hr : HR φ H n h0 hp) (hh : gy H n S O) (hR : ∀ r ∈ R, jx hp r.1 r.2 ∧ ¬ sx φ S O r.1.B) (hargs : ∀ ψ : Ph, SLe ⟨fun b => φ (ba S n b), φ.z, φ.z, fun b => φ.s (ba S n b)⟩ ψ → (∀ (i : Nat) r, R[i]? = some r → ψ (S.length + i) = some r.1) → VRs ψ args0 vs.toList) (hk : bX φ h0 κ K)
    {Q : PK} (h : run args0 (vT (R.map fun r => AO.ro r.2) S.length (mkH (eG O 0))) (S.length + R.length) Q) (hQ : ∀ u H' n', Q u H' n' → ∃ m H2, S.length ≤ m ∧ di S n m H H' H2 ∧ ltV m u = true ∧ κ (ren (ba S n) u) H2 (n + (m - S.length))) : cz Try.prog f vs hp K := by
  have key : Wf hp → cz Try.prog f vs hp K := fun hw => by
    obtain ⟨ψ0, p1, p2, p3⟩ := (hr.small hh hw).DD R fun r hr2 => by
      obtain ⟨h1, h2⟩ := hR r hr2
      refine ⟨h1, ?_⟩
      obtain ⟨c, t, fz, g1, _⟩ := h1
      exact ⟨_, (gF h2).trans g1⟩
    exact hrun args0 _ _ _ h ψ0 (iv φ S O hp) hp vs K p3 (hargs ψ0 p1.s p2) fun ψ u H' n' w g hle hg hu hq => by
      obtain ⟨m, H2, hm, ha, hl, hκ⟩ := hQ u H' n' hq
      have hle2 := p1.trans hle
      exact hk _ _ _ _ w g (wX hr hh hm hle2) (hr.after hh hm hle2 hg ha) ((VR.pull (χ := phA φ ψ S n m) u w).2 (VR.below (ψ := ψ) (m := m) (fun b p hb e => by
        show phA φ ψ S n m (ba S n b) = _
        rw [eW hh hb]; exact e) (fun _ h => Or.inr h) u w hl hu)) hκ
  exact ⟨hic, fun w hi => (key hi.wf).2 w hi⟩
end Go.Proofs.Ythjggjhebbdkdaa
namespace Go.Proofs.Ythjggjhebbdkdaa
open Go Go.RowKit
theorem rB {L : Smp} (hU : Up L) {a b c : Int} (h1 : a ≤ b) (h2 : b ≤ c) : ak a c L = ak a b L ++ ak (b + 1) c L := by
  refine Up.ext (kT hU a c) ?_ fun x => ?_
  · rw [Up.app]
    exact ⟨kT hU a b, kT hU _ c, fun x hx y hy => by have := (fH.1 hx).2; have := (fH.1 hy).2; omega⟩
  · rw [List.mem_append, fH, fH, fH]
    constructor
    · intro ⟨h, k1, k2⟩
      by_cases q : x.1 ≤ b
      · exact .inl ⟨h, k1, q⟩
      · exact .inr ⟨h, by omega, k2⟩
    · rintro (⟨h, k1, k2⟩ | ⟨h, k1, k2⟩)
      · exact ⟨h, k1, by omega⟩
      · exact ⟨h, by omega, k2⟩
theorem qf {L : Smp} (hU : Up L) {b : Int} (h : look L b = none) : ak b b L = [] := ry fun x hx q => by
  have e : b = x.1 := by omega
  rw [e] at h
  exact (Ax hU).1 h x.2 hx
theorem qg {L : Smp} (hU : Up L) {b v : Int} (h : look L b = some v) : ak b b L = [(b, v)] := by
  have hm := (qe hU).1 h
  refine Up.ext (kT hU b b) (List.pairwise_singleton _ _) fun x => ?_
  rw [fH, List.mem_singleton]
  constructor
  · intro ⟨h1, h2, h3⟩
    have e : b = x.1 := by omega
    exact Prod.ext e.symm (hU.uniq (t := b) (by rw [e]; exact h1) hm)
  · intro e; subst e; exact ⟨hm, Int.le_refl _, Int.le_refl _⟩
theorem jB {L : Smp} {a c : Int} (h : a ≤ c) : ak c (a - 1) L = [] := ry fun x _ q => by omega
theorem rC (L : Smp) (t : Int) : look L t = none ∨ ∃ v, look L t = some v := by
  cases look L t with
  | none => exact .inl rfl
  | some v => exact .inr ⟨v, rfl⟩
def v7 (args : List AV) (H : AH) (n : Nat) (κ : PK) : Prop := match args with
  | [x] => ∃ L, dw H x L ∧ L.length ≤ 1000000 ∧ (n < 900000 ∧ PM.get H n = none ∧ PM.get H (n + 1) = none) ∧ κ (.rw (n + 1) 0 L.length 2 0) (PM.set (some (.cells (smp L.reverse) true)) aa H (n + 1)) (n + 2)
  | _ => False
theorem Hm : iR v7 := fun args H n κ hs => by
  unfold v7 at *
  split at hs
  · obtain ⟨L, h1, h2, h3, h4⟩ := hs
    exact ⟨_, _, _, h4, fun b o hb => PM.gne (by omega) (fun e => by rw [e, h3.2.2] at hb; cases hb) hb, Nat.le_add_right _ _, fun κ' h => ⟨L, h1, h2, h3, h⟩⟩
  · exact hs.elim
noncomputable def KTn : FuncId → EP := bY 17 [] evP
theorem DF : bH KTn := aP bg (by kernel_rfl) (by kernel_rfl)
noncomputable def Hn (L : Smp) (cap k : Nat) : AE × AH := (mkE [(0, .sy 0 0 L.length cap 0), (3, .rw 1 0 (L.length - k) 2 0), (4, .si .i64 (((k : Nat) : Int) - 1))], mkH [(0, .ro (smp (L))), (1, .cells (smp ((L.drop k).reverse)) true)])
theorem v8 {L : Smp} {cap k : Nat} {p n : Nat} {σ : AE} {H : AH} (j1 : Nat) (hj : j1 ≠ 0) (hp : p ≤ 1) (e0 : mk (aE (pa 0) σ) = .sy 0 0 L.length cap 0) (e3 : ai H 2 (fun b => if b = 1 then j1 else b) (aE (pa 3) σ) (.rw 1 0 (L.length - k) 2 0)) (e4 : mk (aE (pa 4) σ) = .si .i64 (((k : Nat) : Int) - 1)) (h0 : H.get 0 = some (.ro (smp (L)))) (h1 : (∃ l, H.get j1 = some (.cells l true) ∧ l.map mk = smp ((L.drop k).reverse)) ∨ (((L.drop k).reverse) = [] ∧ n ≤ j1)) : Cov p σ H n ((Hn L cap k).1, (Hn L cap k).2, 2) := by
  refine Cov.ofR (fun b => if b = 1 then j1 else b) (by omega) (fun b hb => by repeat' rw [if_neg (by omega)]) ?_ ?_ ?_
  · intro x hx
    simp only [List.mem_cons, List.not_mem_nil, or_false] at hx
    rcases hx with rfl | rfl | rfl
    · exact .sy (by decide) e0
    · exact e3
    · exact .int e4
  · intro x hx
    simp only [List.mem_cons, List.not_mem_nil, or_false] at hx
    rcases hx with rfl | rfl
    · exact ⟨by simp, .inl ⟨_, h0, aX.uN (bA _) rfl⟩⟩
    · exact ⟨by simp, h1.elim (fun ⟨l, h, g⟩ => .inl ⟨_, h, aX.b7 (bA _) (by rw [g, aR]) (fun q => q)⟩) (fun h => .inr ⟨by rw [h.1]; rfl, h.2⟩)⟩
  · intro x hx y hy
    simp only [List.mem_cons, List.not_mem_nil, or_false] at hx hy
    rcases hx with rfl | rfl <;> rcases hy with rfl | rfl <;> simp <;> omega
def TnP (L : Smp) : PK := fun u H' m => u = .rw 1 0 L.length 2 0 ∧ m = 2 ∧ PM.get H' 1 = some (.cells (smp L.reverse) true)
theorem xB (L : Smp) (cap : Nat) (hL : L.length ≤ 1000000) : cP (aC KTn 3 17) [.sy 0 0 L.length cap 0] (mkH [(0, .ro (smp L))]) 1 (TnP L) := by
  have hlw : IntKind.i64.wrap ((L.length : Int) - 1) = (L.length : Int) - 1 := aA (by omega) (by omega)
  show aC KTn 3 _ _ _ _ _
  conv => whnf
  refine bC.mk { k : Nat // k ≤ L.length } 2 (fun k => Hn L cap k.val) (fun k => k.val) ⟨L.length, Nat.le_refl _⟩ ?_ ?_
  focus
    exact v8 (k := L.length) 1 (by decide) (Nat.le_refl _) rfl (ai.pe rfl (Nat.sub_self _)) (congrArg (AV.si .i64) hlw) rfl (.inr ⟨by rw [List.drop_length]; rfl, Nat.le_refl _⟩)
  intro ⟨k, hk⟩
  conv => whnf
  refine aj.dec (fun h => ?_) (fun h => ?_)
  focus
    obtain ⟨j, rfl⟩ : ∃ j, k = j + 1 := by
      have h : (0 : Int) ≤ (k : Int) - 1 := h
      exact ⟨k - 1, by omega⟩
    have hj : j < L.length := by omega
    have hix : ((j + 1 : Nat) : Int) - 1 = (j : Int) := by omega
    have hw : IntKind.i64.wrap (((j + 1 : Nat) : Int) - 1 - 1) = (j : Int) - 1 := by rw [aA (by omega) (by omega)]; omega
    have hrev : (L.drop j).reverse = (L.drop (j + 1)).reverse ++ [L[j]] := by rw [List.drop_eq_getElem_cons hj, List.reverse_cons]
    have hM : (smp (L.drop (j + 1)).reverse ++ [AV.si .i64 L[j].1, .si .i64 L[j].2]).map mk = smp (L.drop j).reverse := by rw [hrev, iz, List.map_append, aR]; rfl
    have hlen : (smp (L.drop (j + 1)).reverse).length = (L.length - (j + 1)) * 2 := by rw [aM, List.length_reverse, List.length_drop]
    have hln : L.length - (j + 1) + 1 = L.length - j := by omega
    conv => whnf
    refine Idx.mk j hix hj ?_
    conv => whnf
    refine az (du hj (show 0 + j * 2 = j * 2 from Nat.zero_add _)) ?_
    conv => whnf
    refine gE.grow 2 16 1 (L.length - (j + 1)) [.si .i64 L[j].1, .si .i64 L[j].2] (smp (L.drop (j + 1)).reverse) _ true Ap (.old rfl) rfl rfl (.rw rfl (ck hlen)) (by omega) ?_
    conv => whnf
    exact ⟨⟨j, by omega⟩, Nat.lt_succ_self j, v8 3 (by decide) (Nat.le_refl _) rfl (ai.rw (by decide) (congrArg (fun m => AV.rw 3 0 m 2 0) hln)) (congrArg (AV.si .i64) hw) rfl (.inl ⟨_, rfl, hM⟩)⟩
  have h0 : k = 0 := by
    have h : ¬ (0 : Int) ≤ (k : Int) - 1 := h
    omega
  subst h0
  conv => whnf
  refine ⟨.rw 1 0 L.length 2 0, mkH [(0, .ro (smp L)), (1, .cells (smp L.reverse) true)], 2, ?_, rfl, rfl, rfl⟩
  refine Cov.ofR (m := 2) (p := 1) (fun c => c) (by decide) (fun b hb => rfl) (fun x hx => ?_) (fun x hx => ?_) (fun x hx y hy e => e)
  · simp only [List.mem_cons, List.not_mem_nil, or_false] at hx
    subst hx
    exact ai.rw (by decide) rfl
  · simp only [List.mem_cons, List.not_mem_nil, or_false] at hx
    rcases hx with rfl | rfl
    · exact ⟨Nat.le_of_ble_eq_true rfl, .inl ⟨_, rfl, aX.uN (bA _) rfl⟩⟩
    · exact ⟨Nat.le_of_ble_eq_true rfl, .inl ⟨_, rfl, aX.b7 (bA _) (by rw [List.drop_zero]) id⟩⟩
theorem xC : aC KTn 3 17 [.nsl] .nil 0 fun u _ _ => u = .nsl := by
  conv => whnf
  refine bC.roll 1 ?_
  conv => whnf
  rfl
theorem DG : aH 17 v7 := fun args H n κ hs φ h0' hp vs K hr hargs hk => by
  unfold v7 at hs
  split at hs
  · obtain ⟨L, hS, hL, hn, hs⟩ := hs
    obtain ⟨w1, us1, q1, e1, r1⟩ := hargs.cons_inv
    rcases hS.open hr e1 with ⟨rfl, hv⟩ | ⟨p, C, _, hro, hv⟩
    · refine de (S := []) (O := []) (args0 := [.nsl]) (aI DF 3 _) (by kernel_rfl) hr ⟨List.nodup_nil, rfl, fun i s o h => by simp at h⟩ (by rw [q1, r1.aV]; exact .cons (hv _) .nil) (κ := fun v H2 n2 => v = .nsl ∧ H2 = H ∧ n2 = n) ?_ xC fun u H' n' g => ?_
      · intro χ v H2 n2 u g hle hg hu ⟨g1, g2, g3⟩
        subst g1 g2 g3
        have h2 := (hg.mn (o := .cells [] true) rfl).mn (o := .cells [] true) rfl
        refine hk χ (.rw (n2 + 1) 0 0 2 0) _ (n2 + 2) u g hle (h2.less fun x o hx => ?_) (by rw [hu.b9]; exact .rwn) hs
        rcases PM.ao aa H2 (n2 + 1) x o hx with ⟨rfl, e⟩ | ⟨e1, e2⟩
        · exact (PM.geq (by omega)).trans e
        · exact PM.gne (by omega) e1 (PM.gne (by omega) (fun q => by rw [q, hn.2.1] at e2; cases e2) e2)
      · subst g
        exact ⟨0, H, Nat.le_refl _, di.same fun i s o h3 => by simp at h3, rfl, rfl, rfl, rfl⟩
    · refine DE (S := []) (O := []) (R := [(p, smp L)]) (args0 := [.sy 0 0 L.length C 0]) (aI DF 3 _).cP (by kernel_rfl) hr ⟨List.nodup_nil, rfl, fun i s o h => by simp at h⟩ (fun r hr2 => ?_) (fun ψ _ h => by rw [q1, r1.aV]; exact .cons (hv _ 0 (h 0 _ rfl)) .nil) hk (xB L C hL) fun u H' n' ⟨g1, g2, g3⟩ => ?_
      · rw [List.mem_singleton.1 hr2]
        refine ⟨hro, fun q => ?_⟩
        rcases q with ⟨i, s, o, pl, h, _⟩ | ⟨i, s, Q, h, _⟩ <;> simp at h
      · subst g1 g2
        refine ⟨2, PM.set (some (.cells (smp L.reverse) true)) aa H (n + 1), by decide, fun b o hb => ?_, rfl, hs⟩
        rcases PM.ao aa H (n + 1) b o hb with ⟨rfl, h2⟩ | ⟨h1, h2⟩
        · injection h2 with h2; subst h2
          exact .inl ⟨1, .cells (smp L.reverse) true, by decide, rfl, g3, rfl, C9 _ _, by rw [cI, yS]⟩
        · have : b ≠ n := fun q => by rw [q, hn.2.1] at h2; cases h2
          exact .inr ⟨by show b < n ∨ n + 2 ≤ b; omega, h2, fun q => by cases q⟩
  · exact hs.elim
theorem oe (L : Smp) : (smp L).all ll = true := by
  induction L with
  | nil => rfl
  | cons c L ih => exact ih
def IN : DT := [(8, [(some 0, [5]), (some 0, [0]), (some 0, [7]), (some 0, [42, 43]), (some 0, [44]), (some 0, [45]), (some 0, [46]), (some 0, [0]), (some 0, [7]), (some 0, [48, 49]), (some 0, [50]), (some 0, [51]), (some 0, [52])])]
noncomputable def IP : FuncId → EP := bY 3 IN (cw 17 v7 KOr)
theorem Fb : bH IP := aP (aZ Hl DG Hm) (by kernel_rfl) (by kernel_rfl)
noncomputable def Ho (M : List Op4) (p0 p1 p2 : Int) (va : Nat × Nat) (X : Sr) (L : Smp) (i : Nat) : AE × AH := (mkE [(0, .fr M.length 4 (iW M)), (3, .ptr 0 (0)), (5, cS va), (7, .si .i64 ((i : Int)))], mkH [(0, .cells (ints ([p0, p1, p2])) true), (1, .sep (iZ va X L))])
theorem qh {M : List Op4} {p0 p1 p2 : Int} {va : Nat × Nat} {X : Sr} {L : Smp} {i : Nat} {p n : Nat} {σ : AE} {H : AH} {l0 : List AV} (hp : p ≤ 0) (e0 : aE (pa 0) σ = .fr M.length 4 (iW M)) (e3 : aE (pa 3) σ = .ptr 0 (0)) (e5 : aE (pa 5) σ = cS va) (e7 : mk (aE (pa 7) σ) = .si .i64 ((i : Int))) (h0 : H.get 0 = some (.cells l0 true)) (g0 : l0.map mk = ints ([p0, p1, p2])) (h1 : H.get 1 = some (.sep (iZ va X L))) : Cov p σ H n ((Ho M p0 p1 p2 va X L i).1, (Ho M p0 p1 p2 va X L i).2, 2) := by
  refine Cov.ofR (fun b => b) (by omega) (fun b hb => rfl) ?_ ?_ ?_
  · intro x hx
    simp only [List.mem_cons, List.not_mem_nil, or_false] at hx
    rcases hx with rfl | rfl | rfl | rfl
    · exact ai.frE e0
    · exact .ptr (by decide) e3
    · exact ai.cS e5
    · exact .int e7
  · intro x hx
    simp only [List.mem_cons, List.not_mem_nil, or_false] at hx
    rcases hx with rfl | rfl
    · exact ⟨by simp, .inl ⟨_, h0, aX.b7 (qW _) (by rw [g0, po]) (fun q => q)⟩⟩
    · exact ⟨by simp, .inl ⟨_, h1, aX.sep _⟩⟩
  · intro x hx y hy
    simp only [List.mem_cons, List.not_mem_nil, or_false] at hx hy
    rcases hx with rfl | rfl <;> rcases hy with rfl | rfl <;> simp <;> omega
theorem qi (M : List Op4) (p0 p1 p2 : Int) (hM : Cp M) (hl : M.length ≤ 8796093022208) (h0 : a9 p0) (h1 : a9 p1) (h2 : a9 p2) : aC IP 6 3 [.fr M.length 4 (iW M), .agg [.si .i64 p0, .si .i64 p1, .si .i64 p2]] .nil 0 fun v _ _ => v = .bool true ∨ v = .sb true := by
  conv => whnf
  refine ⟨128, 0, 6, some ⟨128, 0, 6, -1, 0⟩, rfl, rfl, rfl, ⟨by decide, rfl, rfl, rfl, rfl⟩, if_pos (by decide), fun va hs => ?_⟩
  conv => whnf
  refine bC.mk { x : Nat × Sr × Smp // x.1 ≤ 80 ∧ nH x.2.1 x.2.2 ∧ x.2.2.length ≤ x.1 } 2 (fun x => Ho M p0 p1 p2 va x.val.2.1 x.val.2.2 x.val.1) (fun x => 80 - x.val.1) ⟨(0, ⟨128, 0, 6, -1, 0⟩, []), Nat.zero_le _, hs, Nat.le_refl _⟩ ?_ ?_
  focus
    exact qh (i := 0) (Nat.le_refl _) rfl rfl rfl rfl rfl rfl rfl
  intro ⟨(i, X, L), hi, hX, hil⟩
  dsimp only at hi hX hil
  have hlen : L.length ≤ 40000 := by omega
  have hU := hX.up
  have hw : IntKind.i64.wrap ((i : Int) + 1) = ((i + 1 : Nat) : Int) := by rw [aA (by omega) (by omega)]; omega
  conv => whnf
  refine aj.dec (fun h => ?_) (fun h => ?_)
  focus
    have g2 : i < M.length := Int.ofNat_lt.1 h
    have hop := (hM _ (List.getElem_mem g2)).2.2.1
    have hlen2 := vS X L M[i].2.1 M[i].2.2.1 0
    have hlen3 := iY L M[i].2.1 M[i].2.2.1
    conv => whnf
    refine aj.dec (fun h60 => ?_) (fun h60 => ?_)
    focus
      have g3 : i < 80 := by have h60 : (i : Int) < 80 := h60; omega
      conv => whnf
      refine Idx.mk i rfl g2 ?_
      conv => whnf
      refine az (pL (j := 0) g2 rfl (by decide)) ?_
      conv => whnf
      refine aj.dec (fun hk => ?_) (fun hk => ?_)
      focus
        conv => whnf
        refine Idx.mk i rfl g2 ?_
        conv => whnf
        refine az (pL (j := 1) g2 rfl (by decide)) ?_
        conv => whnf
        refine Idx.mk i rfl g2 ?_
        conv => whnf
        refine az (pL (j := 2) g2 rfl (by decide)) ?_
        conv => whnf
        refine ⟨1, va, X, L, M[i].2.1, M[i].2.2.1, aS L M[i].2.1 M[i].2.2.1, _, rfl, by decide, rfl, ⟨by decide, rfl, rfl, rfl, rfl⟩, rfl, rfl, hlen, rfl, rfl, fun hX' => ?_⟩
        conv => whnf
        exact ⟨⟨(i + 1, X, aS L M[i].2.1 M[i].2.2.1), g3, hX', by dsimp only; omega⟩, by show 80 - (i + 1) < 80 - i; omega, qh (Nat.le_refl _) rfl rfl rfl (congrArg (AV.si .i64) hw) rfl rfl rfl⟩
      conv => whnf
      refine Idx.mk i rfl g2 ?_
      conv => whnf
      refine az (Ay g2 rfl) ?_
      conv => whnf
      refine ⟨1, va, X, L, M[i].2.1, M[i].2.2.1, 0, (fF X L M[i].2.1 M[i].2.2.1 0).1.1, (fF X L M[i].2.1 M[i].2.2.1 0).1.2, _, rfl, by decide, rfl, ⟨by decide, rfl, rfl, rfl, rfl⟩, ⟨_, _, rfl, rfl, rfl⟩, rfl, hop, hlen, rfl, fun hX' => ?_⟩
      conv => whnf
      exact ⟨⟨(i + 1, (fF X L M[i].2.1 M[i].2.2.1 0).1.1, (fF X L M[i].2.1 M[i].2.2.1 0).1.2), g3, hX', by dsimp only; omega⟩, by show 80 - (i + 1) < 80 - i; omega, qh (Nat.le_refl _) rfl rfl rfl (congrArg (AV.si .i64) hw) rfl rfl rfl⟩
    conv => whnf
    refine aj.dec (fun z1 => ?_) (fun z1 => ?_)
    focus
      conv => whnf
      exact .inr rfl
    conv => whnf
    refine aj.dec (fun z2 => ?_) (fun z2 => ?_)
    focus
      conv => whnf
      exact .inr rfl
    have z1 : ¬ (min (min p0 p1) p2) < 0 := z1
    have z2 : ¬ 1099511627776 ≤ (max (max p0 p1) p2) := z2
    have hE : (ak (min (min p0 p1) p2) (max (max p0 p1) p2) L) = (ak (min (min p0 p1) p2) p1 L) ++ (ak (p1 + 1) (max (max p0 p1) p2) L) := rB hU (by omega) (by omega)
    have hl12 : 0 + (ak (min (min p0 p1) p2) p1 L).length + (ak (p1 + 1) (max (max p0 p1) p2) L).length = (ak (min (min p0 p1) p2) (max (max p0 p1) p2) L).length := by rw [hE, List.length_append]; omega
    have hrev : (ak (min (min p0 p1) p2) (max (max p0 p1) p2) L).length = (ak (min (min p0 p1) p2) (max (max p0 p1) p2) L).reverse.length := List.length_reverse.symm
    have hLE : (ak (min (min p0 p1) p2) (max (max p0 p1) p2) L).length ≤ 40000 := Nat.le_trans (List.length_filter_le _ _) hlen
    have hcE : ([] ++ smp (ak (min (min p0 p1) p2) p1 L)) ++ smp (ak (p1 + 1) (max (max p0 p1) p2) L) = smp (ak (min (min p0 p1) p2) (max (max p0 p1) p2) L) := by rw [hE, iz, List.nil_append]
    have hsub : bl (([] ++ smp (ak (min (min p0 p1) p2) p1 L)) ++ smp (ak (p1 + 1) (max (max p0 p1) p2) L)) 0 ((ak (min (min p0 p1) p2) (max (max p0 p1) p2) L).length * 2) = some (smp (ak (min (min p0 p1) p2) (max (max p0 p1) p2) L)) := by rw [hcE]; exact bG _
    have hwb : IntKind.i64.wrap (p1 + 1) = p1 + 1 := aA (by omega) (by omega)
    have hwa : IntKind.i64.wrap ((min (min p0 p1) p2) - 1) = (min (min p0 p1) p2) - 1 := aA (by omega) (by omega)
    conv => whnf
    refine ⟨1, va, X, L, (ak (min (min p0 p1) p2) p1 L), rfl, by decide, rfl, ⟨by decide, rfl, rfl, rfl, rfl⟩, ⟨_, _, (min (min p0 p1) p2), p1, rfl, rfl, rfl, rfl⟩, ?_⟩
    conv => whnf
    refine gE.grow 2 16 (ak (min (min p0 p1) p2) p1 L).length 0 (smp (ak (min (min p0 p1) p2) p1 L)) [] _ true Ap (.rw (.inr ⟨_, rfl⟩) (bG _)) (aM _) (oe _) (.sl rfl rfl (Nat.le_refl _) (Nat.le_refl _)) (by omega) ?_
    conv => whnf
    refine ⟨1, va, X, L, (ak (p1 + 1) (max (max p0 p1) p2) L), rfl, by decide, rfl, ⟨by decide, rfl, rfl, rfl, rfl⟩, ⟨_, _, (p1 + 1), (max (max p0 p1) p2), rfl, congrArg (AV.si .i64) hwb, rfl, rfl⟩, ?_⟩
    conv => whnf
    refine gE.grow 2 16 (ak (p1 + 1) (max (max p0 p1) p2) L).length (0 + (ak (min (min p0 p1) p2) p1 L).length) (smp (ak (p1 + 1) (max (max p0 p1) p2) L)) ([] ++ smp (ak (min (min p0 p1) p2) p1 L)) _ true Ap (.rw (.inr ⟨_, rfl⟩) (bG _)) (aM _) (oe _) (.rw rfl (by rw [List.nil_append, Nat.zero_add]; exact bG _)) (by omega) ?_
    refine (rC L p1).elim (fun hlk => ?_) (fun hlk => ?_)
    focus
      have ho1 := qf hU hlk
      conv => whnf
      refine ⟨1, va, X, L, .tup [.si .i64 0, .si .i64 5], rfl, by decide, rfl, ⟨by decide, rfl, rfl, rfl, rfl⟩, ⟨_, p1, rfl, rfl, by rw [rA hlk]⟩, ?_⟩
      conv => whnf
      refine ⟨1, va, X, L, [], rfl, by decide, rfl, ⟨by decide, rfl, rfl, rfl, rfl⟩, ⟨_, _, p1, p1, rfl, rfl, rfl, ho1.symm⟩, ?_⟩
      conv => whnf
      refine ⟨1, va, X, L, (ak (min (min p0 p1) p2) (max (max p0 p1) p2) L), rfl, by decide, rfl, ⟨by decide, rfl, rfl, rfl, rfl⟩, ⟨_, _, (min (min p0 p1) p2), (max (max p0 p1) p2), rfl, rfl, rfl, rfl⟩, ?_⟩
      conv => whnf
      refine ⟨(ak (min (min p0 p1) p2) (max (max p0 p1) p2) L), (ak (min (min p0 p1) p2) (max (max p0 p1) p2) L), dw.nP rfl rfl, (.inr (.inl (.inl ⟨12, 0, 0, _, smp (ak (min (min p0 p1) p2) (max (max p0 p1) p2) L), ⟨congrArg (fun q => AV.rw 12 0 q 2 0) hl12, by decide⟩, .inr ⟨true, rfl⟩, hsub, aR _⟩))), by omega, by omega, ?_⟩
      conv => whnf
      refine aj.sb (fun _ => ?_) (fun z => absurd ((eE _).symm.trans z) (by decide))
      conv => whnf
      refine ⟨1, va, X, L, (ak (min (min p0 p1) p2) (max (max p0 p1) p2) L).reverse, rfl, by decide, rfl, ⟨by decide, rfl, rfl, rfl, rfl⟩, ⟨_, _, (min (min p0 p1) p2), (max (max p0 p1) p2), rfl, rfl, rfl, rfl⟩, ?_⟩
      conv => whnf
      refine ⟨(ak (min (min p0 p1) p2) (max (max p0 p1) p2) L), (.inr (.inl (.inl ⟨12, 0, 0, _, smp (ak (min (min p0 p1) p2) (max (max p0 p1) p2) L), ⟨congrArg (fun q => AV.rw 12 0 q 2 0) hl12, by decide⟩, .inr ⟨true, rfl⟩, hsub, aR _⟩))), by omega, ⟨by decide, rfl, rfl⟩, ?_⟩
      conv => whnf
      refine ⟨(ak (min (min p0 p1) p2) (max (max p0 p1) p2) L).reverse, (ak (min (min p0 p1) p2) (max (max p0 p1) p2) L).reverse, dw.nP rfl rfl, dw.nP (congrArg (fun q => AV.rw 29 0 q 2 0) hrev) rfl, hrev ▸ Nat.le_trans hLE (by decide), hrev ▸ Nat.le_trans hLE (by decide), ?_⟩
      conv => whnf
      refine aj.sb (fun _ => ?_) (fun z => absurd ((eE _).symm.trans z) (by decide))
      conv => whnf
      refine aj.sb (fun _ => ?_) (fun z => absurd ((rfl : (decide ((5 : Int) = 0) == decide ((0 : Int) = 1)) = true).symm.trans z) (by decide))
      conv => whnf
      refine aj.dA (fun _ => ?_) (fun z => absurd z (by decide))
      conv => whnf
      refine ⟨1, va, X, L, [], rfl, by decide, rfl, ⟨by decide, rfl, rfl, rfl, rfl⟩, ⟨_, _, (max (max p0 p1) p2), ((min (min p0 p1) p2) - 1), rfl, rfl, congrArg (AV.si .i64) hwa, (jB (by omega)).symm⟩, ?_⟩
      conv => whnf
      refine aj.dec (fun _ => ?_) (fun z => absurd rfl z)
      conv => whnf
      exact .inr rfl
    have hv := hlk.choose_spec
    have ho1 := qg hU hv
    conv => whnf
    refine ⟨1, va, X, L, .tup [.si .i64 hlk.choose, .si .i64 0], rfl, by decide, rfl, ⟨by decide, rfl, rfl, rfl, rfl⟩, ⟨_, p1, rfl, rfl, by rw [rz hv]⟩, ?_⟩
    conv => whnf
    refine ⟨1, va, X, L, [(p1, hlk.choose)], rfl, by decide, rfl, ⟨by decide, rfl, rfl, rfl, rfl⟩, ⟨_, _, p1, p1, rfl, rfl, rfl, ho1.symm⟩, ?_⟩
    conv => whnf
    refine ⟨1, va, X, L, (ak (min (min p0 p1) p2) (max (max p0 p1) p2) L), rfl, by decide, rfl, ⟨by decide, rfl, rfl, rfl, rfl⟩, ⟨_, _, (min (min p0 p1) p2), (max (max p0 p1) p2), rfl, rfl, rfl, rfl⟩, ?_⟩
    conv => whnf
    refine ⟨(ak (min (min p0 p1) p2) (max (max p0 p1) p2) L), (ak (min (min p0 p1) p2) (max (max p0 p1) p2) L), dw.nP rfl rfl, (.inr (.inl (.inl ⟨12, 0, 0, _, smp (ak (min (min p0 p1) p2) (max (max p0 p1) p2) L), ⟨congrArg (fun q => AV.rw 12 0 q 2 0) hl12, by decide⟩, .inr ⟨true, rfl⟩, hsub, aR _⟩))), by omega, by omega, ?_⟩
    conv => whnf
    refine aj.sb (fun _ => ?_) (fun z => absurd ((eE _).symm.trans z) (by decide))
    conv => whnf
    refine ⟨1, va, X, L, (ak (min (min p0 p1) p2) (max (max p0 p1) p2) L).reverse, rfl, by decide, rfl, ⟨by decide, rfl, rfl, rfl, rfl⟩, ⟨_, _, (min (min p0 p1) p2), (max (max p0 p1) p2), rfl, rfl, rfl, rfl⟩, ?_⟩
    conv => whnf
    refine ⟨(ak (min (min p0 p1) p2) (max (max p0 p1) p2) L), (.inr (.inl (.inl ⟨12, 0, 0, _, smp (ak (min (min p0 p1) p2) (max (max p0 p1) p2) L), ⟨congrArg (fun q => AV.rw 12 0 q 2 0) hl12, by decide⟩, .inr ⟨true, rfl⟩, hsub, aR _⟩))), by omega, ⟨by decide, rfl, rfl⟩, ?_⟩
    conv => whnf
    refine ⟨(ak (min (min p0 p1) p2) (max (max p0 p1) p2) L).reverse, (ak (min (min p0 p1) p2) (max (max p0 p1) p2) L).reverse, dw.nP rfl rfl, dw.nP (congrArg (fun q => AV.rw 29 0 q 2 0) hrev) rfl, hrev ▸ Nat.le_trans hLE (by decide), hrev ▸ Nat.le_trans hLE (by decide), ?_⟩
    conv => whnf
    refine aj.sb (fun _ => ?_) (fun z => absurd ((eE _).symm.trans z) (by decide))
    conv => whnf
    refine aj.sb (fun _ => ?_) (fun z => absurd ((rfl : (decide ((0 : Int) = 0) == decide ((1 : Int) = 1)) = true).symm.trans z) (by decide))
    conv => whnf
    refine aj.dA (fun z => absurd rfl z) (fun _ => ?_)
    conv => whnf
    refine Idx.mk 0 rfl (Nat.zero_lt_one) ?_
    conv => whnf
    refine az (lQ tv) ?_
    conv => whnf
    refine aj.sb (fun _ => ?_) (fun z => absurd ((show (decide (p1 = p1) && (decide (hlk.choose = hlk.choose) && true)) = true by simp).symm.trans z) (by decide))
    conv => whnf
    refine ⟨1, va, X, L, [], rfl, by decide, rfl, ⟨by decide, rfl, rfl, rfl, rfl⟩, ⟨_, _, (max (max p0 p1) p2), ((min (min p0 p1) p2) - 1), rfl, rfl, congrArg (AV.si .i64) hwa, (jB (by omega)).symm⟩, ?_⟩
    conv => whnf
    refine aj.dec (fun _ => ?_) (fun z => absurd rfl z)
    conv => whnf
    exact .inr rfl
  conv => whnf
  refine aj.dec (fun z1 => ?_) (fun z1 => ?_)
  focus
    conv => whnf
    exact .inr rfl
  conv => whnf
  refine aj.dec (fun z2 => ?_) (fun z2 => ?_)
  focus
    conv => whnf
    exact .inr rfl
  have z1 : ¬ (min (min p0 p1) p2) < 0 := z1
  have z2 : ¬ 1099511627776 ≤ (max (max p0 p1) p2) := z2
  have hE : (ak (min (min p0 p1) p2) (max (max p0 p1) p2) L) = (ak (min (min p0 p1) p2) p1 L) ++ (ak (p1 + 1) (max (max p0 p1) p2) L) := rB hU (by omega) (by omega)
  have hl12 : 0 + (ak (min (min p0 p1) p2) p1 L).length + (ak (p1 + 1) (max (max p0 p1) p2) L).length = (ak (min (min p0 p1) p2) (max (max p0 p1) p2) L).length := by rw [hE, List.length_append]; omega
  have hrev : (ak (min (min p0 p1) p2) (max (max p0 p1) p2) L).length = (ak (min (min p0 p1) p2) (max (max p0 p1) p2) L).reverse.length := List.length_reverse.symm
  have hLE : (ak (min (min p0 p1) p2) (max (max p0 p1) p2) L).length ≤ 40000 := Nat.le_trans (List.length_filter_le _ _) hlen
  have hcE : ([] ++ smp (ak (min (min p0 p1) p2) p1 L)) ++ smp (ak (p1 + 1) (max (max p0 p1) p2) L) = smp (ak (min (min p0 p1) p2) (max (max p0 p1) p2) L) := by rw [hE, iz, List.nil_append]
  have hsub : bl (([] ++ smp (ak (min (min p0 p1) p2) p1 L)) ++ smp (ak (p1 + 1) (max (max p0 p1) p2) L)) 0 ((ak (min (min p0 p1) p2) (max (max p0 p1) p2) L).length * 2) = some (smp (ak (min (min p0 p1) p2) (max (max p0 p1) p2) L)) := by rw [hcE]; exact bG _
  have hwb : IntKind.i64.wrap (p1 + 1) = p1 + 1 := aA (by omega) (by omega)
  have hwa : IntKind.i64.wrap ((min (min p0 p1) p2) - 1) = (min (min p0 p1) p2) - 1 := aA (by omega) (by omega)
  conv => whnf
  refine ⟨1, va, X, L, (ak (min (min p0 p1) p2) p1 L), rfl, by decide, rfl, ⟨by decide, rfl, rfl, rfl, rfl⟩, ⟨_, _, (min (min p0 p1) p2), p1, rfl, rfl, rfl, rfl⟩, ?_⟩
  conv => whnf
  refine gE.grow 2 16 (ak (min (min p0 p1) p2) p1 L).length 0 (smp (ak (min (min p0 p1) p2) p1 L)) [] _ true Ap (.rw (.inr ⟨_, rfl⟩) (bG _)) (aM _) (oe _) (.sl rfl rfl (Nat.le_refl _) (Nat.le_refl _)) (by omega) ?_
  conv => whnf
  refine ⟨1, va, X, L, (ak (p1 + 1) (max (max p0 p1) p2) L), rfl, by decide, rfl, ⟨by decide, rfl, rfl, rfl, rfl⟩, ⟨_, _, (p1 + 1), (max (max p0 p1) p2), rfl, congrArg (AV.si .i64) hwb, rfl, rfl⟩, ?_⟩
  conv => whnf
  refine gE.grow 2 16 (ak (p1 + 1) (max (max p0 p1) p2) L).length (0 + (ak (min (min p0 p1) p2) p1 L).length) (smp (ak (p1 + 1) (max (max p0 p1) p2) L)) ([] ++ smp (ak (min (min p0 p1) p2) p1 L)) _ true Ap (.rw (.inr ⟨_, rfl⟩) (bG _)) (aM _) (oe _) (.rw rfl (by rw [List.nil_append, Nat.zero_add]; exact bG _)) (by omega) ?_
  refine (rC L p1).elim (fun hlk => ?_) (fun hlk => ?_)
  focus
    have ho1 := qf hU hlk
    conv => whnf
    refine ⟨1, va, X, L, .tup [.si .i64 0, .si .i64 5], rfl, by decide, rfl, ⟨by decide, rfl, rfl, rfl, rfl⟩, ⟨_, p1, rfl, rfl, by rw [rA hlk]⟩, ?_⟩
    conv => whnf
    refine ⟨1, va, X, L, [], rfl, by decide, rfl, ⟨by decide, rfl, rfl, rfl, rfl⟩, ⟨_, _, p1, p1, rfl, rfl, rfl, ho1.symm⟩, ?_⟩
    conv => whnf
    refine ⟨1, va, X, L, (ak (min (min p0 p1) p2) (max (max p0 p1) p2) L), rfl, by decide, rfl, ⟨by decide, rfl, rfl, rfl, rfl⟩, ⟨_, _, (min (min p0 p1) p2), (max (max p0 p1) p2), rfl, rfl, rfl, rfl⟩, ?_⟩
    conv => whnf
    refine ⟨(ak (min (min p0 p1) p2) (max (max p0 p1) p2) L), (ak (min (min p0 p1) p2) (max (max p0 p1) p2) L), dw.nP rfl rfl, (.inr (.inl (.inl ⟨12, 0, 0, _, smp (ak (min (min p0 p1) p2) (max (max p0 p1) p2) L), ⟨congrArg (fun q => AV.rw 12 0 q 2 0) hl12, by decide⟩, .inr ⟨true, rfl⟩, hsub, aR _⟩))), by omega, by omega, ?_⟩
    conv => whnf
    refine aj.sb (fun _ => ?_) (fun z => absurd ((eE _).symm.trans z) (by decide))
    conv => whnf
    refine ⟨1, va, X, L, (ak (min (min p0 p1) p2) (max (max p0 p1) p2) L).reverse, rfl, by decide, rfl, ⟨by decide, rfl, rfl, rfl, rfl⟩, ⟨_, _, (min (min p0 p1) p2), (max (max p0 p1) p2), rfl, rfl, rfl, rfl⟩, ?_⟩
    conv => whnf
    refine ⟨(ak (min (min p0 p1) p2) (max (max p0 p1) p2) L), (.inr (.inl (.inl ⟨12, 0, 0, _, smp (ak (min (min p0 p1) p2) (max (max p0 p1) p2) L), ⟨congrArg (fun q => AV.rw 12 0 q 2 0) hl12, by decide⟩, .inr ⟨true, rfl⟩, hsub, aR _⟩))), by omega, ⟨by decide, rfl, rfl⟩, ?_⟩
    conv => whnf
    refine ⟨(ak (min (min p0 p1) p2) (max (max p0 p1) p2) L).reverse, (ak (min (min p0 p1) p2) (max (max p0 p1) p2) L).reverse, dw.nP rfl rfl, dw.nP (congrArg (fun q => AV.rw 29 0 q 2 0) hrev) rfl, hrev ▸ Nat.le_trans hLE (by decide), hrev ▸ Nat.le_trans hLE (by decide), ?_⟩
    conv => whnf
    refine aj.sb (fun _ => ?_) (fun z => absurd ((eE _).symm.trans z) (by decide))
    conv => whnf
    refine aj.sb (fun _ => ?_) (fun z => absurd ((rfl : (decide ((5 : Int) = 0) == decide ((0 : Int) = 1)) = true).symm.trans z) (by decide))
    conv => whnf
    refine aj.dA (fun _ => ?_) (fun z => absurd z (by decide))
    conv => whnf
    refine ⟨1, va, X, L, [], rfl, by decide, rfl, ⟨by decide, rfl, rfl, rfl, rfl⟩, ⟨_, _, (max (max p0 p1) p2), ((min (min p0 p1) p2) - 1), rfl, rfl, congrArg (AV.si .i64) hwa, (jB (by omega)).symm⟩, ?_⟩
    conv => whnf
    refine aj.dec (fun _ => ?_) (fun z => absurd rfl z)
    conv => whnf
    exact .inr rfl
  have hv := hlk.choose_spec
  have ho1 := qg hU hv
  conv => whnf
  refine ⟨1, va, X, L, .tup [.si .i64 hlk.choose, .si .i64 0], rfl, by decide, rfl, ⟨by decide, rfl, rfl, rfl, rfl⟩, ⟨_, p1, rfl, rfl, by rw [rz hv]⟩, ?_⟩
  conv => whnf
  refine ⟨1, va, X, L, [(p1, hlk.choose)], rfl, by decide, rfl, ⟨by decide, rfl, rfl, rfl, rfl⟩, ⟨_, _, p1, p1, rfl, rfl, rfl, ho1.symm⟩, ?_⟩
  conv => whnf
  refine ⟨1, va, X, L, (ak (min (min p0 p1) p2) (max (max p0 p1) p2) L), rfl, by decide, rfl, ⟨by decide, rfl, rfl, rfl, rfl⟩, ⟨_, _, (min (min p0 p1) p2), (max (max p0 p1) p2), rfl, rfl, rfl, rfl⟩, ?_⟩
  conv => whnf
  refine ⟨(ak (min (min p0 p1) p2) (max (max p0 p1) p2) L), (ak (min (min p0 p1) p2) (max (max p0 p1) p2) L), dw.nP rfl rfl, (.inr (.inl (.inl ⟨12, 0, 0, _, smp (ak (min (min p0 p1) p2) (max (max p0 p1) p2) L), ⟨congrArg (fun q => AV.rw 12 0 q 2 0) hl12, by decide⟩, .inr ⟨true, rfl⟩, hsub, aR _⟩))), by omega, by omega, ?_⟩
  conv => whnf
  refine aj.sb (fun _ => ?_) (fun z => absurd ((eE _).symm.trans z) (by decide))
  conv => whnf
  refine ⟨1, va, X, L, (ak (min (min p0 p1) p2) (max (max p0 p1) p2) L).reverse, rfl, by decide, rfl, ⟨by decide, rfl, rfl, rfl, rfl⟩, ⟨_, _, (min (min p0 p1) p2), (max (max p0 p1) p2), rfl, rfl, rfl, rfl⟩, ?_⟩
  conv => whnf
  refine ⟨(ak (min (min p0 p1) p2) (max (max p0 p1) p2) L), (.inr (.inl (.inl ⟨12, 0, 0, _, smp (ak (min (min p0 p1) p2) (max (max p0 p1) p2) L), ⟨congrArg (fun q => AV.rw 12 0 q 2 0) hl12, by decide⟩, .inr ⟨true, rfl⟩, hsub, aR _⟩))), by omega, ⟨by decide, rfl, rfl⟩, ?_⟩
  conv => whnf
  refine ⟨(ak (min (min p0 p1) p2) (max (max p0 p1) p2) L).reverse, (ak (min (min p0 p1) p2) (max (max p0 p1) p2) L).reverse, dw.nP rfl rfl, dw.nP (congrArg (fun q => AV.rw 29 0 q 2 0) hrev) rfl, hrev ▸ Nat.le_trans hLE (by decide), hrev ▸ Nat.le_trans hLE (by decide), ?_⟩
  conv => whnf
  refine aj.sb (fun _ => ?_) (fun z => absurd ((eE _).symm.trans z) (by decide))
  conv => whnf
  refine aj.sb (fun _ => ?_) (fun z => absurd ((rfl : (decide ((0 : Int) = 0) == decide ((1 : Int) = 1)) = true).symm.trans z) (by decide))
  conv => whnf
  refine aj.dA (fun z => absurd rfl z) (fun _ => ?_)
  conv => whnf
  refine Idx.mk 0 rfl (Nat.zero_lt_one) ?_
  conv => whnf
  refine az (lQ tv) ?_
  conv => whnf
  refine aj.sb (fun _ => ?_) (fun z => absurd ((show (decide (p1 = p1) && (decide (hlk.choose = hlk.choose) && true)) = true by simp).symm.trans z) (by decide))
  conv => whnf
  refine ⟨1, va, X, L, [], rfl, by decide, rfl, ⟨by decide, rfl, rfl, rfl, rfl⟩, ⟨_, _, (max (max p0 p1) p2), ((min (min p0 p1) p2) - 1), rfl, rfl, congrArg (AV.si .i64) hwa, (jB (by omega)).symm⟩, ?_⟩
  conv => whnf
  refine aj.dec (fun _ => ?_) (fun z => absurd rfl z)
  conv => whnf
  exact .inr rfl
end Go.Proofs.Ythjggjhebbdkdaa
