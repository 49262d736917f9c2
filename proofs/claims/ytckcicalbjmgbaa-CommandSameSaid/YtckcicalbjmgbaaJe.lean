/- Texts of our own, joined: the engine, the machine that runs code, and what is known of the functions. -/
import Derived.Test.YtckcicalbjmgbaaRows
import Derived.WalkKit
import Derived.Deep.Quiet
import Derived.ProofKit
import Derived.Laws.StructEq
import Derived.LaidEql
import Derived.Laws.BytesArg
import Derived.Maps.RangeRun
import Derived.Scope
import Derived.Laws.Strings
import Derived.Laws.Strings2
import Derived.Below
import Derived.Carry
import Derived.OpenShut
import Derived.ChangeMaps5
import Derived.Deep.Slices
import Derived.Deep.SlicePairs
import Derived.SizedLaws
import Derived.Laws.BitsAllLaws
import Derived.Test.YtckcicalbjmgbaaJd
set_option linter.unusedSimpArgs false
set_option linter.unusedVariables false
set_option maxHeartbeats 16000000
set_option maxRecDepth 100000
namespace Go.Proofs.Ytckcicalbjmgbaa
open Go Go.RowKit
def Ax : AV → Bool
  | .agg l => l.all ed
  | v => ed v
theorem vG {φ ψ : Ph} (hz : ∀ q, φ.z q → ψ.z q) {a : AV} {w : Value} (h : Ax a = true) (hw : VR φ a w) : VR ψ a w := by
  cases a
  case agg l =>
    obtain ⟨cs, rfl, hv⟩ := hw.dz
    exact .agg (oz hz h hv)
  all_goals exact fi hz h hw
theorem tm {φ ψ : Ph} (hz : ∀ q, φ.z q → ψ.z q) : ∀ {l : List AV} {vs : List Value}, l.all Ax = true → VRs φ l vs → VRs ψ l vs
  | [], _, _, h => by rw [h.aI]; exact .nil
  | a :: l, vs, hs, h => by
    obtain ⟨v, us, rfl, h1, h2⟩ := h.cons_inv
    simp only [List.all_cons, Bool.and_eq_true] at hs
    exact .cons (vG hz hs.1 h1) (tm hz hs.2 h2)
def cj (A : List AV → AV → Prop) (args : List AV) (H : AH) (n : Nat) (κ : PK) : Prop := ∃ v, A args v ∧ κ v H n
theorem dt (A : List AV → AV → Prop) : oe (cj A) := .pure fun _ _ _ _ ⟨v, h1, h2⟩ => ⟨v, h2, fun _ h => ⟨v, h1, h⟩⟩
theorem cv {F : FuncId → EP} (hF : bu F) (d : Nat) {f : FuncId} (hic : dT Try.prog f = true) {A : List AV → AV → Prop} (h : ∀ args v, A args v → args.all Ax = true ∧ Ax v = true ∧ ao F d f args .nil 0 fun u _ _ => VTo u v) : aA f (cj A) := fun args H n κ ⟨v, ha, hs⟩ φ h0 hp vs K hr hargs hk => by
  obtain ⟨s1, s2, s3⟩ := h args v ha
  have key : Wf hp → fC Try.prog f vs hp K := fun hw => ax hF d f args .nil 0 _ s3 ⟨fun _ => none, φ.z, φ.z⟩ hp hp vs K (hr.yu (fJ hw) (fun _ _ h => by cases h) (fun _ h => h)) (tm (φ := φ) (ψ := ⟨fun _ => none, φ.z, φ.z⟩) (fun _ h => h) s1 hargs) fun ψ u H' n' w g hle hg hu he => by
    obtain ⟨χ, h1, h2, h3⟩ := tf hr hg (fun q hq => hle.y q hq)
    exact hk χ v H n w g h1 h2 (vG h3 s2 (he ψ w hu)) hs
  exact ⟨hic, fun w hi => (key hi.wf).2 w hi⟩
theorem vH {P : Program} {t : TypeId} {H : AH} {xs ys : List AV} {pl : List (Nat × Nat)} {q : Bool} (hp : jN P t = some pl) (hq : iu xs ys pl = some q) : mE P .eql t (.agg xs) (.agg ys) H = some (.bool q) := by
  show ir .eql ((jN P t).bind (iu xs ys)) = _
  rw [hp]; show ir .eql (iu xs ys pl) = _; rw [hq]; rfl
theorem vI {P : Program} {t : TypeId} {H : AH} {xs ys : List AV} {pl : List (Nat × Nat)} {q : Bool} (hp : jN P t = some pl) (hq : iu xs ys pl = some q) : mE P .neq t (.agg xs) (.agg ys) H = some (.bool (!q)) := by
  show ir .neq ((jN P t).bind (iu xs ys)) = _
  rw [hp]; show ir .neq (iu xs ys pl) = _; rw [hq]; rfl
theorem VTo.isb {a b : Bool} {u : AV} (hu : mk u = .sb a) (h : a = b) : VTo u (.sb b) := by subst h; exact VTo.mkv hu
theorem jB {V : List Int} {i : Nat} (h : i < V.length) : nth (ints V) (i * 1) = some (.si .i64 V[i]) := yq h (Nat.mul_one _)
theorem gN {V : List (List Nat)} {i : Nat} (h : i < V.length) : nth (aq V) (i * 1) = some (.ss V[i]) := by
  rw [dV, Nat.mul_one]; simp [aq, h]
theorem gO : ∀ {V : List (List Nat × List Nat)} {i : Nat} (h : i < V.length), aV (aS V) (i * 2) 2 = some [.ss V[i].1, .ss V[i].2]
  | x :: V, 0, h => by
    show aV (AV.ss x.1 :: AV.ss x.2 :: aS V) 0 2 = _
    unfold aV
    rw [show Nat.ble (0 + 2) (AV.ss x.1 :: AV.ss x.2 :: aS V).length = true from Nat.ble_eq_true_of_le (by simp)]
    rfl
  | x :: V, i + 1, h => by
    have ih := gO (V := V) (i := i) (by simpa using h)
    obtain ⟨h1, h2⟩ := aW ih
    show aV (AV.ss x.1 :: AV.ss x.2 :: aS V) ((i + 1) * 2) 2 = _
    have hl : ((i + 1) * 2 + 2) ≤ (AV.ss x.1 :: AV.ss x.2 :: aS V).length := by simp only [List.length_cons]; omega
    unfold aV
    rw [Nat.ble_eq_true_of_le hl]
    have : (AV.ss x.1 :: AV.ss x.2 :: aS V).drop ((i + 1) * 2) = (aS V).drop (i * 2) := by
      rw [show (i + 1) * 2 = i * 2 + 1 + 1 by omega]; rfl
    show some (((AV.ss x.1 :: AV.ss x.2 :: aS V).drop ((i + 1) * 2)).take 2) = _
    rw [this, ← h2]; rfl
def DD (args : List AV) (v : AV) : Prop := ∃ V W : List (List Nat), args = [.fr V.length 1 (aq V), .fr W.length 1 (aq W)] ∧ V.length ≤ 1000000 ∧ v = .sb (decide (V = W))
noncomputable def zx (V : List (List Nat)) (W : List (List Nat)) (i : Nat) : AE × AH := (mkE [(0, .fr V.length 1 (aq V)), (1, .fr W.length 1 (aq W)), (12, .si .i64 ((V.length : Nat))), (13, .si .i64 (i))], mkH [])
theorem qa {V : List (List Nat)} {W : List (List Nat)} {i : Nat} {p n : Nat} {σ : AE} {H : AH} (hp : p ≤ 0) (e0 : aC (pa 0) σ = .fr V.length 1 (aq V)) (e1 : aC (pa 1) σ = .fr W.length 1 (aq W)) (e12 : mk (aC (pa 12) σ) = .si .i64 ((V.length : Nat))) (e13 : mk (aC (pa 13) σ) = .si .i64 (i)) : Cov p σ H n ((zx V W i).1, (zx V W i).2, 0) := by
  refine Cov.ofR (fun b => b) (by omega) (fun b hb => rfl) ?_ ?_ ?_
  · intro x hx
    simp only [List.mem_cons, List.not_mem_nil, or_false] at hx
    rcases hx with rfl | rfl | rfl | rfl
    · exact aX.frE e0
    · exact aX.frE e1
    · exact .int e12
    · exact .int e13
  · intro x hx
    cases hx
  · intro x hx y hy
    cases hx
noncomputable def DE : FuncId → EP := cw 31 [] evP
theorem Ay : bu DE := aF aQ (by kernel_rfl) (by kernel_rfl)
theorem CD (V W : List (List Nat)) (hV : V.length ≤ 1000000) : ao DE 3 31 [.fr V.length 1 (aq V), .fr W.length 1 (aq W)] .nil 0 fun u _ _ => VTo u (.sb (decide (V = W))) := by
  conv => whnf
  refine ah.fO (fun h1 => ?_) (fun h1 => ?_)
  · have h2 : decide (V = W) = false := decide_eq_false fun e => h1 (by subst e; rfl)
    conv => whnf
    exact VTo.isb rfl h2.symm
  · have hl : V.length = W.length := Int.ofNat_inj.1 h1
    conv => whnf
    refine cV.mk { i : Nat // i ≤ V.length ∧ V.take i = W.take i } 0 (fun i => zx V W i.val) (fun i => V.length - i.val) ⟨0, Nat.zero_le _, rfl⟩ ?_ ?_
    · exact qa (i := 0) (Nat.le_refl 0) rfl rfl rfl rfl
    · intro ⟨i, hi, he⟩
      conv => whnf
      refine ah.dec (fun h3 => ?_) (fun h3 => ?_)
      · have h4 : i < V.length := Int.ofNat_lt.1 h3
        have h5 : i < W.length := hl ▸ h4
        have hlt : V.length - (i + 1) < V.length - i := by omega
        have hw : IntKind.i64.wrap ((i : Int) + 1) = ((i + 1 : Nat) : Int) := by rw [db (by omega) (by omega)]; omega
        have hsn : V[i] = W[i] → V.take (i + 1) = W.take (i + 1) := fun e => by rw [List.take_succ_eq_append_getElem h4, List.take_succ_eq_append_getElem h5, he, e]
        have hne : ¬ V[i] = W[i] → decide (V = W) = false := fun q => decide_eq_false fun e => q (by subst e; rfl)
        conv => whnf
        refine Idx.mk i rfl h4 ?_
        conv => whnf
        refine aP (gN (V := V) h4) ?_
        conv => whnf
        refine Idx.mk i rfl h5 ?_
        conv => whnf
        refine aP (gN (V := W) h5) ?_
        conv => whnf
        refine ah.nsb (fun h6 => ?_) (fun h6 => ?_)
        · have h6 : ¬ V[i] = W[i] := fun e => by rw [e, bp.2 rfl] at h6; cases h6
          conv => whnf
          exact VTo.isb rfl (hne h6).symm
        · have h6 : V[i] = W[i] := bp.1 h6
          conv => whnf
          exact ⟨⟨i + 1, h4, hsn h6⟩, hlt, (qa (Nat.le_refl 0) rfl rfl rfl (congrArg (AV.si .i64) hw))⟩
      · have h4 : i = V.length := by have : ¬ (i : Int) < (V.length : Int) := h3; omega
        have h5 : decide (V = W) = true := decide_eq_true (by rw [h4, List.take_length, hl, List.take_length] at he; exact he)
        conv => whnf
        exact VTo.isb rfl h5.symm
theorem El : aA 31 (cj DD) := cv Ay 3 (by kernel_rfl) fun args v ⟨V, W, h1, h2, h3⟩ => by
  subst h1 h3; exact ⟨rfl, rfl, CD V W h2⟩
def DF (args : List AV) (v : AV) : Prop := ∃ V W : List (Int), args = [.fr V.length 1 (ints V), .fr W.length 1 (ints W)] ∧ V.length ≤ 1000000 ∧ v = .sb (decide (V = W))
noncomputable def zy (V : List (Int)) (W : List (Int)) (i : Nat) : AE × AH := (mkE [(0, .fr V.length 1 (ints V)), (1, .fr W.length 1 (ints W)), (12, .si .i64 ((V.length : Nat))), (13, .si .i64 (i))], mkH [])
theorem qb {V : List (Int)} {W : List (Int)} {i : Nat} {p n : Nat} {σ : AE} {H : AH} (hp : p ≤ 0) (e0 : aC (pa 0) σ = .fr V.length 1 (ints V)) (e1 : aC (pa 1) σ = .fr W.length 1 (ints W)) (e12 : mk (aC (pa 12) σ) = .si .i64 ((V.length : Nat))) (e13 : mk (aC (pa 13) σ) = .si .i64 (i)) : Cov p σ H n ((zy V W i).1, (zy V W i).2, 0) := by
  refine Cov.ofR (fun b => b) (by omega) (fun b hb => rfl) ?_ ?_ ?_
  · intro x hx
    simp only [List.mem_cons, List.not_mem_nil, or_false] at hx
    rcases hx with rfl | rfl | rfl | rfl
    · exact aX.frE e0
    · exact aX.frE e1
    · exact .int e12
    · exact .int e13
  · intro x hx
    cases hx
  · intro x hx y hy
    cases hx
noncomputable def DG : FuncId → EP := cw 32 [] evP
theorem Az : bu DG := aF aQ (by kernel_rfl) (by kernel_rfl)
theorem CE (V W : List (Int)) (hV : V.length ≤ 1000000) : ao DG 3 32 [.fr V.length 1 (ints V), .fr W.length 1 (ints W)] .nil 0 fun u _ _ => VTo u (.sb (decide (V = W))) := by
  conv => whnf
  refine ah.fO (fun h1 => ?_) (fun h1 => ?_)
  · have h2 : decide (V = W) = false := decide_eq_false fun e => h1 (by subst e; rfl)
    conv => whnf
    exact VTo.isb rfl h2.symm
  · have hl : V.length = W.length := Int.ofNat_inj.1 h1
    conv => whnf
    refine cV.mk { i : Nat // i ≤ V.length ∧ V.take i = W.take i } 0 (fun i => zy V W i.val) (fun i => V.length - i.val) ⟨0, Nat.zero_le _, rfl⟩ ?_ ?_
    · exact qb (i := 0) (Nat.le_refl 0) rfl rfl rfl rfl
    · intro ⟨i, hi, he⟩
      conv => whnf
      refine ah.dec (fun h3 => ?_) (fun h3 => ?_)
      · have h4 : i < V.length := Int.ofNat_lt.1 h3
        have h5 : i < W.length := hl ▸ h4
        have hlt : V.length - (i + 1) < V.length - i := by omega
        have hw : IntKind.i64.wrap ((i : Int) + 1) = ((i + 1 : Nat) : Int) := by rw [db (by omega) (by omega)]; omega
        have hsn : V[i] = W[i] → V.take (i + 1) = W.take (i + 1) := fun e => by rw [List.take_succ_eq_append_getElem h4, List.take_succ_eq_append_getElem h5, he, e]
        have hne : ¬ V[i] = W[i] → decide (V = W) = false := fun q => decide_eq_false fun e => q (by subst e; rfl)
        conv => whnf
        refine Idx.mk i rfl h4 ?_
        conv => whnf
        refine aP (jB (V := V) h4) ?_
        conv => whnf
        refine Idx.mk i rfl h5 ?_
        conv => whnf
        refine aP (jB (V := W) h5) ?_
        conv => whnf
        refine ah.fO (fun h6 => ?_) (fun h6 => ?_)
        · have h6 : ¬ V[i] = W[i] := h6
          conv => whnf
          exact VTo.isb rfl (hne h6).symm
        · have h6 : V[i] = W[i] := h6
          conv => whnf
          exact ⟨⟨i + 1, h4, hsn h6⟩, hlt, (qb (Nat.le_refl 0) rfl rfl rfl (congrArg (AV.si .i64) hw))⟩
      · have h4 : i = V.length := by have : ¬ (i : Int) < (V.length : Int) := h3; omega
        have h5 : decide (V = W) = true := decide_eq_true (by rw [h4, List.take_length, hl, List.take_length] at he; exact he)
        conv => whnf
        exact VTo.isb rfl h5.symm
theorem Em : aA 32 (cj DF) := cv Az 3 (by kernel_rfl) fun args v ⟨V, W, h1, h2, h3⟩ => by
  subst h1 h3; exact ⟨rfl, rfl, CE V W h2⟩
def DH (args : List AV) (v : AV) : Prop := ∃ V W : List (List Nat × List Nat), args = [.fr V.length 2 (aS V), .fr W.length 2 (aS W)] ∧ V.length ≤ 1000000 ∧ v = .sb (decide (V = W))
noncomputable def zA (V : List (List Nat × List Nat)) (W : List (List Nat × List Nat)) (i : Nat) : AE × AH := (mkE [(0, .fr V.length 2 (aS V)), (1, .fr W.length 2 (aS W)), (12, .si .i64 ((V.length : Nat))), (13, .si .i64 (i))], mkH [])
theorem qc {V : List (List Nat × List Nat)} {W : List (List Nat × List Nat)} {i : Nat} {p n : Nat} {σ : AE} {H : AH} (hp : p ≤ 0) (e0 : aC (pa 0) σ = .fr V.length 2 (aS V)) (e1 : aC (pa 1) σ = .fr W.length 2 (aS W)) (e12 : mk (aC (pa 12) σ) = .si .i64 ((V.length : Nat))) (e13 : mk (aC (pa 13) σ) = .si .i64 (i)) : Cov p σ H n ((zA V W i).1, (zA V W i).2, 0) := by
  refine Cov.ofR (fun b => b) (by omega) (fun b hb => rfl) ?_ ?_ ?_
  · intro x hx
    simp only [List.mem_cons, List.not_mem_nil, or_false] at hx
    rcases hx with rfl | rfl | rfl | rfl
    · exact aX.frE e0
    · exact aX.frE e1
    · exact .int e12
    · exact .int e13
  · intro x hx
    cases hx
  · intro x hx y hy
    cases hx
noncomputable def DI : FuncId → EP := cw 33 [] evP
theorem AA : bu DI := aF aQ (by kernel_rfl) (by kernel_rfl)
theorem CF (V W : List (List Nat × List Nat)) (hV : V.length ≤ 1000000) : ao DI 3 33 [.fr V.length 2 (aS V), .fr W.length 2 (aS W)] .nil 0 fun u _ _ => VTo u (.sb (decide (V = W))) := by
  conv => whnf
  refine ah.fO (fun h1 => ?_) (fun h1 => ?_)
  · have h2 : decide (V = W) = false := decide_eq_false fun e => h1 (by subst e; rfl)
    conv => whnf
    exact VTo.isb rfl h2.symm
  · have hl : V.length = W.length := Int.ofNat_inj.1 h1
    conv => whnf
    refine cV.mk { i : Nat // i ≤ V.length ∧ V.take i = W.take i } 0 (fun i => zA V W i.val) (fun i => V.length - i.val) ⟨0, Nat.zero_le _, rfl⟩ ?_ ?_
    · exact qc (i := 0) (Nat.le_refl 0) rfl rfl rfl rfl
    · intro ⟨i, hi, he⟩
      conv => whnf
      refine ah.dec (fun h3 => ?_) (fun h3 => ?_)
      · have h4 : i < V.length := Int.ofNat_lt.1 h3
        have h5 : i < W.length := hl ▸ h4
        have hlt : V.length - (i + 1) < V.length - i := by omega
        have hw : IntKind.i64.wrap ((i : Int) + 1) = ((i + 1 : Nat) : Int) := by rw [db (by omega) (by omega)]; omega
        have hsn : V[i] = W[i] → V.take (i + 1) = W.take (i + 1) := fun e => by rw [List.take_succ_eq_append_getElem h4, List.take_succ_eq_append_getElem h5, he, e]
        have hne : ¬ V[i] = W[i] → decide (V = W) = false := fun q => decide_eq_false fun e => q (by subst e; rfl)
        conv => whnf
        refine Idx.mk i rfl h4 ?_
        conv => whnf
        refine aP (gO (V := V) h4) ?_
        conv => whnf
        refine Idx.mk i rfl h5 ?_
        conv => whnf
        refine aP (gO (V := W) h5) ?_
        conv => whnf
        refine aP (vI (pl := [(1, 0), (1, 1)]) (q := aN V[i].1 W[i].1 && (aN V[i].2 W[i].2 && true)) (by kernel_rfl) rfl) ?_
        conv => whnf
        refine ah.nsb (fun h6 => ?_) (fun h6 => ?_)
        · have h6 : ¬ V[i] = W[i] := fun e => by rw [e, bp.2 rfl, bp.2 rfl] at h6; cases h6
          conv => whnf
          exact VTo.isb rfl (hne h6).symm
        · have h6 : V[i] = W[i] := by simp only [Bool.and_eq_true] at h6; exact Prod.ext (bp.1 h6.1) (bp.1 h6.2.1)
          conv => whnf
          exact ⟨⟨i + 1, h4, hsn h6⟩, hlt, (qc (Nat.le_refl 0) rfl rfl rfl (congrArg (AV.si .i64) hw))⟩
      · have h4 : i = V.length := by have : ¬ (i : Int) < (V.length : Int) := h3; omega
        have h5 : decide (V = W) = true := decide_eq_true (by rw [h4, List.take_length, hl, List.take_length] at he; exact he)
        conv => whnf
        exact VTo.isb rfl h5.symm
theorem En : aA 33 (cj DH) := cv AA 3 (by kernel_rfl) fun args v ⟨V, W, h1, h2, h3⟩ => by
  subst h1 h3; exact ⟨rfl, rfl, CF V W h2⟩
def DJ (args : List AV) (v : AV) : Prop := ∃ V W : List (List Nat), args = [.fr V.length 1 (aq V), .fr W.length 1 (aq W)] ∧ V.length ≤ 1000000 ∧ v = .sb (decide (V = W))
noncomputable def zB (V : List (List Nat)) (W : List (List Nat)) (i : Nat) : AE × AH := (mkE [(0, .fr V.length 1 (aq V)), (1, .fr W.length 1 (aq W)), (5, .si .i64 (i))], mkH [])
theorem qd {V : List (List Nat)} {W : List (List Nat)} {i : Nat} {p n : Nat} {σ : AE} {H : AH} (hp : p ≤ 0) (e0 : aC (pa 0) σ = .fr V.length 1 (aq V)) (e1 : aC (pa 1) σ = .fr W.length 1 (aq W)) (e5 : mk (aC (pa 5) σ) = .si .i64 (i)) : Cov p σ H n ((zB V W i).1, (zB V W i).2, 0) := by
  refine Cov.ofR (fun b => b) (by omega) (fun b hb => rfl) ?_ ?_ ?_
  · intro x hx
    simp only [List.mem_cons, List.not_mem_nil, or_false] at hx
    rcases hx with rfl | rfl | rfl
    · exact aX.frE e0
    · exact aX.frE e1
    · exact .int e5
  · intro x hx
    cases hx
  · intro x hx y hy
    cases hx
noncomputable def DK : FuncId → EP := cw 17 [] evP
theorem AB : bu DK := aF aQ (by kernel_rfl) (by kernel_rfl)
theorem CG (V W : List (List Nat)) (hV : V.length ≤ 1000000) : ao DK 3 17 [.fr V.length 1 (aq V), .fr W.length 1 (aq W)] .nil 0 fun u _ _ => VTo u (.sb (decide (V = W))) := by
  conv => whnf
  refine ah.fO (fun h1 => ?_) (fun h1 => ?_)
  · have h2 : decide (V = W) = false := decide_eq_false fun e => h1 (by subst e; rfl)
    conv => whnf
    exact VTo.isb rfl h2.symm
  · have hl : V.length = W.length := Int.ofNat_inj.1 h1
    conv => whnf
    refine cV.mk { i : Nat // i ≤ V.length ∧ V.take i = W.take i } 0 (fun i => zB V W i.val) (fun i => V.length - i.val) ⟨0, Nat.zero_le _, rfl⟩ ?_ ?_
    · exact qd (i := 0) (Nat.le_refl 0) rfl rfl rfl
    · intro ⟨i, hi, he⟩
      conv => whnf
      refine ah.dec (fun h3 => ?_) (fun h3 => ?_)
      · have h4 : i < V.length := Int.ofNat_lt.1 h3
        have h5 : i < W.length := hl ▸ h4
        have hlt : V.length - (i + 1) < V.length - i := by omega
        have hw : IntKind.i64.wrap ((i : Int) + 1) = ((i + 1 : Nat) : Int) := by rw [db (by omega) (by omega)]; omega
        have hsn : V[i] = W[i] → V.take (i + 1) = W.take (i + 1) := fun e => by rw [List.take_succ_eq_append_getElem h4, List.take_succ_eq_append_getElem h5, he, e]
        have hne : ¬ V[i] = W[i] → decide (V = W) = false := fun q => decide_eq_false fun e => q (by subst e; rfl)
        conv => whnf
        refine Idx.mk i rfl h4 ?_
        conv => whnf
        refine aP (gN (V := V) h4) ?_
        conv => whnf
        refine Idx.mk i rfl h5 ?_
        conv => whnf
        refine aP (gN (V := W) h5) ?_
        conv => whnf
        refine ah.nsb (fun h6 => ?_) (fun h6 => ?_)
        · have h6 : ¬ V[i] = W[i] := fun e => by rw [e, bp.2 rfl] at h6; cases h6
          conv => whnf
          exact VTo.isb rfl (hne h6).symm
        · have h6 : V[i] = W[i] := bp.1 h6
          conv => whnf
          exact ⟨⟨i + 1, h4, hsn h6⟩, hlt, (qd (Nat.le_refl 0) rfl rfl (congrArg (AV.si .i64) hw))⟩
      · have h4 : i = V.length := by have : ¬ (i : Int) < (V.length : Int) := h3; omega
        have h5 : decide (V = W) = true := decide_eq_true (by rw [h4, List.take_length, hl, List.take_length] at he; exact he)
        conv => whnf
        exact VTo.isb rfl h5.symm
theorem Eo : aA 17 (cj DJ) := cv AB 3 (by kernel_rfl) fun args v ⟨V, W, h1, h2, h3⟩ => by
  subst h1 h3; exact ⟨rfl, rfl, CG V W h2⟩
def CH (args : List AV) (v : AV) : Prop := ∃ V W : List (Int), args = [.fr V.length 1 (ints V), .fr W.length 1 (ints W)] ∧ V.length ≤ 1000000 ∧ v = .sb (decide (V = W))
noncomputable def zD (V : List (Int)) (W : List (Int)) (i : Nat) : AE × AH := (mkE [(0, .fr V.length 1 (ints V)), (1, .fr W.length 1 (ints W)), (5, .si .i64 (i))], mkH [])
theorem qe {V : List (Int)} {W : List (Int)} {i : Nat} {p n : Nat} {σ : AE} {H : AH} (hp : p ≤ 0) (e0 : aC (pa 0) σ = .fr V.length 1 (ints V)) (e1 : aC (pa 1) σ = .fr W.length 1 (ints W)) (e5 : mk (aC (pa 5) σ) = .si .i64 (i)) : Cov p σ H n ((zD V W i).1, (zD V W i).2, 0) := by
  refine Cov.ofR (fun b => b) (by omega) (fun b hb => rfl) ?_ ?_ ?_
  · intro x hx
    simp only [List.mem_cons, List.not_mem_nil, or_false] at hx
    rcases hx with rfl | rfl | rfl
    · exact aX.frE e0
    · exact aX.frE e1
    · exact .int e5
  · intro x hx
    cases hx
  · intro x hx y hy
    cases hx
noncomputable def DL : FuncId → EP := cw 21 [] evP
theorem AD : bu DL := aF aQ (by kernel_rfl) (by kernel_rfl)
theorem CI (V W : List (Int)) (hV : V.length ≤ 1000000) : ao DL 3 21 [.fr V.length 1 (ints V), .fr W.length 1 (ints W)] .nil 0 fun u _ _ => VTo u (.sb (decide (V = W))) := by
  conv => whnf
  refine ah.fO (fun h1 => ?_) (fun h1 => ?_)
  · have h2 : decide (V = W) = false := decide_eq_false fun e => h1 (by subst e; rfl)
    conv => whnf
    exact VTo.isb rfl h2.symm
  · have hl : V.length = W.length := Int.ofNat_inj.1 h1
    conv => whnf
    refine cV.mk { i : Nat // i ≤ V.length ∧ V.take i = W.take i } 0 (fun i => zD V W i.val) (fun i => V.length - i.val) ⟨0, Nat.zero_le _, rfl⟩ ?_ ?_
    · exact qe (i := 0) (Nat.le_refl 0) rfl rfl rfl
    · intro ⟨i, hi, he⟩
      conv => whnf
      refine ah.dec (fun h3 => ?_) (fun h3 => ?_)
      · have h4 : i < V.length := Int.ofNat_lt.1 h3
        have h5 : i < W.length := hl ▸ h4
        have hlt : V.length - (i + 1) < V.length - i := by omega
        have hw : IntKind.i64.wrap ((i : Int) + 1) = ((i + 1 : Nat) : Int) := by rw [db (by omega) (by omega)]; omega
        have hsn : V[i] = W[i] → V.take (i + 1) = W.take (i + 1) := fun e => by rw [List.take_succ_eq_append_getElem h4, List.take_succ_eq_append_getElem h5, he, e]
        have hne : ¬ V[i] = W[i] → decide (V = W) = false := fun q => decide_eq_false fun e => q (by subst e; rfl)
        conv => whnf
        refine Idx.mk i rfl h4 ?_
        conv => whnf
        refine aP (jB (V := V) h4) ?_
        conv => whnf
        refine Idx.mk i rfl h5 ?_
        conv => whnf
        refine aP (jB (V := W) h5) ?_
        conv => whnf
        refine ah.fO (fun h6 => ?_) (fun h6 => ?_)
        · have h6 : ¬ V[i] = W[i] := h6
          conv => whnf
          exact VTo.isb rfl (hne h6).symm
        · have h6 : V[i] = W[i] := h6
          conv => whnf
          exact ⟨⟨i + 1, h4, hsn h6⟩, hlt, (qe (Nat.le_refl 0) rfl rfl (congrArg (AV.si .i64) hw))⟩
      · have h4 : i = V.length := by have : ¬ (i : Int) < (V.length : Int) := h3; omega
        have h5 : decide (V = W) = true := decide_eq_true (by rw [h4, List.take_length, hl, List.take_length] at he; exact he)
        conv => whnf
        exact VTo.isb rfl h5.symm
theorem DM : aA 21 (cj CH) := cv AD 3 (by kernel_rfl) fun args v ⟨V, W, h1, h2, h3⟩ => by
  subst h1 h3; exact ⟨rfl, rfl, CI V W h2⟩
def DN (args : List AV) (v : AV) : Prop := ∃ V W : List (List Nat × List Nat), args = [.fr V.length 2 (aS V), .fr W.length 2 (aS W)] ∧ V.length ≤ 1000000 ∧ v = .sb (decide (V = W))
noncomputable def zE (V : List (List Nat × List Nat)) (W : List (List Nat × List Nat)) (i : Nat) : AE × AH := (mkE [(0, .fr V.length 2 (aS V)), (1, .fr W.length 2 (aS W)), (5, .si .i64 (i))], mkH [])
theorem qf {V : List (List Nat × List Nat)} {W : List (List Nat × List Nat)} {i : Nat} {p n : Nat} {σ : AE} {H : AH} (hp : p ≤ 0) (e0 : aC (pa 0) σ = .fr V.length 2 (aS V)) (e1 : aC (pa 1) σ = .fr W.length 2 (aS W)) (e5 : mk (aC (pa 5) σ) = .si .i64 (i)) : Cov p σ H n ((zE V W i).1, (zE V W i).2, 0) := by
  refine Cov.ofR (fun b => b) (by omega) (fun b hb => rfl) ?_ ?_ ?_
  · intro x hx
    simp only [List.mem_cons, List.not_mem_nil, or_false] at hx
    rcases hx with rfl | rfl | rfl
    · exact aX.frE e0
    · exact aX.frE e1
    · exact .int e5
  · intro x hx
    cases hx
  · intro x hx y hy
    cases hx
noncomputable def DO : FuncId → EP := cw 34 [] evP
theorem AF : bu DO := aF aQ (by kernel_rfl) (by kernel_rfl)
theorem CJ (V W : List (List Nat × List Nat)) (hV : V.length ≤ 1000000) : ao DO 3 34 [.fr V.length 2 (aS V), .fr W.length 2 (aS W)] .nil 0 fun u _ _ => VTo u (.sb (decide (V = W))) := by
  conv => whnf
  refine ah.fO (fun h1 => ?_) (fun h1 => ?_)
  · have h2 : decide (V = W) = false := decide_eq_false fun e => h1 (by subst e; rfl)
    conv => whnf
    exact VTo.isb rfl h2.symm
  · have hl : V.length = W.length := Int.ofNat_inj.1 h1
    conv => whnf
    refine cV.mk { i : Nat // i ≤ V.length ∧ V.take i = W.take i } 0 (fun i => zE V W i.val) (fun i => V.length - i.val) ⟨0, Nat.zero_le _, rfl⟩ ?_ ?_
    · exact qf (i := 0) (Nat.le_refl 0) rfl rfl rfl
    · intro ⟨i, hi, he⟩
      conv => whnf
      refine ah.dec (fun h3 => ?_) (fun h3 => ?_)
      · have h4 : i < V.length := Int.ofNat_lt.1 h3
        have h5 : i < W.length := hl ▸ h4
        have hlt : V.length - (i + 1) < V.length - i := by omega
        have hw : IntKind.i64.wrap ((i : Int) + 1) = ((i + 1 : Nat) : Int) := by rw [db (by omega) (by omega)]; omega
        have hsn : V[i] = W[i] → V.take (i + 1) = W.take (i + 1) := fun e => by rw [List.take_succ_eq_append_getElem h4, List.take_succ_eq_append_getElem h5, he, e]
        have hne : ¬ V[i] = W[i] → decide (V = W) = false := fun q => decide_eq_false fun e => q (by subst e; rfl)
        conv => whnf
        refine Idx.mk i rfl h4 ?_
        conv => whnf
        refine aP (gO (V := V) h4) ?_
        conv => whnf
        refine Idx.mk i rfl h5 ?_
        conv => whnf
        refine aP (gO (V := W) h5) ?_
        conv => whnf
        refine aP (vI (pl := [(1, 0), (1, 1)]) (q := aN V[i].1 W[i].1 && (aN V[i].2 W[i].2 && true)) (by kernel_rfl) rfl) ?_
        conv => whnf
        refine ah.nsb (fun h6 => ?_) (fun h6 => ?_)
        · have h6 : ¬ V[i] = W[i] := fun e => by rw [e, bp.2 rfl, bp.2 rfl] at h6; cases h6
          conv => whnf
          exact VTo.isb rfl (hne h6).symm
        · have h6 : V[i] = W[i] := by simp only [Bool.and_eq_true] at h6; exact Prod.ext (bp.1 h6.1) (bp.1 h6.2.1)
          conv => whnf
          exact ⟨⟨i + 1, h4, hsn h6⟩, hlt, (qf (Nat.le_refl 0) rfl rfl (congrArg (AV.si .i64) hw))⟩
      · have h4 : i = V.length := by have : ¬ (i : Int) < (V.length : Int) := h3; omega
        have h5 : decide (V = W) = true := decide_eq_true (by rw [h4, List.take_length, hl, List.take_length] at he; exact he)
        conv => whnf
        exact VTo.isb rfl h5.symm
theorem Ep : aA 34 (cj DN) := cv AF 3 (by kernel_rfl) fun args v ⟨V, W, h1, h2, h3⟩ => by
  subst h1 h3; exact ⟨rfl, rfl, CJ V W h2⟩
end Go.Proofs.Ytckcicalbjmgbaa
namespace Go.Proofs.Ytckcicalbjmgbaa
open Go Go.RowKit
def gB (W : List (List Nat)) : Bool := decide (W.length ≤ 70) && W.all fun w => decide (w.length ≤ 600)
def DP (args : List AV) (v : AV) : Prop := ∃ W, args = [.fr W.length 1 (aq W)] ∧ W.length ≤ 8796093022208 ∧ v = .sb (gB W)
noncomputable def zF (W : List (List Nat)) (i : Nat) : AE × AH := (mkE [(0, .fr W.length 1 (aq W)), (3, .si .i64 (i))], mkH [])
theorem qg {W : List (List Nat)} {i : Nat} {p n : Nat} {σ : AE} {H : AH} (hp : p ≤ 0) (e0 : aC (pa 0) σ = .fr W.length 1 (aq W)) (e3 : mk (aC (pa 3) σ) = .si .i64 (i)) : Cov p σ H n ((zF W i).1, (zF W i).2, 0) := by
  refine Cov.ofR (fun b => b) (by omega) (fun b hb => rfl) ?_ ?_ ?_
  · intro x hx
    simp only [List.mem_cons, List.not_mem_nil, or_false] at hx
    rcases hx with rfl | rfl
    · exact aX.frE e0
    · exact .int e3
  · intro x hx
    cases hx
  · intro x hx y hy
    cases hx
noncomputable def DQ : FuncId → EP := cw 11 [] evP
theorem AG : bu DQ := aF aQ (by kernel_rfl) (by kernel_rfl)
theorem CK (W : List (List Nat)) (hW : W.length ≤ 8796093022208) : ao DQ 3 11 [.fr W.length 1 (aq W)] .nil 0 fun u _ _ => VTo u (.sb (gB W)) := by
  conv => whnf
  refine ah.dec (fun h1 => ?_) (fun h1 => ?_)
  · have h2 : gB W = false := by unfold gB; rw [decide_eq_false (by have : (70 : Int) < (W.length : Int) := h1; omega)]; rfl
    conv => whnf
    exact VTo.isb rfl h2.symm
  · conv => whnf
    refine cV.mk { i : Nat // i ≤ W.length ∧ ∀ w ∈ W.take i, w.length ≤ 600 } 0 (fun i => zF W i.val) (fun i => W.length - i.val) ⟨0, Nat.zero_le _, fun w h => by simp at h⟩ ?_ ?_
    · exact qg (i := 0) (Nat.le_refl 0) rfl rfl
    · intro ⟨i, hi, he⟩
      conv => whnf
      refine ah.dec (fun h3 => ?_) (fun h3 => ?_)
      · have h4 : i < W.length := Int.ofNat_lt.1 h3
        have hlt : W.length - (i + 1) < W.length - i := by omega
        have hw : IntKind.i64.wrap ((i : Int) + 1) = ((i + 1 : Nat) : Int) := by rw [db (by omega) (by omega)]; omega
        conv => whnf
        refine Idx.mk i rfl h4 ?_
        conv => whnf
        refine aP (gN h4) ?_
        conv => whnf
        refine ah.dec (fun h6 => ?_) (fun h6 => ?_)
        · have h2 : gB W = false := by
            unfold gB
            rw [show (W.all fun w => decide (w.length ≤ 600)) = false from Bool.eq_false_iff.2 fun q => by
              have := List.all_eq_true.1 q _ (List.getElem_mem h4)
              have h7 : (600 : Int) < (W[i].length : Int) := h6
              simp only [decide_eq_true_eq] at this; omega]
            simp
          conv => whnf
          exact VTo.isb rfl h2.symm
        · have hs : ∀ w ∈ W.take (i + 1), w.length ≤ 600 := fun w hw => by
            rw [List.take_succ_eq_append_getElem h4, List.mem_append] at hw
            rcases hw with hw | hw
            · exact he w hw
            · rw [List.mem_singleton.1 hw]; have h7 : ¬ (600 : Int) < (W[i].length : Int) := h6; omega
          conv => whnf
          exact ⟨⟨i + 1, h4, hs⟩, hlt, qg (Nat.le_refl 0) rfl (congrArg (AV.si .i64) hw)⟩
      · have h4 : i = W.length := by have : ¬ (i : Int) < (W.length : Int) := h3; omega
        have h2 : gB W = true := by
          rw [h4, List.take_length] at he
          unfold gB
          rw [decide_eq_true (by have : ¬ (70 : Int) < (W.length : Int) := h1; omega), Bool.true_and, List.all_eq_true]
          exact fun w hw => decide_eq_true (he w hw)
        conv => whnf
        exact VTo.isb rfl h2.symm
theorem Er : aA 11 (cj DP) := cv AG 3 (by kernel_rfl) fun args v ⟨W, h1, h2, h3⟩ => by
  subst h1 h3; exact ⟨rfl, rfl, CK W h2⟩
theorem VTo.tn (u : AV) : VTo u u := fun _ _ h => h
noncomputable def eqQ (A B : Qry) : Bool := @decide (A = B) (Classical.propDecidable _)
theorem eZ {A B : Qry} (h : ¬ A = B) : eqQ A B = false := @decide_eq_false _ (Classical.propDecidable _) h
theorem CL {A B : Qry} (h : eqQ A B = true) : A = B := @of_decide_eq_true _ (Classical.propDecidable _) h
theorem AI {A B : Qry} (h : eqQ A B = false) : ¬ A = B := @of_decide_eq_false _ (Classical.propDecidable _) h
def cmT (R : Rd) : Rd := { R with ws := [], e := 0 }
noncomputable def eqC (A B : Rd) : Bool := @decide (cmT A = cmT B) (Classical.propDecidable _)
theorem cE {A B : Rd} (h : ¬ cmT A = cmT B) : eqC A B = false := @decide_eq_false _ (Classical.propDecidable _) h
theorem zG (A : Rd) : eqC A A = true := @decide_eq_true _ (Classical.propDecidable _) rfl
theorem vJ {A B : Qry} (h0 : A.f = B.f) (h1 : A.t = B.t) (h2 : A.back = B.back) (h3 : A.count = B.count) (h4 : A.kind = B.kind) (h5 : A.size = B.size) (h6 : A.align = B.align) (h7 : A.empty = B.empty) (h8 : A.times = B.times) (h9 : A.kY = B.kY) (h10 : A.low = B.low) (h11 : A.high = B.high) : A = B := by
  cases A; cases B; simp_all
theorem vK {A B : Rd} (h0 : A.nm = B.nm) (h1 : A.ks = B.ks) (h2 : A.ts = B.ts) (h3 : A.vs = B.vs) (h4 : A.ret = B.ret) (h5 : A.siz = B.siz) (h6 : A.pol = B.pol) (h7 : A.ls = B.ls) (h8 : A.lbd = B.lbd) (h9 : A.fr = B.fr) (h10 : A.to = B.to) (h11 : A.kd = B.kd) (h12 : A.bk = B.bk) (h13 : A.al = B.al) (h14 : A.q = B.q) (h15 : A.fs = B.fs) (h16 : A.gr = B.gr) (h17 : A.rd = B.rd) : cmT A = cmT B := by
  cases A; cases B; simp_all [cmT]
theorem AJ {A B : Qry} (h : A = B) : eqQ A B = true := @decide_eq_true _ (Classical.propDecidable _) h
theorem vL {A B : Rd} (h : cmT A = cmT B) : eqC A B = true := @decide_eq_true _ (Classical.propDecidable _) h
def o1C (R : Rd) : List AV := [.si .i64 R.nm, .si .i64 R.ret, .si .i64 R.siz, .si .i64 R.pol, .si .i64 R.fr, .si .i64 R.to, .si .i64 R.kd, .si .i64 R.bk, .si .i64 R.al, .si .i64 R.rd]
def o2C (R : Rd) : List AV := [.si .i64 R.q.f, .si .i64 R.q.t, .si .i64 R.q.count, .si .i64 R.q.kind, .si .i64 R.q.size, .si .i64 R.q.align, .si .i64 R.q.low, .si .i64 R.q.high, .sb R.q.back, .sb R.q.empty, .sb R.q.kY, .sb R.lbd, .ss R.gr]
def qF (Q : Qry) : List AV := BJ Q (.fr Q.times.length 1 (ints Q.times))
def DR (args : List AV) (v : AV) : Prop := ∃ R : Rd, args = [.agg (cmF R)] ∧ v = .agg (o1C R)
noncomputable def DS : FuncId → EP := cw 29 [] (evP)
theorem AK : bu DS := aF (aQ) (by kernel_rfl) (by kernel_rfl)
theorem CM (R : Rd) : ao DS 3 29 [.agg (cmF R)] .nil 0 fun u _ _ => VTo u (.agg (o1C R)) := by
  conv => whnf
  exact VTo.tn _
theorem Es : aA 29 (cj DR) := cv AK 3 (by kernel_rfl) fun args v ⟨R, h1, h2⟩ => by
  subst h1 h2; exact ⟨rfl, rfl, CM R⟩
def DU (args : List AV) (v : AV) : Prop := ∃ R : Rd, args = [.agg (cmF R)] ∧ v = .agg (o2C R)
noncomputable def DV : FuncId → EP := cw 30 [] (evP)
theorem AL : bu DV := aF (aQ) (by kernel_rfl) (by kernel_rfl)
theorem CN (R : Rd) : ao DV 3 30 [.agg (cmF R)] .nil 0 fun u _ _ => VTo u (.agg (o2C R)) := by
  conv => whnf
  exact VTo.tn _
theorem Et : aA 30 (cj DU) := cv AL 3 (by kernel_rfl) fun args v ⟨R, h1, h2⟩ => by
  subst h1 h2; exact ⟨rfl, rfl, CN R⟩
def DW (args : List AV) (v : AV) : Prop := ∃ R : Qry, args = [.agg (qF R)] ∧ v = .agg (qF R)
noncomputable def DX : FuncId → EP := cw 36 [] (evP)
theorem AM : bu DX := aF (aQ) (by kernel_rfl) (by kernel_rfl)
theorem CO (R : Qry) : ao DX 3 36 [.agg (qF R)] .nil 0 fun u _ _ => VTo u (.agg (qF R)) := by
  conv => whnf
  exact VTo.tn _
theorem Eu : aA 36 (cj DW) := cv AM 3 (by kernel_rfl) fun args v ⟨R, h1, h2⟩ => by
  subst h1 h2; exact ⟨rfl, rfl, CO R⟩
def DY : DT := [(1, [(some 0, [1]), (some 0, [3]), (some 0, [1]), (some 0, [5]), (some 0, [1]), (some 0, [7]), (some 0, [1]), (some 0, [9]), (some 0, [1]), (some 0, [11]), (some 0, [1]), (some 0, [13]), (some 0, [1]), (some 0, [15]), (some 0, [1]), (some 0, [17]), (some 0, [1]), (some 0, [19]), (some 0, [1]), (some 0, [21]), (some 0, [1]), (some 0, [23]), (some 0, [1]), (some 0, [25]), (some 0, [1]), (some 0, [27]), (some 0, [1]), (some 0, [29]), (some 0, [1]), (some 0, [31]), (none, [32]), (some 1, [1]), (some 2, [34]), (some 3, [1]), (some 4, [36]), (some 5, [1]), (some 6, [38]), (some 0, [4, 6, 8, 10, 12, 14, 16, 18, 20, 22, 24, 26, 28, 30, 33, 35, 37, 39]), (none, [2, 40])])]
def Bo (args : List AV) (v : AV) : Prop := ∃ R : Rd, args = [.agg (cmF R)] ∧ v = .agg (cmF R)
noncomputable def Bp : FuncId → EP := cw 14 DY (dX 36 (cj DW) evP)
theorem zH : bu Bp := aF (bV aQ Eu (dt _)) (by kernel_rfl) (by kernel_rfl)
theorem AN (R : Rd) : ao Bp 3 14 [.agg (cmF R)] .nil 0 fun u _ _ => VTo u (.agg (cmF R)) := by
  conv => whnf
  refine ⟨_, ⟨R.q, rfl, rfl⟩, ?_⟩
  conv => whnf
  exact VTo.tn _
theorem DZ : aA 14 (cj Bo) := cv zH 3 (by kernel_rfl) fun args v ⟨R, h1, h2⟩ => by
  subst h1 h2; exact ⟨rfl, rfl, AN R⟩
def D0 (args : List AV) (v : AV) : Prop := ∃ A B : Qry, args = [.agg (qF A), .agg (qF B)] ∧ A.times.length ≤ 1000000 ∧ v = .sb (eqQ A B)
noncomputable def D1 : FuncId → EP := cw 35 [] (dX 21 (cj CH) evP)
theorem AP : bu D1 := aF (bV aQ DM (dt _)) (by kernel_rfl) (by kernel_rfl)
theorem CS (A B : Qry) (hb : A.times.length ≤ 1000000) : ao D1 3 35 [.agg (qF A), .agg (qF B)] .nil 0 fun u _ _ => VTo u (.sb (eqQ A B)) := by
  conv => whnf
  refine ah.dec (fun q => ?_) (fun q => ?_)
  rotate_left
  focus
    have q : ¬ A.f = B.f := q
    conv => whnf
    exact VTo.isb rfl (eZ (fun e => q (congrArg (·.f) e))).symm
  have h0 : A.f = B.f := q
  conv => whnf
  refine ah.dec (fun q => ?_) (fun q => ?_)
  rotate_left
  focus
    have q : ¬ A.t = B.t := q
    conv => whnf
    exact VTo.isb rfl (eZ (fun e => q (congrArg (·.t) e))).symm
  have h1 : A.t = B.t := q
  conv => whnf
  refine ah.sb (fun q => ?_) (fun q => ?_)
  rotate_left
  focus
    have q : ¬ A.back = B.back := by simpa using q
    conv => whnf
    exact VTo.isb rfl (eZ (fun e => q (congrArg (·.back) e))).symm
  have h2 : A.back = B.back := by simpa using q
  conv => whnf
  refine ah.dec (fun q => ?_) (fun q => ?_)
  rotate_left
  focus
    have q : ¬ A.count = B.count := q
    conv => whnf
    exact VTo.isb rfl (eZ (fun e => q (congrArg (·.count) e))).symm
  have h3 : A.count = B.count := q
  conv => whnf
  refine ah.dec (fun q => ?_) (fun q => ?_)
  rotate_left
  focus
    have q : ¬ A.kind = B.kind := q
    conv => whnf
    exact VTo.isb rfl (eZ (fun e => q (congrArg (·.kind) e))).symm
  have h4 : A.kind = B.kind := q
  conv => whnf
  refine ah.dec (fun q => ?_) (fun q => ?_)
  rotate_left
  focus
    have q : ¬ A.size = B.size := q
    conv => whnf
    exact VTo.isb rfl (eZ (fun e => q (congrArg (·.size) e))).symm
  have h5 : A.size = B.size := q
  conv => whnf
  refine ah.dec (fun q => ?_) (fun q => ?_)
  rotate_left
  focus
    have q : ¬ A.align = B.align := q
    conv => whnf
    exact VTo.isb rfl (eZ (fun e => q (congrArg (·.align) e))).symm
  have h6 : A.align = B.align := q
  conv => whnf
  refine ah.sb (fun q => ?_) (fun q => ?_)
  rotate_left
  focus
    have q : ¬ A.empty = B.empty := by simpa using q
    conv => whnf
    exact VTo.isb rfl (eZ (fun e => q (congrArg (·.empty) e))).symm
  have h7 : A.empty = B.empty := by simpa using q
  conv => whnf
  refine ⟨_, ⟨A.times, B.times, rfl, hb, rfl⟩, ?_⟩
  conv => whnf
  refine ah.dec (fun q => ?_) (fun q => ?_)
  rotate_left
  focus
    have q : ¬ A.times = B.times := q
    conv => whnf
    exact VTo.isb rfl (eZ (fun e => q (congrArg (·.times) e))).symm
  have h8 : A.times = B.times := q
  conv => whnf
  refine ah.sb (fun q => ?_) (fun q => ?_)
  rotate_left
  focus
    have q : ¬ A.kY = B.kY := by simpa using q
    conv => whnf
    exact VTo.isb rfl (eZ (fun e => q (congrArg (·.kY) e))).symm
  have h9 : A.kY = B.kY := by simpa using q
  conv => whnf
  refine ah.dec (fun q => ?_) (fun q => ?_)
  rotate_left
  focus
    have q : ¬ A.low = B.low := q
    conv => whnf
    exact VTo.isb rfl (eZ (fun e => q (congrArg (·.low) e))).symm
  have h10 : A.low = B.low := q
  conv => whnf
  exact VTo.isb rfl (by
      by_cases q : A.high = B.high
      · rw [AJ (vJ h0 h1 h2 h3 h4 h5 h6 h7 h8 h9 h10 q)]; exact decide_eq_true q
      · rw [eZ (fun e => q (congrArg (·.high) e))]; exact decide_eq_false q)
theorem Ev : aA 35 (cj D0) := cv AP 3 (by kernel_rfl) fun args v ⟨A, B, h1, h2, h3⟩ => by
  subst h1 h3; exact ⟨rfl, rfl, CS A B h2⟩
def SmR (R : Rd) : Prop := R.ks.length ≤ 1000000 ∧ R.ts.length ≤ 1000000 ∧ R.vs.length ≤ 1000000 ∧ R.ls.length ≤ 1000000 ∧ R.q.times.length ≤ 1000000 ∧ R.fs.length ≤ 1000000
def D2 (args : List AV) (v : AV) : Prop := ∃ A B : Rd, args = [.agg (cmF A), .agg (cmF B)] ∧ SmR A ∧ v = .sb (eqC A B)
noncomputable def D3 : FuncId → EP := cw 13 [] (dX 35 (cj D0) (dX 21 (cj CH) (dX 17 (cj DJ) (dX 34 (cj DN) evP))))
theorem AQ : bu D3 := aF (bV (bV (bV (bV aQ Ep (dt _)) Eo (dt _)) DM (dt _)) Ev (dt _)) (by kernel_rfl) (by kernel_rfl)
theorem CT (A B : Rd) (hb : SmR A) : ao D3 3 13 [.agg (cmF A), .agg (cmF B)] .nil 0 fun u _ _ => VTo u (.sb (eqC A B)) := by
  conv => whnf
  refine ah.dec (fun q => ?_) (fun q => ?_)
  rotate_left
  focus
    have q : ¬ A.nm = B.nm := q
    conv => whnf
    exact VTo.isb rfl (cE (fun e => q (congrArg (·.nm) e))).symm
  have h0 : A.nm = B.nm := q
  conv => whnf
  refine ⟨_, ⟨A.ks, B.ks, rfl, hb.1, rfl⟩, ?_⟩
  conv => whnf
  refine ah.dec (fun q => ?_) (fun q => ?_)
  rotate_left
  focus
    have q : ¬ A.ks = B.ks := q
    conv => whnf
    exact VTo.isb rfl (cE (fun e => q (congrArg (·.ks) e))).symm
  have h1 : A.ks = B.ks := q
  conv => whnf
  refine ⟨_, ⟨A.ts, B.ts, rfl, hb.2.1, rfl⟩, ?_⟩
  conv => whnf
  refine ah.dec (fun q => ?_) (fun q => ?_)
  rotate_left
  focus
    have q : ¬ A.ts = B.ts := q
    conv => whnf
    exact VTo.isb rfl (cE (fun e => q (congrArg (·.ts) e))).symm
  have h2 : A.ts = B.ts := q
  conv => whnf
  refine ⟨_, ⟨A.vs, B.vs, rfl, hb.2.2.1, rfl⟩, ?_⟩
  conv => whnf
  refine ah.dec (fun q => ?_) (fun q => ?_)
  rotate_left
  focus
    have q : ¬ A.vs = B.vs := q
    conv => whnf
    exact VTo.isb rfl (cE (fun e => q (congrArg (·.vs) e))).symm
  have h3 : A.vs = B.vs := q
  conv => whnf
  refine ah.dec (fun q => ?_) (fun q => ?_)
  rotate_left
  focus
    have q : ¬ A.ret = B.ret := q
    conv => whnf
    exact VTo.isb rfl (cE (fun e => q (congrArg (·.ret) e))).symm
  have h4 : A.ret = B.ret := q
  conv => whnf
  refine ah.dec (fun q => ?_) (fun q => ?_)
  rotate_left
  focus
    have q : ¬ A.siz = B.siz := q
    conv => whnf
    exact VTo.isb rfl (cE (fun e => q (congrArg (·.siz) e))).symm
  have h5 : A.siz = B.siz := q
  conv => whnf
  refine ah.dec (fun q => ?_) (fun q => ?_)
  rotate_left
  focus
    have q : ¬ A.pol = B.pol := q
    conv => whnf
    exact VTo.isb rfl (cE (fun e => q (congrArg (·.pol) e))).symm
  have h6 : A.pol = B.pol := q
  conv => whnf
  refine ⟨_, ⟨A.ls, B.ls, rfl, hb.2.2.2.1, rfl⟩, ?_⟩
  conv => whnf
  refine ah.dec (fun q => ?_) (fun q => ?_)
  rotate_left
  focus
    have q : ¬ A.ls = B.ls := q
    conv => whnf
    exact VTo.isb rfl (cE (fun e => q (congrArg (·.ls) e))).symm
  have h7 : A.ls = B.ls := q
  conv => whnf
  refine ah.sb (fun q => ?_) (fun q => ?_)
  rotate_left
  focus
    have q : ¬ A.lbd = B.lbd := by simpa using q
    conv => whnf
    exact VTo.isb rfl (cE (fun e => q (congrArg (·.lbd) e))).symm
  have h8 : A.lbd = B.lbd := by simpa using q
  conv => whnf
  refine ah.dec (fun q => ?_) (fun q => ?_)
  rotate_left
  focus
    have q : ¬ A.fr = B.fr := q
    conv => whnf
    exact VTo.isb rfl (cE (fun e => q (congrArg (·.fr) e))).symm
  have h9 : A.fr = B.fr := q
  conv => whnf
  refine ah.dec (fun q => ?_) (fun q => ?_)
  rotate_left
  focus
    have q : ¬ A.to = B.to := q
    conv => whnf
    exact VTo.isb rfl (cE (fun e => q (congrArg (·.to) e))).symm
  have h10 : A.to = B.to := q
  conv => whnf
  refine ah.dec (fun q => ?_) (fun q => ?_)
  rotate_left
  focus
    have q : ¬ A.kd = B.kd := q
    conv => whnf
    exact VTo.isb rfl (cE (fun e => q (congrArg (·.kd) e))).symm
  have h11 : A.kd = B.kd := q
  conv => whnf
  refine ah.dec (fun q => ?_) (fun q => ?_)
  rotate_left
  focus
    have q : ¬ A.bk = B.bk := q
    conv => whnf
    exact VTo.isb rfl (cE (fun e => q (congrArg (·.bk) e))).symm
  have h12 : A.bk = B.bk := q
  conv => whnf
  refine ah.dec (fun q => ?_) (fun q => ?_)
  rotate_left
  focus
    have q : ¬ A.al = B.al := q
    conv => whnf
    exact VTo.isb rfl (cE (fun e => q (congrArg (·.al) e))).symm
  have h13 : A.al = B.al := q
  conv => whnf
  refine ⟨_, ⟨A.q, B.q, rfl, hb.2.2.2.2.1, rfl⟩, ?_⟩
  conv => whnf
  refine ah.sb (fun q => ?_) (fun q => ?_)
  rotate_left
  focus
    have q : ¬ A.q = B.q := AI q
    conv => whnf
    exact VTo.isb rfl (cE (fun e => q (congrArg (·.q) e))).symm
  have h14 : A.q = B.q := CL q
  conv => whnf
  refine ⟨_, ⟨A.fs, B.fs, rfl, hb.2.2.2.2.2, rfl⟩, ?_⟩
  conv => whnf
  refine ah.dec (fun q => ?_) (fun q => ?_)
  rotate_left
  focus
    have q : ¬ A.fs = B.fs := q
    conv => whnf
    exact VTo.isb rfl (cE (fun e => q (congrArg (·.fs) e))).symm
  have h15 : A.fs = B.fs := q
  conv => whnf
  refine ah.sb (fun q => ?_) (fun q => ?_)
  rotate_left
  focus
    have q : ¬ A.gr = B.gr := fun e => by rw [e, bp.2 rfl] at q; cases q
    conv => whnf
    exact VTo.isb rfl (cE (fun e => q (congrArg (·.gr) e))).symm
  have h16 : A.gr = B.gr := bp.1 q
  conv => whnf
  exact VTo.isb rfl (by
      by_cases q : A.rd = B.rd
      · rw [vL (vK h0 h1 h2 h3 h4 h5 h6 h7 h8 h9 h10 h11 h12 h13 h14 h15 h16 q)]; exact decide_eq_true q
      · rw [cE (fun e => q (congrArg (·.rd) e))]; exact decide_eq_false q)
theorem Ew : aA 13 (cj D2) := cv AQ 3 (by kernel_rfl) fun args v ⟨A, B, h1, h2, h3⟩ => by
  subst h1 h3; exact ⟨rfl, rfl, CT A B h2⟩
end Go.Proofs.Ytckcicalbjmgbaa
namespace Go.Proofs.Ytckcicalbjmgbaa
open Go Go.RowKit
theorem aX.fn0 {H : AH} {m : Nat} {r : Nat → Nat} {a : AV} {f : Nat} (e : a = .fn f [] []) : aX H m r a (.fn f [] []) := fun φ ψ v _ _ hv => by
  subst e
  obtain ⟨xs, cs, rfl, h1, h2⟩ := hv.lF
  exact .fn (by rw [h1.aI]; exact .nil) (by rw [h2.aI]; exact .nil)
noncomputable def sm0 (A : Rd) (B : Rd) (q : Bool) : AE × AH := (mkE [(2, .ptr 0 (0)), (3, .ptr 1 (0)), (5, .fn 29 [] []), (6, .fn 30 [] []), (7, .sb (q))], mkH [(0, .cells (cmF A) true), (1, .cells (cmF B) true)])
theorem jC {A : Rd} {B : Rd} {q : Bool} {p n : Nat} {σ : AE} {H : AH} (hp : p ≤ 0) (e2 : aC (pa 2) σ = .ptr 0 (0)) (e3 : aC (pa 3) σ = .ptr 1 (0)) (e5 : aX H 2 (fun b => b) (aC (pa 5) σ) (.fn 29 [] [])) (e6 : aX H 2 (fun b => b) (aC (pa 6) σ) (.fn 30 [] [])) (e7 : mk (aC (pa 7) σ) = .sb (q)) (h0 : H.get 0 = some (.cells (cmF A) true)) (h1 : H.get 1 = some (.cells (cmF B) true)) : Cov p σ H n ((sm0 A B q).1, (sm0 A B q).2, 2) := by
  refine Cov.ofR (fun b => b) (by omega) (fun b hb => rfl) ?_ ?_ ?_
  · intro x hx
    simp only [List.mem_cons, List.not_mem_nil, or_false] at hx
    rcases hx with rfl | rfl | rfl | rfl | rfl
    · exact .ptr (by decide) e2
    · exact .ptr (by decide) e3
    · exact e5
    · exact e6
    · exact .bool e7
  · intro x hx
    simp only [List.mem_cons, List.not_mem_nil, or_false] at hx
    rcases hx with rfl | rfl
    · exact ⟨by simp, .inl ⟨_, h0, cW.Bn (lb A)⟩⟩
    · exact ⟨by simp, .inl ⟨_, h1, cW.Bn (lb B)⟩⟩
  · intro x hx y hy
    simp only [List.mem_cons, List.not_mem_nil, or_false] at hx hy
    rcases hx with rfl | rfl <;> rcases hy with rfl | rfl <;> simp <;> omega
def CU : DT := [(4, [(some 0, [5]), (some 0, [2]), (none, [50, 51]), (some 1, [5]), (some 2, [3]), (none, [53, 54]), (some 0, [52, 55]), (some 0, [56]), (some 0, [6, 57]), (some 0, [2, 57]), (none, [58, 59, 57]), (some 1, [6, 57]), (some 2, [3, 57]), (none, [61, 62, 57]), (some 0, [60, 63, 57]), (some 0, [57, 64]), (some 0, [65]), (some 0, [7, 66]), (some 0, [66, 67]), (some 0, [68])]), (1000004, [])]
def D4 (args : List AV) (v : AV) : Prop := ∃ A B : Rd, args = [.agg (cmF A), .agg (cmF B)] ∧ SmR A ∧ v = .sb (eqC A B)
noncomputable def D5 : FuncId → EP := cw 12 CU (dX 29 (cj DR) (dX 30 (cj DU) (dX 31 (cj DD) (dX 32 (cj DF) (dX 33 (cj DH) evP)))))
theorem AT : bu D5 := aF (bV (bV (bV (bV (bV aQ En (dt _)) Em (dt _)) El (dt _)) Et (dt _)) Es (dt _)) (by kernel_rfl) (by kernel_rfl)
def lsE (A B : Rd) : Prop := A.ks = B.ks ∧ A.ts = B.ts ∧ A.vs = B.vs ∧ A.ls = B.ls ∧ A.q.times = B.q.times ∧ A.fs = B.fs
noncomputable def o1E (A B : Rd) : Bool := decide (A.nm = B.nm) && (decide (A.ret = B.ret) && (decide (A.siz = B.siz) && (decide (A.pol = B.pol) && (decide (A.fr = B.fr) && (decide (A.to = B.to) && (decide (A.kd = B.kd) && (decide (A.bk = B.bk) && (decide (A.al = B.al) && (decide (A.rd = B.rd) && true)))))))))
noncomputable def o2E (A B : Rd) : Bool := decide (A.q.f = B.q.f) && (decide (A.q.t = B.q.t) && (decide (A.q.count = B.q.count) && (decide (A.q.kind = B.q.kind) && (decide (A.q.size = B.q.size) && (decide (A.q.align = B.q.align) && (decide (A.q.low = B.q.low) && (decide (A.q.high = B.q.high) && ((A.q.back == B.q.back) && ((A.q.empty == B.q.empty) && ((A.q.kY == B.q.kY) && ((A.lbd == B.lbd) && (aN A.gr B.gr && true))))))))))))
theorem CV {A B : Rd} (h1 : o1E A B = true) (h2 : o2E A B = true) (h3 : lsE A B) : cmT A = cmT B := by
  unfold o1E at h1
  unfold o2E at h2
  obtain ⟨k1, k2, k3, k4, k5, k6⟩ := h3
  simp only [Bool.and_eq_true, decide_eq_true_eq, beq_iff_eq, and_true, bp] at h1 h2
  obtain ⟨a1, a2, a3, a4, a5, a6, a7, a8, a9, a10⟩ := h1
  obtain ⟨b1, b2, b3, b4, b5, b6, b7, b8, b9, b10, b11, b12, b13⟩ := h2
  exact vK a1 k1 k2 k3 a2 a3 a4 k4 b12 a5 a6 a7 a8 a9 (vJ b1 b2 b9 b3 b4 b5 b6 b10 k5 b11 b7 b8) k6 b13 a10
theorem uT {A B : Rd} (e : cmT A = cmT B) : o1E A B = true ∧ o2E A B = true ∧ lsE A B := by
  have h0 : A.nm = B.nm := by have q := congrArg Rd.nm e; exact q
  have h1 : A.ks = B.ks := by have q := congrArg Rd.ks e; exact q
  have h2 : A.ts = B.ts := by have q := congrArg Rd.ts e; exact q
  have h3 : A.vs = B.vs := by have q := congrArg Rd.vs e; exact q
  have h4 : A.ret = B.ret := by have q := congrArg Rd.ret e; exact q
  have h5 : A.siz = B.siz := by have q := congrArg Rd.siz e; exact q
  have h6 : A.pol = B.pol := by have q := congrArg Rd.pol e; exact q
  have h7 : A.ls = B.ls := by have q := congrArg Rd.ls e; exact q
  have h8 : A.lbd = B.lbd := by have q := congrArg Rd.lbd e; exact q
  have h9 : A.fr = B.fr := by have q := congrArg Rd.fr e; exact q
  have h10 : A.to = B.to := by have q := congrArg Rd.to e; exact q
  have h11 : A.kd = B.kd := by have q := congrArg Rd.kd e; exact q
  have h12 : A.bk = B.bk := by have q := congrArg Rd.bk e; exact q
  have h13 : A.al = B.al := by have q := congrArg Rd.al e; exact q
  have h14 : A.q = B.q := by have q := congrArg Rd.q e; exact q
  have h15 : A.fs = B.fs := by have q := congrArg Rd.fs e; exact q
  have h16 : A.gr = B.gr := by have q := congrArg Rd.gr e; exact q
  have h17 : A.rd = B.rd := by have q := congrArg Rd.rd e; exact q
  refine ⟨?_, ?_, h1, h2, h3, h7, by rw [h14], h15⟩
  · unfold o1E; rw [h0, h4, h5, h6, h9, h10, h11, h12, h13, h17]; simp
  · unfold o2E; rw [h14, h8, h16, bp.2 rfl]; simp
theorem CW (A B : Rd) (hb : SmR A) : ao D5 3 12 [.agg (cmF A), .agg (cmF B)] .nil 0 fun u _ _ => VTo u (.sb (eqC A B)) := by
  conv => whnf
  refine oa.mk { q : Bool // q = true ↔ lsE A B } 2 (fun q => sm0 A B q.val) ?_ ?_
  focus
    conv => whnf
    refine ⟨_, ⟨A.ks, B.ks, rfl, hb.1, rfl⟩, ?_⟩
    conv => whnf
    refine ah.dec (fun q => ?_) (fun q => ?_)
    rotate_left
    focus
      conv => whnf
      exact ⟨⟨false, (fun z => by cases z), fun z => absurd z.1 q⟩, jC (Nat.le_refl 0) rfl rfl (.fn0 rfl) (.fn0 rfl) rfl rfl rfl⟩
    have h0 : A.ks = B.ks := q
    conv => whnf
    refine ⟨_, ⟨A.ts, B.ts, rfl, hb.2.1, rfl⟩, ?_⟩
    conv => whnf
    refine ah.dec (fun q => ?_) (fun q => ?_)
    rotate_left
    focus
      conv => whnf
      exact ⟨⟨false, (fun z => by cases z), fun z => absurd z.2.1 q⟩, jC (Nat.le_refl 0) rfl rfl (.fn0 rfl) (.fn0 rfl) rfl rfl rfl⟩
    have h1 : A.ts = B.ts := q
    conv => whnf
    refine ⟨_, ⟨A.vs, B.vs, rfl, hb.2.2.1, rfl⟩, ?_⟩
    conv => whnf
    refine ah.dec (fun q => ?_) (fun q => ?_)
    rotate_left
    focus
      conv => whnf
      exact ⟨⟨false, (fun z => by cases z), fun z => absurd z.2.2.1 q⟩, jC (Nat.le_refl 0) rfl rfl (.fn0 rfl) (.fn0 rfl) rfl rfl rfl⟩
    have h2 : A.vs = B.vs := q
    conv => whnf
    refine ⟨_, ⟨A.ls, B.ls, rfl, hb.2.2.2.1, rfl⟩, ?_⟩
    conv => whnf
    refine ah.dec (fun q => ?_) (fun q => ?_)
    rotate_left
    focus
      conv => whnf
      exact ⟨⟨false, (fun z => by cases z), fun z => absurd z.2.2.2.1 q⟩, jC (Nat.le_refl 0) rfl rfl (.fn0 rfl) (.fn0 rfl) rfl rfl rfl⟩
    have h3 : A.ls = B.ls := q
    conv => whnf
    refine ⟨_, ⟨A.q.times, B.q.times, rfl, hb.2.2.2.2.1, rfl⟩, ?_⟩
    conv => whnf
    refine ah.dec (fun q => ?_) (fun q => ?_)
    rotate_left
    focus
      conv => whnf
      exact ⟨⟨false, (fun z => by cases z), fun z => absurd z.2.2.2.2.1 q⟩, jC (Nat.le_refl 0) rfl rfl (.fn0 rfl) (.fn0 rfl) rfl rfl rfl⟩
    have h4 : A.q.times = B.q.times := q
    conv => whnf
    refine ⟨_, ⟨A.fs, B.fs, rfl, hb.2.2.2.2.2, rfl⟩, ?_⟩
    conv => whnf
    exact ⟨⟨decide (A.fs = B.fs), ⟨fun z => ⟨h0, h1, h2, h3, h4, of_decide_eq_true z⟩, fun z => decide_eq_true z.2.2.2.2.2⟩⟩, jC (Nat.le_refl 0) rfl rfl (.fn0 rfl) (.fn0 rfl) rfl rfl rfl⟩
  intro ⟨q, hq⟩
  conv => whnf
  refine ⟨_, ⟨A, rfl, rfl⟩, ?_⟩
  conv => whnf
  refine ⟨_, ⟨B, rfl, rfl⟩, ?_⟩
  conv => whnf
  refine aP (vH (pl := [(0, 0), (0, 1), (0, 2), (0, 3), (0, 4), (0, 5), (0, 6), (0, 7), (0, 8), (0, 9)]) (q := o1E A B) (by kernel_rfl) rfl) ?_
  conv => whnf
  refine ah.sb (fun g1 => ?_) (fun g1 => ?_)
  rotate_left
  focus
    conv => whnf
    exact VTo.isb rfl (cE fun e => by rw [(uT e).1] at g1; cases g1).symm
  conv => whnf
  refine ⟨_, ⟨A, rfl, rfl⟩, ?_⟩
  conv => whnf
  refine ⟨_, ⟨B, rfl, rfl⟩, ?_⟩
  conv => whnf
  refine aP (vH (pl := [(0, 0), (0, 1), (0, 2), (0, 3), (0, 4), (0, 5), (0, 6), (0, 7), (2, 8), (2, 9), (2, 10), (2, 11), (1, 12)]) (q := o2E A B) (by kernel_rfl) rfl) ?_
  conv => whnf
  refine ah.sb (fun g2 => ?_) (fun g2 => ?_)
  rotate_left
  focus
    conv => whnf
    exact VTo.isb rfl (cE fun e => by rw [(uT e).2.1] at g2; cases g2).symm
  conv => whnf
  exact VTo.isb rfl (by
    cases q with
    | true => exact (vL (CV g1 g2 (hq.1 rfl))).symm
    | false => exact (cE fun e => by have := hq.2 (uT e).2.2; cases this).symm)
theorem Ex : aA 12 (cj D4) := cv AT 3 (by kernel_rfl) fun args v ⟨A, B, h1, h2, h3⟩ => by
  subst h1 h3; exact ⟨rfl, rfl, CW A B h2⟩
end Go.Proofs.Ytckcicalbjmgbaa
namespace Go.Proofs.Ytckcicalbjmgbaa
open Go Go.RowKit
def zC : List AV := [.int .i64 0, .nsl, .nsl, .nsl, .int .i64 0, .int .i64 0, .int .i64 0, .nsl, .bool false, .int .i64 0, .int .i64 0, .int .i64 0, .int .i64 0, .int .i64 0, .int .i64 0, .int .i64 0, .bool false, .int .i64 0, .int .i64 0, .int .i64 0, .int .i64 0, .bool false, .nsl, .bool false, .int .i64 0, .int .i64 0, .nsl, .str [], .int .i64 0]
def Ey : DT := [(1, [(some 1000000, [0, 2]), (none, [0, 1, 2, 3, 4, 5, 6, 7, 8]), (none, [1, 2, 0, 3, 4, 5, 6, 7, 8])]),
  (4, [(some 1000000, [0, 2]), (none, [0, 1, 2, 3, 4, 5, 6, 7, 8]), (none, [1, 2, 0, 3, 4, 5, 6, 7, 8])]),
  (18, [(some 1000000, [1, 5]), (none, [0, 1, 2, 3, 4, 5, 6, 7]), (none, [0, 3, 4, 5, 1, 2, 6, 7])]),
  (25, [(some 1000000, [2, 6]), (none, [0, 1, 2, 3, 4, 5, 6, 7, 8]), (none, [0, 1, 5, 6, 2, 3, 4, 7, 8])]),
  (34, [(some 1000000, [2, 4]), (none, [0, 1, 2, 3, 4, 5, 6, 7]), (none, [0, 1, 3, 4, 2, 5, 6, 7])]),
  (37, [(some 1000000, [2, 4]), (none, [0, 1, 2, 3, 4, 5, 6, 7]), (none, [0, 1, 3, 4, 2, 5, 6, 7])]),
  (38, [(some 1000000, [1, 5]), (none, [0, 1, 2, 3, 4, 5, 6, 7]), (none, [0, 3, 4, 5, 1, 2, 6, 7])]),
  (45, [(some 1000000, [1, 7, 4, 7]), (none, [0, 1, 2, 3, 4, 5, 6, 7, 8, 9]), (none, [0, 1, 2, 3, 5, 6, 7, 4, 8, 9]), (none, [0, 3, 4, 5, 6, 7, 1, 2, 8, 9]), (none, [0, 3, 5, 6, 7, 1, 2, 4, 8, 9])])]
def D6 (args : List AV) (v : AV) : Prop := ∃ _ : Unit, args = [.agg zC] ∧ v = .nsl
noncomputable def D7 : FuncId → EP := cw 15 Ey (aB 24 (jK (dY oX)) (aB 25 (jK (dY gz)) evP))
theorem AU : bu D7 := aF (ai (ai aQ y3) vr) (by kernel_rfl) (by kernel_rfl)
theorem CX : ao D7 3 15 [.agg zC] .nil 0 fun u _ _ => VTo u .nsl := by
  conv => whnf
  refine ⟨?_, ?_, trivial⟩
  all_goals
    conv => whnf
    exact VTo.tn _
theorem Ez : aA 15 (cj D6) := cv AU 3 (by kernel_rfl) fun args v ⟨_, h1, h2⟩ => by
  subst h1 h2; exact ⟨rfl, rfl, CX⟩
def AW : DT := [(5, [(some 0, [5]), (some 0, [7]), (none, [28, 29]), (some 1, [5]), (none, [31]), (some 3, [7]), (none, [33]), (none, [32, 34]), (some 0, [30, 35]), (some 0, [36]), (some 0, [5, 37]), (some 0, [5, 37]), (none, [38, 39, 37]), (some 0, [37, 40]), (some 0, [41]), (some 0, [42]), (none, [43, 42]), (some 0, [44, 42]), (some 0, [45, 42]), (some 0, [42, 46]), (some 0, [47]), (none, [48]), (some 0, [48, 49]), (some 0, [50])])]
noncomputable def KCs : FuncId → EP := cw 4 AW (dX 11 (cj DP) (aB 10 zv (dX 12 (cj D4) (dX 14 (cj Bo) (dX 13 (cj D2) (dX 15 (cj D6) (dX 8 (yn u1) evP)))))))
theorem CY : bu KCs := aF (bV (ai (bV (bV (bV (bV (bV aQ xn yp) Ez (dt _)) Ew (dt _)) DZ (dt _)) Ex (dt _)) Aw) Er (dt _)) (by kernel_rfl) (by kernel_rfl)
theorem tp {W : List (List Nat)} (h : gB W = true) : W.length ≤ 70 ∧ ∀ w ∈ W, w.length ≤ 600 := by
  unfold gB at h
  simp only [Bool.and_eq_true, decide_eq_true_eq, List.all_eq_true] at h
  exact h
theorem Bz.D8 {B : Nat} {R : Rd} (h : Bz B R) (hm : aD R = true) : Bz B (bJ R) := by
  have r := pU R
  have w := (m7 R).2 hm
  have k := h.key.time.val
  have e1 : (bJ R).ls = R.ls := by show (c8 (bI (aK R))).ls = _; exact ((dK ak (bI (aK R))).ls.trans ((jz [42] (-1) (aK R)).ls.trans (bj R).ls))
  have e2 : (bJ R).q = R.q := by show (c8 (bI (aK R))).q = _; exact ((dK ak (bI (aK R))).q.trans ((jz [42] (-1) (aK R)).q.trans (bj R).q))
  have e3 : (bJ R).fs = R.fs := by show (c8 (bI (aK R))).fs = _; exact ((dK ak (bI (aK R))).fs.trans ((jz [42] (-1) (aK R)).fs.trans (bj R).fs))
  exact ⟨k.ok, by have := h.ks; omega, by have := h.ts; omega, by have := h.vs; omega, by rw [e1]; have := h.ls; omega, by rw [e2]; have := h.q; omega, by rw [e3]; have := h.fs; omega⟩
theorem Bz.stf {B : Nat} {R : Rd} {f : Rd → Int × Rd} (s : Int → Rd → Rd) (h : Bz B (f R).2) (hs : ∀ z T, Bz B T → Bz B (s z T)) : Bz B (stF f s R) := hs _ _ h
theorem Bz.l9 {B : Nat} {R : Rd} (h : Bz B R) : Bz (B + 3) (l9 R) := by
  unfold Go.Proofs.Ytckcicalbjmgbaa.l9
  split
  · exact Bz.stf l8 (h.mJ.next.told cL) fun _ _ q => q.set _
  · exact h.mJ
theorem Bz.EA {B : Nat} {R : Rd} (h : Bz B R) : Bz (B + 3) (gJ R) := by
  unfold gJ
  generalize (bJ R).ws.length = k
  have : ∀ (k : Nat) (S : Rd), Bz (B + 3) S → Bz (B + 3) (fN bJ k S) := fun k => by
    induction k with
    | zero => exact fun S h => h
    | succ k ih =>
      intro S hS
      unfold fN
      split
      · rename_i hm
        exact ih _ (hS.D8 hm)
      · exact hS
  exact this k _ h.mJ
theorem Bz.inc {B : Nat} {R : Rd} (h : Bz B R) : Bz (B + 3) (mK R) := by
  unfold mK
  split
  · exact h.key.val.next.time
  · have q : Bz (B + 2) (c8 (aK R)) := h.key.val
    have k := q.ts
    have m := q.mono (Nat.le_succ (B + 2))
    exact ⟨m.ok, m.ks, by show [(-1 : Int)].length + (c8 (aK R)).ws.length ≤ _; simp only [List.length_singleton]; omega, m.vs, m.ls, m.q, m.fs⟩
theorem Bz.drop {B : Nat} {R : Rd} (h : Bz B R) : Bz (B + 1) (lf R) := l7 (Bz (B + 1)) (fun S hm q => q.Dw hm) (aK R) h.key
theorem Bz.link {B : Nat} {R : Rd} (h : Bz B R) : Bz (B + 2) (gL R) := by
  have h1 : Bz (B + 2) (pZ R) := Bz.stf gK ((Bz.stf pW ((h.keys.w9 wZ).told cg) fun _ _ q => q.set _).told ak) fun _ _ q => q.set _
  unfold gL
  split
  · exact Bz.stf y9 (h1.told ak) fun _ _ q => q.set _
  · exact h1
theorem Bz.cre {B : Nat} {R : Rd} (h : Bz B R) : Bz (B + 1) (oD R) := l7 (Bz (B + 1)) (fun S _ q => q.cs1) (aK R) h.key
theorem Bz.man {B : Nat} {R : Rd} (h : Bz B R) : Bz (B + 2) (oF R) := by
  have h1 : Bz (B + 2) (uL R) := h.opt.Ce
  unfold oF
  split
  · exact Bz.stf za (((h1.next.next.set (Cd (uL R))).w9 Ao).told cg) fun _ _ q => q.set _
  · exact h1
theorem AX {R : Rd} (h : Bz 780000 R) : ∀ k, Bz 790000 (mB k R)
  | 0 => h.mono (by decide)
  | 1 => h.cre.mono (by decide)
  | 2 => h.cre.mono (by decide)
  | 3 => h.l9.mono (by decide)
  | 4 => h.EA.mono (by decide)
  | 5 => h.inc.mono (by decide)
  | 6 => h.inc.mono (by decide)
  | 7 => (Bz.stf y8 ((Bz.stf vt (h.key.told ak) fun _ _ q => q.set _).told ak) fun _ _ q => q.set _).mono (by decide)
  | 8 => h.drop.mono (by decide)
  | 9 => h.link.mono (by decide)
  | 10 => h.keys.mono (by decide)
  | 11 => h.key.mono (by decide)
  | 12 => h.Ce.mono (by decide)
  | 13 => h.key.opt.mono (by decide)
  | 14 => h.man.mono (by decide)
  | 15 => h.fil.mono (by decide)
  | 16 => h.key.mono (by decide)
  | k + 17 => h.mono (by decide)
theorem zI {W : List (List Nat)} {X : Rd} (hl : W.length ≤ 700000) (hw : ∀ w ∈ W, (∀ c ∈ w, c < 256) ∧ w.length ≤ 1000000) (e : dr W = X) : SmR (if X.e = 0 then X else ec) := by
  have z : SmR ec := ⟨by decide, by decide, by decide, by decide, by decide, by decide⟩
  split
  · rename_i h
    rw [← e] at h ⊢
    unfold dr at h ⊢
    split
    · exact absurd h (by rw [if_pos (by assumption)]; decide)
    · split
      · exact absurd h (by rw [if_neg (by assumption), if_pos (by assumption)]; decide)
      · have b0 := uS hl hw (fb (upF (W.headD [])) : Nat) (!decide (whF gz (upF (W.headD [])) = 0))
        have b1 : Bz 790000 (mB (fb (upF (W.headD []))) (fS W.tail (fb (upF (W.headD [])) : Nat) (!decide (whF gz (upF (W.headD [])) = 0)))) := by
          generalize fS W.tail (fb (upF (W.headD [])) : Nat) (!decide (whF gz (upF (W.headD [])) = 0)) = R at b0
          generalize fb (upF (W.headD [])) = k
          exact AX b0 k
        have b2 : Bz 790000 (dM (mB (fb (upF (W.headD []))) (fS W.tail (fb (upF (W.headD [])) : Nat) (!decide (whF gz (upF (W.headD [])) = 0))))) := by
          unfold dM
          split
          · exact b1.fail 14
          · exact b1
        exact ⟨by have := b2.ks; omega, by have := b2.ts; omega, by have := b2.vs; omega, by have := b2.ls; omega, by have := b2.q; omega, by have := b2.fs; omega⟩
  · exact z
theorem oY (A B : List (List Nat)) (hA : ∀ w ∈ A, (∀ c ∈ w, c < 256) ∧ w.length ≤ maxLen) (hAl : A.length ≤ 8796093022208) (hB : ∀ w ∈ B, (∀ c ∈ w, c < 256) ∧ w.length ≤ maxLen) (hBl : B.length ≤ 8796093022208) : ao KCs 6 4 [.fr A.length 1 (aq A), .fr B.length 1 (aq B)] .nil 0 fun v _ _ => v = .bool true ∨ v = .sb true := by
  obtain ⟨X, hX⟩ : ∃ X, dr A = X := ⟨_, rfl⟩
  obtain ⟨Y, hY⟩ : ∃ Y, dr B = Y := ⟨_, rfl⟩
  conv => whnf
  refine ⟨_, ⟨A, rfl, hAl, rfl⟩, ?_⟩
  conv => whnf
  refine ah.nsb (fun g1 => ?_) (fun g1 => ?_)
  focus
    conv => whnf
    first | exact .inl rfl | exact .inr rfl
  conv => whnf
  refine ⟨_, ⟨B, rfl, hBl, rfl⟩, ?_⟩
  conv => whnf
  refine ah.nsb (fun g2 => ?_) (fun g2 => ?_)
  focus
    conv => whnf
    first | exact .inl rfl | exact .inr rfl
  have lA := tp g1
  have lB := tp g2
  have oA : ∀ w ∈ A, (∀ c ∈ w, c < 256) ∧ w.length ≤ 1000000 := fun w h => ⟨(hA w h).1, Nat.le_trans (lA.2 w h) (by decide)⟩
  have oB : ∀ w ∈ B, (∀ c ∈ w, c < 256) ∧ w.length ≤ 1000000 := fun w h => ⟨(hB w h).1, Nat.le_trans (lB.2 w h) (by decide)⟩
  have sX := zI (Nat.le_trans lA.1 (by decide)) oA hX
  obtain ⟨P, hP⟩ : ∃ P, P = (if X.e = 0 then X else ec) := ⟨_, rfl⟩
  obtain ⟨Q, hQ⟩ : ∃ Q, Q = (if Y.e = 0 then Y else ec) := ⟨_, rfl⟩
  conv => whnf
  refine ⟨A, X, Nat.le_trans lA.1 (by decide), oA, hX, .inl ⟨rfl, ?_⟩⟩
  conv => whnf
  refine ⟨B, Y, Nat.le_trans lB.1 (by decide), oB, hY, .inl ⟨rfl, ?_⟩⟩
  conv => whnf
  refine ⟨_, ⟨(if X.e = 0 then X else ec), (if Y.e = 0 then Y else ec), rfl, sX, rfl⟩, ?_⟩
  conv => whnf
  refine ⟨_, ⟨(if X.e = 0 then X else ec), rfl, rfl⟩, ?_⟩
  conv => whnf
  refine ⟨_, ⟨(if Y.e = 0 then Y else ec), rfl, rfl⟩, ?_⟩
  conv => whnf
  refine ⟨_, ⟨(if X.e = 0 then X else ec), (if Y.e = 0 then Y else ec), rfl, sX, rfl⟩, ?_⟩
  conv => whnf
  refine ah.sb (fun _ => ?_) (fun q => absurd q (by simp))
  conv => whnf
  refine ⟨_, ⟨(if X.e = 0 then X else ec), (if X.e = 0 then X else ec), rfl, sX, rfl⟩, ?_⟩
  conv => whnf
  refine ah.sb (fun _ => ?_) (fun q => absurd (zG _) (by rw [q]; decide))
  conv => whnf
  refine ⟨_, ⟨(), rfl, rfl⟩, ?_⟩
  conv => whnf
  exact .inl rfl
end Go.Proofs.Ytckcicalbjmgbaa
