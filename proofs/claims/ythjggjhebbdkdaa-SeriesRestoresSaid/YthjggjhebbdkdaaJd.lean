/- Texts of our own, joined: the engine, the machine that runs code, and what is known of the functions. -/
import Derived.Test.YthjggjhebbdkdaaRows
import Derived.WalkKit
import Derived.Deep.Quiet
import Derived.ProofKit
import Derived.Laws.StructEq
import Derived.LaidEql
import Derived.Laws.BytesArg
import Derived.Maps.RangeRun
import Derived.RangeFuncSeq
import Derived.Scope
import Derived.Laws.Strings
import Derived.Laws.Strings2
import Derived.Below
import Derived.Carry
import Derived.OpenShut
import Derived.ChangeMaps5
import Derived.Deep.Slices
import Derived.Deep.SlicePairs
import Derived.SizedLaws
import Derived.Test.YthjggjhebbdkdaaJc
import Derived.Laws.BitsAllLaws
set_option linter.unusedSimpArgs false
set_option linter.unusedVariables false
set_option maxHeartbeats 16000000
set_option maxRecDepth 100000
namespace Go.Proofs.Ythjggjhebbdkdaa
open Go Go.RowKit
mutual
def ren (r : Nat → Nat) : AV → AV
  | .int k n => .int k n
  | .str s => .str s
  | .bool b => .bool b
  | .nil => .nil
  | .ptr b o => .ptr (r b) o
  | .nsl => .nsl
  | .sl b o n c k => .sl (r b) o n c k
  | .esl b => .esl (r b)
  | .agg l => .agg (dR r l)
  | .tup l => .tup (dR r l)
  | .fn f a c => .fn f (dR r a) (dR r c)
  | .map b => .map (r b)
  | .any v => .any v
  | .bad => .bad
  | .si k n => .si k n
  | .sb b => .sb b
  | .ss s => .ss s
  | .sy b o n c k => .sy (r b) o n c k
  | .rw b o n k x => .rw (r b) o n k x
  | .fr n k l => .fr n k l
  | .fa l o => .fa l o
def dR (r : Nat → Nat) : List AV → List AV
  | [] => []
  | a :: l => ren r a :: dR r l
end
mutual
def ltV (m : Nat) : AV → Bool
  | .int _ _ => true
  | .str _ => true
  | .bool _ => true
  | .nil => true
  | .ptr b _ => Nat.blt b m
  | .nsl => true
  | .sl b _ _ _ _ => Nat.blt b m
  | .esl b => Nat.blt b m
  | .agg l => kF m l
  | .tup l => kF m l
  | .fn _ a c => kF m a && kF m c
  | .map b => Nat.blt b m
  | .any _ => true
  | .bad => true
  | .si _ _ => true
  | .sb _ => true
  | .ss _ => true
  | .sy b _ _ _ _ => Nat.blt b m
  | .rw b _ _ _ _ => Nat.blt b m
  | .fr _ _ _ => true
  | .fa _ _ => true
def kF (m : Nat) : List AV → Bool
  | [] => true
  | a :: l => ltV m a && kF m l
end
def Ph.pull (χ : Ph) (r : Nat → Nat) : Ph := ⟨fun b => χ (r b), χ.z, χ.y, fun b => χ.s (r b)⟩
section
variable {χ ψ : Ph} {r : Nat → Nat} {m : Nat}
mutual
theorem VR.pull : ∀ (a : AV) (v : Value), VR χ (ren r a) v ↔ VR (χ.pull r) a v
  | .int k n, v => by simp only [ren, VR]
  | .str s, v => by simp only [ren, VR]
  | .bool b, v => by simp only [ren, VR]
  | .nil, v => by simp only [ren, VR]
  | .ptr b o, v => by simp only [ren, VR, Ph.pull]
  | .nsl, v => by simp only [ren, VR]
  | .sl b o n c k, v => by simp only [ren, VR, Ph.pull]
  | .esl b, v => by simp only [ren, VR, Ph.pull]
  | .agg l, v => by simp only [ren, VR, VRs.pull l]
  | .tup l, v => by simp only [ren, VR, VRs.pull l]
  | .fn f a c, v => by simp only [ren, VR, VRs.pull a, VRs.pull c]
  | .map b, v => by simp only [ren, VR, Ph.pull]
  | .any u, v => by simp only [ren, VR]
  | .bad, v => by simp only [ren, VR]
  | .si k n, v => by simp only [ren, VR]
  | .sb b, v => by simp only [ren, VR]
  | .ss s, v => by simp only [ren, VR]
  | .sy b o n c k, v => by simp only [ren, VR, Ph.pull]
  | .rw b o n k x, v => by simp only [ren, VR, Ph.pull]
  | .fr n k l, v => by simp only [ren, VR, Ph.pull]
  | .fa l o, v => by simp only [ren, VR, Ph.pull]
theorem VRs.pull : ∀ (l : List AV) (vs : List Value), VRs χ (dR r l) vs ↔ VRs (χ.pull r) l vs
  | [], vs => by simp only [dR, VRs]
  | a :: l, vs => by simp only [dR, VRs, VR.pull a, VRs.pull l]
end
mutual
theorem VR.below (he : ∀ b p, b < m → ψ b = some p → χ b = some p) (hz : ∀ q, ψ.z q → χ.z q) : ∀ (a : AV) (v : Value), ltV m a = true → VR ψ a v → VR χ a v
  | .int k n, v, _, h => by simp only [VR] at h ⊢; exact h
  | .str s, v, _, h => by simp only [VR] at h ⊢; exact h
  | .bool b, v, _, h => by simp only [VR] at h ⊢; exact h
  | .nil, v, _, h => by simp only [VR] at h ⊢; exact h
  | .ptr b o, v, hl, h => by
    simp only [ltV, Nat.blt_eq] at hl
    simp only [VR] at h ⊢
    obtain ⟨p, h1, h2⟩ := h
    exact ⟨p, he _ _ hl h1, h2⟩
  | .nsl, v, _, h => by simp only [VR] at h ⊢; exact h
  | .sl b o n c k, v, hl, h => by
    simp only [ltV, Nat.blt_eq] at hl
    simp only [VR] at h ⊢
    obtain ⟨p, C, h1, h2⟩ := h
    exact ⟨p, C, he _ _ hl h1, h2⟩
  | .esl b, v, hl, h => by
    simp only [ltV, Nat.blt_eq] at hl
    simp only [VR] at h ⊢
    obtain ⟨p, x, C, h1, h2⟩ := h
    exact ⟨p, x, C, he _ _ hl h1, h2⟩
  | .agg l, v, hl, h => by
    simp only [ltV] at hl
    simp only [VR] at h ⊢
    obtain ⟨cs, h1, h2⟩ := h
    exact ⟨cs, h1, VRs.below he hz l _ hl h2⟩
  | .tup l, v, hl, h => by
    simp only [ltV] at hl
    simp only [VR] at h ⊢
    obtain ⟨cs, h1, h2⟩ := h
    exact ⟨cs, h1, VRs.below he hz l _ hl h2⟩
  | .fn f a c, v, hl, h => by
    simp only [ltV, Bool.and_eq_true] at hl
    simp only [VR] at h ⊢
    obtain ⟨xs, cs, h1, h2, h3⟩ := h
    exact ⟨xs, cs, h1, VRs.below he hz a _ hl.1 h2, VRs.below he hz c _ hl.2 h3⟩
  | .map b, v, hl, h => by
    simp only [ltV, Nat.blt_eq] at hl
    simp only [VR] at h ⊢
    obtain ⟨p, h1, h2⟩ := h
    exact ⟨p, he _ _ hl h1, h2⟩
  | .any u, v, _, h => by simp only [VR] at h ⊢; exact h
  | .bad, v, _, h => by simp only [VR]
  | .si k n, v, _, h => by simp only [VR] at h ⊢; exact h
  | .sb b, v, _, h => by simp only [VR] at h ⊢; exact h
  | .ss s, v, _, h => by simp only [VR] at h ⊢; exact h
  | .sy b o n c k, v, hl, h => by
    simp only [ltV, Nat.blt_eq] at hl
    simp only [VR] at h ⊢
    obtain ⟨p, C, h1, h2⟩ := h
    exact ⟨p, C, he _ _ hl h1, h2⟩
  | .rw b o n k x, v, hl, h => by
    simp only [ltV, Nat.blt_eq] at hl
    simp only [VR] at h ⊢
    rcases h with h | ⟨p, a, C, h1, h2⟩
    · exact .inl h
    · exact .inr ⟨p, a, C, he _ _ hl h1, h2⟩
  | .fr n k l, v, _, h => by
    simp only [VR] at h ⊢
    rcases h with h | ⟨q, o, C, h1, h2⟩
    · exact .inl h
    · exact .inr ⟨q, o, C, hz _ h1, h2⟩
  | .fa l o, v, _, h => by
    simp only [VR] at h ⊢
    obtain ⟨q, x, h1, h2⟩ := h
    exact ⟨q, x, hz _ h1, h2⟩
theorem VRs.below (he : ∀ b p, b < m → ψ b = some p → χ b = some p) (hz : ∀ q, ψ.z q → χ.z q) : ∀ (l : List AV) (vs : List Value), kF m l = true → VRs ψ l vs → VRs χ l vs
  | [], vs, _, h => by simp only [VRs] at h ⊢; exact h
  | a :: l, vs, hl, h => by
    simp only [kF, Bool.and_eq_true] at hl
    simp only [VRs] at h ⊢
    obtain ⟨v, us, h1, h2, h3⟩ := h
    exact ⟨v, us, h1, VR.below he hz a v hl.1 h2, VRs.below he hz l us hl.2 h3⟩
end
end
def Fu (r : Nat → Nat) : List (AV × AV) → List (AV × AV)
  | [] => []
  | e :: es => (ren r e.1, ren r e.2) :: Fu r es
def ck (r : Nat → Nat) : AO → AO
  | .cells l z => .cells (dR r l) z
  | .map es => .map (Fu r es)
  | .ro l => .ro (dR r l)
  | .iter b m seen => .iter (r b) m seen
  | .sep Q => .sep Q
def ltE (m : Nat) : List (AV × AV) → Bool
  | [] => true
  | e :: es => ltV m e.1 && (ltV m e.2 && ltE m es)
def ltO (m : Nat) : AO → Bool
  | .cells l _ => kF m l
  | .map es => ltE m es
  | .ro l => kF m l
  | .iter b _ _ => Nat.blt b m
  | .sep _ => true
section
variable {χ ψ : Ph} {r : Nat → Nat} {m : Nat}
theorem lb : ∀ l : List AV, (dR r l).length = l.length
  | [] => rfl
  | a :: l => by simp [dR, lb l]
theorem tG : ∀ (l : List AV) (i : Nat), (dR r l)[i]? = (l[i]?).map (ren r)
  | [], i => by simp [dR]
  | a :: l, 0 => by simp [dR]
  | a :: l, i + 1 => by simp [dR, tG l i]
theorem Da : ∀ {l : List AV}, kF m l = true → ∀ {i : Nat} {a : AV}, l[i]? = some a → ltV m a = true
  | [], _, i, a, h => by simp at h
  | b :: l, hl, i, a, h => by
    simp only [kF, Bool.and_eq_true] at hl
    cases i with
    | zero => simp only [List.getElem?_cons_zero, Option.some.injEq] at h; subst h; exact hl.1
    | succ i => exact Da hl.2 (by simpa using h)
theorem CR.pull {c : Array Value} {s : Nat} {l : List AV} : CR χ c s (dR r l) ↔ CR (χ.pull r) c s l := by
  constructor
  · intro h i a e
    obtain ⟨v, h1, h2⟩ := h i (ren r a) (by rw [tG, e]; rfl)
    exact ⟨v, h1, (VR.pull _ _).1 h2⟩
  · intro h i a e
    rw [tG, Option.map_eq_some_iff] at e
    obtain ⟨a', e1, rfl⟩ := e
    obtain ⟨v, h1, h2⟩ := h i a' e1
    exact ⟨v, h1, (VR.pull _ _).2 h2⟩
theorem CR.below (he : ∀ b p, b < m → ψ b = some p → χ b = some p) (hz : ∀ q, ψ.z q → χ.z q) {c : Array Value} {s : Nat} {l : List AV} (hl : kF m l = true) (h : CR ψ c s l) : CR χ c s l := fun i a e => by
  obtain ⟨v, h1, h2⟩ := h i a e
  exact ⟨v, h1, VR.below he hz a v (Da hl e) h2⟩
theorem MR.pull : ∀ {es : List (AV × AV)} {ms : List MapEntry}, MR χ (Fu r es) ms ↔ MR (χ.pull r) es ms
  | [], ms => Iff.rfl
  | e :: es, ms => by
    show (∃ m us, _ ∧ _ ∧ _ ∧ MR χ (Fu r es) us) ↔ ∃ m us, _ ∧ _ ∧ _ ∧ MR (χ.pull r) es us
    simp only [MR.pull (es := es), VR.pull]
theorem MR.below (he : ∀ b p, b < m → ψ b = some p → χ b = some p) (hz : ∀ q, ψ.z q → χ.z q) : ∀ {es : List (AV × AV)} {ms : List MapEntry}, ltE m es = true → MR ψ es ms → MR χ es ms
  | [], ms, _, h => h
  | e :: es, ms, hl, ⟨x, us, h1, h2, h3, h4⟩ => by
    simp only [ltE, Bool.and_eq_true] at hl
    exact ⟨x, us, h1, VR.below he hz _ _ hl.1 h2, VR.below he hz _ _ hl.2.1 h3, MR.below he hz hl.2.2 h4⟩
theorem OR.pull {p : Pl} {o : AO} {ob : Obj} : OR χ p (ck r o) ob ↔ OR (χ.pull r) p o ob := by
  cases o with
  | cells l z => simp only [ck, OR, lb, CR.pull]
  | map es => simp only [ck, OR, MR.pull]
  | iter b k seen => exact Iff.rfl
  | ro l => simp only [ck, OR, lb, CR.pull]
  | sep Q => exact Iff.rfl
theorem OR.below (he : ∀ b p, b < m → ψ b = some p → χ b = some p) (hz : ∀ q, ψ.z q → χ.z q) {p : Pl} {o : AO} {ob : Obj} (hl : ltO m o = true) (h : OR ψ p o ob) : OR χ p o ob := by
  cases o with
  | cells l z => obtain ⟨c, t, fz, h1, h2, h3, h4, h5, h6⟩ := h; exact ⟨c, t, fz, h1, h2, h3, h4, h5, h6.below he hz hl⟩
  | map es => obtain ⟨ms, cl, h1, h2, h3⟩ := h; exact ⟨ms, cl, h1, MR.below he hz hl h2, h3⟩
  | iter b k seen =>
    obtain ⟨h0, q, h1, h2⟩ := h
    simp only [ltO, Nat.blt_eq] at hl
    exact ⟨h0, q, he _ _ hl h1, h2⟩
  | ro l => obtain ⟨c, t, fz, h1, h2, h3, h4⟩ := h; exact ⟨c, t, fz, h1, h2, h3, h4.below he hz hl⟩
  | sep Q => exact h.elim
theorem fA (o : AO) : (ck r o).own = o.own := by cases o <;> rfl
theorem iv (o : AO) : (ck r o).free = o.free := by
  cases o with
  | cells l z => cases l <;> rfl
  | map es => rfl
  | iter b k seen => rfl
  | ro l => cases l <;> rfl
  | sep Q => rfl
theorem jz {o : AO} {Q : HP} (h : ck r o = .sep Q) : o = .sep Q := by cases o <;> first | exact h | cases h
theorem kg (o : AO) (ob : Obj) : (ck r o).under ob = o.under ob := by cases o <;> rfl
end
def bh (S : List Nat) (n b : Nat) : Nat := match S[b]? with
  | some s => s
  | none => n + (b - S.length)
def eu (O : List AO) : Nat → List (Nat × AO)
  | k => match O with
    | [] => []
    | o :: O => (k, o) :: eu O (k + 1)
theorem vU : ∀ {O : List AO} {k b : Nat} {o : AO}, (b, o) ∈ eu O k → ∃ i, b = k + i ∧ O[i]? = some o
  | [], k, b, o, h => by cases h
  | x :: O, k, b, o, h => by
    rcases List.mem_cons.1 (show (b, o) ∈ (k, x) :: eu O (k + 1) from h) with h | h
    · injection h with h1 h2; subst h1 h2; exact ⟨0, rfl, rfl⟩
    · obtain ⟨i, h1, h2⟩ := vU h
      exact ⟨i + 1, by omega, h2⟩
theorem jA : ∀ {S : List Nat}, S.Nodup → ∀ {i j a : Nat}, S[i]? = some a → S[j]? = some a → i = j
  | [], _, i, j, a, h, _ => by simp at h
  | x :: S, hn, i, j, a, h, k => by
    obtain ⟨h1, h2⟩ := List.nodup_cons.1 hn
    cases i with
    | zero =>
      cases j with
      | zero => rfl
      | succ j =>
        simp only [List.getElem?_cons_zero, Option.some.injEq, List.getElem?_cons_succ] at h k
        subst h
        exact absurd (List.mem_of_getElem? k) h1
    | succ i =>
      cases j with
      | zero =>
        simp only [List.getElem?_cons_zero, Option.some.injEq, List.getElem?_cons_succ] at h k
        subst k
        exact absurd (List.mem_of_getElem? h) h1
      | succ j =>
        simp only [List.getElem?_cons_succ] at h k
        rw [jA h2 h k]
section
variable {φ ψ : Ph} {H H' H2 : AH} {n n' m : Nat} {h0 hp g : Hp} {S : List Nat} {O : List AO}
def fO (H : AH) (n : Nat) (S : List Nat) (O : List AO) : Prop := S.Nodup ∧ S.length = O.length ∧ ∀ (i : Nat) s o, S[i]? = some s → O[i]? = some o → s < n ∧ H.get s = some (ck (bh S n) o) ∧ (o.void = false ∨ o.own = true)
theorem b9 {i s : Nat} (h : S[i]? = some s) : bh S n i = s := by unfold bh; rw [h]
theorem gF {b : Nat} (h : S.length ≤ b) : bh S n b = n + (b - S.length) := by unfold bh; rw [List.getElem?_eq_none h]
def rJ (φ : Ph) (S : List Nat) (O : List AO) (B : Nat) : Prop := (∃ (i : Nat) (s : Nat) (o : AO) (p : Pl), S[i]? = some s ∧ O[i]? = some o ∧ o.own = true ∧ φ s = some p ∧ p.B = B) ∨ ∃ (i : Nat) (s : Nat) (Q : HP), S[i]? = some s ∧ O[i]? = some (.sep Q) ∧ φ.s s B
open Classical in
noncomputable def iY (φ : Ph) (S : List Nat) (O : List AO) (hp : Hp) : Hp := ⟨fun B => if rJ φ S O B then none else hp.f B, hp.n⟩
theorem A7 {B : Nat} {o : Obj} (h : (iY φ S O hp).f B = some o) : hp.f B = some o ∧ ¬ rJ φ S O B := by
  unfold iY at h
  dsimp only at h
  split at h
  · cases h
  · rename_i q; exact ⟨h, q⟩
theorem ig {B : Nat} (h : ¬ rJ φ S O B) : (iY φ S O hp).f B = hp.f B := by
  unfold iY
  dsimp only
  rw [if_neg h]
theorem A8 {B : Nat} (h : (iY φ S O hp).f B = none) : rJ φ S O B ∨ hp.f B = none := by
  unfold iY at h
  dsimp only at h
  split at h
  · rename_i q; exact .inl q
  · exact .inr h
theorem fO.at (hh : fO H n S O) {i s : Nat} (hs : S[i]? = some s) : ∃ o, O[i]? = some o ∧ s < n ∧ H.get s = some (ck (bh S n) o) ∧ (o.void = false ∨ o.own = true) := by
  have hlt : i < O.length := by rw [← hh.2.1]; exact (List.getElem?_eq_some_iff.1 hs).1
  exact ⟨O[i], List.getElem?_eq_getElem hlt, hh.2.2 i s O[i] hs (List.getElem?_eq_getElem hlt)⟩
theorem rJ.base (hr : HR φ H n h0 hp) (hh : fO H n S O) {B : Nat} (h : rJ φ S O B) : h0.f B = none := by
  rcases h with ⟨i, s, o, p, h1, h2, h3, h4, rfl⟩ | ⟨i, s, Q, h1, h2, h3⟩
  · obtain ⟨_, h5, _⟩ := hh.2.2 i s o h1 h2
    obtain ⟨ob, h6, _⟩ := hr.of h5 h4
    rw [kg, AO.bk h3] at h6
    exact h6
  · exact ((hr.sep s Q (hh.2.2 i s _ h1 h2).2.1).2 B h3).1.2
theorem HR.small (hr : HR φ H n h0 hp) (hh : fO H n S O) (hw : Wf hp) : HR ⟨fun b => φ (bh S n b), φ.z, φ.z, fun b => φ.s (bh S n b)⟩ (mkH (eu O 0)) S.length (iY φ S O hp) hp := by
  have nlt : ∀ b p, φ (bh S n b) = some p → ∃ s, S[b]? = some s ∧ φ s = some p := fun b p e => by
    cases hb : S[b]? with
    | some s => rw [b9 hb] at e; exact ⟨s, rfl, e⟩
    | none =>
      have hl := List.getElem?_eq_none_iff.1 hb
      rw [gF hl] at e
      have := (hr.dom _ _ e).1; omega
  have get : ∀ {b o}, (mkH (eu O 0)).get b = some o → O[b]? = some o := fun {b o} e => by
    obtain ⟨i, h1, h2⟩ := vU (bN e)
    rw [show b = i by omega]; exact h2
  have ofO : ∀ {b o}, O[b]? = some o → ∃ s, S[b]? = some s := fun {b o} e => by
    have := (List.getElem?_eq_some_iff.1 e).1
    rw [← hh.2.1] at this
    exact ⟨S[b], List.getElem?_eq_getElem this⟩
  refine ⟨fun b p e => ?_, fun b o e => ?_, fun b b' o o' p p' e e' ho ho' hp1 hp2 hB => ?_, fun b o e => ?_, Nat.le_refl _, fun q hq => ⟨⟨FzR.mono (φ := φ) (ψ := ⟨fun b => φ (bh S n b), φ.z, φ.z, fun b => φ.s (bh S n b)⟩) (fun _ h => h) (hr.frz q hq).1.1, .inl hq⟩, fun b o p e ho hp1 => ?_⟩, fun b Q e => ?_⟩
  rotate_left 5
  · have h1 := get e
    obtain ⟨s, h2⟩ := ofO h1
    obtain ⟨k1, k2⟩ := hr.sep s Q (hh.2.2 b s _ h2 h1).2.1
    have es : (⟨fun b => φ (bh S n b), φ.z, φ.z, fun b => φ.s (bh S n b)⟩ : Ph).s b = φ.s s := by show φ.s (bh S n b) = _; rw [b9 h2]
    rw [es]
    refine ⟨k1, fun B hB => ?_⟩
    obtain ⟨g1, g2, g3, g4⟩ := k2 B hB
    refine ⟨⟨g1.1, ?_⟩, fun b' o' p' e1 e2 e3 => ?_, g3, fun b' Q' e1 e2 e3 => ?_⟩
    · unfold iY; dsimp only; rw [if_pos (.inr ⟨b, s, Q, h2, h1, hB⟩)]
    · have f1 := get e1
      obtain ⟨s', f2⟩ := ofO f1
      have e3 : φ (bh S n b') = some p' := e3
      rw [b9 f2] at e3
      exact g2 s' _ p' (hh.2.2 b' s' o' f2 f1).2.1 (by rw [fA]; exact e2) e3
    · have f1 := get e1
      obtain ⟨s', f2⟩ := ofO f1
      have e3 : φ.s (bh S n b') B := e3
      rw [b9 f2] at e3
      exact g4 s' Q' (hh.2.2 b' s' _ f2 f1).2.1 (fun q => e2 (by subst q; exact jA hh.1 f2 h2)) e3
  · obtain ⟨s, h1, h2⟩ := nlt b p e
    exact ⟨(List.getElem?_eq_some_iff.1 h1).1, (hr.dom s p h2).2⟩
  · have h1 := get e
    obtain ⟨s, h2⟩ := ofO h1
    obtain ⟨_, h4, h5⟩ := hh.2.2 b s o h2 h1
    rcases hr.live s _ h4 with ⟨hφ, hv⟩ | ⟨p, ob, h6, h7, h8, h9⟩
    · exact .inl ⟨by show φ (bh S n b) = _; rw [b9 h2]; exact hφ, by rw [iv] at hv; exact hv⟩
    · refine .inr ⟨p, ob, by show φ (bh S n b) = _; rw [b9 h2]; exact h6, ?_, h8, ?_⟩
      · rw [kg] at h7
        by_cases ho : o.own = true
        · rw [AO.bk ho]
          unfold iY
          dsimp only
          rw [if_pos (.inl ⟨b, s, o, p, h2, h1, ho, h6, rfl⟩)]
        · rw [ig (fun hg => ?_), h8]
          · cases o <;> first | (exact absurd rfl ho; done) | rfl
          · have := hg.base hr hh
            rw [this] at h7
            cases o <;> first | (exact absurd rfl ho; done) | cases h7
      · have := (OR.pull (χ := φ) (r := bh S n)).1 h9
        exact OR.cz (φ := φ.pull (bh S n)) (ψ := ⟨fun b => φ (bh S n b), φ.z, φ.z, fun b => φ.s (bh S n b)⟩) ⟨fun _ _ h => h, fun _ h => h⟩ this
  · have h1 := get e
    have h1' := get e'
    obtain ⟨s, h2⟩ := ofO h1
    obtain ⟨s', h2'⟩ := ofO h1'
    have hp1 : φ (bh S n b) = some p := hp1
    have hp2 : φ (bh S n b') = some p' := hp2
    rw [b9 h2] at hp1
    rw [b9 h2'] at hp2
    have := hr.inj s s' _ _ p p' (hh.2.2 b s o h2 h1).2.1 (hh.2.2 b' s' o' h2' h1').2.1 (by rw [fA]; exact ho) (by rw [fA]; exact ho') hp1 hp2 hB
    subst this
    exact jA hh.1 h2 h2'
  · obtain ⟨h1, _⟩ := A7 e
    exact ⟨hw _ _ h1, h1⟩
  · have h1 := get e
    obtain ⟨s, h2⟩ := ofO h1
    have hp1 : φ (bh S n b) = some p := hp1
    rw [b9 h2] at hp1
    exact (hr.frz q hq).2 s _ p (hh.2.2 b s o h2 h1).2.1 (by rw [fA]; exact ho) hp1
def cG (S : List Nat) (n m : Nat) (H H' H2 : AH) : Prop := ∀ b o, H2.get b = some o → (∃ c o', c < m ∧ b = bh S n c ∧ H'.get c = some o' ∧ o'.own = true ∧ ltO m o' = true ∧ o = ck (bh S n) o') ∨ ((b < n ∨ n + (m - S.length) ≤ b) ∧ H.get b = some o ∧ (b ∈ S → o.own = false))
open Classical in
noncomputable def phA (φ ψ : Ph) (S : List Nat) (n m : Nat) : Ph := ⟨fun b => if h : ∃ c, c < m ∧ bh S n c = b then ψ h.choose else if b < n then φ b else none, fun q => φ.z q ∨ ψ.z q, φ.y, fun b => if h : ∃ c, c < m ∧ bh S n c = b then ψ.s h.choose else φ.s b⟩
theorem vV (hh : fO H n S O) {c d : Nat} (h : bh S n c = bh S n d) : c = d := by
  have lt : ∀ {i s}, S[i]? = some s → s < n := fun {i s} hs => by
    obtain ⟨_, _, h, _⟩ := hh.at hs; exact h
  cases hc : S[c]? with
  | some s =>
    cases hd : S[d]? with
    | some t =>
      rw [b9 hc, b9 hd] at h
      subst h
      exact jA hh.1 hc hd
    | none =>
      rw [b9 hc, gF (List.getElem?_eq_none_iff.1 hd)] at h
      have := lt hc; omega
  | none =>
    have l1 := List.getElem?_eq_none_iff.1 hc
    cases hd : S[d]? with
    | some t =>
      rw [b9 hd, gF l1] at h
      have := lt hd; omega
    | none =>
      have l2 := List.getElem?_eq_none_iff.1 hd
      rw [gF l1, gF l2] at h
      omega
theorem fD (hh : fO H n S O) {c : Nat} (hc : c < m) : phA φ ψ S n m (bh S n c) = ψ c := by
  have h : ∃ d, d < m ∧ bh S n d = bh S n c := ⟨c, hc, rfl⟩
  show (if h : ∃ d, d < m ∧ bh S n d = bh S n c then ψ h.choose else _) = _
  rw [dif_pos h, vV hh h.choose_spec.2]
theorem tH (hh : fO H n S O) {c : Nat} (hc : c < m) : (phA φ ψ S n m).s (bh S n c) = ψ.s c := by
  have h : ∃ d, d < m ∧ bh S n d = bh S n c := ⟨c, hc, rfl⟩
  show (if h : ∃ d, d < m ∧ bh S n d = bh S n c then ψ.s h.choose else _) = _
  rw [dif_pos h, vV hh h.choose_spec.2]
theorem n5 (hh : fO H n S O) {b : Nat} (hb : b < n ∨ n + (m - S.length) ≤ b) (hS : b ∉ S) : (phA φ ψ S n m).s b = φ.s b := by
  have h : ¬ ∃ d, d < m ∧ bh S n d = b := fun ⟨d, h1, e⟩ => by
    cases hd : S[d]? with
    | some s => rw [b9 hd] at e; subst e; exact hS (List.mem_of_getElem? hd)
    | none =>
      have := List.getElem?_eq_none_iff.1 hd
      rw [gF this] at e
      rcases hb with hb | hb <;> omega
  show (if h : ∃ d, d < m ∧ bh S n d = b then ψ.s h.choose else φ.s b) = _
  rw [dif_neg h]
theorem zc {b : Nat} (hb : b < n) (hS : b ∉ S) : phA φ ψ S n m b = φ b := by
  have h : ¬ ∃ d, d < m ∧ bh S n d = b := fun ⟨d, _, e⟩ => by
    cases hd : S[d]? with
    | some s => rw [b9 hd] at e; subst e; exact hS (List.mem_of_getElem? hd)
    | none => rw [gF (List.getElem?_eq_none_iff.1 hd)] at e; omega
  show (if h : ∃ d, d < m ∧ bh S n d = b then ψ h.choose else _) = _
  rw [dif_neg h, if_pos hb]
theorem vW (hr : HR φ H n h0 hp) (hh : fO H n S O) {b : Nat} (hb : b < n ∨ n + (m - S.length) ≤ b) (hS : b ∉ S) : phA φ ψ S n m b = φ b := by
  rcases hb with hb | hb
  · exact zc hb hS
  · have h : ¬ ∃ d, d < m ∧ bh S n d = b := fun ⟨d, h1, e⟩ => by
      cases hd : S[d]? with
      | some s => rw [b9 hd] at e; subst e; exact hS (List.mem_of_getElem? hd)
      | none =>
        have := List.getElem?_eq_none_iff.1 hd
        rw [gF this] at e; omega
    show (if h : ∃ d, d < m ∧ bh S n d = b then ψ h.choose else if b < n then φ b else none) = _
    rw [dif_neg h, if_neg (by omega)]
    cases e : φ b with
    | none => rfl
    | some p => have := (hr.dom b p e).1; omega
theorem x8 (hr : HR φ H n h0 hp) (hh : fO H n S O) (hm : S.length ≤ m) (hle : PLe ⟨fun b => φ (bh S n b), φ.z, φ.z, fun b => φ.s (bh S n b)⟩ ψ) : PLe φ (phA φ ψ S n m) := by
  refine ⟨fun b p e => ?_, fun _ h => .inl h, fun _ h => h⟩
  have hb := (hr.dom b p e).1
  by_cases hS : b ∈ S
  · obtain ⟨i, hi, rfl⟩ := List.mem_iff_getElem.1 hS
    have hi2 : S[i]? = some S[i] := List.getElem?_eq_getElem hi
    have := fD (φ := φ) (ψ := ψ) (m := m) hh (c := i) (by omega)
    rw [b9 hi2] at this
    rw [this]
    exact hle.b i p (by show φ (bh S n i) = _; rw [b9 hi2]; exact e)
  · rw [zc hb hS]; exact e
theorem HR.after (hr : HR φ H n h0 hp) (hh : fO H n S O) (hm : S.length ≤ m) (hle : PLe ⟨fun b => φ (bh S n b), φ.z, φ.z, fun b => φ.s (bh S n b)⟩ ψ) (hg : HR ψ H' n' (iY φ S O hp) g) (ha : cG S n m H H' H2) : HR (phA φ ψ S n m) H2 (n + (m - S.length)) h0 g := by
  have hple := x8 (m := m) hr hh hm hle
  have pull : ∀ b p, b < m → ψ b = some p → (phA φ ψ S n m).pull (bh S n) b = some p := fun b p hb e => by
    show phA φ ψ S n m (bh S n b) = _
    rw [fD hh hb]; exact e
  have hn0 : ∀ B, (iY φ S O hp).f B = none → h0.f B = none := fun B e => by
    rcases A8 e with h | h
    · exact h.base hr hh
    · cases q : h0.f B with
      | none => rfl
      | some o => have := (hr.base B o q).2; rw [h] at this; cases this
  have old : ∀ {b o p}, (b < n ∨ n + (m - S.length) ≤ b) → H.get b = some o → (b ∈ S → o.own = false) → φ b = some p → ∃ ob, h0.f p.B = o.under ob ∧ hp.f p.B = some ob ∧ ¬ rJ φ S O p.B ∧ OR φ p o ob := fun {b o p} hb e hS hp1 => by
    obtain ⟨ob, h1, h2, h3⟩ := hr.of e hp1
    refine ⟨ob, h1, h2, fun hgn => ?_, h3⟩
    by_cases ho : o.own = true
    · rcases hgn with ⟨i, s, o', p', g1, g2, g3, g4, g5⟩ | ⟨i, s, Q, g1, g2, g3⟩
      · have := hr.inj s b _ o p' p (hh.2.2 i s o' g1 g2).2.1 e (by rw [fA]; exact g3) ho g4 hp1 g5
        subst this
        have := hS (List.mem_of_getElem? g1)
        rw [this] at ho; cases ho
      · exact ((hr.sep s Q (hh.2.2 i s _ g1 g2).2.1).2 _ g3).2.1 b o p e ho hp1 rfl
    · have := hgn.base hr hh
      rw [this] at h1
      cases o <;> first | (exact absurd rfl ho; done) | cases h1
  have oldP : ∀ {b o}, (b < n ∨ n + (m - S.length) ≤ b) → H.get b = some o → (b ∈ S → o.own = false) → ∀ p, phA φ ψ S n m b = some p → o.own = true ∨ φ b ≠ none → φ b = some p := fun {b o} hb e hS p hp1 hq => by
    by_cases hbS : b ∈ S
    · have hf := hS hbS
      rcases hq with hq | hq
      · rw [hf] at hq; cases hq
      · cases hφ : φ b with
        | none => exact absurd hφ hq
        | some q =>
          have := hple.b b q hφ
          rw [hp1] at this; rw [this]
    · rw [vW hr hh hb hbS] at hp1; exact hp1
  have oldS : ∀ {b Q B}, H.get b = some (.sep Q) → b ∉ S → φ.s b B → ∃ ob, hp.f B = some ob ∧ (iY φ S O hp).f B = some ob := fun {b Q B} e hS hB => by
    obtain ⟨k1, k2⟩ := hr.sep b Q e
    obtain ⟨ob, h1⟩ := Q.ex _ _ _ B k1 hB
    obtain ⟨_, g2, _, g4⟩ := k2 B hB
    refine ⟨ob, h1, ?_⟩
    rw [ig (fun hgn => ?_)]
    · exact h1
    · rcases hgn with ⟨i, s, o', p', f1, f2, f3, f4, f5⟩ | ⟨i, s, Q', f1, f2, f3⟩
      · exact g2 s _ p' (hh.2.2 i s o' f1 f2).2.1 (by rw [fA]; exact f3) f4 f5
      · exact g4 s Q' (hh.2.2 i s _ f1 f2).2.1 (fun q => hS (by rw [← q]; exact List.mem_of_getElem? f1)) f3
  have sepS : ∀ {b : Nat} {Q : HP}, (b ∈ S → (AO.sep Q).own = false) → b ∉ S := fun h q => by cases h q
  refine ⟨fun b p e => ?_, fun b o e => ?_, fun b b' o o' p p' e e' ho ho' hp1 hp2 hB => ?_, fun b o e => ?_, Nat.le_trans hr.size hg.size, fun q hq => ?_, fun b Q e => ?_⟩
  rotate_left 5
  · rcases ha b _ e with ⟨c, o', hc, rfl, h1, h2, h3, h4⟩ | ⟨hb, h1, h2⟩
    · have h4 := jz h4.symm
      subst h4
      obtain ⟨k1, k2⟩ := hg.sep c Q h1
      rw [tH hh hc]
      refine ⟨Q.mono _ _ _ _ (fun q hq => Or.inr hq) k1, fun B hB => ?_⟩
      obtain ⟨g1, g2, g3, g4⟩ := k2 B hB
      refine ⟨⟨g1.1, hn0 B g1.2⟩, fun b' o' p' e1 e2 e3 => ?_, fun q hq => ?_, fun b' Q' e1 e2 e3 => ?_⟩
      · rcases ha b' o' e1 with ⟨d, x, hd, rfl, f1, f2, f3, rfl⟩ | ⟨hb', f1, f2⟩
        · rw [fD hh hd] at e3
          exact g2 d x p' f1 f2 e3
        · intro q
          obtain ⟨ob, j1, j2, j3, _⟩ := old hb' f1 f2 (oldP hb' f1 f2 p' e3 (.inl e2))
          rw [← q, ig j3, j2] at g1; cases g1.2
      · rcases hq with hq | hq
        · exact g3 q (hle.z q hq)
        · exact g3 q hq
      · rcases ha b' _ e1 with ⟨d, x, hd, rfl, f1, f2, f3, f4⟩ | ⟨hb', f1, f2⟩
        · have f4 := jz f4.symm
          subst f4
          rw [tH hh hd] at e3
          exact g4 d Q' f1 (fun q => e2 (by rw [q])) e3
        · have hS' := sepS f2
          rw [n5 hh hb' hS'] at e3
          obtain ⟨ob, _, j2⟩ := oldS f1 hS' e3
          rw [j2] at g1; cases g1.2
    · have hS := sepS h2
      obtain ⟨k1, k2⟩ := hr.sep b Q h1
      rw [n5 hh hb hS]
      have keepB : ∀ B, φ.s b B → g.f B = hp.f B := fun B hB => by
        obtain ⟨ob, j1, j2⟩ := oldS h1 hS hB
        rw [j1]; exact (hg.base _ _ j2).2
      refine ⟨Q.mono _ _ _ _ (fun q hq => Or.inl hq) (Q.loc _ _ hp _ (show hp.n ≤ g.n from hg.size) keepB k1), fun B hB => ?_⟩
      obtain ⟨g1, g2, g3, g4⟩ := k2 B hB
      obtain ⟨ob, j1, j2⟩ := oldS h1 hS hB
      have hsz : hp.n ≤ g.n := hg.size
      refine ⟨⟨Nat.lt_of_lt_of_le g1.1 hsz, g1.2⟩, fun b' o' p' e1 e2 e3 => ?_, fun q hq => ?_, fun b' Q' e1 e2 e3 => ?_⟩
      · rcases ha b' o' e1 with ⟨d, x, hd, rfl, f1, f2, f3, rfl⟩ | ⟨hb', f1, f2⟩
        · rw [fD hh hd] at e3
          intro q
          obtain ⟨ob', f4, _⟩ := hg.of f1 e3
          rw [AO.bk f2, q, j2] at f4; cases f4
        · exact g2 b' o' p' f1 e2 (oldP hb' f1 f2 p' e3 (.inl e2))
      · rcases hq with hq | hq
        · exact g3 q hq
        · intro q2
          rcases (hg.frz q hq).1.2 with k | k
          · exact g3 q (hle.y q k) q2
          · rw [q2, j2] at k; cases k
      · rcases ha b' _ e1 with ⟨d, x, hd, rfl, f1, f2, f3, f4⟩ | ⟨hb', f1, f2⟩
        · have f4 := jz f4.symm
          subst f4
          rw [tH hh hd] at e3
          have := ((hg.sep d Q' f1).2 B e3).1.2
          rw [j2] at this; cases this
        · rw [n5 hh hb' (sepS f2)] at e3
          exact g4 b' Q' f1 e2 e3
  · have e : (if h : ∃ c, c < m ∧ bh S n c = b then ψ h.choose else if b < n then φ b else none) = some p := e
    split at e
    · rename_i h
      obtain ⟨h1, h2⟩ := h.choose_spec
      refine ⟨?_, (hg.dom _ _ e).2⟩
      generalize h.choose = c at h1 h2
      cases hc : S[c]? with
      | some s => rw [b9 hc] at h2; obtain ⟨_, _, h3, _⟩ := hh.at hc; omega
      | none =>
        have := List.getElem?_eq_none_iff.1 hc
        rw [gF this] at h2; omega
    · split at e
      · have := hr.dom b p e
        have hsz : hp.n ≤ g.n := hg.size
        omega
      · cases e
  · rcases ha b o e with ⟨c, o', hc, rfl, h1, h2, h3, rfl⟩ | ⟨hb, h1, h2⟩
    · rcases hg.live c o' h1 with ⟨h4, h5⟩ | ⟨p, ob, h4, h5, h6, h7⟩
      · exact .inl ⟨by rw [fD hh hc]; exact h4, by rw [iv]; exact h5⟩
      · refine .inr ⟨p, ob, by rw [fD hh hc]; exact h4, ?_, h6, ?_⟩
        · rw [kg, AO.bk h2]
          rw [AO.bk h2] at h5
          exact hn0 _ h5
        · exact (OR.pull (χ := phA φ ψ S n m)).2 (h7.below (m := m) pull (fun _ h => .inr h) h3)
    · rcases hr.live b o h1 with ⟨h3, h4⟩ | ⟨p, ob, h3, _⟩
      · by_cases hbS : b ∈ S
        · obtain ⟨i, hi, rfl⟩ := List.mem_iff_getElem.1 hbS
          obtain ⟨o', g1, _, g2, g3⟩ := hh.at (List.getElem?_eq_getElem hi)
          rw [h1] at g2; injection g2 with g2
          rcases g3 with g3 | g3
          · have q := h2 hbS
            rw [g2] at h4 q
            rw [iv] at h4
            rw [fA] at q
            cases o' with
            | sep Q => cases q
            | cells l z => rw [show (AO.cells l z).free = (AO.cells l z).void from rfl, g3] at h4; cases h4
            | ro l => rw [show (AO.ro l).free = (AO.ro l).void from rfl, g3] at h4; cases h4
            | map es => cases h4
            | iter _ _ _ => cases h4
          · have := h2 hbS
            rw [g2, fA, g3] at this; cases this
        · exact .inl ⟨by rw [vW hr hh hb hbS]; exact h3, h4⟩
      · obtain ⟨ob, h4, h5, h6, h7⟩ := old hb h1 h2 h3
        exact .inr ⟨p, ob, hple.b b p h3, h4, (hg.base _ _ (by rw [ig h6]; exact h5)).2, h7.mono hple⟩
  · rcases ha b o e with ⟨c, x, hc, rfl, h1, h2, h3, rfl⟩ | ⟨hb, h1, h2⟩ <;> rcases ha b' o' e' with ⟨d, y, hd, rfl, k1, k2, k3, rfl⟩ | ⟨hb', k1, k2⟩
    · rw [fD hh hc] at hp1
      rw [fD hh hd] at hp2
      rw [hg.inj c d x y p p' h1 k1 h2 k2 hp1 hp2 hB]
    · exfalso
      rw [fD hh hc] at hp1
      have hp2' := oldP hb' k1 k2 p' hp2 (.inl ho')
      obtain ⟨ob, g1, g2, g3, _⟩ := old hb' k1 k2 hp2'
      obtain ⟨ob', g4, _⟩ := hg.of h1 hp1
      rw [AO.bk h2, hB, ig g3, g2] at g4; cases g4
    · exfalso
      rw [fD hh hd] at hp2
      have hp1' := oldP hb h1 h2 p hp1 (.inl ho)
      obtain ⟨ob, g1, g2, g3, _⟩ := old hb h1 h2 hp1'
      obtain ⟨ob', g4, _⟩ := hg.of k1 hp2
      rw [AO.bk k2, ← hB, ig g3, g2] at g4; cases g4
    · exact hr.inj b b' o o' p p' h1 k1 ho ho' (oldP hb h1 h2 p hp1 (.inl ho)) (oldP hb' k1 k2 p' hp2 (.inl ho')) hB
  · obtain ⟨_, h1⟩ := hr.base b o e
    have h2 : ¬ rJ φ S O b := fun hgn => by rw [hgn.base hr hh] at e; cases e
    exact hg.base b o (by rw [ig h2]; exact h1)
  · rcases hq with hq | hq
    · obtain ⟨⟨h1, h2⟩, h3⟩ := hr.frz q hq
      have hψ : ψ.z q := hle.z q hq
      obtain ⟨⟨k1, k2⟩, k3⟩ := hg.frz q hψ
      refine ⟨⟨FzR.mono (φ := ψ) (ψ := phA φ ψ S n m) (fun _ h => Or.inr h) k1, h2⟩, fun b o p e ho hp1 => ?_⟩
      rcases ha b o e with ⟨c, x, hc, rfl, g1, g2, g3, rfl⟩ | ⟨hb, g1, g2⟩
      · rw [fD hh hc] at hp1
        exact k3 c x p g1 g2 hp1
      · exact h3 b o p g1 ho (oldP hb g1 g2 p hp1 (.inl ho))
    · obtain ⟨⟨k1, k2⟩, k3⟩ := hg.frz q hq
      refine ⟨⟨FzR.mono (φ := ψ) (ψ := phA φ ψ S n m) (fun _ h => Or.inr h) k1, ?_⟩, fun b o p e ho hp1 => ?_⟩
      · rcases k2 with k2 | k2
        · exact (hr.frz q (hle.y q k2)).1.2
        · exact .inr (hn0 _ k2)
      · rcases ha b o e with ⟨c, x, hc, rfl, g1, g2, g3, rfl⟩ | ⟨hb, g1, g2⟩
        · rw [fD hh hc] at hp1
          exact k3 c x p g1 g2 hp1
        · have hp1' := oldP hb g1 g2 p hp1 (.inl ho)
          obtain ⟨ob, j1, j2, j3, _⟩ := old hb g1 g2 hp1'
          rcases k2 with k2 | k2
          · exact (hr.frz q (hle.y q k2)).2 b o p g1 ho hp1'
          · intro hB
            rw [← hB, ig j3, j2] at k2; cases k2
end
noncomputable def iP (S : List Nat) (n : Nat) (H : AH) : List (Nat × Option AO) → AH
  | [] => H
  | x :: l => (iP S n H l).set (x.2.map (ck (bh S n))) aa (bh S n x.1)
theorem vX {S : List Nat} {n : Nat} {H : AH} : ∀ {l : List (Nat × Option AO)} {b : Nat} {o : AO}, (iP S n H l).get b = some o → (∃ x ∈ l, ∃ o', b = bh S n x.1 ∧ x.2 = some o' ∧ o = ck (bh S n) o') ∨ (H.get b = some o ∧ ∀ x ∈ l, b ≠ bh S n x.1)
  | [], b, o, h => .inr ⟨h, fun x hx => by cases hx⟩
  | x :: l, b, o, h => by
    rcases PM.ak aa _ _ b o (show ((iP S n H l).set (x.2.map (ck (bh S n))) aa (bh S n x.1)).get b = some o from h) with ⟨h1, h2⟩ | ⟨h1, h2⟩
    · rw [Option.map_eq_some_iff] at h2
      obtain ⟨o', h3, h4⟩ := h2
      exact .inl ⟨x, List.mem_cons_self, o', h1, h3, h4.symm⟩
    · rcases vX h2 with ⟨y, h3, h4⟩ | ⟨h3, h4⟩
      · exact .inl ⟨y, List.mem_cons_of_mem _ h3, h4⟩
      · refine .inr ⟨h3, fun y hy => ?_⟩
        rcases List.mem_cons.1 hy with rfl | hy
        · exact h1
        · exact h4 y hy
theorem cG.put {S : List Nat} {n m : Nat} {H H' : AH} {l : List (Nat × Option AO)} (hm : S.length ≤ m) (hl : l.map (·.1) = List.range m) (h : ∀ x ∈ l, ∀ o, x.2 = some o → H'.get x.1 = some o ∧ o.own = true ∧ ltO m o = true) : cG S n m H H' (iP S n H l) := fun b o e => by
  rcases vX e with ⟨x, h1, o', h2, h3, h4⟩ | ⟨h1, h2⟩
  · obtain ⟨k1, k2, k3⟩ := h x h1 o' h3
    have : x.1 ∈ List.range m := hl ▸ List.mem_map.2 ⟨x, h1, rfl⟩
    exact .inl ⟨x.1, o', List.mem_range.1 this, h2, k1, k2, k3, h4⟩
  · have key : ∀ c, c < m → b ≠ bh S n c := fun c hc => by
      have : c ∈ l.map (·.1) := hl ▸ List.mem_range.2 hc
      obtain ⟨x, h3, rfl⟩ := List.mem_map.1 this
      exact h2 x h3
    refine .inr ⟨?_, h1, fun hS => ?_⟩
    · by_cases q : b < n
      · exact .inl q
      · refine .inr ?_
        rcases Nat.lt_or_ge b (n + (m - S.length)) with q2 | q2
        · exfalso
          refine key (S.length + (b - n)) (by omega) ?_
          rw [gF (by omega)]; omega
        · exact q2
    · obtain ⟨i, hi, rfl⟩ := List.mem_iff_getElem.1 hS
      exact absurd (b9 (n := n) (List.getElem?_eq_getElem hi)).symm (key i (by omega))
theorem cG.same {S : List Nat} {n : Nat} {H H' : AH} (h : ∀ (i s : Nat) o, S[i]? = some s → H.get s = some o → o.own = true → ∃ o', H'.get i = some o' ∧ o'.own = true ∧ ltO S.length o' = true ∧ o = ck (bh S n) o') : cG S n S.length H H' H := fun b o e => by
  by_cases hb : b ∈ S
  · obtain ⟨i, hi, rfl⟩ := List.mem_iff_getElem.1 hb
    by_cases ho : o.own = true
    · obtain ⟨o', h1, h2, h3, h4⟩ := h i S[i] o (List.getElem?_eq_getElem hi) e ho
      exact .inl ⟨i, o', hi, (b9 (List.getElem?_eq_getElem hi)).symm, h1, h2, h3, h4⟩
    · exact .inr ⟨by omega, e, fun _ => by simpa using ho⟩
  · exact .inr ⟨by omega, e, fun h => absurd h hb⟩
theorem cw {f : FuncId} {run : List AV → AH → Nat → PK → Prop} (hrun : aF f run) {φ : Ph} {H : AH} {n : Nat} {h0 hp : Hp} {S : List Nat} {O : List AO} {args0 : List AV} {κ : PK} {K : KH} {vs : Array Value} (hic : aj Try.prog f = true)
    (hr : HR φ H n h0 hp) (hh : fO H n S O) (hargs : VRs φ (dR (bh S n) args0) vs.toList) (hk : bV φ h0 κ K)
    {Q : PK} (h : run args0 (mkH (eu O 0)) S.length Q) (hQ : ∀ u H' n', Q u H' n' → ∃ m H2, S.length ≤ m ∧ cG S n m H H' H2 ∧ ltV m u = true ∧ κ (ren (bh S n) u) H2 (n + (m - S.length))) : cL Try.prog f vs hp K := by
  have key : Wf hp → cL Try.prog f vs hp K := fun hw => hrun args0 _ _ _ h ⟨fun b => φ (bh S n b), φ.z, φ.z, fun b => φ.s (bh S n b)⟩ (iY φ S O hp) hp vs K (hr.small hh hw) (VRs.cz (φ := φ.pull (bh S n)) (ψ := ⟨fun b => φ (bh S n b), φ.z, φ.z, fun b => φ.s (bh S n b)⟩) ⟨fun _ _ h => h, fun _ h => h⟩ _ _ ((VRs.pull (χ := φ) (r := bh S n) args0 vs.toList).1 hargs)) fun ψ u H' n' w g hle hg hu hq => by
    obtain ⟨m, H2, hm, ha, hl, hκ⟩ := hQ u H' n' hq
    exact hk _ _ _ _ w g (x8 hr hh hm hle) (hr.after hh hm hle hg ha) ((VR.pull (χ := phA φ ψ S n m) u w).2 (VR.below (ψ := ψ) (m := m) (fun b p hb e => by
      show phA φ ψ S n m (bh S n b) = _
      rw [fD hh hb]; exact e) (fun _ h => Or.inr h) u w hl hu)) hκ
  exact ⟨hic, fun w hi => (key hi.wf).2 w hi⟩
theorem HR.JF {φ : Ph} {H : AH} {n : Nat} {h0 h : Hp} (hr : HR φ H n h0 h) {b : Nat} {o o' : AO} (hb : H.get b = some o) (hown : o.own = true) (hown' : o'.own = true) (hv : o.free = true → o'.free = true) (ho : ∀ p ob, φ b = some p → h.f p.B = some ob → OR φ p o ob → OR φ p o' ob) (hns : o'.AI = none := by rfl) : HR φ (H.set (some o') aa b) n h0 h := by
  have back : ∀ z r, (H.set (some o') aa b).get z = some r → r.own = true → ∃ r', H.get z = some r' ∧ r'.own = true := fun z r hz hw2 => by
    rcases PM.ak aa H b z r hz with ⟨rfl, _⟩ | ⟨_, h2⟩
    · exact ⟨o, hb, hown⟩
    · exact ⟨r, h2, hw2⟩
  refine ⟨hr.dom, fun x q hx => ?_, fun x y q q' px py hx hy hwx hwy hpx hpy e => ?_, hr.base, hr.size, fun q hq => ⟨(hr.frz q hq).1, fun y oy py hy hwy hpy => ?_⟩, hr.lR (Nat.le_refl _) (fun x Q hx => ?_) (fun _ h => h) (fun _ h => .inl h) (fun _ _ _ _ _ => rfl) fun b' o1 p' e1 e2 e3 => ?_⟩
  rotate_left 3
  · rcases PM.ak aa H b x _ hx with ⟨_, h2⟩ | ⟨_, h2⟩
    · injection h2 with h2; subst h2; cases hns
    · exact ⟨h2, rfl⟩
  · obtain ⟨r, h1, h2⟩ := back b' o1 e1 e2
    exact .inl ⟨b', r, p', h1, h2, e3, rfl⟩
  · rcases PM.ak aa H b x q hx with ⟨rfl, h2⟩ | ⟨h1, h2⟩
    · injection h2 with h2
      subst h2
      rcases hr.live x o hb with ⟨h3, h4⟩ | ⟨p, ob, h3, h4, h5, h6⟩
      · exact .inl ⟨h3, hv h4⟩
      · exact .inr ⟨p, ob, h3, by rw [AO.bk hown']; rw [AO.bk hown] at h4; exact h4, h5, ho p ob h3 h5 h6⟩
    · exact hr.live x q h2
  · obtain ⟨r, hr1, hr3⟩ := back x q hx hwx
    obtain ⟨r', hr2, hr4⟩ := back y q' hy hwy
    exact hr.inj x y r r' px py hr1 hr2 hr3 hr4 hpx hpy e
  · obtain ⟨r, hr1, hr3⟩ := back y oy hy hwy
    exact (hr.frz q hq).2 y r py hr1 hr3 hpy
theorem HR.Db {φ : Ph} {H : AH} {n : Nat} {h0 h : Hp} (hr : HR φ H n h0 h) {b : Nat} {l l' : List AV} {z : Bool} (hb : H.get b = some (.cells l z)) (hl : l'.length = l.length) (hc : ∀ (i : Nat) (a' : AV), l'[i]? = some a' → ∃ a, l[i]? = some a ∧ ∀ v, VR φ a v → VR φ a' v) : HR φ (H.set (some (.cells l' z)) aa b) n h0 h :=
  hr.JF hb rfl rfl (fun q => by cases l with
    | nil => cases l' with
      | nil => rfl
      | cons _ _ => simp at hl
    | cons _ _ => cases q) fun p ob _ _ ⟨c, t, fz, h1, h2, h3, h4, h5, h6⟩ => ⟨c, t, fz, h1, by rw [hl]; exact h2, h3, h4, h5, fun i a' hi => by
      obtain ⟨a, h7, h8⟩ := hc i a' hi
      obtain ⟨v, h9, h10⟩ := h6 i a h7
      exact ⟨v, h9, h8 v h10⟩⟩
end Go.Proofs.Ythjggjhebbdkdaa
namespace Go.Proofs.Ythjggjhebbdkdaa
open Go Go.RowKit Go.ChangeShapes Go.WideShapes
section
variable {H : Type} {enc : TypeId × Value → H} {P : Program} {W : World} {held : Bool}
theorem qu {t e : TypeId} {ks : List Kd} {d c fuel : Nat} {v : Value} {D : DataW H} {ps : List MemPlace} (ht : P.underlying t = some (.slice e)) (hk : vR P d e = some ks) (hc : ks.length = c) (hc2 : P.cellsOf e = c) (hc0 : c ≠ 0)
    (hf : DataW.trod enc P W 0 (fun _ => true) held fuel t [v] = some (D, ps)) : ∃ (rows : List (List Value)), (∀ r ∈ rows, gN (TrS enc P W 0 (fun _ => true) held) ks r ∧ r.length = c) ∧ (rows = [] ∨ ∃ E F, D = .slice ((List.range rows.length).map F) E) ∧ rows.length ≤ maxLen ∧
      ((rows = [] ∧ ∃ a C, v = .slice a 0 C ∧ (a = none → C = 0)) ∨ ∃ b off cap cc u fz, v = .slice (some ⟨b, off, none⟩) rows.length cap ∧ rows.length ≤ cap ∧ W.heap[b]? = some (.cells cc u fz) ∧ off + rows.length * c ≤ cc.size ∧ ∀ i a, rows.flatten[i]? = some a → cc[off + i]? = some a) := by
  rcases Go.Deep.open_slice ht hf with ⟨h0, h1⟩ | ⟨a, len, cap, m, n, Df, Pf, h1, _, hl, hm, hmm, hx, hel⟩
  · injection h0 with h0
    subst h0
    exact ⟨[], (fun r h => by cases h), .inl rfl, Nat.zero_le _, .inl ⟨rfl, none, 0, rfl, fun _ => rfl⟩⟩
  · injection h1 with h1
    subst h1
    have hmc : m = cap := hmm
    subst hmc
    by_cases hcap : len = 0
    · subst hcap
      exact ⟨[], (fun r h => by cases h), .inl rfl, Nat.zero_le _, .inl ⟨rfl, some a, m, rfl, fun q => by cases q⟩⟩
    · have hcells : ∀ i, i < m → ∃ cs', cs'.length = c ∧ gN (TrS enc P W 0 (fun _ => true) held) ks cs' ∧ ∀ q, q < c → W.cell? ((a.add (i * c)).add q) = cs'[q]? := fun i hi => by
        obtain ⟨cs', g1, g2⟩ := hel i hi
        rw [hc2] at g1
        obtain ⟨_, g3, g4⟩ := World.cells?_some g1
        exact ⟨cs', g3, qt d e ks n cs' _ hk g2, fun q hq => g4 q hq⟩
      obtain ⟨R, hR⟩ := Go.Deep.choose_lt hcells
      have hspot : a.spot = none ∧ ∃ cc u fz, W.heap[a.block]? = some (.cells cc u fz) := by
        obtain ⟨g1, _, g3⟩ := hR 0 (by omega)
        have g4 := g3 0 (by omega)
        rw [List.getElem?_eq_getElem (by omega)] at g4
        obtain ⟨cc, u, fz, g5, g6, _⟩ := C8 g4
        have e0 : (a.add (0 * c)).add 0 = a := by simp [Addr.add]
        rw [e0] at g5 g6
        exact ⟨g6, cc, u, fz, g5⟩
      obtain ⟨hs, cc, u, fz, hb⟩ := hspot
      obtain ⟨b, off, sp⟩ := a
      simp only at hs hb
      subst hs
      have hget : ∀ i q, i < m → q < c → cc[off + i * c + q]? = (R i)[q]? := fun i q hi hq => by
        have g := (hR i hi).2.2 q hq
        have e0 : ((⟨b, off, none⟩ : Addr).add (i * c)).add q = (⟨b, off, none⟩ : Addr).add (i * c + q) := Go.Deep.add_add _ _ _
        rw [e0, List.getElem?_eq_getElem (by rw [(hR i hi).1]; exact hq)] at g
        have := Fs hb g
        rw [Nat.add_assoc, this, List.getElem?_eq_getElem (by rw [(hR i hi).1]; exact hq)]
      have hrl : ((List.range len).map R).length = len := by simp
      have hmem : ∀ r ∈ (List.range len).map R, ∃ i, i < len ∧ r = R i := fun r hr => by
        simp only [List.mem_map, List.mem_range] at hr
        obtain ⟨i, hi, rfl⟩ := hr
        exact ⟨i, hi, rfl⟩
      have hrc : ∀ r ∈ (List.range len).map R, r.length = c := fun r hr => by
        obtain ⟨i, hi, rfl⟩ := hmem r hr
        exact (hR i (by omega)).1
      have hfl := vS _ hrc
      rw [hrl] at hfl
      refine ⟨(List.range len).map R, fun r hr => ⟨?_, hrc r hr⟩, .inr ?_, ?_, .inr ⟨b, off, m, cc, u, fz, by rw [hrl], by rw [hrl]; exact hl, hb, ?_, fun i a hi => ?_⟩⟩
      · obtain ⟨i, hi, rfl⟩ := hmem r hr
        exact (hR i (by omega)).2.1
      · injection hx with hx _
        exact ⟨_, Df, by rw [hrl]; exact hx⟩
      · rw [hrl]; omega
      · rw [hrl]
        have g := hget (len - 1) (c - 1) (by omega) (by omega)
        rw [List.getElem?_eq_getElem (by rw [(hR _ (by omega)).1]; omega)] at g
        have := (Array.getElem?_eq_some_iff.1 g).1
        have e1 : (len - 1) * c + c = len * c := by rw [← Nat.succ_mul]; congr 1; omega
        omega
      · have hi2 := (List.getElem?_eq_some_iff.1 hi).1
        rw [hfl] at hi2
        have h0 := Nat.div_add_mod i c
        have hq := Nat.mod_lt i (Nat.pos_of_ne_zero hc0)
        have hj : i / c < len := (Nat.div_lt_iff_lt_mul (Nat.pos_of_ne_zero hc0)).2 hi2
        have ei : i = i / c * c + i % c := by rw [Nat.mul_comm]; omega
        rw [ei, y9 _ hrc _ _ hq] at hi
        have e2 : ((List.range len).map R)[i / c]? = some (R (i / c)) := by simp [hj]
        rw [e2, Option.bind_some] at hi
        have := hget (i / c) (i % c) (by omega) hq
        rw [hi, Nat.add_assoc, ← ei] at this
        exact this
def phF (z : Fz → Prop) : Ph := ⟨fun _ => none, z, z, fun _ _ => False⟩
def jm (W : World) (z : Fz → Prop) : Prop := ∀ q, z q → FzR (phF z) (eK W) q
theorem jm.none : jm W fun _ => False := fun _ h => h.elim
theorem jm.or {z y : Fz → Prop} (h : jm W z) (k : jm W y) : jm W fun q => z q ∨ y q := fun q hq => hq.elim (fun hq => FzR.mono (φ := phF z) (ψ := phF _) (fun _ h => Or.inl h) (h q hq)) fun hq => FzR.mono (φ := phF y) (ψ := phF _) (fun _ h => Or.inr h) (k q hq)
theorem HR.frs {z : Fz → Prop} (h : jm W z) : HR (phF z) .nil 0 (eK W) (eK W) :=
  ⟨fun _ _ h => (by cases h), fun _ _ h => (by cases h), fun _ _ _ _ _ _ h => (by cases h), fun b o h => ⟨(Array.getElem?_eq_some_iff.1 h).1, h⟩, Nat.le_refl _, fun q hq => ⟨⟨h q hq, .inl hq⟩, fun _ _ _ h => by cases h⟩, fun _ _ h => by cases h⟩
theorem zd {b off cap m k : Nat} {cc : Array Value} {u : TypeId} {fz : Nat × Nat} {L : List AV} {vs : List Value} (hb : W.heap[b]? = some (.cells cc u fz)) (hcap : m ≤ cap) (hL : L.length = m * k) (hsz : off + m * k ≤ cc.size) (hst : L.all rI = true) {z : Fz → Prop} (hfz : z ⟨b, off, L⟩) (hv : VRs (phF z) L vs) (hcell : ∀ i a, vs[i]? = some a → cc[off + i]? = some a) :
    FzR (phF z) (eK W) ⟨b, off, L⟩ ∧ ∀ χ : Ph, (∀ q, z q → χ.z q) → VR χ (.fr m k L) (.slice (some ⟨b, off, none⟩) m cap) := by
  refine ⟨⟨⟨(Array.getElem?_eq_some_iff.1 hb).1, hst⟩, cc, u, fz, hb, (show off + L.length ≤ cc.size by omega), fun i a e => ?_⟩, fun χ hχ => ?_⟩
  · obtain ⟨v, h1, h2⟩ := hv.at e
    exact ⟨v, hcell i v h1, h2⟩
  · have : VR χ (.fr m k L) (.slice (some ⟨(⟨b, off, L⟩ : Fz).B, (⟨b, off, L⟩ : Fz).s + 0, .none⟩) m cap) := .fr (q := ⟨b, off, L⟩) (o := 0) (hχ _ hfz) hcap (cD hL)
    exact this
theorem vY {Tr : TypeId → Value → Prop} : ∀ {rows : List (List Value)}, (∀ r ∈ rows, gN Tr [.int .i64, .int .i64] r) → ∀ φ : Ph, VRs φ (smp (rows.map jl)) rows.flatten
  | [], _, φ => .nil
  | r :: rows, h, φ => by
    obtain ⟨g1, g2⟩ := h r List.mem_cons_self
    match r, g1, g2 with
    | [v, w], _, g2 =>
      obtain ⟨a, rfl, ha⟩ := g2 0 _ v rfl rfl
      obtain ⟨b, rfl, hb⟩ := g2 1 _ w rfl rfl
      exact .cons (.si _ _) (.cons (.si _ _) (vY (fun x hx => h x (List.mem_cons_of_mem _ hx)) φ))
theorem x9 {t e : TypeId} {d fuel : Nat} {v : Value} {D : DataW H} {ps : List MemPlace} (ht : P.underlying t = some (.slice e)) (hk : vR P d e = some [.int .i64, .int .i64]) (hc2 : P.cellsOf e = 2) (hf : DataW.trod enc P W 0 (fun _ => true) held fuel t [v] = some (D, ps)) :
    ∃ (L : Smp) (z : Fz → Prop), (∀ x ∈ L, aM x.1 ∧ aM x.2) ∧ jm W z ∧ (∀ χ : Ph, (∀ q, z q → χ.z q) → VR χ (.fr L.length 2 (smp L)) v) ∧ (L = [] ∨ ∃ E F, D = .slice ((List.range L.length).map F) E) ∧ L.length ≤ maxLen := by
  obtain ⟨rows, h1, h2, h3, h4⟩ := qu ht hk rfl hc2 (by decide) hf
  obtain ⟨_, g2⟩ := vT fun r hr => (h1 r hr).1
  rcases h4 with ⟨rfl, a, C, rfl, hC⟩ | ⟨b, off, cap, cc, u, fz, rfl, hcap, hb, hsz, hcell⟩
  · exact ⟨[], fun _ => False, (fun x h => by cases h), .none, fun χ _ => .fre hC, .inl rfl, Nat.zero_le _⟩
  · have hst : (smp (rows.map jl)).all rI = true := by
      rw [List.all_eq_true]
      intro y hy
      have := List.all_eq_true.1 (ba (rows.map jl)) y hy
      cases y <;> first | rfl | cases this
    obtain ⟨k1, k2⟩ := zd (m := rows.length) (k := 2) (L := smp (rows.map jl)) (z := fun q => q = ⟨b, off, smp (rows.map jl)⟩) hb hcap (by rw [aG, List.length_map]) hsz hst rfl (vY (fun r hr => (h1 r hr).1) _) hcell
    exact ⟨rows.map jl, fun q => q = ⟨b, off, smp (rows.map jl)⟩, g2, fun q hq => by subst hq; exact k1, fun χ hχ => by rw [List.length_map]; exact k2 χ hχ, by rw [List.length_map]; exact h2.imp (fun q => by rw [q]; rfl) id, by rw [List.length_map]; exact h3⟩
theorem oJ {b0 : Nat} {t e : TypeId} {v : Value} (ht : P.underlying t = some (.slice e)) (hval : Value.okWide P W .any b0 t v) : v.cells.toList = [v] := by
  rcases oV ht hval with rfl | ⟨b, off, len, cap, cc, u, fz, rfl, _⟩ <;> rfl
theorem qw {ts : List TypeId} {ds : List (DataW H)} (h : (DataW.weightsEach P ts ds).all (· ≤ reachBytes) = true) {j n : Nat} {t e : TypeId} {D : DataW H} (ht : ts[j]? = some t) (hd : ds[j]? = some D) (hD : n = 0 ∨ ∃ E F, D = .slice ((List.range n).map F) E) (hu : P.underlying t = some (.slice e)) (hb : 16 ≤ P.bytesOf e) : n ≤ 8796093022208 := by
  rcases hD with rfl | ⟨E, F, rfl⟩
  · omega
  · have := sized_slice h ht hd hu
    rw [List.length_map, List.length_range] at this
    unfold reachBytes at this
    have h2 : n * 16 ≤ n * P.bytesOf e := Nat.mul_le_mul_left n hb
    have h3 : n * P.bytesOf e ≤ (n + E.length) * P.bytesOf e := Nat.mul_le_mul_right _ (Nat.le_add_right _ _)
    omega
end
end Go.Proofs.Ythjggjhebbdkdaa
namespace Go.Proofs.Ythjggjhebbdkdaa
open Go Go.RowKit
abbrev Pk := List ((Nat × Nat) × List AV)
def oW (p : Nat × Nat) : Value := .pointer (some ⟨p.1, p.2, none⟩)
def bW (p : Nat × Nat) : AV := .any (oW p)
def pj (p : Nat × Nat) (l : List AV) (h : Hp) : Prop := l.all flat.flat1 = true ∧ ∃ T c t, h.f p.1 = some (.cells c t (0, 0)) ∧ l.length ≤ T ∧ p.2 + T ≤ c.size ∧ CR Ph.no c p.2 l
def pkB (Cs : Pk) : List Nat := Cs.map fun c => c.1.1
theorem ze {A B : Pk} {p : Nat × Nat} {l : List AV} : (pkB (A ++ (p, l) :: B)).Nodup ↔ p.1 ∉ pkB (A ++ B) ∧ (pkB (A ++ B)).Nodup := by
  have h : (pkB (A ++ (p, l) :: B)).Perm (p.1 :: pkB (A ++ B)) := (List.perm_middle (l₁ := A) (l₂ := B) (a := (p, l))).map _
  rw [h.nodup_iff, List.nodup_cons]
def pk (Cs : Pk) : HP where
  P _ S h := (∀ B, S B → ∃ o, h.f B = some o) ∧ (pkB Cs).Nodup ∧ ∀ c ∈ Cs, S c.1.1 ∧ pj c.1 c.2 h
  loc z S h g _ e hp := ⟨fun B hB => by
    obtain ⟨o, ho⟩ := hp.1 B hB
    exact ⟨o, (e B hB).trans ho⟩, hp.2.1, fun c hc => ⟨(hp.2.2 c hc).1, by
    obtain ⟨k1, T, c', t, k2, k3⟩ := (hp.2.2 c hc).2
    exact ⟨k1, T, c', t, (e _ (hp.2.2 c hc).1).trans k2, k3⟩⟩⟩
  mono _ _ _ _ _ h := h
  ex _ _ _ B h hB := h.1 B hB
theorem PM.bp {α : Type} {v : Option α} : ∀ (f : Nat) (t : PM α) (n : Nat), n + 1 < 2 ^ f → (PM.set v f t n).get n = v
  | 0, t, n, h => by simp at h
  | f + 1, .nil, 0, h => rfl
  | f + 1, .node l u r, 0, h => rfl
  | f + 1, .nil, n + 1, h => by
    have h2 : n / 2 + 1 < 2 ^ f := by rw [Nat.pow_succ] at h; omega
    rw [PM.vm]
    split
    · rename_i q
      rw [PM.bf, if_pos q]; exact PM.bp f .nil (n / 2) h2
    · rename_i q
      rw [PM.bf, if_neg q]; exact PM.bp f .nil (n / 2) h2
  | f + 1, .node l u r, n + 1, h => by
    have h2 : n / 2 + 1 < 2 ^ f := by rw [Nat.pow_succ] at h; omega
    rw [PM.rY]
    split
    · rename_i q
      rw [PM.bf, if_pos q]; exact PM.bp f l (n / 2) h2
    · rename_i q
      rw [PM.bf, if_neg q]; exact PM.bp f r (n / 2) h2
theorem aD {n : Nat} (h : n < 1000000) : n + 1 < 2 ^ aa := by
  have : (1000001 : Nat) < 2 ^ aa := by show 1000001 < 2 ^ 40; decide
  omega
section
variable {φ : Ph} {H : AH} {n : Nat} {h0 h : Hp} {b : Nat} {A B : Pk} {p : Nat × Nat} {l l' : List AV}
theorem HR.my (hr : HR φ H n h0 h) {Q : HP} (hb : H.get b = some (.sep Q)) : φ b = none := by
  rcases hr.live b _ hb with ⟨h1, _⟩ | ⟨q, ob, _, _, _, h4⟩
  · exact h1
  · exact h4.elim
theorem HR.zf (hr : HR φ H n h0 h) (hbn : b < n) (hb : H.get b = some (.sep (pk (A ++ (p, l) :: B)))) :
    ∃ ψ T, PLe φ ψ ∧ ψ n = some ⟨p.1, p.2, T⟩ ∧ HR ψ ((H.set (some (.sep (pk (A ++ B)))) aa b).set (some (.cells l true)) aa n) (n + 1) h0 h := by
  obtain ⟨⟨s1, s2, s3⟩, s4⟩ := hr.sep b _ hb
  obtain ⟨hS, hfl, T, c, t, hc1, hc2, hc3, hc4⟩ := s3 (p, l) (by simp)
  obtain ⟨⟨k1, k2⟩, k3, k4, k5⟩ := s4 p.1 hS
  have hnd : p.1 ∉ pkB (A ++ B) ∧ (pkB (A ++ B)).Nodup := ze.1 s2
  have hbo := hr.my hb
  have hn0 : φ n = none := by
    cases e : φ n with
    | none => rfl
    | some q => exact absurd (hr.dom n q e).1 (Nat.lt_irrefl _)
  let ψ : Ph := ⟨fun x => if x = n then some ⟨p.1, p.2, T⟩ else φ x, φ.z, φ.y, fun x => if x = b then (fun X => φ.s b X ∧ X ≠ p.1) else φ.s x⟩
  have hle : PLe φ ψ := ⟨fun x q e => by
    show (if x = n then _ else φ x) = some q
    rw [if_neg (fun q => by subst q; rw [hn0] at e; cases e)]; exact e, fun _ h => h, fun _ h => h⟩
  have ψn : ψ n = some ⟨p.1, p.2, T⟩ := if_pos rfl
  have ψo : ∀ x, x ≠ n → ψ x = φ x := fun x hx => if_neg hx
  have cs : ∀ x o, ((H.set (some (.sep (pk (A ++ B)))) aa b).set (some (.cells l true)) aa n).get x = some o → (x = n ∧ o = .cells l true) ∨ (x ≠ n ∧ ((x = b ∧ o = .sep (pk (A ++ B))) ∨ (x ≠ b ∧ H.get x = some o))) := fun x o hx => by
    rcases PM.ak aa _ n x o hx with ⟨h1, h2⟩ | ⟨h1, h2⟩
    · injection h2 with h2; exact .inl ⟨h1, h2.symm⟩
    · rcases PM.ak aa H b x o h2 with ⟨h3, h4⟩ | ⟨h3, h4⟩
      · injection h4 with h4; exact .inr ⟨h1, .inl ⟨h3, h4.symm⟩⟩
      · exact .inr ⟨h1, .inr ⟨h3, h4⟩⟩
  have old : ∀ x o q, ((H.set (some (.sep (pk (A ++ B)))) aa b).set (some (.cells l true)) aa n).get x = some o → o.own = true → ψ x = some q → (x = n ∧ q = ⟨p.1, p.2, T⟩) ∨ (x ≠ n ∧ H.get x = some o ∧ φ x = some q) := fun x o q hx ho hq => by
    rcases cs x o hx with ⟨h1, _⟩ | ⟨h1, ⟨h3, _⟩ | ⟨h3, h4⟩⟩
    · subst h1; rw [ψn] at hq; injection hq with hq; exact .inl ⟨rfl, hq.symm⟩
    · subst h3; rw [ψo _ h1, hbo] at hq; cases hq
    · rw [ψo _ h1] at hq; exact .inr ⟨h1, h4, hq⟩
  refine ⟨ψ, T, hle, ψn, ⟨fun x q hx => ?_, fun x o hx => ?_, fun x y o o' q q' hx hy ho ho' hq hq' e => ?_, hr.base, hr.size, fun q hq => ?_, fun x Q hx => ?_⟩⟩
  · by_cases hxn : x = n
    · subst hxn; rw [ψn] at hx; injection hx with hx; subst hx
      exact ⟨Nat.lt_succ_self _, k1⟩
    · rw [ψo _ hxn] at hx
      have := hr.dom x q hx
      exact ⟨by omega, this.2⟩
  · rcases cs x o hx with ⟨rfl, rfl⟩ | ⟨h1, ⟨rfl, rfl⟩ | ⟨h3, h4⟩⟩
    · exact .inr ⟨_, _, ψn, k2, hc1, c, t, (0, 0), rfl, hc2, hc3, fP _ _, fun _ => rfl, CR.cz (φ := Ph.no) (ψ := ψ) ⟨(fun _ _ h => by cases h), fun _ h => h.elim⟩ hc4⟩
    · exact .inl ⟨by rw [ψo _ h1]; exact hbo, rfl⟩
    · rcases hr.live x o h4 with ⟨g1, g2⟩ | ⟨q, ob, g1, g2, g3, g4⟩
      · exact .inl ⟨by rw [ψo _ h1]; exact g1, g2⟩
      · exact .inr ⟨q, ob, by rw [ψo _ h1]; exact g1, g2, g3, g4.mono hle⟩
  · rcases old x o q hx ho hq with ⟨rfl, rfl⟩ | ⟨a1, a2, a3⟩ <;> rcases old y o' q' hy ho' hq' with ⟨rfl, rfl⟩ | ⟨b1, b2, b3⟩
    · rfl
    · exact absurd e.symm (k3 y o' q' b2 ho' b3)
    · exact absurd e (k3 x o q a2 ho a3)
    · exact hr.inj x y o o' q q' a2 b2 ho ho' a3 b3 e
  · refine ⟨⟨FzR.mono (φ := φ) (ψ := ψ) hle.z (hr.frz q hq).1.1, (hr.frz q hq).1.2⟩, fun x o px hx ho hpx => ?_⟩
    rcases old x o px hx ho hpx with ⟨rfl, rfl⟩ | ⟨a1, a2, a3⟩
    · exact fun e => k4 q hq e.symm
    · exact (hr.frz q hq).2 x o px a2 ho a3
  · rcases cs x _ hx with ⟨_, h2⟩ | ⟨h1, ⟨rfl, h2⟩ | ⟨h3, h4⟩⟩
    · cases h2
    · injection h2 with h2; subst h2
      have es : ψ.s x = fun X => φ.s x X ∧ X ≠ p.1 := if_pos rfl
      rw [es]
      refine ⟨⟨fun X hX => s1 X hX.1, hnd.2, fun d hd => ?_⟩, fun X hX => ?_⟩
      · have hd2 : d ∈ A ++ (p, l) :: B := by
          rcases List.mem_append.1 hd with q | q
          · exact List.mem_append_left _ q
          · exact List.mem_append_right _ (List.mem_cons_of_mem _ q)
        exact ⟨⟨(s3 d hd2).1, fun e => hnd.1 (e ▸ List.mem_map_of_mem hd)⟩, (s3 d hd2).2⟩
      · obtain ⟨g1, g2, g3, g4⟩ := s4 X hX.1
        refine ⟨g1, fun y o q hy ho hq => ?_, g3, fun y Q' hy hne hs => ?_⟩
        · rcases old y o q hy ho hq with ⟨rfl, rfl⟩ | ⟨a1, a2, a3⟩
          · exact fun e => hX.2 e.symm
          · exact g2 y o q a2 ho a3
        · rcases cs y _ hy with ⟨_, q2⟩ | ⟨q1, ⟨q3, _⟩ | ⟨q3, q4⟩⟩
          · cases q2
          · exact hne q3
          · have : ψ.s y = φ.s y := if_neg q3
            rw [this] at hs
            exact g4 y Q' q4 hne hs
    · obtain ⟨g0, g⟩ := hr.sep x Q h4
      have es : ψ.s x = φ.s x := if_neg h3
      rw [es]
      refine ⟨g0, fun X hX => ?_⟩
      obtain ⟨g1, g2, g3, g4⟩ := g X hX
      refine ⟨g1, fun y o q hy ho hq => ?_, g3, fun y Q' hy hne hs => ?_⟩
      · rcases old y o q hy ho hq with ⟨rfl, rfl⟩ | ⟨a1, a2, a3⟩
        · exact fun (e : p.1 = X) => k5 x Q h4 h3 (by rw [e]; exact hX)
        · exact g2 y o q a2 ho a3
      · rcases cs y _ hy with ⟨_, q2⟩ | ⟨q1, ⟨q3, _⟩ | ⟨q3, q4⟩⟩
        · cases q2
        · subst q3
          have : ψ.s y = fun X => φ.s y X ∧ X ≠ p.1 := if_pos rfl
          rw [this] at hs
          exact g4 y _ hb hne hs.1
        · have : ψ.s y = φ.s y := if_neg q3
          rw [this] at hs
          exact g4 y Q' q4 hne hs
theorem HR.n6 (hr : HR φ H n h0 h) {m T : Nat} (hbm : b ≠ m) (hb : H.get b = some (.sep (pk (A ++ B)))) (hm : H.get m = some (.cells l true)) (hp : φ m = some ⟨p.1, p.2, T⟩) (hl : l.map Go.Proofs.Ythjggjhebbdkdaa.mk = l'.map Go.Proofs.Ythjggjhebbdkdaa.mk) (hf : l'.all flat.flat1 = true) :
    ∃ ψ, SLe φ ψ ∧ PLe φ ψ ∧ ψ.f = φ.f ∧ HR ψ ((H.set none aa m).set (some (.sep (pk (A ++ (p, l') :: B)))) aa b) n h0 h := by
  obtain ⟨⟨s1, s2, s3⟩, s4⟩ := hr.sep b _ hb
  obtain ⟨ob, o1, o2, c, t, fz, rfl, o3, o4, o5, o6, o7⟩ := hr.of hm hp
  have o6 := o6 rfl
  subst o6
  have hbo := hr.my hb
  have hpS : ¬ φ.s b p.1 := fun q => (s4 p.1 q).2.1 m _ _ hm rfl hp rfl
  let ψ : Ph := ⟨φ.f, φ.z, φ.y, fun x => if x = b then (fun X => φ.s b X ∨ X = p.1) else φ.s x⟩
  have cs : ∀ x o, ((H.set none aa m).set (some (.sep (pk (A ++ (p, l') :: B)))) aa b).get x = some o → (x = b ∧ o = .sep (pk (A ++ (p, l') :: B))) ∨ (x ≠ b ∧ x ≠ m ∧ H.get x = some o) := fun x o hx => by
    rcases PM.ak aa _ b x o hx with ⟨h1, h2⟩ | ⟨h1, h2⟩
    · injection h2 with h2; exact .inl ⟨h1, h2.symm⟩
    · rcases PM.ak aa H m x o h2 with ⟨h3, h4⟩ | ⟨h3, h4⟩
      · cases h4
      · exact .inr ⟨h1, h3, h4⟩
  have own : ∀ x o q, ((H.set none aa m).set (some (.sep (pk (A ++ (p, l') :: B)))) aa b).get x = some o → o.own = true → φ x = some q → x ≠ m ∧ H.get x = some o := fun x o q hx ho hq => by
    rcases cs x o hx with ⟨rfl, _⟩ | ⟨_, h2, h3⟩
    · rw [hbo] at hq; cases hq
    · exact ⟨h2, h3⟩
  have sle : SLe φ ψ := ⟨fun _ _ h => h, fun _ h => h⟩
  refine ⟨ψ, sle, ⟨fun _ _ h => h, fun _ h => h, fun _ h => h⟩, rfl, ⟨hr.dom, fun x o hx => ?_, fun x y o o' q q' hx hy ho ho' hq hq' e => ?_, hr.base, hr.size, fun q hq => ⟨⟨FzR.mono (φ := φ) (ψ := ψ) sle.z (hr.frz q hq).1.1, (hr.frz q hq).1.2⟩, fun x o px hx ho hpx => (hr.frz q hq).2 x o px (own x o px hx ho hpx).2 ho hpx⟩, fun x Q hx => ?_⟩⟩
  · rcases cs x o hx with ⟨rfl, rfl⟩ | ⟨_, _, h4⟩
    · exact .inl ⟨hbo, rfl⟩
    · rcases hr.live x o h4 with g | ⟨q, ob, g1, g2, g3, g4⟩
      · exact .inl g
      · exact .inr ⟨q, ob, g1, g2, g3, g4.cz sle⟩
  · exact hr.inj x y o o' q q' (own x o q hx ho hq).2 (own y o' q' hy ho' hq').2 ho ho' hq hq' e
  · rcases cs x _ hx with ⟨rfl, h2⟩ | ⟨h1, hxm, h4⟩
    · injection h2 with h2; subst h2
      have es : ψ.s x = fun X => φ.s x X ∨ X = p.1 := if_pos rfl
      rw [es]
      refine ⟨⟨fun X hX => ?_, ?_, fun d hd => ?_⟩, fun X hX => ?_⟩
      · rcases hX with hX | rfl
        · exact s1 X hX
        · exact ⟨_, o2⟩
      · refine ze.2 ⟨fun q => ?_, s2⟩
        obtain ⟨d, hd, e⟩ := List.mem_map.1 q
        exact hpS (e ▸ (s3 d hd).1)
      · have hd2 : d = (p, l') ∨ d ∈ A ++ B := by
          rcases List.mem_append.1 hd with q | q
          · exact .inr (List.mem_append_left _ q)
          · rcases List.mem_cons.1 q with q | q
            · exact .inl q
            · exact .inr (List.mem_append_right _ q)
        rcases hd2 with rfl | hd2
        · refine ⟨.inr rfl, hf, T, c, t, o2, ?_, o4, o7.kf hl hf⟩
          have : l'.length = l.length := by have := congrArg List.length hl; simpa using this.symm
          rw [this]; exact o3
        · exact ⟨.inl (s3 d hd2).1, (s3 d hd2).2⟩
      · rcases hX with hX | rfl
        · obtain ⟨g1, g2, g3, g4⟩ := s4 X hX
          refine ⟨g1, fun y o q hy ho hq => g2 y o q (own y o q hy ho hq).2 ho hq, g3, fun y Q' hy hne hs => ?_⟩
          rcases cs y _ hy with ⟨q1, _⟩ | ⟨q1, _, q4⟩
          · exact hne q1
          · have : ψ.s y = φ.s y := if_neg q1
            rw [this] at hs
            exact g4 y Q' q4 hne hs
        · refine ⟨⟨(hr.dom m _ hp).2, o1⟩, fun y o q hy ho hq e => ?_, fun q hq e => (hr.frz q hq).2 m _ _ hm rfl hp e.symm, fun y Q' hy hne hs => ?_⟩
          · obtain ⟨a1, a2⟩ := own y o q hy ho hq
            exact a1 (hr.inj y m o _ q _ a2 hm ho rfl hq hp e)
          · rcases cs y _ hy with ⟨q1, _⟩ | ⟨q1, _, q4⟩
            · exact hne q1
            · have : ψ.s y = φ.s y := if_neg q1
              rw [this] at hs
              exact ((hr.sep y Q' q4).2 _ hs).2.1 m _ _ hm rfl hp rfl
    · obtain ⟨g0, g⟩ := hr.sep x Q h4
      have es : ψ.s x = φ.s x := if_neg h1
      rw [es]
      refine ⟨g0, fun X hX => ?_⟩
      obtain ⟨g1, g2, g3, g4⟩ := g X hX
      refine ⟨g1, fun y o q hy ho hq => g2 y o q (own y o q hy ho hq).2 ho hq, g3, fun y Q' hy hne hs => ?_⟩
      rcases cs y _ hy with ⟨rfl, _⟩ | ⟨q1, _, q4⟩
      · have : ψ.s y = fun X => φ.s y X ∨ X = p.1 := if_pos rfl
        rw [this] at hs
        rcases hs with hs | rfl
        · exact g4 y _ hb hne hs
        · exact g2 m _ _ hm rfl hp rfl
      · have : ψ.s y = φ.s y := if_neg q1
        rw [this] at hs
        exact g4 y Q' q4 hne hs
theorem HR.zg (hr : HR φ H n h0 h) {Q Q' : HP} (hb : H.get b = some (.sep Q)) (hq : ∀ z S h, Q.P z S h → Q'.P z S h) : HR φ (H.set (some (.sep Q')) aa b) n h0 h := by
  have cs : ∀ x o, (H.set (some (.sep Q')) aa b).get x = some o → (x = b ∧ o = .sep Q') ∨ (x ≠ b ∧ H.get x = some o) := fun x o hx => by
    rcases PM.ak aa H b x o hx with ⟨h1, h2⟩ | h2
    · injection h2 with h2; exact .inl ⟨h1, h2.symm⟩
    · exact .inr h2
  have hbo := hr.my hb
  have own : ∀ x o q, (H.set (some (.sep Q')) aa b).get x = some o → φ x = some q → H.get x = some o := fun x o q hx hq => by
    rcases cs x o hx with ⟨rfl, _⟩ | ⟨_, h3⟩
    · rw [hbo] at hq; cases hq
    · exact h3
  refine ⟨hr.dom, fun x o hx => ?_, fun x y o o' q q' hx hy ho ho' hq hq' e => hr.inj x y o o' q q' (own x o q hx hq) (own y o' q' hy hq') ho ho' hq hq' e, hr.base, hr.size, fun q hq => ⟨hr.frz q hq |>.1, fun x o px hx ho hpx => (hr.frz q hq).2 x o px (own x o px hx hpx) ho hpx⟩, fun x Q2 hx => ?_⟩
  · rcases cs x o hx with ⟨rfl, rfl⟩ | ⟨_, h4⟩
    · exact .inl ⟨hbo, rfl⟩
    · exact hr.live x o h4
  · have : ∃ Q3, H.get x = some (.sep Q3) ∧ ∀ z S h, Q3.P z S h → Q2.P z S h := by
      rcases cs x _ hx with ⟨rfl, h2⟩ | ⟨_, h4⟩
      · injection h2 with h2; subst h2; exact ⟨Q, hb, hq⟩
      · exact ⟨Q2, h4, fun _ _ _ h => h⟩
    obtain ⟨Q3, e1, e2⟩ := this
    obtain ⟨g0, g⟩ := hr.sep x Q3 e1
    refine ⟨e2 _ _ _ g0, fun X hX => ?_⟩
    obtain ⟨g1, g2, g3, g4⟩ := g X hX
    refine ⟨g1, fun y o q hy ho hq => g2 y o q (own y o q hy hq) ho hq, g3, fun y Q4 hy hne => ?_⟩
    rcases cs y _ hy with ⟨rfl, _⟩ | ⟨_, h4⟩
    · exact g4 y Q hb hne
    · exact g4 y Q4 h4 hne
theorem Fv {Cs Ds : Pk} (hs : ∀ c ∈ Ds, c ∈ Cs) (hd : (pkB Cs).Nodup → (pkB Ds).Nodup) : ∀ z S h, (pk Cs).P z S h → (pk Ds).P z S h := fun z S h ⟨h1, h2, h3⟩ => ⟨h1, hd h2, fun c hc => h3 c (hs c hc)⟩
theorem HX {Cs Ds : Pk} (hp : Ds.Sublist Cs) : ∀ z S h, (pk Cs).P z S h → (pk Ds).P z S h := Fv (fun c hc => hp.subset hc) fun h => (hp.map _).nodup h
theorem HR.MO (hr : HR φ H n h0 h) : ∃ ψ, PLe φ ψ ∧ HR ψ (H.set (some (.sep (pk []))) aa n) (n + 1) h0 h := by
  have cs : ∀ x o, (H.set (some (.sep (pk []))) aa n).get x = some o → (x = n ∧ o = .sep (pk [])) ∨ (x ≠ n ∧ H.get x = some o) := fun x o hx => by
    rcases PM.ak aa H n x o hx with ⟨h1, h2⟩ | h2
    · injection h2 with h2; exact .inl ⟨h1, h2.symm⟩
    · exact .inr h2
  have hno : φ n = none := by
    cases e : φ n with
    | none => rfl
    | some q => exact absurd (hr.dom n q e).1 (Nat.lt_irrefl _)
  let ψ : Ph := ⟨φ.f, φ.z, φ.y, fun x => if x = n then (fun _ => False) else φ.s x⟩
  have own : ∀ x o q, (H.set (some (.sep (pk []))) aa n).get x = some o → φ x = some q → H.get x = some o := fun x o q hx hq => by
    rcases cs x o hx with ⟨rfl, _⟩ | ⟨_, h3⟩
    · rw [hno] at hq; cases hq
    · exact h3
  have sle : SLe φ ψ := ⟨fun _ _ h => h, fun _ h => h⟩
  refine ⟨ψ, ⟨fun _ _ h => h, fun _ h => h, fun _ h => h⟩, ⟨fun x q hx => ⟨by have := (hr.dom x q hx).1; omega, (hr.dom x q hx).2⟩, fun x o hx => ?_, fun x y o o' q q' hx hy ho ho' hq hq' e => hr.inj x y o o' q q' (own x o q hx hq) (own y o' q' hy hq') ho ho' hq hq' e, hr.base, hr.size, fun q hq => ⟨⟨FzR.mono (φ := φ) (ψ := ψ) sle.z (hr.frz q hq).1.1, (hr.frz q hq).1.2⟩, fun x o px hx ho hpx => (hr.frz q hq).2 x o px (own x o px hx hpx) ho hpx⟩, fun x Q2 hx => ?_⟩⟩
  · rcases cs x o hx with ⟨rfl, rfl⟩ | ⟨_, h4⟩
    · exact .inl ⟨hno, rfl⟩
    · rcases hr.live x o h4 with g | ⟨q, ob, g1, g2, g3, g4⟩
      · exact .inl g
      · exact .inr ⟨q, ob, g1, g2, g3, g4.cz sle⟩
  · rcases cs x _ hx with ⟨rfl, h2⟩ | ⟨h1, h4⟩
    · injection h2 with h2; subst h2
      have es : ψ.s x = fun _ => False := if_pos rfl
      rw [es]
      exact ⟨⟨(fun X hX => hX.elim), List.nodup_nil, fun c hc => by cases hc⟩, fun X hX => hX.elim⟩
    · obtain ⟨g0, g⟩ := hr.sep x Q2 h4
      have es : ψ.s x = φ.s x := if_neg h1
      rw [es]
      refine ⟨g0, fun X hX => ?_⟩
      obtain ⟨g1, g2, g3, g4⟩ := g X hX
      refine ⟨g1, fun y o q hy ho hq => g2 y o q (own y o q hy hq) ho hq, g3, fun y Q4 hy hne hs => ?_⟩
      rcases cs y _ hy with ⟨rfl, _⟩ | ⟨q1, q4⟩
      · have : ψ.s y = fun _ => False := if_pos rfl
        rw [this] at hs; exact hs
      · have : ψ.s y = φ.s y := if_neg q1
        rw [this] at hs
        exact g4 y Q4 q4 hne hs
end
theorem VR.mz {φ : Ph} {b : Nat} {p : Nat × Nat} {T : Nat} (h : φ b = some ⟨p.1, p.2, T⟩) : VR φ (.ptr b 0) (oW p) := .ptr (p := ⟨p.1, p.2, T⟩) (o := 0) h
def lX (H : AH) (n b : Nat) (A B : Pk) (p : Nat × Nat) (κ : PK) : PK := fun v H2 n2 => ∃ l2 l' Q, n2 = n + 1 ∧ (∀ x o, x ≠ n → x ≠ b → H.get x = some o → H2.get x = some o) ∧ H2.get b = some (.sep (pk (A ++ B))) ∧ H2.get n = some (.cells l2 true) ∧ l2.map mk = l'.map mk ∧ l'.all flat.flat1 = true ∧ (∀ z S h, (pk (A ++ (p, l') :: B)).P z S h → Q.P z S h) ∧ κ v (H.set (some (.sep Q)) aa b) (n + 1)
noncomputable def opn (H : AH) (n b : Nat) (A B : Pk) (l : List AV) : AH := (H.set (some (.sep (pk (A ++ B)))) aa b).set (some (.cells l true)) aa n
section
variable {H : AH} {n b : Nat} {A B : Pk} {p : Nat × Nat} {κ : PK} {v : AV} {l l2 l' : List AV} {Q : HP}
theorem ni (hn : n < 1000000) : (opn H n b A B l).get n = some (.cells l true) := PM.bp aa _ _ (aD hn)
theorem vZ (hbn : b < n) (hn : n < 1000000) : (opn H n b A B l).get b = some (.sep (pk (A ++ B))) := PM.aC aa _ _ _ (aD hn) (by omega) (PM.bp aa _ _ (aD (by omega)))
theorem sx (hbn : b < n) (hn : n < 1000000) {x : Nat} {o : AO} (h1 : x ≠ n) (h2 : x ≠ b) (h : H.get x = some o) : (opn H n b A B l).get x = some o := PM.aC aa _ _ _ (aD hn) h1 (PM.aC aa _ _ _ (aD (by omega)) h2 h)
theorem lX.same (hbn : b < n) (hn : n < 1000000) (hl : l.map mk = l'.map mk) (hf : l'.all flat.flat1 = true) (hQ : ∀ z S h, (pk (A ++ (p, l') :: B)).P z S h → Q.P z S h) (hκ : κ v (H.set (some (.sep Q)) aa b) (n + 1)) : lX H n b A B p κ v (opn H n b A B l) (n + 1) :=
  ⟨l, l', Q, rfl, fun x o h1 h2 h3 => sx hbn hn h1 h2 h3, vZ hbn hn, ni hn, hl, hf, hQ, hκ⟩
theorem lX.set (hbn : b < n) (hn : n < 1000000) (hl : l2.map mk = l'.map mk) (hf : l'.all flat.flat1 = true) (hQ : ∀ z S h, (pk (A ++ (p, l') :: B)).P z S h → Q.P z S h) (hκ : κ v (H.set (some (.sep Q)) aa b) (n + 1)) : lX H n b A B p κ v ((opn H n b A B l).set (some (.cells l2 true)) aa n) (n + 1) :=
  ⟨l2, l', Q, rfl, fun x o h1 h2 h3 => PM.aC aa _ _ _ (aD hn) h1 (sx hbn hn h1 h2 h3), PM.aC aa _ _ _ (aD hn) (by omega) (vZ hbn hn), PM.bp aa _ _ (aD hn), hl, hf, hQ, hκ⟩
end
theorem aF.v7 {f : FuncId} {run : List AV → AH → Nat → PK → Prop} (hrun : aF f run) {φ : Ph} {H : AH} {n : Nat} {h0 hp : Hp} {vs : Array Value} {κ : PK} {K : KH} {b : Nat} {A B : Pk} {p : Nat × Nat} {l : List AV} {rest : List AV}
    (hr : HR φ H n h0 hp) (hbn : b < n) (hn : n < 1000000) (hn0 : H.get n = none) (hb : H.get b = some (.sep (pk (A ++ (p, l) :: B)))) (hargs : VRs φ (bW p :: rest) vs.toList) (hk : bV φ h0 κ K)
    (hs : run (.ptr n 0 :: rest) (opn H n b A B l) (n + 1) (lX H n b A B p κ)) : cL Try.prog f vs hp K := by
  obtain ⟨ψ, T, hle, hψ, hr2⟩ := hr.zf hbn hb
  obtain ⟨w1, us1, q1, e1, r1⟩ := hargs.cons_inv
  have e1 : w1 = oW p := e1
  subst e1
  refine hrun _ _ _ _ hs ψ h0 hp vs K hr2 (by rw [q1]; exact .cons (VR.mz hψ) (VRs.mono hle _ _ r1)) fun χ v H2 n2 u g hle2 hg hu ⟨l2, l', Q, e2, hold, hb2, hn2, hl, hf, hQ, hκ⟩ => ?_
  subst e2
  obtain ⟨ω, _, hle3, _, hr3⟩ := hg.n6 (m := n) (by omega) hb2 hn2 (hle2.b _ _ hψ) hl hf
  have hr4 := hr3.zg (Q' := Q) (PM.bp aa _ _ (aD (by omega))) hQ
  refine hk ω v _ (n + 1) u g ((hle.trans hle2).trans hle3) (hr4.less fun x o hx => ?_) (VR.mono hle3 _ _ hu) hκ
  rcases PM.ak aa H b x o hx with ⟨rfl, h2⟩ | ⟨h1, h2⟩
  · rw [PM.bp aa _ _ (aD (by omega))]; exact h2
  · by_cases hxn : x = n
    · subst hxn
      rw [hn0] at h2; cases h2
    · exact PM.aC aa _ _ _ (aD (by omega)) h1 (PM.aC aa _ _ _ (aD (by omega)) h1 (PM.aC aa _ _ _ (aD hn) hxn (hold x o hxn h1 h2)))
end Go.Proofs.Ythjggjhebbdkdaa
namespace Go.Proofs.Ythjggjhebbdkdaa
open Go Go.RowKit
def bitsOf (u : Nat) : Nat → List Nat
  | 0 => []
  | m + 1 => (u / 2 ^ m) % 2 :: bitsOf u m
def cU (B : List Nat) : Prop := ∀ b ∈ B, b < 2
theorem aN (u : Nat) : ∀ m, (bitsOf u m).length = m
  | 0 => rfl
  | m + 1 => by simp [bitsOf, aN u m]
theorem cN (u : Nat) : ∀ m, cU (bitsOf u m)
  | 0 => fun b h => by cases h
  | m + 1 => fun b h => by
    rcases List.mem_cons.1 h with rfl | h
    · exact Nat.mod_lt _ (by decide)
    · exact cN u m b h
theorem cU.nil : cU [] := fun b h => by cases h
theorem cU.app {A B : List Nat} (h : cU A) (k : cU B) : cU (A ++ B) := fun b hb => (List.mem_append.1 hb).elim (h b) (k b)
theorem cU.one {b : Nat} (h : b < 2) : cU [b] := fun c hc => by simp at hc; omega
def b5 (a : Nat) (B : List Nat) : Nat := B.foldl (fun u b => 2 * u + b) a
theorem gv (a u : Nat) : ∀ m, b5 a (bitsOf u m) = a * 2 ^ m + u % 2 ^ m
  | 0 => by simp [b5, bitsOf, Nat.mod_one]
  | m + 1 => by
    show b5 (2 * a + u / 2 ^ m % 2) (bitsOf u m) = _
    rw [gv _ u m, Nat.mod_pow_succ, Nat.pow_succ, Nat.add_mul]
    have e1 : 2 * a * 2 ^ m = a * (2 ^ m * 2) := by rw [Nat.mul_comm 2 a, Nat.mul_assoc, Nat.mul_comm 2]
    have e2 : u / 2 ^ m % 2 * 2 ^ m = 2 ^ m * (u / 2 ^ m % 2) := Nat.mul_comm _ _
    omega
theorem nk : ∀ (B : List Nat) (a : Nat), b5 a B = a * 2 ^ B.length + b5 0 B
  | [], a => by simp [b5]
  | b :: B, a => by
    show b5 (2 * a + b) B = a * 2 ^ (B.length + 1) + b5 (2 * 0 + b) B
    rw [nk B (2 * a + b), nk B (2 * 0 + b), Nat.pow_succ, Nat.add_mul]
    have e1 : 2 * a * 2 ^ B.length = a * (2 ^ B.length * 2) := by rw [Nat.mul_comm 2 a, Nat.mul_assoc, Nat.mul_comm 2]
    simp only [Nat.mul_zero, Nat.zero_add]
    omega
theorem pn : ∀ (B : List Nat), cU B → b5 0 B < 2 ^ B.length
  | [], _ => by simp [b5]
  | b :: B, h => by
    have ih := pn B fun c hc => h c (List.mem_cons_of_mem _ hc)
    have hb := h b List.mem_cons_self
    show b5 (2 * 0 + b) B < _
    rw [nk, List.length_cons, Nat.pow_succ]
    have : (2 * 0 + b) * 2 ^ B.length ≤ 1 * 2 ^ B.length := Nat.mul_le_mul_right _ (by omega)
    omega
theorem qy (A B : List Nat) (a : Nat) : b5 a (A ++ B) = b5 (b5 a A) B := by simp [b5, List.foldl_append]
theorem zh : ∀ (B : List Nat) (a j : Nat), cU B → ∀ h : j < B.length, b5 a B / 2 ^ (B.length - 1 - j) % 2 = B[j]
  | b :: B, a, 0, hb, _ => by
    show b5 (2 * a + b) B / 2 ^ (B.length + 1 - 1 - 0) % 2 = b
    have hlt := pn B fun c hc => hb c (List.mem_cons_of_mem _ hc)
    have := hb b List.mem_cons_self
    rw [nk, Nat.add_sub_cancel, Nat.sub_zero, Nat.mul_comm, Nat.mul_add_div (Nat.two_pow_pos _), Nat.div_eq_of_lt hlt]
    omega
  | b :: B, a, j + 1, hb, h => by
    have h' : j < B.length := by simpa using h
    have := zh B (2 * a + b) j (fun c hc => hb c (List.mem_cons_of_mem _ hc)) h'
    show b5 (2 * a + b) B / 2 ^ (B.length + 1 - 1 - (j + 1)) % 2 = B[j]
    rw [show B.length + 1 - 1 - (j + 1) = B.length - 1 - j from by omega]
    exact this
def v8 (C : List Nat) : List Nat := C ++ List.replicate (8 - C.length) 0
def iZ (C : List Nat) : Nat := b5 0 (v8 C)
def pack (B : List Nat) : List Nat := (List.range ((B.length + 7) / 8)).map fun i => iZ ((B.drop (8 * i)).take 8)
def nm (s : List Nat) (i : Nat) : Nat := (s[i / 8]?).getD 0 / 2 ^ (7 - i % 8) % 2
theorem oK {C : List Nat} (h : C.length ≤ 8) : (v8 C).length = 8 := by simp [v8]; omega
theorem sD {C : List Nat} (h : cU C) : cU (v8 C) := h.app fun b hb => by
  have := List.eq_of_mem_replicate hb; omega
theorem v9 {C : List Nat} (h : cU C) (hl : C.length ≤ 8) : iZ C < 256 := by
  have := pn _ (sD h)
  rw [oK hl] at this
  exact this
theorem np {C : List Nat} : iZ C = b5 0 C * 2 ^ (8 - C.length) := by
  unfold iZ v8
  rw [qy]
  have : ∀ m a, b5 a (List.replicate m 0) = a * 2 ^ m := fun m => by
    induction m with
    | zero => intro a; simp [b5]
    | succ m ih =>
      intro a
      show b5 (2 * a + 0) (List.replicate m 0) = _
      rw [ih, Nat.pow_succ, Nat.add_zero, Nat.mul_comm 2 a, Nat.mul_assoc, Nat.mul_comm 2]
  exact this _ _
theorem Dc {C : List Nat} (h : cU C) (hl : C.length ≤ 8) {j : Nat} (hj : j < C.length) : iZ C / 2 ^ (7 - j) % 2 = C[j] := by
  have hp := oK hl
  have := zh (v8 C) 0 j (sD h) (by omega)
  unfold iZ
  rw [show 7 - j = (v8 C).length - 1 - j from by omega, this]
  simp [v8, hj]
theorem bb (B : List Nat) : (pack B).length = (B.length + 7) / 8 := by simp [pack]
theorem ja (B : List Nat) (i : Nat) (h : i < (B.length + 7) / 8) : (pack B)[i]? = some (iZ ((B.drop (8 * i)).take 8)) := by
  simp [pack, h]
theorem wb {B : List Nat} (h : cU B) (i m : Nat) : cU ((B.drop i).take m) := fun b hb => h b (List.mem_of_mem_drop (List.mem_of_mem_take hb))
theorem zi {B : List Nat} (h : cU B) : ∀ x ∈ pack B, x < 256 := fun x hx => by
  simp only [pack, List.mem_map, List.mem_range] at hx
  obtain ⟨i, _, rfl⟩ := hx
  exact v9 (wb h _ _) (by rw [List.length_take]; omega)
theorem ya {B : List Nat} (h : cU B) {i : Nat} (hi : i < B.length) : nm (pack B) i = B[i] := by
  unfold nm
  rw [ja B (i / 8) (by omega)]
  have hl : i % 8 < ((B.drop (8 * (i / 8))).take 8).length := by rw [List.length_take, List.length_drop]; omega
  rw [Option.getD_some, Dc (wb h _ _) (by rw [List.length_take]; omega) hl]
  rw [List.getElem_take, List.getElem_drop]
  congr 1; omega
theorem qz {B : List Nat} {b : Nat} (h : B.length % 8 = 0) : pack (B ++ [b]) = pack B ++ [b * 2 ^ 7] := by
  apply List.ext_getElem?
  intro i
  have hl : (pack B).length = B.length / 8 := by rw [bb]; omega
  rcases Nat.lt_trichotomy i (B.length / 8) with hi | hi | hi
  · rw [List.getElem?_append_left (by omega), ja _ _ (by simp; omega), ja _ _ (by omega)]
    rw [List.drop_append_of_le_length (by omega), List.take_append_of_le_length (by rw [List.length_drop]; omega)]
  · subst hi
    rw [List.getElem?_append_right (by omega), hl, Nat.sub_self, ja _ _ (by simp; omega)]
    have : (B ++ [b]).drop (8 * (B.length / 8)) = [b] := by
      rw [show 8 * (B.length / 8) = B.length from by omega]; simp
    rw [this]
    simp [np, b5]
  · rw [List.getElem?_eq_none (by rw [bb]; simp; omega), List.getElem?_eq_none (by simp; omega)]
theorem Fw {B : List Nat} {b : Nat} (h : B.length % 8 ≠ 0) : pack (B ++ [b]) = (pack B).set (B.length / 8) (iZ (B.drop (8 * (B.length / 8))) + b * 2 ^ (7 - B.length % 8)) := by
  apply List.ext_getElem?
  intro i
  have hl : (pack B).length = B.length / 8 + 1 := by rw [bb]; omega
  rcases Nat.lt_trichotomy i (B.length / 8) with hi | hi | hi
  · rw [List.getElem?_set_ne (by omega), ja _ _ (by simp; omega), ja _ _ (by omega)]
    rw [List.drop_append_of_le_length (by omega), List.take_append_of_le_length (by rw [List.length_drop]; omega)]
  · subst hi
    rw [List.getElem?_set_self (by omega), ja _ _ (by simp; omega)]
    have hC : (B.drop (8 * (B.length / 8))).length = B.length % 8 := by rw [List.length_drop]; omega
    rw [List.drop_append_of_le_length (by omega), List.take_of_length_le (by rw [List.length_append, hC]; simp; omega)]
    generalize B.drop (8 * (B.length / 8)) = C at hC
    have hr8 := Nat.mod_lt B.length (show 8 > 0 by decide)
    generalize B.length % 8 = r at hC h hr8
    rw [np, np, qy, List.length_append, hC]
    have hr : r < 8 ∨ 8 ≤ r := by omega
    show some ((2 * b5 0 C + b) * 2 ^ (8 - (r + 1))) = _
    congr 1
    rcases hr with hr | hr
    · rw [show 8 - (r + 1) = 7 - r from by omega, show 8 - r = 7 - r + 1 from by omega, Nat.pow_succ, Nat.add_mul, Nat.mul_comm 2 (b5 0 C), Nat.mul_assoc, Nat.mul_comm 2]
    · exfalso; omega
  · rw [List.getElem?_eq_none (by rw [bb]; simp; omega), List.getElem?_eq_none (by simp; omega)]
end Go.Proofs.Ythjggjhebbdkdaa
namespace Go.Proofs.Ythjggjhebbdkdaa
open Go Go.RowKit
theorem jB (op : BinOp) (k : IntKind) (x y : Int) (h : op = .and ∨ op = .or ∨ op = .xor) : bI op k x y = bits op k x y := by
  rcases h with rfl | rfl | rfl <;> rfl
theorem wrap_u64 (n : Int) : IntKind.u64.wrap n = n % 18446744073709551616 := by simp [IntKind.wrap, IntKind.bits, IntKind.signed]
def tI (n : Int) : Nat := if 0 ≤ n then (2 * n).toNat else (-2 * n - 1).toNat
def ld (u : Nat) : Int := if u % 2 = 0 then ((u / 2 : Nat) : Int) else -((u / 2 : Nat) : Int) - 1
theorem Dd {n : Int} (h : aM n) : tI n < 18446744073709551616 := by
  unfold tI; have := h.1; have := h.2; split <;> omega
theorem zj (n : Int) : ld (tI n) = n := by
  unfold ld tI
  split
  · rename_i h
    rw [if_pos (by omega)]; omega
  · rename_i h
    rw [if_neg (by omega)]; omega
theorem De (a : Nat) (h : a < 18446744073709551616) : a ^^^ 18446744073709551615 = 18446744073709551615 - a := by
  have e : (BitVec.ofNat 64 a ^^^ BitVec.allOnes 64).toNat = 18446744073709551615 - a := by
    rw [BitVec.xor_allOnes, BitVec.toNat_not, BitVec.toNat_ofNat, Nat.mod_eq_of_lt h]
  rw [← e, BitVec.toNat_xor, BitVec.toNat_ofNat, Nat.mod_eq_of_lt h]
  rfl
theorem HY {n : Int} (h : aM n) : n.fdiv 9223372036854775808 = if 0 ≤ n then 0 else -1 := by
  have := h.1; have := h.2
  rw [Int.fdiv_eq_ediv_of_nonneg _ (by decide)]
  split <;> omega
theorem HZ {n : Int} (h : aM n) : bI .xor .u64 (IntKind.u64.wrap (IntKind.u64.wrap n * 2)) (IntKind.u64.wrap (n.fdiv 9223372036854775808)) = ((tI n : Nat) : Int) := by
  have h1 := h.1; have h2 := h.2
  rw [jB _ _ _ _ (.inr (.inr rfl)), HY h]
  unfold tI
  by_cases h0 : 0 ≤ n
  · rw [if_pos h0, if_pos h0]
    have e1 : IntKind.u64.wrap (IntKind.u64.wrap n * 2) = (((2 * n).toNat : Nat) : Int) := by rw [wrap_u64, wrap_u64]; omega
    have e2 : IntKind.u64.wrap 0 = ((0 : Nat) : Int) := by rw [wrap_u64]; rfl
    rw [e1, e2, u64_xor_nat _ _ (by omega) (by omega), Nat.xor_zero]
  · rw [if_neg h0, if_neg h0]
    have e1 : IntKind.u64.wrap (IntKind.u64.wrap n * 2) = (((2 * n + 18446744073709551616).toNat : Nat) : Int) := by rw [wrap_u64, wrap_u64]; omega
    have e2 : IntKind.u64.wrap (-1) = ((18446744073709551615 : Nat) : Int) := by rw [wrap_u64]; rfl
    rw [e1, e2, u64_xor_nat _ _ (by omega) (by omega), De _ (by omega)]
    omega
theorem tJ {a : Int} (h0 : 0 ≤ a) (h1 : a ≤ 9223372036854775807) : bI .xor .i64 a (-1) = -a - 1 := by
  have e : bI .xor .i64 a (-1) = IntKind.i64.wrap (((BitVec.ofInt 64 a ^^^ BitVec.ofInt 64 (-1)).toNat : Nat) : Int) := rfl
  obtain ⟨m, rfl⟩ := Int.eq_ofNat_of_zero_le h0
  have e2 : (BitVec.ofInt 64 (m : Int) ^^^ BitVec.ofInt 64 (-1)).toNat = 18446744073709551615 - m := by
    have e3 : BitVec.ofInt 64 (-1) = BitVec.allOnes 64 := by decide
    rw [e3, BitVec.xor_allOnes, BitVec.toNat_not, BitVec.ofInt_natCast, BitVec.toNat_ofNat, Nat.mod_eq_of_lt (by omega)]
  rw [e, e2, IntKind.wrap_i64]
  omega
theorem tK {a : Int} (h0 : 0 ≤ a) (h1 : a ≤ 9223372036854775807) : bI .xor .i64 a 0 = a := by
  have e : bI .xor .i64 a 0 = IntKind.i64.wrap (((BitVec.ofInt 64 a ^^^ BitVec.ofInt 64 0).toNat : Nat) : Int) := rfl
  obtain ⟨m, rfl⟩ := Int.eq_ofNat_of_zero_le h0
  have e2 : (BitVec.ofInt 64 (m : Int) ^^^ BitVec.ofInt 64 0).toNat = m := by
    have e3 : BitVec.ofInt 64 0 = 0#64 := by decide
    rw [e3, BitVec.xor_zero, BitVec.ofInt_natCast, BitVec.toNat_ofNat, Nat.mod_eq_of_lt (by omega)]
  rw [e, e2, IntKind.wrap_i64]
  omega
theorem we (a b : Nat) : (a : Int).fdiv (b : Int) = ((a / b : Nat) : Int) := by
  rw [Int.fdiv_eq_ediv_of_nonneg _ (Int.natCast_nonneg _)]; exact (Int.natCast_ediv a b).symm
theorem MP {u : Nat} (h : u < 18446744073709551616) : bI .and .u64 (u : Int) 1 = ((u % 2 : Nat) : Int) := by
  rw [jB _ _ _ _ (.inl rfl), show (1 : Int) = ((1 : Nat) : Int) from rfl, u64_and_nat _ _ h (by decide), nat_mask1]
theorem H5 {u : Nat} (h : u < 18446744073709551616) : bI .xor .i64 (IntKind.i64.wrap ((u : Int).fdiv 2)) (IntKind.i64.wrap (0 - IntKind.i64.wrap (bI .and .u64 (u : Int) 1))) = ld u := by
  rw [show (2 : Int) = ((2 : Nat) : Int) from rfl, we, MP h]
  have e1 : IntKind.i64.wrap ((u / 2 : Nat) : Int) = ((u / 2 : Nat) : Int) := by rw [IntKind.wrap_i64]; omega
  rw [e1]
  unfold ld
  by_cases q : u % 2 = 0
  · rw [if_pos q, q]
    have e2 : IntKind.i64.wrap (0 - IntKind.i64.wrap ((0 : Nat) : Int)) = 0 := by rw [IntKind.wrap_i64, IntKind.wrap_i64]; rfl
    rw [e2, tK (by omega) (by omega)]
  · have q1 : u % 2 = 1 := by omega
    rw [if_neg q, q1]
    have e2 : IntKind.i64.wrap (0 - IntKind.i64.wrap ((1 : Nat) : Int)) = -1 := by rw [IntKind.wrap_i64, IntKind.wrap_i64]; rfl
    rw [e2, tJ (by omega) (by omega)]
def aZ (u : Nat) : List Nat := if u = 0 then [0] else if u < 128 then [1, 0] ++ bitsOf u 7 else if u < 4096 then [1, 1, 0] ++ bitsOf u 12 else if u < 16777216 then [1, 1, 1, 0] ++ bitsOf u 24 else [1, 1, 1, 1] ++ bitsOf u 64
theorem cU.lit {l : List Nat} (h : l.all (fun b => decide (b < 2)) = true) : cU l := fun b hb => by
  have := List.all_eq_true.1 h b hb
  exact of_decide_eq_true this
theorem mA (u : Nat) : cU (aZ u) := by
  unfold aZ
  repeat' split
  · exact .lit rfl
  all_goals exact (cU.lit rfl).app (cN _ _)
theorem dX (u : Nat) : (aZ u).length ≤ 68 ∧ 1 ≤ (aZ u).length := by
  unfold aZ
  repeat' split
  all_goals simp [aN]
abbrev W64 (x : Int) : Int := IntKind.i64.wrap x
theorem qA (x : Int) : aM (W64 x) := by
  unfold aM W64
  rw [IntKind.wrap_i64]; omega
theorem cr {x : Int} (h : aM x) : W64 x = x := by
  have := h.1; have := h.2
  show IntKind.i64.wrap x = x
  rw [IntKind.wrap_i64]; omega
def eQ (x : Int) : Nat := (x % 18446744073709551616).toNat
theorem Dg (x : Int) : IntKind.u64.wrap x = ((eQ x : Nat) : Int) := by rw [wrap_u64]; unfold eQ; omega
theorem yb (x : Int) : eQ x < 18446744073709551616 := by unfold eQ; omega
theorem wg {x : Int} (h : aM x) : W64 ((eQ x : Nat) : Int) = x := by
  have := h.1; have := h.2
  show IntKind.i64.wrap _ = x
  unfold eQ
  rw [IntKind.wrap_i64]; omega
def tAt (X : Smp) (i : Nat) : Int := ((X[i]?).getD (0, 0)).1
def vAt (X : Smp) (i : Nat) : Int := ((X[i]?).getD (0, 0)).2
def cW (X : Smp) (i : Nat) : Int := if i < 2 then 0 else W64 (tAt X (i - 1) - tAt X (i - 2))
def dT (X : Smp) (i : Nat) : Nat := tI (W64 (W64 (tAt X i - tAt X (i - 1)) - cW X i))
def dV (X : Smp) (i : Nat) : Nat := tI (W64 (vAt X i - vAt X (i - 1)))
def bM (X : Smp) (i : Nat) : List Nat := if i = 0 then bitsOf (eQ (tAt X 0)) 64 ++ bitsOf (eQ (vAt X 0)) 64 else aZ (dT X i) ++ aZ (dV X i)
def aE (X : Smp) : Nat → List Nat
  | 0 => []
  | i + 1 => aE X i ++ bM X i
def aU (X : Smp) : List Nat := aE X X.length
theorem yc (X : Smp) (i : Nat) : cU (bM X i) := by
  unfold bM; split
  · exact (cN _ _).app (cN _ _)
  · exact (mA _).app (mA _)
theorem eR (X : Smp) : ∀ i, cU (aE X i)
  | 0 => .nil
  | i + 1 => (eR X i).app (yc X i)
theorem sF (X : Smp) : cU (aU X) := eR X _
theorem lH (X : Smp) : ∀ i, (aE X i).length ≤ 136 * i
  | 0 => by simp [aE]
  | i + 1 => by
    have h1 := lH X i
    have h2 : (bM X i).length ≤ 136 := by
      unfold bM
      split
      · simp [aN]
      · rw [List.length_append]
        have := (dX (dT X i)).1
        have := (dX (dV X i)).1
        omega
    simp only [aE, List.length_append]
    omega
theorem wi (X : Smp) : (aU X).length ≤ 136 * X.length := lH X _
theorem n8 (X : Smp) (i : Nat) : ∀ k, ∃ D, aE X (i + k) = aE X i ++ D
  | 0 => ⟨[], by simp⟩
  | k + 1 => by
    obtain ⟨D, h⟩ := n8 X i k
    exact ⟨D ++ bM X (i + k), by show aE X (i + k) ++ bM X (i + k) = _; rw [h, List.append_assoc]⟩
theorem yd {X : Smp} {i : Nat} (h : i < X.length) : ∃ D, aU X = aE X i ++ (bM X i ++ D) := by
  obtain ⟨D, hD⟩ := n8 X (i + 1) (X.length - (i + 1))
  refine ⟨D, ?_⟩
  unfold aU
  rw [show X.length = i + 1 + (X.length - (i + 1)) from by omega, hD]
  simp [aE]
theorem Dh : aU [] = [] := rfl
def aK (s : List Nat) (at' m : Nat) : List Nat := (List.range m).map fun j => nm s (at' + j)
theorem wj {B A C D : List Nat} (hB : cU B) (h : B = A ++ (C ++ D)) : aK (pack B) A.length C.length = C := by
  apply List.ext_getElem?
  intro j
  by_cases hj : j < C.length
  · have hl : A.length + j < B.length := by rw [h]; simp; omega
    simp only [aK, List.getElem?_map, List.getElem?_range hj, Option.map_some]
    rw [ya hB hl, List.getElem?_eq_getElem hj]
    congr 1
    (try simp only [h])
    rw [List.getElem_append_right (by omega), List.getElem_append_left (by omega)]
    congr 1; omega
  · rw [List.getElem?_eq_none (by simp [aK]; omega), List.getElem?_eq_none (by omega)]
theorem wm (s : List Nat) (a j : Nat) : aK s a (j + 1) = aK s a j ++ [nm s (a + j)] := by
  simp [aK, List.range_succ]
theorem wo (s : List Nat) (a j : Nat) : cU (aK s a j) := fun b hb => by
  simp only [aK, List.mem_map] at hb
  obtain ⟨_, _, rfl⟩ := hb
  exact Nat.mod_lt _ (by decide)
theorem jn (s : List Nat) (a j : Nat) : (aK s a j).length = j := by simp [aK]
theorem A9 (a : Nat) (B : List Nat) (b : Nat) : b5 a (B ++ [b]) = 2 * b5 a B + b := by rw [qy]; rfl
theorem JG {u b : Nat} (hu : u < 9223372036854775808) (hb : b < 2) : bI .or .u64 (IntKind.u64.wrap ((u : Int) * 2)) (IntKind.u64.wrap (b : Int)) = ((2 * u + b : Nat) : Int) := by
  have e1 : IntKind.u64.wrap ((u : Int) * 2) = ((2 * u : Nat) : Int) := by rw [wrap_u64]; omega
  have e2 : IntKind.u64.wrap (b : Int) = ((b : Nat) : Int) := by rw [wrap_u64]; omega
  rw [e1, e2, jB _ _ _ _ (.inr (.inl rfl)), u64_or_nat _ _ (by omega) (by omega), nat_join 1 _ _ (by omega) (by omega)]
theorem H6 {c q : Nat} (hc : c < 256) : bI .and .u8 (((c / q : Nat)) : Int) 1 = ((c / q % 2 : Nat) : Int) := by
  rw [jB _ _ _ _ (.inl rfl), show (1 : Int) = ((1 : Nat) : Int) from rfl, u8_and_nat _ _ (Nat.lt_of_le_of_lt (Nat.div_le_self _ _) hc) (by decide), nat_mask1]
theorem H8 (c : Nat) : bI .and .u8 (IntKind.u8.wrap (c : Int)) 1 = ((c % 2 : Nat) : Int) := by
  have e1 : IntKind.u8.wrap (c : Int) = ((c % 256 : Nat) : Int) := by rw [IntKind.wrap_u8]; omega
  rw [e1, jB _ _ _ _ (.inl rfl), show (1 : Int) = ((1 : Nat) : Int) from rfl, u8_and_nat _ _ (by omega) (by decide), nat_mask1]
  congr 1; omega
theorem H9 {b r : Nat} (hb : b < 2) (hr : r < 8) : IntKind.u8.wrap ((b : Int) * (2 : Int) ^ r) = ((b * 2 ^ r : Nat) : Int) := by
  have hp : (2 : Nat) ^ r ≤ 2 ^ 7 := Nat.pow_le_pow_right (by decide) (by omega)
  have h2 : b * 2 ^ r ≤ 1 * 2 ^ r := Nat.mul_le_mul_right _ (by omega)
  have e : ((b : Int) * (2 : Int) ^ r) = ((b * 2 ^ r : Nat) : Int) := by
    rw [Int.natCast_mul, Int.natCast_pow]; rfl
  rw [e, IntKind.wrap_u8]
  omega
theorem Hf {a b r : Nat} (ha : a < 256) (hm : a % 2 ^ (r + 1) = 0) (hb : b < 2) (hr : r < 8) : bI .or .u8 (a : Int) ((b * 2 ^ r : Nat) : Int) = ((a + b * 2 ^ r : Nat) : Int) := by
  have hp : (2 : Nat) ^ r ≤ 2 ^ 7 := Nat.pow_le_pow_right (by decide) (by omega)
  have h2 : b * 2 ^ r ≤ 1 * 2 ^ r := Nat.mul_le_mul_right _ (by omega)
  have h3 : 0 < 2 ^ r := Nat.two_pow_pos r
  rw [jB _ _ _ _ (.inr (.inl rfl)), u8_or_nat _ _ ha (by omega), nat_join (r + 1) _ _ hm (by rw [Nat.pow_succ]; omega)]
theorem ye {C : List Nat} (h : C.length < 8) : iZ C % 2 ^ (7 - C.length + 1) = 0 := by
  rw [np, show 7 - C.length + 1 = 8 - C.length from by omega]
  exact Nat.mul_mod_left _ _
def cm (s : List Nat) : List AV := s.map fun c => .si .u8 (Int.ofNat c)
theorem fe (s : List Nat) : (cm s).length = s.length := by simp [cm]
theorem jC (s : List Nat) : (cm s).all flat.flat1 = true := by
  rw [List.all_eq_true]; intro x hx
  simp only [cm, List.mem_map] at hx
  obtain ⟨c, _, rfl⟩ := hx; rfl
theorem eB (s : List Nat) : (cm s).map mk = cm s := by simp [cm, mk]
end Go.Proofs.Ythjggjhebbdkdaa
namespace Go.Proofs.Ythjggjhebbdkdaa
open Go Go.RowKit
inductive lf (H : AH) (m : Nat) (r : Nat → Nat) : List AV → List AV → Prop where
  | nil : lf H m r [] []
  | cons {a a' : AV} {l l' : List AV} (h : ae H m r a a') (k : lf H m r l l') : lf H m r (a :: l) (a' :: l')
section
variable {H : AH} {m : Nat} {r : Nat → Nat}
theorem lf.length : ∀ {l l' : List AV}, lf H m r l l' → l.length = l'.length
  | _, _, .nil => rfl
  | _, _, .cons _ k => congrArg (· + 1) k.length
theorem lf.at : ∀ {l l' : List AV}, lf H m r l l' → ∀ (i : Nat) (a' : AV), l'[i]? = some a' → ∃ a, l[i]? = some a ∧ ae H m r a a'
  | _, _, .nil, i, a', h => by simp at h
  | _, _, .cons (a := a) q k, 0, a', h => by
    simp only [List.getElem?_cons_zero, Option.some.injEq] at h
    subst h
    exact ⟨a, rfl, q⟩
  | _, _, .cons q k, i + 1, a', h => by
    obtain ⟨b, h1, h2⟩ := k.at i a' (by simpa using h)
    exact ⟨b, by simpa using h1, h2⟩
theorem aO.st {l l' : List AV} {z : Bool} (h : lf H m r l l') : aO H m r (.cells l z) (.cells l' z) :=
  aO.cells (by rw [h.length]; exact Nat.le_refl _) (fun q => q) h.at
end
mutual
theorem Ba (r : Nat → Nat) : ∀ a : AV, flat.flat1 a = true → ren r a = a
  | .int _ _, _ => rfl
  | .str _, _ => rfl
  | .bool _, _ => rfl
  | .nil, _ => rfl
  | .nsl, _ => rfl
  | .si _ _, _ => rfl
  | .sb _, _ => rfl
  | .ss _, _ => rfl
  | .any _, _ => rfl
  | .bad, h => rfl
  | .ptr _ _, h => by cases h
  | .sl _ _ _ _ _, h => by cases h
  | .esl _, h => by cases h
  | .agg _, h => by cases h
  | .tup _, h => by cases h
  | .fn _ _ _, h => by cases h
  | .map _, h => by cases h
  | .sy _ _ _ _ _, h => by cases h
  | .rw _ _ _ _ _, h => by cases h
  | .fr _ _ _, h => by rfl
  | .fa _ _, h => by rfl
end
theorem sG (r : Nat → Nat) : ∀ l : List AV, l.all flat.flat1 = true → dR r l = l
  | [], _ => rfl
  | a :: l, h => by
    simp only [List.all_cons, Bool.and_eq_true] at h
    rw [dR, Ba r a h.1, sG r l h.2]
theorem Bb (m : Nat) : ∀ a : AV, flat.flat1 a = true → ltV m a = true
  | .int _ _, _ => rfl
  | .str _, _ => rfl
  | .bool _, _ => rfl
  | .nil, _ => rfl
  | .nsl, _ => rfl
  | .si _ _, _ => rfl
  | .sb _, _ => rfl
  | .ss _, _ => rfl
  | .any _, _ => rfl
  | .bad, h => rfl
  | .ptr _ _, h => by cases h
  | .sl _ _ _ _ _, h => by cases h
  | .esl _, h => by cases h
  | .agg _, h => by cases h
  | .tup _, h => by cases h
  | .fn _ _ _, h => by cases h
  | .map _, h => by cases h
  | .sy _ _ _ _ _, h => by cases h
  | .rw _ _ _ _ _, h => by cases h
  | .fr _ _ _, h => by rfl
  | .fa _ _, h => by rfl
theorem qB (m : Nat) : ∀ l : List AV, l.all flat.flat1 = true → kF m l = true
  | [], _ => rfl
  | a :: l, h => by
    simp only [List.all_cons, Bool.and_eq_true] at h
    rw [kF, Bb m a h.1, qB m l h.2]; rfl
theorem VR.JH {φ : Ph} {a a' : AV} {v : Value} (hf : Go.Proofs.Ythjggjhebbdkdaa.flat.flat1 a' = true) (e : Go.Proofs.Ythjggjhebbdkdaa.mk a = Go.Proofs.Ythjggjhebbdkdaa.mk a') (h : VR φ a v) : VR φ a' v := by
  have h1 : VR φ (Go.Proofs.Ythjggjhebbdkdaa.mk a') v := e ▸ h.mk
  have h2 : VR φ a' v := by cases a' <;> exact h1
  exact h2
theorem HR.yf {φ : Ph} {H : AH} {n : Nat} {h0 h : Hp} (hr : HR φ H n h0 h) {b : Nat} {l l' : List AV} {z : Bool} (hb : H.get b = some (.cells l z)) (hf : l'.all Go.Proofs.Ythjggjhebbdkdaa.flat.flat1 = true) (e : l.map Go.Proofs.Ythjggjhebbdkdaa.mk = l'.map Go.Proofs.Ythjggjhebbdkdaa.mk) : HR φ (H.set (some (.cells l' z)) aa b) n h0 h :=
  hr.Db hb (by have := congrArg List.length e; simp only [List.length_map] at this; omega) fun i a' hi => by
    have e := congrArg (fun x : List AV => x[i]?) e
    simp only [List.getElem?_map, hi, Option.map_some] at e
    rw [Option.map_eq_some_iff] at e
    obtain ⟨a, h1, h2⟩ := e
    exact ⟨a, h1, fun v hv => hv.JH (List.all_eq_true.1 hf a' (List.mem_of_getElem? hi)) h2⟩
end Go.Proofs.Ythjggjhebbdkdaa
namespace Go.Proofs.Ythjggjhebbdkdaa
open Go Go.RowKit
def Up (L : Smp) : Prop := L.Pairwise fun x y => x.1 < y.1
def plc : Smp → Int → Nat
  | [], _ => 0
  | x :: L, t => if x.1 < t then plc L t + 1 else 0
def has (L : Smp) (t : Int) : Bool := decide (plc L t < L.length ∧ tAt L (plc L t) = t)
def gx (L : Smp) (t v : Int) : Smp := L.take (plc L t) ++ (t, v) :: L.drop (plc L t)
def iJ (L : Smp) (t v : Int) : Smp := L.set (plc L t) (t, v)
def a8 (p old now : Int) : Int × Int :=
  if p = 1 then (0, 8) else if p = 2 then (old, 0) else if p = 3 then (now, 0) else if p = 4 then (min old now, 0) else if p = 5 then (max old now, 0)
  else if p = 6 then (if (0 ≤ now ∧ W64 (old + now) < old) ∨ (now < 0 ∧ old < W64 (old + now)) then (0, 9) else (W64 (old + now), 0)) else (0, 1)
def mB (size : Nat) (L M : Smp) : Smp × Int := if (aU M).length ≤ 8 * size then (M, 0) else (L, 2)
def di (size : Nat) (L : Smp) (t v p : Int) : Smp × Int :=
  if t < 0 ∨ 1099511627776 ≤ t then (L, 1)
  else if has L t then (if (a8 p (vAt L (plc L t)) v).2 ≠ 0 then (L, (a8 p (vAt L (plc L t)) v).2) else mB size L (iJ L t (a8 p (vAt L (plc L t)) v).1))
  else mB size L (gx L t v)
def aS (L : Smp) (a b : Int) : Smp := L.filter fun x => decide (x.1 < a) || decide (b < x.1)
def ij (L : Smp) (t : Int) : Int × Int := if has L t then (vAt L (plc L t), 0) else (0, 5)
theorem mC : ∀ (L : Smp) (t : Int), plc L t ≤ L.length
  | [], _ => Nat.le_refl _
  | x :: L, t => by
    unfold plc
    split
    · have := mC L t; simp only [List.length_cons]; omega
    · exact Nat.zero_le _
theorem tL : ∀ {L : Smp} {t : Int} {j : Nat} (h : j < plc L t), tAt L j < t
  | [], t, j, h => by simp [plc] at h
  | x :: L, t, j, h => by
    unfold plc at h
    split at h
    · rename_i hx
      cases j with
      | zero => exact hx
      | succ j =>
        have := tL (L := L) (t := t) (j := j) (by omega)
        simpa [tAt] using this
    · omega
theorem tM : ∀ {L : Smp} {t : Int} (_ : plc L t < L.length), t ≤ tAt L (plc L t)
  | [], t, h => by simp at h
  | x :: L, t, h => by
    unfold plc at h ⊢
    split
    · rename_i hx
      rw [if_pos hx] at h
      have := tM (L := L) (t := t) (by simpa using h)
      simpa [tAt] using this
    · rename_i hx
      show t ≤ x.1
      omega
theorem cX {L : Smp} {i : Nat} (h : i < L.length) : tAt L i = L[i].1 := by simp [tAt, h]
theorem lg {L : Smp} {i : Nat} (h : i < L.length) : vAt L i = L[i].2 := by simp [vAt, h]
theorem Up.lt {L : Smp} (h : Up L) {i j : Nat} (hi : i < j) (hj : j < L.length) : tAt L i < tAt L j := by
  rw [cX hj, cX (by omega)]
  exact List.pairwise_iff_getElem.1 h i j (by omega) hj hi
theorem Up.of {L : Smp} (h : ∀ i, i + 1 < L.length → tAt L i < tAt L (i + 1)) : Up L := by
  refine List.pairwise_iff_getElem.2 fun i j hi hj hij => ?_
  obtain ⟨k, rfl⟩ : ∃ k, j = i + 1 + k := ⟨j - (i + 1), by omega⟩
  clear hij
  rw [← cX hi, ← cX hj]
  induction k with
  | zero => exact h i hj
  | succ k ih => exact Int.lt_trans (ih (by omega)) (h (i + 1 + k) hj)
theorem Fx {L : Smp} (h : Up L) (t : Int) : has L t = true ↔ ∃ x ∈ L, x.1 = t := by
  unfold has
  rw [decide_eq_true_eq]
  constructor
  · intro ⟨h1, h2⟩
    exact ⟨L[plc L t], List.getElem_mem h1, by rw [← cX h1]; exact h2⟩
  · intro ⟨x, hx, hxt⟩
    obtain ⟨i, hi, rfl⟩ := List.mem_iff_getElem.1 hx
    rw [← cX hi] at hxt
    have h1 : ¬ i < plc L t := fun q => by have := tL q; omega
    have h2 : plc L t < L.length := by omega
    refine ⟨h2, ?_⟩
    have h3 := tM h2
    rcases Nat.lt_or_ge (plc L t) i with q | q
    · have := h.lt q hi; omega
    · have : i = plc L t := by omega
      rw [this] at hxt; exact hxt
theorem tN {L : Smp} {t : Int} (h : has L t = true) : (t, vAt L (plc L t)) ∈ L := by
  unfold has at h
  rw [decide_eq_true_eq] at h
  have := List.getElem_mem h.1
  have e : L[plc L t] = (t, vAt L (plc L t)) := by
    rw [lg h.1]
    refine Prod.ext ?_ rfl
    rw [← cX h.1]; exact h.2
  rw [← e]; exact this
theorem iK (L : Smp) (t v : Int) : (gx L t v).length = L.length + 1 := by
  have := mC L t
  simp [gx]; omega
theorem nq (L : Smp) (t v : Int) : (iJ L t v).length = L.length := by simp [iJ]
theorem lj {L : Smp} {t v : Int} {x : Int × Int} : x ∈ gx L t v ↔ x = (t, v) ∨ x ∈ L := by
  unfold gx
  rw [List.mem_append, List.mem_cons]
  have := List.take_append_drop (plc L t) L
  constructor
  · rintro (h | h | h)
    · exact .inr (List.mem_of_mem_take h)
    · exact .inl h
    · exact .inr (List.mem_of_mem_drop h)
  · rintro (h | h)
    · exact .inr (.inl h)
    · rw [← this, List.mem_append] at h
      rcases h with h | h
      · exact .inl h
      · exact .inr (.inr h)
theorem zk {L : Smp} (h : Up L) {t : Int} (hn : has L t = false) (v : Int) : Up (gx L t v) := by
  have hle := mC L t
  refine .of fun i hi => ?_
  rw [iK] at hi
  have key : ∀ j, j < L.length + 1 → tAt (gx L t v) j = if j < plc L t then tAt L j else if j = plc L t then t else tAt L (j - 1) := fun j hj => by
    unfold tAt gx
    have hl : (L.take (plc L t)).length = plc L t := by simp; omega
    split
    · rename_i q
      rw [List.getElem?_append_left (by omega), List.getElem?_take, if_pos q]
    · rename_i q
      rw [List.getElem?_append_right (by omega), hl]
      split
      · rename_i q2; subst q2; simp
      · rename_i q2
        obtain ⟨m, rfl⟩ : ∃ m, j = plc L t + 1 + m := ⟨j - (plc L t + 1), by omega⟩
        rw [show plc L t + 1 + m - plc L t = m + 1 from by omega, List.getElem?_cons_succ, List.getElem?_drop, show plc L t + 1 + m - 1 = plc L t + m from by omega]
  rw [key i (by omega), key (i + 1) hi]
  have hp : plc L t < L.length → t < tAt L (plc L t) := fun q => by
    have h1 := tM q
    have h2 : tAt L (plc L t) ≠ t := fun e => by
      unfold has at hn
      rw [decide_eq_false_iff_not] at hn
      exact hn ⟨q, e⟩
    omega
  by_cases h1 : i + 1 < plc L t
  · rw [if_pos (by omega), if_pos h1]; exact h.lt (Nat.lt_succ_self i) (by omega)
  · rw [if_neg h1]
    by_cases h2 : i + 1 = plc L t
    · rw [if_pos h2, if_pos (by omega)]; exact tL (by omega)
    · rw [if_neg h2]
      by_cases h3 : i = plc L t
      · rw [if_neg (by omega), if_pos h3, show i + 1 - 1 = plc L t from by omega]; exact hp (by omega)
      · rw [if_neg (by omega), if_neg h3]; exact h.lt (by omega) (by omega)
theorem nr {L : Smp} (h : Up L) {t v : Int} (hh : has L t = true) {x : Int × Int} : x ∈ iJ L t v ↔ x = (t, v) ∨ (x ∈ L ∧ x.1 ≠ t) := by
  have hh2 := hh
  unfold has at hh2
  rw [decide_eq_true_eq] at hh2
  obtain ⟨h1, h2⟩ := hh2
  unfold iJ
  constructor
  · intro hx
    obtain ⟨i, hi, e⟩ := List.mem_iff_getElem.1 hx
    rw [List.length_set] at hi
    rw [List.getElem_set] at e
    split at e
    · exact .inl e.symm
    · rename_i q
      refine .inr ⟨by rw [← e]; exact List.getElem_mem hi, fun e2 => ?_⟩
      rw [← e, ← cX hi] at e2
      rcases Nat.lt_or_gt_of_ne q with q | q
      · have := h.lt q hi; omega
      · have := h.lt q h1; omega
  · rintro (rfl | ⟨hx, hne⟩)
    · exact List.mem_iff_getElem.2 ⟨plc L t, by simpa using h1, by simp⟩
    · obtain ⟨i, hi, e⟩ := List.mem_iff_getElem.1 hx
      have : plc L t ≠ i := fun q => hne (by subst q; rw [← e, ← cX hi]; exact h2)
      exact List.mem_iff_getElem.2 ⟨i, by simpa using hi, by rw [List.getElem_set_ne this]; exact e⟩
theorem zl {L : Smp} (h : Up L) {t v : Int} (hh : has L t = true) : Up (iJ L t v) := by
  have hh2 := hh
  unfold has at hh2
  rw [decide_eq_true_eq] at hh2
  have key : ∀ j, tAt (iJ L t v) j = tAt L j := fun j => by
    unfold iJ tAt
    rw [List.getElem?_set]
    split
    · rename_i q
      subst q
      rw [if_pos hh2.1]
      have := hh2.2
      unfold tAt at this
      rw [this]; rfl
    · rfl
  refine .of fun i hi => ?_
  rw [nq] at hi
  rw [key, key]
  exact h.lt (Nat.lt_succ_self i) hi
def bX (L : Smp) : Prop := Up L ∧ (∀ x ∈ L, (0 ≤ x.1 ∧ x.1 < 1099511627776) ∧ aM x.2) ∧ L.length ≤ 20000
theorem bX.nil : bX [] := ⟨List.Pairwise.nil, (fun x h => by cases h), Nat.zero_le _⟩
theorem bX.gO {L : Smp} (h : bX L) : ∀ x ∈ L, aM x.1 ∧ aM x.2 := fun x hx => by
  obtain ⟨⟨h1, h2⟩, h3⟩ := h.2.1 x hx
  exact ⟨⟨by omega, by omega⟩, h3⟩
theorem bX.sub {L M : Smp} (h : bX L) (hs : M.Sublist L) : bX M := ⟨h.1.sublist hs, fun x hx => h.2.1 x (hs.subset hx), Nat.le_trans hs.length_le h.2.2⟩
theorem wq (X : Smp) : ∀ i, 2 * i ≤ (aE X i).length
  | 0 => Nat.zero_le _
  | i + 1 => by
    have h1 := wq X i
    have h2 : 2 ≤ (bM X i).length := by
      unfold bM
      split
      · simp [aN]
      · rw [List.length_append]
        have := (dX (dT X i)).2
        have := (dX (dV X i)).2
        omega
    simp only [aE, List.length_append]
    omega
theorem zm (X : Smp) : 2 * X.length ≤ (aU X).length := wq X _
theorem Fy {a b : Int} (h : aM a) (k : aM b) : aM (min a b) := by
  rcases Int.le_total a b with q | q
  · rw [Int.min_eq_left q]; exact h
  · rw [Int.min_eq_right q]; exact k
theorem FA {a b : Int} (h : aM a) (k : aM b) : aM (max a b) := by
  rcases Int.le_total a b with q | q
  · rw [Int.max_eq_right q]; exact k
  · rw [Int.max_eq_left q]; exact h
theorem sH {p a b : Int} (h : aM a) (k : aM b) : aM (a8 p a b).1 := by
  have z : aM 0 := ⟨by omega, by omega⟩
  unfold a8
  split; exact z
  split; exact h
  split; exact k
  split; exact Fy h k
  split; exact FA h k
  split
  · split
    · exact z
    · exact qA _
  · exact z
theorem sI {size : Nat} (hs : size ≤ 4096) {L M : Smp} (h : bX L) (hu : Up M) (hm : ∀ x ∈ M, (0 ≤ x.1 ∧ x.1 < 1099511627776) ∧ aM x.2) : bX (mB size L M).1 := by
  unfold mB
  split
  · rename_i q
    have := zm M
    exact ⟨hu, hm, by show M.length ≤ 20000; omega⟩
  · exact h
theorem Bd {size : Nat} (hs : size ≤ 4096) {L : Smp} (h : bX L) {t v p : Int} (hv : aM v) : bX (di size L t v p).1 := by
  unfold di
  split
  · exact h
  · rename_i ht
    have ht : 0 ≤ t ∧ t < 1099511627776 := by omega
    split
    · rename_i hh
      have ho : aM (vAt L (plc L t)) := (h.2.1 _ (tN hh)).2
      split
      · exact h
      · refine sI hs h (zl h.1 hh) fun x hx => ?_
        rcases (nr h.1 hh).1 hx with rfl | ⟨hx, _⟩
        · exact ⟨ht, sH ho hv⟩
        · exact h.2.1 x hx
    · rename_i hh
      have hh : has L t = false := by simpa using hh
      refine sI hs h (zk h.1 hh v) fun x hx => ?_
      rcases lj.1 hx with rfl | hx
      · exact ⟨ht, hv⟩
      · exact h.2.1 x hx
theorem qC {L : Smp} (h : bX L) (a b : Int) : bX (aS L a b) := h.sub List.filter_sublist
theorem lI {L : Smp} (h : L.length ≤ 7) : (aU L).length ≤ 944 := by
  have key : ∀ i, (aE L (i + 1)).length ≤ 128 + 136 * i := fun i => by
    induction i with
    | zero => simp [aE, bM, aN]
    | succ i ih =>
      show (aE L (i + 1) ++ bM L (i + 1)).length ≤ _
      rw [List.length_append]
      have h2 : (bM L (i + 1)).length ≤ 136 := by
        unfold bM
        rw [if_neg (by omega), List.length_append]
        have := (dX (dT L (i + 1))).1
        have := (dX (dV L (i + 1))).1
        omega
      omega
  unfold aU
  cases hl : L.length with
  | zero => simp [aE]
  | succ k => have := key k; omega
def nt (L : Smp) : Int := tAt L (L.length - 1)
def lY (L M : Smp) : Bool := decide (L ≠ []) && decide (M ≠ []) && decide (tAt M 0 ≤ nt L)
def bA (size : Nat) (L M : Smp) : (Smp × Smp) × Int := if lY L M then ((L, M), 1) else if (aU (L ++ M)).length ≤ 8 * size then ((L ++ M, []), 0) else ((L, M), 2)
theorem Be {size : Nat} (hs : size ≤ 4096) {L M : Smp} (h : bX L) (k : bX M) : bX (bA size L M).1.1 ∧ bX (bA size L M).1.2 := by
  unfold bA
  split
  · exact ⟨h, k⟩
  · rename_i hm
    split
    · rename_i hq
      refine ⟨⟨.of fun i hi => ?_, fun x hx => ?_, ?_⟩, .nil⟩
      · rw [List.length_append] at hi
        have a1 : ∀ j, j < L.length → tAt (L ++ M) j = tAt L j := fun j hj => by simp [tAt, List.getElem?_append_left hj]
        have a2 : ∀ j, L.length ≤ j → tAt (L ++ M) j = tAt M (j - L.length) := fun j hj => by simp [tAt, List.getElem?_append_right hj]
        by_cases h1 : i + 1 < L.length
        · rw [a1 i (by omega), a1 _ h1]; exact h.1.lt (Nat.lt_succ_self i) h1
        · rw [a2 (i + 1) (by omega)]
          by_cases h2 : i + 1 = L.length
          · rw [a1 i (by omega), show i + 1 - L.length = 0 from by omega]
            have hL : L ≠ [] := fun q => by subst q; simp at h2
            have hM : M ≠ [] := fun q => by subst q; simp at hi; omega
            have : ¬ tAt M 0 ≤ nt L := fun q => hm (by simp [lY, hL, hM, q])
            unfold nt at this
            rw [show L.length - 1 = i from by omega] at this
            omega
          · rw [a2 i (by omega), show i + 1 - L.length = i - L.length + 1 from by omega]
            exact k.1.lt (Nat.lt_succ_self _) (by omega)
      · rcases List.mem_append.1 hx with hx | hx
        · exact h.2.1 x hx
        · exact k.2.1 x hx
      · have := zm (L ++ M); show (L ++ M).length ≤ 20000; omega
    · exact ⟨h, k⟩
end Go.Proofs.Ythjggjhebbdkdaa
namespace Go.Proofs.Ythjggjhebbdkdaa
open Go Go.RowKit
def cY (H : AH) (n : Nat) (H' : AH) (n' : Nat) : Prop := ∀ (φ : Ph) (h0 h : Hp), HR φ H n h0 h → HR φ H' n' h0 h
def VTo (u v : AV) : Prop := ∀ (φ : Ph) (w : Value), VR φ u w → VR φ v w
theorem cY.refl (H : AH) (n : Nat) : cY H n H n := fun _ _ _ h => h
theorem cY.trans {H1 H2 H3 : AH} {n1 n2 n3 : Nat} (h : cY H1 n1 H2 n2) (k : cY H2 n2 H3 n3) : cY H1 n1 H3 n3 := fun φ h0 hp q => k φ h0 hp (h φ h0 hp q)
theorem cY.yf {H : AH} {n b : Nat} {l l' : List AV} {z : Bool} (hb : H.get b = some (.cells l z)) (hf : l'.all flat.flat1 = true) (e : l.map Go.Proofs.Ythjggjhebbdkdaa.mk = l'.map Go.Proofs.Ythjggjhebbdkdaa.mk) : cY H n (H.set (some (.cells l' z)) aa b) n := fun _ _ _ hr => hr.yf hb hf e
theorem VTo.refl (u : AV) : VTo u u := fun _ _ h => h
def post (g : List AV → AH → Nat → PK → Prop) (args : List AV) (H : AH) (n : Nat) (κ : PK) : Prop := g args H n fun u H' n' => ∃ v H2 n2, VTo u v ∧ cY H' n' H2 n2 ∧ κ v H2 n2
theorem aF.post {f : FuncId} {g : List AV → AH → Nat → PK → Prop} (hg : aF f g) : aF f (post g) := fun args H n κ hs φ h0 h vs K hr ha hk => hg args H n _ hs φ h0 h vs K hr ha fun ψ u H' n' w g' hle hg' hu ⟨v, H2, n2, h1, h2, h3⟩ => hk ψ v H2 n2 w g' hle (h2 _ _ _ hg') (h1 _ _ hu) h3
theorem FB {s : List Nat} {i : Nat} (h : i < s.length) : (cm s)[i]? = some (.si .u8 (Int.ofNat s[i])) := by
  unfold cm
  rw [List.getElem?_map, List.getElem?_eq_getElem h]; rfl
theorem qD : ∀ (l : List AV) (o : Nat) (x : AV), o < l.length → ez l o [x] = some (l.set o x)
  | [], o, x, h => by simp at h
  | y :: l, 0, x, _ => by cases l <;> simp [ez]
  | y :: l, o + 1, x, h => by simp [ez, qD l o x (by simpa using h)]
theorem Di (s : List Nat) (o : Nat) (c : Nat) : (cm s).set o (.si .u8 (Int.ofNat c)) = cm (s.set o c) := by simp [cm, List.map_set]
theorem Dj (s t : List Nat) : cm (s ++ t) = cm s ++ cm t := by simp [cm]
theorem wu {s : List Nat} (h : ∀ x ∈ s, x < 256) : iF (cm s) = some s := qo h
def shN (N : Nat) : Nat := 7 - N % 8
theorem zn (N : Nat) : IntKind.i64.wrap (7 - ((N : Nat) : Int).tmod 8) = ((shN N : Nat) : Int) := by
  have h : ((N : Nat) : Int).tmod 8 = ((N % 8 : Nat) : Int) := by
    rw [Int.tmod_eq_emod_of_nonneg (Int.natCast_nonneg _)]; rfl
  rw [h]
  have := Nat.mod_lt N (show 8 > 0 by decide)
  unfold shN
  rw [IntKind.wrap_i64]; omega
theorem Dk (N : Nat) : min (IntKind.i64.wrap (7 - ((N : Nat) : Int).tmod 8)).toNat 8 = shN N := by
  rw [zn]; unfold shN; simp; omega
theorem div_eq (N : Nat) (h : N ≤ 9223372036854775807) : IntKind.i64.wrap (((N : Nat) : Int).tdiv 8) = ((N / 8 : Nat) : Int) := by
  have e : ((N : Nat) : Int).tdiv 8 = ((N / 8 : Nat) : Int) := by
    rw [Int.tdiv_eq_ediv_of_nonneg (Int.natCast_nonneg _)]; rfl
  rw [e, IntKind.wrap_i64]; omega
theorem zo (N : Nat) : (((N : Nat) : Int).tmod 8 = 0) ↔ N % 8 = 0 := by
  have h : ((N : Nat) : Int).tmod 8 = ((N % 8 : Nat) : Int) := by
    rw [Int.tmod_eq_emod_of_nonneg (Int.natCast_nonneg _)]; rfl
  rw [h]; omega
theorem fdiv_pow (U m : Nat) : ((U : Nat) : Int).fdiv ((2 : Int) ^ m) = ((U / 2 ^ m : Nat) : Int) := by
  have : ((2 : Int) ^ m) = ((2 ^ m : Nat) : Int) := by rw [Int.natCast_pow]; rfl
  rw [this, we]
theorem Dl {U m : Nat} {i : Int} (hi : i = (m : Int)) (hm : m < 64) : bI .and .u8 (IntKind.u8.wrap (((U : Nat) : Int).fdiv ((2 : Int) ^ min i.toNat 64))) 1 = ((U / 2 ^ m % 2 : Nat) : Int) := by
  subst hi
  rw [show min (Int.toNat (m : Int)) 64 = m from by simp; omega, fdiv_pow, H8]
theorem wrU (x : Int) (b : Nat) (hb : b < 2) (hx : x = (b : Int)) (N : Nat) : IntKind.u8.wrap (x * (2 : Int) ^ min (IntKind.i64.wrap (7 - ((N : Nat) : Int).tmod 8)).toNat 8) = ((b * 2 ^ shN N : Nat) : Int) := by
  subst hx
  rw [Dk]
  exact H9 hb (by unfold shN; omega)
theorem zp {B : List Nat} {x : Int} {b : Nat} (hb : b < 2) (hx : x = (b : Int)) (h8 : B.length % 8 = 0) {o : Nat} (ho : o = B.length / 8) :
    ez (cm (pack B) ++ [.int .u8 0]) o [.si .u8 (bI .or .u8 0 (IntKind.u8.wrap (x * (2 : Int) ^ min (IntKind.i64.wrap (7 - ((B.length : Nat) : Int).tmod 8)).toNat 8)))] = some (cm (pack (B ++ [b]))) := by
  have hl : (cm (pack B)).length = B.length / 8 := by rw [fe, bb]; omega
  have hs : shN B.length = 7 := by unfold shN; omega
  rw [qD _ _ _ (by simp [hl, ho]), wrU x b hb hx, hs, qz h8, Dj]
  have e : bI .or .u8 0 ((b * 2 ^ 7 : Nat) : Int) = Int.ofNat (b * 2 ^ 7) := by
    have := Hf (a := 0) (b := b) (r := 7) (by decide) (by decide) hb (by decide)
    rw [Nat.zero_add] at this
    exact this
  rw [e, List.set_append_right _ _ (by omega), hl, ho, Nat.sub_self]
  rfl
theorem Dm {B : List Nat} (h8 : B.length % 8 = 0) {o : Nat} (ho : o = B.length / 8) : nth (cm (pack B) ++ [.int .u8 0]) o = some (.int .u8 0) := by
  have hl : (cm (pack B)).length = B.length / 8 := by rw [fe, bb]; omega
  rw [ep, List.getElem?_append_right (by omega), hl, ho, Nat.sub_self]; rfl
theorem Dn {B : List Nat} (h8 : B.length % 8 ≠ 0) {o : Nat} (ho : o = B.length / 8) : nth (cm (pack B)) o = some (.si .u8 (Int.ofNat (iZ (B.drop (8 * (B.length / 8)))))) := by
  have hp := ja B (B.length / 8) (by omega)
  have hl : B.length / 8 < (pack B).length := by rw [bb]; omega
  rw [ep, ho, FB hl]
  rw [List.getElem?_eq_getElem hl] at hp
  injection hp with hp
  rw [hp, List.take_of_length_le (by rw [List.length_drop]; omega)]
theorem zq {B : List Nat} {x : Int} {b : Nat} (hB : cU B) (hb : b < 2) (hx : x = (b : Int)) (h8 : B.length % 8 ≠ 0) {o : Nat} (ho : o = B.length / 8) :
    ez (cm (pack B)) o [.si .u8 (bI .or .u8 (Int.ofNat (iZ (B.drop (8 * (B.length / 8))))) (IntKind.u8.wrap (x * (2 : Int) ^ min (IntKind.i64.wrap (7 - ((B.length : Nat) : Int).tmod 8)).toNat 8)))] = some (cm (pack (B ++ [b]))) := by
  have hl : B.length / 8 < (cm (pack B)).length := by rw [fe, bb]; omega
  have hd : (B.drop (8 * (B.length / 8))).length = B.length % 8 := by rw [List.length_drop]; omega
  have hd8 : (B.drop (8 * (B.length / 8))).length < 8 := by rw [hd]; exact Nat.mod_lt _ (by decide)
  have hc := v9 (C := B.drop (8 * (B.length / 8))) (fun c hc => hB c (List.mem_of_mem_drop hc)) (by omega)
  have hr := ye hd8
  have hs : shN B.length = 7 - (B.drop (8 * (B.length / 8))).length := by rw [hd]; rfl
  rw [qD _ _ _ (by omega), wrU x b hb hx, Fw h8, hs, ← Di, ho]
  have e := Hf (a := iZ (B.drop (8 * (B.length / 8)))) (b := b) (r := 7 - (B.drop (8 * (B.length / 8))).length) hc hr hb (by omega)
  rw [show (Int.ofNat (iZ (B.drop (8 * (B.length / 8))))) = ((iZ (B.drop (8 * (B.length / 8))) : Nat) : Int) from rfl, e, hd]
  rfl
theorem Ia {s : List Nat} (hs : ∀ x ∈ s, x < 256) {a c : Nat} (hc : nth s (a / 8) = some c) : bI .and .u8 ((Int.ofNat c).fdiv ((2 : Int) ^ min (IntKind.i64.wrap (7 - ((a : Nat) : Int).tmod 8)).toNat 8)) 1 = ((nm s a : Nat) : Int) := by
  rw [ep] at hc
  have hc2 : c < 256 := hs c (List.mem_of_getElem? hc)
  rw [Dk, show (Int.ofNat c) = ((c : Nat) : Int) from rfl, fdiv_pow, H6 hc2]
  unfold nm shN
  rw [hc]; rfl
theorem FC {s : List Nat} (hs : ∀ x ∈ s, x < 256) {a c u : Nat} (hc : nth s (a / 8) = some c) (hu : u < 9223372036854775808) :
    bI .or .u64 (IntKind.u64.wrap (((u : Nat) : Int) * 2)) (IntKind.u64.wrap (bI .and .u8 ((Int.ofNat c).fdiv ((2 : Int) ^ min (IntKind.i64.wrap (7 - ((a : Nat) : Int).tmod 8)).toNat 8)) 1)) = ((2 * u + nm s a : Nat) : Int) := by
  rw [Ia hs hc]
  exact JG hu (Nat.mod_lt _ (by decide))
theorem qE (s : List Nat) (a i j : Nat) : aK s a (i + j) = aK s a i ++ aK s (a + i) j := by
  unfold aK
  rw [List.range_add, List.map_append, List.map_map]
  congr 1
  exact List.map_congr_left fun k _ => by simp [Nat.add_assoc]
theorem Bf (s : List Nat) (a : Nat) {j : Nat} (h : j ≤ 63) : b5 0 (aK s a j) < 9223372036854775808 := by
  have := pn _ (wo s a j)
  rw [jn] at this
  have h2 : 2 ^ j ≤ 2 ^ 63 := Nat.pow_le_pow_right (by decide) h
  omega
theorem Dp (x : Int) : W64 x = (x + 9223372036854775808) % 18446744073709551616 - 9223372036854775808 := by
  show IntKind.i64.wrap x = _
  rw [IntKind.wrap_i64]
theorem wv (a d : Int) : W64 (a + W64 (W64 d - a)) = W64 d := by
  (try simp only [Dp]); omega
theorem wx {a b : Int} (h : aM b) : W64 (a + W64 (b - a)) = b := by
  have := h.1; have := h.2
  (try simp only [Dp]); omega
theorem wy (X : Smp) {i : Nat} (h : i ≠ 0) : W64 (cW X i + ld (dT X i)) = cW X (i + 1) := by
  unfold dT
  rw [zj, wv]
  unfold cW
  rw [if_neg (by omega)]
  congr 2
theorem JI {X : Smp} {i : Nat} (h : i ≠ 0) (hx : aM (tAt X i)) : W64 (tAt X (i - 1) + cW X (i + 1)) = tAt X i := by
  unfold cW
  rw [if_neg (by omega), show i + 1 - 1 = i from rfl, show i + 1 - 2 = i - 1 from by omega]
  exact wx hx
theorem JJ {X : Smp} {i : Nat} (hx : aM (vAt X i)) : W64 (vAt X (i - 1) + ld (dV X i)) = vAt X i := by
  unfold dV
  rw [zj]
  exact wx hx
theorem Hg (X : Smp) (i : Nat) : dT X i < 18446744073709551616 := Dd (qA _)
theorem Hh (X : Smp) (i : Nat) : dV X i < 18446744073709551616 := Dd (qA _)
theorem Dq {X : Smp} (h : ∀ x ∈ X, aM x.1 ∧ aM x.2) (i : Nat) : aM (tAt X i) ∧ aM (vAt X i) := by
  unfold tAt vAt
  cases e : X[i]? with
  | none => exact ⟨⟨by decide, by decide⟩, ⟨by decide, by decide⟩⟩
  | some x => exact h x (List.mem_of_getElem? e)
end Go.Proofs.Ythjggjhebbdkdaa
namespace Go.Proofs.Ythjggjhebbdkdaa
open Go Go.RowKit
theorem ae.fnp {H : AH} {m : Nat} {r : Nat → Nat} {a : AV} {f b o : Nat} (hb : b < m) (e : a = .fn f [.ptr (r b) o] []) : ae H m r a (.fn f [.ptr b o] []) := fun φ ψ v hr _ hv => by
  subst e
  obtain ⟨xs, cs, rfl, h1, h2⟩ := hv.mi
  obtain ⟨x, l, e1, h3, h4⟩ := h1.cons_inv
  obtain ⟨p, h5, rfl⟩ := h3.ct
  refine .fn ?_ (by rw [h2.aW]; exact .nil)
  rw [e1, h4.aW]
  exact .cons (.ptr (by rw [hr.1 b hb]; exact h5)) .nil
def kh (c : Nat) (B : List Nat) : List AV := [.rw c 0 (pack B).length 1 0, .si .i64 ((B.length : Nat) : Int)]
noncomputable def JK (H : AH) (n b c : Nat) (B : List Nat) : AH := ((H.set (some (.cells (cm (pack B)) true)) aa n).set none aa c).set (some (.cells (kh n B) true)) aa b
def po (args : List AV) (H : AH) (n : Nat) (κ : PK) : Prop := match args with
  | [x, u, m] => ∃ (b c U k : Nat) (B : List Nat), x = .ptr b 0 ∧ b ≠ c ∧ b < n ∧ c < n ∧ H.get b = some (.cells (kh c B) true) ∧ H.get c = some (.cells (cm (pack B)) true) ∧ cU B ∧ mk u = .si .u64 (U : Int) ∧ mk m = .si .i64 (k : Int) ∧ k ≤ 64 ∧ U < 2 ^ k ∧ B.length ≤ 100000000 ∧
      κ (.int .i64 0) (JK H n b c (B ++ bitsOf U k)) (n + 1)
  | _ => False
theorem oL (U k : Nat) : bitsOf U (k + 1) = [U / 2 ^ k % 2] ++ bitsOf U k := rfl
noncomputable def wc (U : Nat) (D : List Nat) (k : Nat) : AE × AH := (mkE [(0, .si .u64 ((U : Nat) : Int)), (2, .fn 99 [.ptr 0 0] []), (6, .si .i64 (((k : Nat) : Int) - 1))], mkH [(0, .cells (kh 2 D) true), (2, .cells (cm ((pack D))) true)])
theorem n9 {U : Nat} {D : List Nat} {k : Nat} {p n : Nat} {σ : AE} {H : AH} (j2 : Nat) (hj : j2 ≠ 0) (hp : p ≤ 2) (e0 : ae H 3 (fun b => if b = 2 then j2 else b) (ay (pa 0) σ) (.si .u64 ((U : Nat) : Int))) (e2 : ae H 3 (fun b => if b = 2 then j2 else b) (ay (pa 2) σ) (.fn 99 [.ptr 0 0] [])) (e6 : mk (ay (pa 6) σ) = .si .i64 (((k : Nat) : Int) - 1)) (h0 : ∃ l, H.get 0 = some (.cells l true) ∧ lf H 3 (fun b => if b = 2 then j2 else b) l (kh 2 D)) (h2 : (∃ l, H.get j2 = some (.cells l true) ∧ l.map mk = cm ((pack D))) ∨ (((pack D)) = [] ∧ n ≤ j2)) : Cov p σ H n ((wc U D k).1, (wc U D k).2, 3) := by
  refine Cov.ofR (fun b => if b = 2 then j2 else b) (by omega) (fun b hb => by repeat' rw [if_neg (by omega)]) ?_ ?_ ?_
  · intro x hx
    simp only [List.mem_cons, List.not_mem_nil, or_false] at hx
    rcases hx with rfl | rfl | rfl
    · exact e0
    · exact e2
    · exact .int e6
  · intro x hx
    simp only [List.mem_cons, List.not_mem_nil, or_false] at hx
    rcases hx with rfl | rfl
    · exact ⟨by simp, .inl (h0.elim fun l h => ⟨_, h.1, aO.st h.2⟩)⟩
    · exact ⟨by simp, h2.elim (fun ⟨l, h, g⟩ => .inl ⟨_, h, aO.bz (jC _) (by rw [g, eB]) (fun q => q)⟩) (fun h => .inr ⟨by rw [h.1]; rfl, h.2⟩)⟩
  · intro x hx y hy
    simp only [List.mem_cons, List.not_mem_nil, or_false] at hx hy
    rcases hx with rfl | rfl <;> rcases hy with rfl | rfl <;> simp <;> omega
noncomputable def KW : FuncId → EP := bK 99 [] evP
theorem JL : bG KW := aL bd (by kernel_rfl) (by kernel_rfl)
theorem Dr {U k : Nat} (hk : k ≤ 64) (hd : U / 2 ^ k = 0) : ¬ 0 < ((U : Nat) : Int).fdiv ((2 : Int) ^ min (Int.toNat (k : Int)) IntKind.u64.bits) := by
  rw [show min (Int.toNat (k : Int)) IntKind.u64.bits = k from by show min k 64 = k; omega, fdiv_pow, hd]; decide
theorem tyB : RTy 121 121 1 1 := ⟨_, _, _, rfl, rfl, (fun q h => by cases h), rfl, rfl, rfl, rfl, by decide, by decide⟩
theorem Dt (B : List Nat) (U k : Nat) (hB : cU B) (hk : k ≤ 64) (hU : U < 2 ^ k) (hl : B.length ≤ 100000000) : az KW 5 87 [.ptr 0 0, .si .u64 (U : Int), .si .i64 (k : Int)] (mkH [(0, .cells (kh 1 B) true), (1, .cells (cm (pack B)) true)]) 2
    fun u H' _ => u = .int .i64 0 ∧ H'.get 0 = some (.cells (kh 2 (B ++ bitsOf U k)) true) ∧ H'.get 2 = some (.cells (cm (pack (B ++ bitsOf U k))) true) := by
  have hdiv : U / 2 ^ k = 0 := Nat.div_eq_of_lt hU
  have hkw : IntKind.i64.wrap ((k : Int) - 1) = (k : Int) - 1 := cr ⟨by omega, by omega⟩
  conv => whnf
  refine ag.dec (fun h => absurd h (by omega)) (fun _ => ?_)
  conv => whnf
  refine ag.dec (fun h => absurd h (by omega)) (fun _ => ?_)
  conv => whnf
  refine ag.dec (fun h64 => ?_) (fun h64 => ?_)
  · conv => whnf
    refine ⟨by omega, ?_⟩
    conv => whnf
    refine ag.dec (fun h => absurd h (Dr hk hdiv)) (fun _ => ?_)
    conv => whnf
    refine bg.mk { t : List Nat × Nat // t.1 ++ bitsOf U t.2 = B ++ bitsOf U k ∧ cU t.1 ∧ t.2 ≤ k ∧ t.1.length + t.2 = B.length + k } 3 (fun t => wc U t.val.1 t.val.2) (fun t => t.val.2) ⟨(B, k), rfl, hB, Nat.le_refl _, rfl⟩ ?_ ?_
    · exact n9 (j2 := 1) (by decide) (Nat.le_refl 2) (.int rfl) (.fnp (by decide) rfl) (congrArg (AV.si .i64) hkw) ⟨_, rfl, .cons (ae.rw (by decide) rfl) (.cons (.int rfl) .nil)⟩ (.inl ⟨_, rfl, eB _⟩)
    · intro ⟨(D, m), he, hD, hm, hlen⟩
      dsimp only at he hD hm hlen
      have hDl : D.length ≤ 100000064 := by omega
      have hDp : (pack D).length ≤ 100000000 := by rw [bb]; omega
      cases m with
      | zero =>
        conv => whnf
        refine ag.dec (fun h1 => absurd h1 (by show ¬ (0 : Int) ≤ ((0 : Nat) : Int) - 1; omega)) (fun _ => ?_)
        conv => whnf
        have e : D = B ++ bitsOf U k := by simpa [bitsOf] using he
        subst e
        exact ⟨rfl, rfl, rfl⟩
      | succ m =>
        have hb2 : U / 2 ^ m % 2 < 2 := Nat.mod_lt _ (by decide)
        have hi0 : 0 ≤ ((m + 1 : Nat) : Int) - 1 := by omega
        have hi : ((m + 1 : Nat) : Int) - 1 = (m : Int) := by omega
        have hbit := Dl (U := U) hi (by omega)
        have hiw : IntKind.i64.wrap (((m + 1 : Nat) : Int) - 1 - 1) = ((m : Nat) : Int) - 1 := (congrArg IntKind.i64.wrap (congrArg (· - 1) hi)).trans (cr ⟨by omega, by omega⟩)
        have hnw : IntKind.i64.wrap ((D.length : Int) + 1) = (((D ++ [U / 2 ^ m % 2]).length : Nat) : Int) := by rw [List.length_append, List.length_singleton]; exact cr ⟨by omega, by omega⟩
        have hq := div_eq D.length (by omega)
        have hsh0 : 0 ≤ IntKind.i64.wrap (7 - (D.length : Int).tmod 8) := by rw [zn]; omega
        have hrow : bu (cm (pack D)) 0 ((pack D).length * 1) = some (cm (pack D)) := cD (by rw [fe, Nat.mul_one])
        have hnext : (D ++ [U / 2 ^ m % 2]) ++ bitsOf U m = B ++ bitsOf U k := by rw [List.append_assoc, ← oL]; exact he
        have hbig : ((pack D).length + 1) * 1 ≤ 140737488355328 := by omega
        have hDn : cU (D ++ [U / 2 ^ m % 2]) := hD.app (.one hb2)
        conv => whnf
        refine ag.dec (fun _ => ?_) (fun h1 => absurd hi0 h1)
        conv => whnf
        refine ⟨hi0, ?_⟩
        conv => whnf
        refine ag.dec (fun h8 => ?_) (fun h8 => ?_)
        · have h8 := (zo _).1 h8
          have hpl : (pack (D ++ [U / 2 ^ m % 2])).length = (pack D).length + 1 := by rw [qz h8]; simp
          have ho : 0 + D.length / 8 * 1 = D.length / 8 := by omega
          have hix : D.length / 8 < (pack D).length + 1 := by rw [bb]; omega
          conv => whnf
          refine fk.grow 1 1 _ _ _ _ _ _ tyB (.old rfl) rfl rfl (.rw rfl hrow) hbig ?_
          conv => whnf
          refine Idx.mk (D.length / 8) hq hix ?_
          conv => whnf
          refine ao (Dm h8 ho) ?_
          conv => whnf
          refine ⟨hsh0, ?_⟩
          conv => whnf
          refine Idx.mk (D.length / 8) hq hix ?_
          conv => whnf
          refine ao (zp hb2 hbit h8 ho) ?_
          conv => whnf
          refine ⟨⟨(D ++ [U / 2 ^ m % 2], m), hnext, hDn, by omega, by simp; omega⟩, Nat.lt_succ_self m, n9 (j2 := 4) (by decide) (Nat.le_refl 2) (.int rfl) (.fnp (by decide) rfl) (congrArg (AV.si .i64) hiw) ⟨_, rfl, .cons (ae.rw (by decide) rfl (hn := hpl.symm)) (.cons (.int (congrArg (AV.si .i64) hnw)) .nil)⟩ (.inl ⟨_, rfl, eB _⟩)⟩
        · have h8 : D.length % 8 ≠ 0 := fun q => h8 ((zo _).2 q)
          have hpl : (pack (D ++ [U / 2 ^ m % 2])).length = (pack D).length := by rw [bb, bb]; simp; omega
          have ho : 0 + D.length / 8 * 1 = D.length / 8 := by omega
          have hix : D.length / 8 < (pack D).length := by rw [bb]; omega
          conv => whnf
          refine Idx.mk (D.length / 8) hq hix ?_
          conv => whnf
          refine ao (Dn h8 ho) ?_
          conv => whnf
          refine ⟨hsh0, ?_⟩
          conv => whnf
          refine Idx.mk (D.length / 8) hq hix ?_
          conv => whnf
          refine ao (zq hD hb2 hbit h8 ho) ?_
          conv => whnf
          refine ⟨⟨(D ++ [U / 2 ^ m % 2], m), hnext, hDn, by omega, by simp; omega⟩, Nat.lt_succ_self m, n9 (j2 := 2) (by decide) (Nat.le_refl 2) (.int rfl) (.fnp (by decide) rfl) (congrArg (AV.si .i64) hiw) ⟨_, rfl, .cons (ae.rw (by decide) rfl (hn := hpl.symm)) (.cons (.int (congrArg (AV.si .i64) hnw)) .nil)⟩ (.inl ⟨_, rfl, eB _⟩)⟩
  · conv => whnf
    refine bg.mk { t : List Nat × Nat // t.1 ++ bitsOf U t.2 = B ++ bitsOf U k ∧ cU t.1 ∧ t.2 ≤ k ∧ t.1.length + t.2 = B.length + k } 3 (fun t => wc U t.val.1 t.val.2) (fun t => t.val.2) ⟨(B, k), rfl, hB, Nat.le_refl _, rfl⟩ ?_ ?_
    · exact n9 (j2 := 1) (by decide) (Nat.le_refl 2) (.int rfl) (.fnp (by decide) rfl) (congrArg (AV.si .i64) hkw) ⟨_, rfl, .cons (ae.rw (by decide) rfl) (.cons (.int rfl) .nil)⟩ (.inl ⟨_, rfl, eB _⟩)
    · intro ⟨(D, m), he, hD, hm, hlen⟩
      dsimp only at he hD hm hlen
      have hDl : D.length ≤ 100000064 := by omega
      have hDp : (pack D).length ≤ 100000000 := by rw [bb]; omega
      cases m with
      | zero =>
        conv => whnf
        refine ag.dec (fun h1 => absurd h1 (by show ¬ (0 : Int) ≤ ((0 : Nat) : Int) - 1; omega)) (fun _ => ?_)
        conv => whnf
        have e : D = B ++ bitsOf U k := by simpa [bitsOf] using he
        subst e
        exact ⟨rfl, rfl, rfl⟩
      | succ m =>
        have hb2 : U / 2 ^ m % 2 < 2 := Nat.mod_lt _ (by decide)
        have hi0 : 0 ≤ ((m + 1 : Nat) : Int) - 1 := by omega
        have hi : ((m + 1 : Nat) : Int) - 1 = (m : Int) := by omega
        have hbit := Dl (U := U) hi (by omega)
        have hiw : IntKind.i64.wrap (((m + 1 : Nat) : Int) - 1 - 1) = ((m : Nat) : Int) - 1 := (congrArg IntKind.i64.wrap (congrArg (· - 1) hi)).trans (cr ⟨by omega, by omega⟩)
        have hnw : IntKind.i64.wrap ((D.length : Int) + 1) = (((D ++ [U / 2 ^ m % 2]).length : Nat) : Int) := by rw [List.length_append, List.length_singleton]; exact cr ⟨by omega, by omega⟩
        have hq := div_eq D.length (by omega)
        have hsh0 : 0 ≤ IntKind.i64.wrap (7 - (D.length : Int).tmod 8) := by rw [zn]; omega
        have hrow : bu (cm (pack D)) 0 ((pack D).length * 1) = some (cm (pack D)) := cD (by rw [fe, Nat.mul_one])
        have hnext : (D ++ [U / 2 ^ m % 2]) ++ bitsOf U m = B ++ bitsOf U k := by rw [List.append_assoc, ← oL]; exact he
        have hbig : ((pack D).length + 1) * 1 ≤ 140737488355328 := by omega
        have hDn : cU (D ++ [U / 2 ^ m % 2]) := hD.app (.one hb2)
        conv => whnf
        refine ag.dec (fun _ => ?_) (fun h1 => absurd hi0 h1)
        conv => whnf
        refine ⟨hi0, ?_⟩
        conv => whnf
        refine ag.dec (fun h8 => ?_) (fun h8 => ?_)
        · have h8 := (zo _).1 h8
          have hpl : (pack (D ++ [U / 2 ^ m % 2])).length = (pack D).length + 1 := by rw [qz h8]; simp
          have ho : 0 + D.length / 8 * 1 = D.length / 8 := by omega
          have hix : D.length / 8 < (pack D).length + 1 := by rw [bb]; omega
          conv => whnf
          refine fk.grow 1 1 _ _ _ _ _ _ tyB (.old rfl) rfl rfl (.rw rfl hrow) hbig ?_
          conv => whnf
          refine Idx.mk (D.length / 8) hq hix ?_
          conv => whnf
          refine ao (Dm h8 ho) ?_
          conv => whnf
          refine ⟨hsh0, ?_⟩
          conv => whnf
          refine Idx.mk (D.length / 8) hq hix ?_
          conv => whnf
          refine ao (zp hb2 hbit h8 ho) ?_
          conv => whnf
          refine ⟨⟨(D ++ [U / 2 ^ m % 2], m), hnext, hDn, by omega, by simp; omega⟩, Nat.lt_succ_self m, n9 (j2 := 4) (by decide) (Nat.le_refl 2) (.int rfl) (.fnp (by decide) rfl) (congrArg (AV.si .i64) hiw) ⟨_, rfl, .cons (ae.rw (by decide) rfl (hn := hpl.symm)) (.cons (.int (congrArg (AV.si .i64) hnw)) .nil)⟩ (.inl ⟨_, rfl, eB _⟩)⟩
        · have h8 : D.length % 8 ≠ 0 := fun q => h8 ((zo _).2 q)
          have hpl : (pack (D ++ [U / 2 ^ m % 2])).length = (pack D).length := by rw [bb, bb]; simp; omega
          have ho : 0 + D.length / 8 * 1 = D.length / 8 := by omega
          have hix : D.length / 8 < (pack D).length := by rw [bb]; omega
          conv => whnf
          refine Idx.mk (D.length / 8) hq hix ?_
          conv => whnf
          refine ao (Dn h8 ho) ?_
          conv => whnf
          refine ⟨hsh0, ?_⟩
          conv => whnf
          refine Idx.mk (D.length / 8) hq hix ?_
          conv => whnf
          refine ao (zq hD hb2 hbit h8 ho) ?_
          conv => whnf
          refine ⟨⟨(D ++ [U / 2 ^ m % 2], m), hnext, hDn, by omega, by simp; omega⟩, Nat.lt_succ_self m, n9 (j2 := 2) (by decide) (Nat.le_refl 2) (.int rfl) (.fnp (by decide) rfl) (congrArg (AV.si .i64) hiw) ⟨_, rfl, .cons (ae.rw (by decide) rfl (hn := hpl.symm)) (.cons (.int (congrArg (AV.si .i64) hnw)) .nil)⟩ (.inl ⟨_, rfl, eB _⟩)⟩
end Go.Proofs.Ythjggjhebbdkdaa
namespace Go.Proofs.Ythjggjhebbdkdaa
open Go Go.RowKit
theorem jo {H : AH} {n b : Nat} {o : AO} (hb : b < n) (h : H.get b = some (ck (bh [b] n) o)) (hv : o.void = false ∨ o.own = true) : fO H n [b] [o] := ⟨by simp, rfl, fun i s q h1 h2 => by
  match i, h1, h2 with
  | 0, h1, h2 => injection h1 with h1; injection h2 with h2; subst h1 h2; exact ⟨hb, h, hv⟩⟩
theorem tO {H : AH} {n b c : Nat} {o q : AO} (hbc : b ≠ c) (hb : b < n) (hc : c < n) (h : H.get b = some (ck (bh [b, c] n) o)) (k : H.get c = some (ck (bh [b, c] n) q)) (hv : o.void = false ∨ o.own = true) (kv : q.void = false ∨ q.own = true) : fO H n [b, c] [o, q] :=
  ⟨by simp [hbc], rfl, fun i s r h1 h2 => by
    match i, h1, h2 with
    | 0, h1, h2 => injection h1 with h1; injection h2 with h2; subst h1 h2; exact ⟨hb, h, hv⟩
    | 1, h1, h2 => injection h1 with h1; injection h2 with h2; subst h1 h2; exact ⟨hc, k, kv⟩⟩
theorem nu (r : Nat → Nat) (c : Nat) (B : List Nat) : dR r (kh c B) = kh (r c) B := rfl
theorem nw (r : Nat → Nat) (s : List Nat) : dR r (cm s) = cm s := sG r _ (jC s)
theorem MQ (H : AH) (n b c : Nat) (B : List Nat) : iP [b, c] n H [(0, some (.cells (kh 2 B) true)), (1, none), (2, some (.cells (cm (pack B)) true))] = JK H n b c B := by
  simp only [iP, Option.map_some, Option.map_none, ck, nu, nw]
  rfl
theorem Du : aF 87 po := fun args H n κ hs φ h0' hp vs K hr hargs hk => by
  unfold po at hs
  split at hs
  · obtain ⟨x, y, z, rfl, e1, e2, e3⟩ := vs3 hargs
    obtain ⟨b, c, U, k, B, rfl, hbc, hbn, hcn, hb, hc, hB, hu, hm, hk64, hU, hl, hs⟩ := hs
    refine cw (S := [b, c]) (O := [.cells (kh 1 B) true, .cells (cm (pack B)) true]) (args0 := [.ptr 0 0, .si .u64 (U : Int), .si .i64 (k : Int)]) (aB JL 5 _) (by kernel_rfl) hr
      (tO hbc hbn hcn (by rw [ck, nu]; exact hb) (by rw [ck, nw]; exact hc) (.inr rfl) (.inr rfl)) ?_ hk (Dt B U k hB hk64 hU hl) fun u H' n' ⟨h1, h2, h3⟩ => ?_
    · exact .cons e1 (.cons (by have := e2.mk; rw [hu] at this; exact this) (.cons (by have := e3.mk; rw [hm] at this; exact this) .nil))
    · subst h1
      refine ⟨3, iP [b, c] n H [(0, some (.cells (kh 2 (B ++ bitsOf U k)) true)), (1, none), (2, some (.cells (cm (pack (B ++ bitsOf U k))) true))], Nat.le_succ 2, cG.put (Nat.le_succ 2) rfl (fun x hx o ho => ?_), rfl, ?_⟩
      · simp only [List.mem_cons, List.not_mem_nil, or_false] at hx
        rcases hx with rfl | rfl | rfl
        · injection ho with ho; subst ho; exact ⟨h2, rfl, rfl⟩
        · cases ho
        · injection ho with ho; subst ho; exact ⟨h3, rfl, qB _ _ (jC _)⟩
      · rw [MQ]; exact hs
  · exact hs.elim
noncomputable def KP1 : FuncId → EP := a9 87 po evP
theorem Ib : bG KP1 := aw bd Du
theorem lk {U : Nat} {w : Int} {m : Nat} (hw : min w.toNat IntKind.u64.bits = m) (h : U / 2 ^ m = 0) : ¬ 0 < ((U : Nat) : Int).fdiv ((2 : Int) ^ min w.toNat IntKind.u64.bits) := by
  rw [hw, fdiv_pow, h]; decide
theorem cv {U : Nat} {w : Int} {m : Nat} (hw : min w.toNat IntKind.u64.bits = m) (h : U / 2 ^ m ≠ 0) : ¬ ¬ 0 < ((U : Nat) : Int).fdiv ((2 : Int) ^ min w.toNat IntKind.u64.bits) := by
  rw [hw, fdiv_pow]; exact not_not_intro (Int.natCast_pos.2 (Nat.pos_of_ne_zero h))
theorem Dv (B : List Nat) (U : Nat) (hB : cU B) (hU : U < 18446744073709551616) (hl : B.length ≤ 99999000) : az KP1 3 88 [.ptr 0 0, .si .u64 (U : Int)] (mkH [(0, .cells (kh 1 B) true), (1, .cells (cm (pack B)) true)]) 2
    fun u H' _ => u = .int .i64 0 ∧ ∃ B', B' = B ++ aZ U ∧ H'.get 0 = some (.cells (kh 6 B') true) ∧ H'.get 6 = some (.cells (cm (pack B')) true) := by
  have d0 : U ≠ 0 → U / 2 ^ 0 ≠ 0 := fun h => by simpa using h
  have d1 : ¬ U < 128 → U / 2 ^ 7 ≠ 0 := fun h => Nat.ne_of_gt (Nat.div_pos (by show 128 ≤ U; omega) (by decide))
  have d2 : ¬ U < 4096 → U / 2 ^ 12 ≠ 0 := fun h => Nat.ne_of_gt (Nat.div_pos (by show 4096 ≤ U; omega) (by decide))
  have d3 : ¬ U < 16777216 → U / 2 ^ 24 ≠ 0 := fun h => Nat.ne_of_gt (Nat.div_pos (by show 16777216 ≤ U; omega) (by decide))
  have z0 : U = 0 → U / 2 ^ 0 = 0 := fun h => by simp [h]
  have z1 : U < 128 → U / 2 ^ 7 = 0 := fun h => Nat.div_eq_of_lt h
  have z2 : U < 4096 → U / 2 ^ 12 = 0 := fun h => Nat.div_eq_of_lt h
  have z3 : U < 16777216 → U / 2 ^ 24 = 0 := fun h => Nat.div_eq_of_lt h
  by_cases c0 : U = 0
  · have hc : (B ++ bitsOf 0 1) ++ bitsOf U 0 = B ++ aZ U := by
      rw [List.append_assoc]; congr 1; unfold aZ
      rw [if_pos c0]; rfl
    have hb1 : cU (B ++ bitsOf 0 1) := hB.app (cN _ _)
    have hl1 : (B ++ bitsOf 0 1).length ≤ 100000000 := by rw [List.length_append, aN]; omega
    have hl0 : B.length ≤ 100000000 := by omega
    have hu1 : U < 2 ^ 0 := by subst c0; decide
    conv => whnf
    refine bg.roll 6 ?_
    conv => whnf
    refine ag.dec (fun h => absurd h (lk (m := 0) rfl (z0 c0))) (fun _ => ?_)
    conv => whnf
    refine ⟨0, 1, 0, 1, B, rfl, by decide, by decide, by decide, rfl, rfl, hB, rfl, rfl, by decide, by decide, hl0, ?_⟩
    conv => whnf
    refine ⟨0, _, U, 0, B ++ bitsOf 0 1, rfl, ?_, by decide, ?_, rfl, rfl, hb1, rfl, rfl, by decide, hu1, hl1, ?_⟩
    · decide
    · decide
    conv => whnf
    exact ⟨rfl, _, hc, rfl, rfl⟩
  · skip
    by_cases c1 : U < 128
    · have hc : (B ++ bitsOf 2 2) ++ bitsOf U 7 = B ++ aZ U := by
        rw [List.append_assoc]; congr 1; unfold aZ
        rw [if_neg c0, if_pos c1]; rfl
      have hb1 : cU (B ++ bitsOf 2 2) := hB.app (cN _ _)
      have hl1 : (B ++ bitsOf 2 2).length ≤ 100000000 := by rw [List.length_append, aN]; omega
      have hl0 : B.length ≤ 100000000 := by omega
      have hu1 : U < 2 ^ 7 := by omega
      conv => whnf
      refine bg.roll 6 ?_
      conv => whnf
      refine ag.dec (fun _ => ?_) (fun h => absurd h (cv (m := 0) rfl (d0 c0)))
      conv => whnf
      refine ag.dec (fun h => absurd h (lk (m := 7) rfl (z1 c1))) (fun _ => ?_)
      conv => whnf
      refine ⟨0, 1, 2, 2, B, rfl, by decide, by decide, by decide, rfl, rfl, hB, rfl, rfl, by decide, by decide, hl0, ?_⟩
      conv => whnf
      refine ⟨0, _, U, 7, B ++ bitsOf 2 2, rfl, ?_, by decide, ?_, rfl, rfl, hb1, rfl, rfl, by decide, hu1, hl1, ?_⟩
      · decide
      · decide
      conv => whnf
      exact ⟨rfl, _, hc, rfl, rfl⟩
    · skip
      by_cases c2 : U < 4096
      · have hc : (B ++ bitsOf 6 3) ++ bitsOf U 12 = B ++ aZ U := by
          rw [List.append_assoc]; congr 1; unfold aZ
          rw [if_neg c0, if_neg c1, if_pos c2]; rfl
        have hb1 : cU (B ++ bitsOf 6 3) := hB.app (cN _ _)
        have hl1 : (B ++ bitsOf 6 3).length ≤ 100000000 := by rw [List.length_append, aN]; omega
        have hl0 : B.length ≤ 100000000 := by omega
        have hu1 : U < 2 ^ 12 := by omega
        conv => whnf
        refine bg.roll 6 ?_
        conv => whnf
        refine ag.dec (fun _ => ?_) (fun h => absurd h (cv (m := 0) rfl (d0 c0)))
        conv => whnf
        refine ag.dec (fun _ => ?_) (fun h => absurd h (cv (m := 7) rfl (d1 c1)))
        conv => whnf
        refine ag.dec (fun h => absurd h (lk (m := 12) rfl (z2 c2))) (fun _ => ?_)
        conv => whnf
        refine ⟨0, 1, 6, 3, B, rfl, by decide, by decide, by decide, rfl, rfl, hB, rfl, rfl, by decide, by decide, hl0, ?_⟩
        conv => whnf
        refine ⟨0, _, U, 12, B ++ bitsOf 6 3, rfl, ?_, by decide, ?_, rfl, rfl, hb1, rfl, rfl, by decide, hu1, hl1, ?_⟩
        · decide
        · decide
        conv => whnf
        exact ⟨rfl, _, hc, rfl, rfl⟩
      · skip
        by_cases c3 : U < 16777216
        · have hc : (B ++ bitsOf 14 4) ++ bitsOf U 24 = B ++ aZ U := by
            rw [List.append_assoc]; congr 1; unfold aZ
            rw [if_neg c0, if_neg c1, if_neg c2, if_pos c3]; rfl
          have hb1 : cU (B ++ bitsOf 14 4) := hB.app (cN _ _)
          have hl1 : (B ++ bitsOf 14 4).length ≤ 100000000 := by rw [List.length_append, aN]; omega
          have hl0 : B.length ≤ 100000000 := by omega
          have hu1 : U < 2 ^ 24 := by omega
          conv => whnf
          refine bg.roll 6 ?_
          conv => whnf
          refine ag.dec (fun _ => ?_) (fun h => absurd h (cv (m := 0) rfl (d0 c0)))
          conv => whnf
          refine ag.dec (fun _ => ?_) (fun h => absurd h (cv (m := 7) rfl (d1 c1)))
          conv => whnf
          refine ag.dec (fun _ => ?_) (fun h => absurd h (cv (m := 12) rfl (d2 c2)))
          conv => whnf
          refine ag.dec (fun h => absurd h (lk (m := 24) rfl (z3 c3))) (fun _ => ?_)
          conv => whnf
          refine ⟨0, 1, 14, 4, B, rfl, by decide, by decide, by decide, rfl, rfl, hB, rfl, rfl, by decide, by decide, hl0, ?_⟩
          conv => whnf
          refine ⟨0, _, U, 24, B ++ bitsOf 14 4, rfl, ?_, by decide, ?_, rfl, rfl, hb1, rfl, rfl, by decide, hu1, hl1, ?_⟩
          · decide
          · decide
          conv => whnf
          exact ⟨rfl, _, hc, rfl, rfl⟩
        · skip
          have hc : (B ++ bitsOf 15 4) ++ bitsOf U 64 = B ++ aZ U := by
            rw [List.append_assoc]; congr 1; unfold aZ
            rw [if_neg c0, if_neg c1, if_neg c2, if_neg c3]; rfl
          have hb1 : cU (B ++ bitsOf 15 4) := hB.app (cN _ _)
          have hl1 : (B ++ bitsOf 15 4).length ≤ 100000000 := by rw [List.length_append, aN]; omega
          have hl0 : B.length ≤ 100000000 := by omega
          have hu1 : U < 2 ^ 64 := by omega
          conv => whnf
          refine bg.roll 6 ?_
          conv => whnf
          refine ag.dec (fun _ => ?_) (fun h => absurd h (cv (m := 0) rfl (d0 c0)))
          conv => whnf
          refine ag.dec (fun _ => ?_) (fun h => absurd h (cv (m := 7) rfl (d1 c1)))
          conv => whnf
          refine ag.dec (fun _ => ?_) (fun h => absurd h (cv (m := 12) rfl (d2 c2)))
          conv => whnf
          refine ag.dec (fun _ => ?_) (fun h => absurd h (cv (m := 24) rfl (d3 c3)))
          conv => whnf
          refine ⟨0, 1, 15, 4, B, rfl, by decide, by decide, by decide, rfl, rfl, hB, rfl, rfl, by decide, by decide, hl0, ?_⟩
          conv => whnf
          refine ⟨0, _, U, 64, B ++ bitsOf 15 4, rfl, ?_, by decide, ?_, rfl, rfl, hb1, rfl, rfl, by decide, hu1, hl1, ?_⟩
          · decide
          · decide
          conv => whnf
          exact ⟨rfl, _, hc, rfl, rfl⟩
end Go.Proofs.Ythjggjhebbdkdaa
namespace Go.Proofs.Ythjggjhebbdkdaa
open Go Go.RowKit
noncomputable def Hk (H : AH) (n b c : Nat) (B : List Nat) : AH := ((((((H.set (some (.cells (cm (pack B)) true)) aa (n + 4)).set none aa (n + 3)).set none aa (n + 2)).set none aa (n + 1)).set none aa n).set none aa c).set (some (.cells (kh (n + 4) B) true)) aa b
def tQ (args : List AV) (H : AH) (n : Nat) (κ : PK) : Prop := match args with
  | [x, u] => ∃ (b c U : Nat) (B : List Nat), x = .ptr b 0 ∧ b ≠ c ∧ b < n ∧ c < n ∧ H.get b = some (.cells (kh c B) true) ∧ H.get c = some (.cells (cm (pack B)) true) ∧ cU B ∧ mk u = .si .u64 (U : Int) ∧ U < 18446744073709551616 ∧ B.length ≤ 99999000 ∧
      κ (.int .i64 0) (Hk H n b c (B ++ aZ U)) (n + 5)
  | _ => False
def zr (B : List Nat) : List (Nat × Option AO) := [(0, some (.cells (kh 6 B) true)), (1, none), (2, none), (3, none), (4, none), (5, none), (6, some (.cells (cm (pack B)) true))]
theorem MS (H : AH) (n b c : Nat) (B : List Nat) : iP [b, c] n H (zr B) = Hk H n b c B := by
  simp only [iP, zr, Option.map_some, Option.map_none, ck, nu, nw]
  rfl
theorem Ic : aF 88 tQ := fun args H n κ hs φ h0' hp vs K hr hargs hk => by
  unfold tQ at hs
  split at hs
  · obtain ⟨x, y, rfl, e1, e2⟩ := vs2 hargs
    obtain ⟨b, c, U, B, rfl, hbc, hbn, hcn, hb, hc, hB, hu, hU, hl, hs⟩ := hs
    refine cw (S := [b, c]) (O := [.cells (kh 1 B) true, .cells (cm (pack B)) true]) (args0 := [.ptr 0 0, .si .u64 (U : Int)]) (aB Ib 3 _) (by kernel_rfl) hr
      (tO hbc hbn hcn (by rw [ck, nu]; exact hb) (by rw [ck, nw]; exact hc) (.inr rfl) (.inr rfl)) ?_ hk (Dv B U hB hU hl) fun u H' n' ⟨h1, B', hB', h2, h3⟩ => ?_
    · exact .cons e1 (.cons (by have := e2.mk; rw [hu] at this; exact this) .nil)
    · subst h1 hB'
      refine ⟨7, iP [b, c] n H (zr (B ++ aZ U)), Nat.le_of_ble_eq_true rfl, cG.put (Nat.le_of_ble_eq_true rfl) rfl (fun x hx o ho => ?_), rfl, ?_⟩
      · simp only [zr, List.mem_cons, List.not_mem_nil, or_false] at hx
        rcases hx with rfl | rfl | rfl | rfl | rfl | rfl | rfl
        · injection ho with ho; subst ho; exact ⟨h2, rfl, rfl⟩
        · cases ho
        · cases ho
        · cases ho
        · cases ho
        · cases ho
        · injection ho with ho; subst ho; exact ⟨h3, rfl, qB _ _ (jC _)⟩
      · rw [MS]; exact hs
  · exact hs.elim
noncomputable def KE : FuncId → EP := bK 79 [] (a9 88 tQ (a9 87 po evP))
theorem Hl : bG KE := aL (aw (aw bd Du) Ic) (by kernel_rfl) (by kernel_rfl)
theorem zt {n : Int} (h : aM n) : bI .xor .u64 (IntKind.u64.wrap (IntKind.u64.wrap n * (2 : Int) ^ min (Int.toNat 1) IntKind.u64.bits)) (IntKind.u64.wrap (n.fdiv ((2 : Int) ^ min (Int.toNat 63) IntKind.i64.bits))) = ((tI n : Nat) : Int) := HZ h
theorem mD (X : Smp) (i : Nat) : aE X (i + 1) = aE X i ++ bM X i := rfl
theorem Dw (X : Smp) : aE X 0 ++ bitsOf (eQ (tAt X 0)) 64 ++ bitsOf (eQ (vAt X 0)) 64 = aE X (0 + 1) := by
  rw [mD, List.append_assoc]; rfl
theorem Dx (X : Smp) {i : Nat} (h : i ≠ 0) : aE X i ++ aZ (dT X i) ++ aZ (dV X i) = aE X (i + 1) := by
  rw [mD, List.append_assoc]; unfold bM; rw [if_neg h]
theorem qF : pack [] = [] := by simp [pack]
noncomputable def ec (L : Smp) (cap : Nat) (i : Nat) : AE × AH := (mkE [(0, .sy 0 0 L.length cap 0), (4, .ptr 1 (0)), (5, .si .i64 (cW L i)), (11, .sy 0 0 L.length cap 0), (12, .si .i64 (((L.length : Nat) : Int))), (13, .si .i64 (((i : Nat) : Int)))], mkH [(0, .ro (smp (L))), (1, .cells (kh 2 (aE L i)) true), (2, .cells (cm ((pack (aE L i)))) true)])
theorem yg {L : Smp} {cap : Nat} {i : Nat} {p n : Nat} {σ : AE} {H : AH} (j2 : Nat) (hj : j2 ≠ 0 ∧ j2 ≠ 1) (hp : p ≤ 1) (e0 : mk (ay (pa 0) σ) = .sy 0 0 L.length cap 0) (e4 : ay (pa 4) σ = .ptr 1 (0)) (e5 : mk (ay (pa 5) σ) = .si .i64 (cW L i)) (e11 : mk (ay (pa 11) σ) = .sy 0 0 L.length cap 0) (e12 : mk (ay (pa 12) σ) = .si .i64 (((L.length : Nat) : Int))) (e13 : mk (ay (pa 13) σ) = .si .i64 (((i : Nat) : Int))) (h0 : H.get 0 = some (.ro (smp (L)))) (h1 : ∃ l, H.get 1 = some (.cells l true) ∧ lf H 3 (fun b => if b = 2 then j2 else b) l (kh 2 (aE L i))) (h2 : (∃ l, H.get j2 = some (.cells l true) ∧ l.map mk = cm ((pack (aE L i)))) ∨ (((pack (aE L i))) = [] ∧ n ≤ j2)) : Cov p σ H n ((ec L cap i).1, (ec L cap i).2, 3) := by
  refine Cov.ofR (fun b => if b = 2 then j2 else b) (by omega) (fun b hb => by repeat' rw [if_neg (by omega)]) ?_ ?_ ?_
  · intro x hx
    simp only [List.mem_cons, List.not_mem_nil, or_false] at hx
    rcases hx with rfl | rfl | rfl | rfl | rfl | rfl
    · exact .sy (by decide) e0
    · exact .ptr (by decide) e4
    · exact .int e5
    · exact .sy (by decide) e11
    · exact .int e12
    · exact .int e13
  · intro x hx
    simp only [List.mem_cons, List.not_mem_nil, or_false] at hx
    rcases hx with rfl | rfl | rfl
    · exact ⟨by simp, .inl ⟨_, h0, aO.k9 (ba _) rfl⟩⟩
    · exact ⟨by simp, .inl (h1.elim fun l h => ⟨_, h.1, aO.st h.2⟩)⟩
    · exact ⟨by simp, h2.elim (fun ⟨l, h, g⟩ => .inl ⟨_, h, aO.bz (jC _) (by rw [g, eB]) (fun q => q)⟩) (fun h => .inr ⟨by rw [h.1]; rfl, h.2⟩)⟩
  · intro x hx y hy
    simp only [List.mem_cons, List.not_mem_nil, or_false] at hx hy
    rcases hx with rfl | rfl | rfl <;> rcases hy with rfl | rfl | rfl <;> simp <;> omega
theorem FD (L : Smp) (cap : Nat) (hL : L.length ≤ 100000) (h64 : ∀ x ∈ L, aM x.1 ∧ aM x.2) : az KE 3 79 [.sy 0 0 L.length cap 0] (mkH [(0, .ro (smp L))]) 1
    fun u _ _ => mkT u = mkT (.tup [.ss (pack (aU L)), .si .i64 ((aU L).length : Int)]) := by
  conv => whnf
  refine bg.mk { i : Nat // i ≤ L.length } 3 (fun i => ec L cap i.val) (fun i => L.length - i.val) ⟨0, Nat.zero_le _⟩ ?_ ?_
  · exact yg (j2 := 2) (by decide) (Nat.le_refl 1) rfl rfl rfl rfl rfl rfl rfl ⟨_, rfl, .cons (.ky rfl (hn := congrArg List.length qF)) (.cons (.int rfl) .nil)⟩ (.inr ⟨qF, Nat.le_refl _⟩)
  · intro ⟨i, hi⟩
    have hlt0 : ((aE L i).length) ≤ 13600000 := Nat.le_trans (lH L i) (by omega)
    have hsub : bu (cm (pack (aE L i))) 0 (pack (aE L i)).length = some (cm (pack (aE L i))) := cD (fe _)
    have hbyt : iF (cm (pack (aE L i))) = some (pack (aE L i)) := wu (zi (eR L i))
    have hnx : i < L.length → IntKind.i64.wrap ((i : Int) + 1) = (((i + 1 : Nat)) : Int) := fun q => cr ⟨by omega, by omega⟩
    conv => whnf
    refine ag.dec (fun h => ?_) (fun h => ?_)
    · have hi2 : i < L.length := by exact Int.ofNat_lt.1 h
      have ht : L[i].1 = tAt L i := (cX hi2).symm
      have hv : L[i].2 = vAt L i := (lg hi2).symm
      conv => whnf
      refine Idx.mk i rfl hi2 ?_
      conv => whnf
      refine ao (bT hi2 (Nat.zero_add _)) ?_
      conv => whnf
      refine ag.dec (fun h0 => ?_) (fun h0 => ?_)
      · have h0 : i = 0 := by exact Int.ofNat_inj.1 h0
        subst h0
        have hu0 : AV.si .u64 (IntKind.u64.wrap L[0].1) = .si .u64 ((eQ (tAt L 0) : Nat) : Int) := congrArg (AV.si .u64) ((Dg _).trans (by rw [ht]))
        have hu1 : AV.si .u64 (IntKind.u64.wrap L[0].2) = .si .u64 ((eQ (vAt L 0) : Nat) : Int) := congrArg (AV.si .u64) ((Dg _).trans (by rw [hv]))
        have hB1 : cU (aE L 0 ++ bitsOf (eQ (tAt L 0)) 64) := (eR L 0).app (cN _ _)
        have hl1 : (aE L 0 ++ bitsOf (eQ (tAt L 0)) 64).length ≤ 100000000 := by rw [List.length_append, aN]; omega
        conv => whnf
        refine ⟨1, 2, eQ (tAt L 0), 64, aE L 0, rfl, by decide, by decide, by decide, rfl, rfl, eR _ _, hu0, rfl, Nat.le_refl _, yb _, Nat.le_trans hlt0 (by decide), ?_⟩
        conv => whnf
        refine ⟨1, 4, eQ (vAt L 0), 64, aE L 0 ++ bitsOf (eQ (tAt L 0)) 64, rfl, by decide, by decide, by decide, rfl, rfl, hB1, hu1, rfl, Nat.le_refl _, yb _, hl1, ?_⟩
        conv => whnf
        refine ⟨⟨1, by omega⟩, (show L.length - 1 < L.length - 0 by omega), yg (j2 := 5) (by decide) (Nat.le_refl 1) rfl rfl (congrArg (AV.si .i64) rfl) rfl rfl (congrArg (AV.si .i64) (hnx hi2)) rfl ⟨_, rfl, .cons (ae.rw (by decide) rfl (hn := congrArg (fun x => (pack x).length) (Dw L))) (.cons (.int (congrArg (fun x : List Nat => AV.si .i64 (x.length : Int)) (Dw L))) .nil)⟩ (.inl ⟨_, rfl, (eB _).trans (congrArg (fun x => cm (pack x)) (Dw L))⟩)⟩
      · have h0 : i ≠ 0 := fun q => h0 (by exact Int.ofNat_inj.2 q)
        have hp : i - 1 < L.length := by omega
        have hpw : IntKind.i64.wrap ((i : Int) - 1) = ((i - 1 : Nat) : Int) := (cr ⟨by omega, by omega⟩).trans (by omega)
        have ht1 : L[i - 1].1 = tAt L (i - 1) := (cX hp).symm
        have hv1 : L[i - 1].2 = vAt L (i - 1) := (lg hp).symm
        have ho0 : 0 + (i - 1) * 2 + 0 = (i - 1) * 2 := by omega
        have ho1 : 0 + (i - 1) * 2 + 1 = (i - 1) * 2 + 1 := by omega
        have hst : IntKind.i64.wrap (L[i].1 - L[i - 1].1) = cW L (i + 1) := by
          unfold cW; rw [if_neg (by omega), ht, ht1]; rfl
        have hu0 : AV.si .u64 (bI .xor .u64 (IntKind.u64.wrap (IntKind.u64.wrap (IntKind.i64.wrap (IntKind.i64.wrap (L[i].1 - L[i - 1].1) - cW L i)) * (2 : Int) ^ min (Int.toNat 1) IntKind.u64.bits)) (IntKind.u64.wrap ((IntKind.i64.wrap (IntKind.i64.wrap (L[i].1 - L[i - 1].1) - cW L i)).fdiv ((2 : Int) ^ min (Int.toNat 63) IntKind.i64.bits)))) = .si .u64 ((dT L i : Nat) : Int) := congrArg (AV.si .u64) ((zt (qA _)).trans (by unfold dT; rw [ht, ht1]))
        have hu1 : AV.si .u64 (bI .xor .u64 (IntKind.u64.wrap (IntKind.u64.wrap (IntKind.i64.wrap (L[i].2 - L[i - 1].2)) * (2 : Int) ^ min (Int.toNat 1) IntKind.u64.bits)) (IntKind.u64.wrap ((IntKind.i64.wrap (L[i].2 - L[i - 1].2)).fdiv ((2 : Int) ^ min (Int.toNat 63) IntKind.i64.bits)))) = .si .u64 ((dV L i : Nat) : Int) := congrArg (AV.si .u64) ((zt (qA _)).trans (by unfold dV; rw [hv, hv1]))
        have hB1 : cU (aE L i ++ aZ (dT L i)) := (eR L i).app (mA _)
        have hl1 : (aE L i ++ aZ (dT L i)).length ≤ 99999000 := by have := (dX (dT L i)).1; rw [List.length_append]; omega
        conv => whnf
        refine Idx.mk (i - 1) hpw hp ?_
        conv => whnf
        refine ao (fy hp ho0) ?_
        conv => whnf
        refine ⟨1, 2, dT L i, aE L i, rfl, by decide, by decide, by decide, rfl, rfl, eR _ _, hu0, Hg _ _, Nat.le_trans hlt0 (by decide), ?_⟩
        conv => whnf
        refine Idx.mk (i - 1) hpw hp ?_
        conv => whnf
        refine ao (qp hp ho1) ?_
        conv => whnf
        refine ⟨1, 8, dV L i, aE L i ++ aZ (dT L i), rfl, by decide, by decide, by decide, rfl, rfl, hB1, hu1, Hh _ _, hl1, ?_⟩
        conv => whnf
        refine ⟨⟨i + 1, by omega⟩, (show L.length - (i + 1) < L.length - i by omega), yg (j2 := 13) (by decide) (Nat.le_refl 1) rfl rfl (congrArg (AV.si .i64) hst) rfl rfl (congrArg (AV.si .i64) (hnx hi2)) rfl ⟨_, rfl, .cons (ae.rw (by decide) rfl (hn := congrArg (fun x => (pack x).length) (Dx L h0))) (.cons (.int (congrArg (fun x : List Nat => AV.si .i64 (x.length : Int)) (Dx L h0))) .nil)⟩ (.inl ⟨_, rfl, (eB _).trans (congrArg (fun x => cm (pack x)) (Dx L h0))⟩)⟩
    · have hi3 : i = L.length := by have : ¬ i < L.length := fun q => h (Int.ofNat_lt.2 q); omega
      conv => whnf
      refine JB.mk _ _ _ _ _ _ _ _ rfl (by decide) ⟨_, rfl, rfl, rfl⟩ (.inr ⟨_, rfl⟩) hsub hbyt ?_
      conv => whnf
      subst hi3
      rfl
theorem Dy : az KE 3 79 [.nsl] .nil 0 fun u _ _ => mkT u = mkT (.tup [.ss (pack (aU [])), .si .i64 ((aU []).length : Int)]) := by
  conv => whnf
  refine bg.roll 1 ?_
  conv => whnf
  exact (show _ = AV.tup [.ss [], .si .i64 0] from rfl).trans (by rw [Dh, qF]; rfl)
def mE (args : List AV) (H : AH) (n : Nat) (κ : PK) : Prop := match args with
  | [l] => ∃ L, cF H l L ∧ L.length ≤ 100000 ∧ (∀ x ∈ L, aM x.1 ∧ aM x.2) ∧ κ (.tup [.ss (pack (aU L)), .si .i64 ((aU L).length : Int)]) H n
  | _ => False
theorem wz : aF 79 mE := fun args H n κ hs φ h0' hp vs K hr hargs hk => by
  unfold mE at hs
  split at hs
  · obtain ⟨x, rfl, e1⟩ := vs1 hargs
    obtain ⟨L, hS, hL, h64, hs⟩ := hs
    rcases hS.open hr e1 with ⟨rfl, hv⟩ | ⟨p, C, _, hro, hv⟩
    · exact iI Hl (v := .tup [.ss (pack (aU [])), .si .i64 ((aU []).length : Int)]) rfl Dy hs hr hk (by kernel_rfl) HR.ro0 (.cons (hv _) .nil)
    · exact iI Hl (v := .tup [.ss (pack (aU L)), .si .i64 ((aU L).length : Int)]) rfl (FD L C hL h64) hs hr hk (by kernel_rfl) (fun hw => HR.ro1 hw hro) (.cons (hv _ 0 rfl) .nil)
  · exact hs.elim
end Go.Proofs.Ythjggjhebbdkdaa
namespace Go.Proofs.Ythjggjhebbdkdaa
open Go Go.RowKit
noncomputable def KB : FuncId → EP := bK 106 [] (bK 83 [] evP)
theorem Dz : bG KB := aL (aL bd (by kernel_rfl) (by kernel_rfl)) (by kernel_rfl) (by kernel_rfl)
def gP (s : List Nat) (N a : Nat) : List AV := [.ss s, .si .i64 ((N : Nat) : Int), .si .i64 ((a : Nat) : Int), .sb true]
def pq (args : List AV) (H : AH) (n : Nat) (κ : PK) : Prop := match args with
  | [x, m] => ∃ (b : Nat) (s : List Nat) (N a k V : Nat), x = .ptr b 0 ∧ b < n ∧ H.get b = some (.cells (gP s N a) true) ∧ mk m = .si .i64 (k : Int) ∧ k ≤ 64 ∧ a + k ≤ N ∧ N ≤ 8 * s.length ∧ s.length ≤ 100000000 ∧ (∀ x ∈ s, x < 256) ∧ b5 0 (aK s a k) = V ∧
      κ (.tup [.si .u64 (V : Int), .int .i64 0]) (H.set (some (.cells (gP s N (a + k)) true)) aa b) n
  | _ => False
noncomputable def rg (s : List Nat) (N : Nat) (a : Nat) (k : Nat) (j : Nat) : AE × AH := (mkE [(0, .ptr 0 (0)), (6, .si .u64 ((b5 0 (aK s a j) : Nat) : Int)), (30, .si .i64 (((k : Nat) : Int))), (31, .si .i64 (((j : Nat) : Int)))], mkH [(0, .cells (gP s N (a + j)) true)])
theorem DA {s : List Nat} {N : Nat} {a : Nat} {k : Nat} {j : Nat} {p n : Nat} {σ : AE} {H : AH} (hp : p ≤ 1) (e0 : ay (pa 0) σ = .ptr 0 (0)) (e6 : ae H 1 (fun b => b) (ay (pa 6) σ) (.si .u64 ((b5 0 (aK s a j) : Nat) : Int))) (e30 : mk (ay (pa 30) σ) = .si .i64 (((k : Nat) : Int))) (e31 : mk (ay (pa 31) σ) = .si .i64 (((j : Nat) : Int))) (h0 : ∃ l, H.get 0 = some (.cells l true) ∧ lf H 1 (fun b => b) l (gP s N (a + j))) : Cov p σ H n ((rg s N a k j).1, (rg s N a k j).2, 1) := by
  refine Cov.ofR (fun b => b) (by omega) (fun b hb => rfl) ?_ ?_ ?_
  · intro x hx
    simp only [List.mem_cons, List.not_mem_nil, or_false] at hx
    rcases hx with rfl | rfl | rfl | rfl
    · exact .ptr (by decide) e0
    · exact e6
    · exact .int e30
    · exact .int e31
  · intro x hx
    simp only [List.mem_cons, List.not_mem_nil, or_false] at hx
    subst hx
    exact ⟨by simp, .inl (h0.elim fun l h => ⟨_, h.1, aO.st h.2⟩)⟩
  · intro x hx y hy
    simp only [List.mem_cons, List.not_mem_nil, or_false] at hx hy
    subst hx hy
    exact fun q => rfl
theorem Ie {s : List Nat} (hs : ∀ x ∈ s, x < 256) {a c u : Nat} (hc : nth s (a / 8) = some c) (hu : u < 9223372036854775808) :
    bI .or .u64 (IntKind.u64.wrap (((u : Nat) : Int) * (2 : Int) ^ min (Int.toNat 1) IntKind.u64.bits)) (IntKind.u64.wrap (bI .and .u8 ((Int.ofNat c).fdiv ((2 : Int) ^ min (IntKind.i64.wrap (7 - ((a : Nat) : Int).tmod 8)).toNat IntKind.u8.bits)) 1)) = ((2 * u + nm s a : Nat) : Int) := FC hs hc hu
theorem DC (s : List Nat) (N a k : Nat) (hk : k ≤ 64) (ha : a + k ≤ N) (hN : N ≤ 8 * s.length) (hs1 : s.length ≤ 100000000) (hs : ∀ x ∈ s, x < 256) : az KB 3 106 [.ptr 0 0, .si .i64 (k : Int)] (mkH [(0, .cells (gP s N a) true)]) 1
    fun u H' _ => u = .tup [.si .u64 ((b5 0 (aK s a k) : Nat) : Int), .int .i64 0] ∧ H'.get 0 = some (.cells (gP s N (a + k)) true) := by
  have hleft : ¬ IntKind.i64.wrap ((N : Int) - (a : Int)) < (k : Int) := by
    rw [show IntKind.i64.wrap ((N : Int) - (a : Int)) = (N : Int) - (a : Int) from cr ⟨by omega, by omega⟩]; omega
  conv => whnf
  refine ag.nsb (fun h => by cases h) (fun _ => ?_)
  conv => whnf
  refine ag.dec (fun h => absurd h (by omega)) (fun _ => ?_)
  conv => whnf
  refine ag.dec (fun h => absurd h (by omega)) (fun _ => ?_)
  conv => whnf
  refine ag.dec (fun h => absurd h hleft) (fun _ => ?_)
  conv => whnf
  refine bg.mk { j : Nat // j ≤ k } 1 (fun j => rg s N a k j.val) (fun j => k - j.val) ⟨0, Nat.zero_le _⟩ ?_ ?_
  · exact DA (Nat.le_refl 1) rfl (.int rfl) rfl rfl ⟨_, rfl, .cons (.str rfl) (.cons (.int rfl) (.cons (.int rfl) (.cons (.bool rfl) .nil)))⟩
  · intro ⟨j, hj⟩
    conv => whnf
    refine ag.dec (fun h => ?_) (fun h => ?_)
    · have hjk : j < k := by exact Int.ofNat_lt.1 h
      have hq := div_eq (a + j) (by omega)
      have hq2 : (a + j) / 8 < s.length := by omega
      have hc : nth s ((a + j) / 8) = some s[(a + j) / 8] := by rw [ep, List.getElem?_eq_getElem hq2]
      have hsh0 : 0 ≤ IntKind.i64.wrap (7 - ((a + j : Nat) : Int).tmod 8) := by rw [zn]; omega
      have hnum : 2 * b5 0 (aK s a j) + nm s (a + j) = b5 0 (aK s a (j + 1)) := by rw [wm, A9]
      have hu := congrArg (AV.si .u64) ((Ie (u := b5 0 (aK s a j)) hs hc (Bf s a (by omega))).trans (congrArg (fun x : Nat => (x : Int)) hnum))
      have hj1 : IntKind.i64.wrap ((j : Int) + 1) = (((j + 1 : Nat)) : Int) := cr ⟨by omega, by omega⟩
      have ha1 : IntKind.i64.wrap (((a + j : Nat) : Int) + 1) = (((a + (j + 1) : Nat)) : Int) := cr ⟨by omega, by omega⟩
      conv => whnf
      refine Idx.mk ((a + j) / 8) hq hq2 ?_
      conv => whnf
      refine Ask.mk _ hc ?_
      conv => whnf
      refine ⟨hsh0, ?_⟩
      conv => whnf
      refine ⟨⟨j + 1, hjk⟩, (show k - (j + 1) < k - j by omega), DA (Nat.le_refl 1) rfl (.int hu) rfl (congrArg (AV.si .i64) hj1) ⟨_, rfl, .cons (.str rfl) (.cons (.int rfl) (.cons (.int (congrArg (AV.si .i64) ha1)) (.cons (.bool rfl) .nil)))⟩⟩
    · have hjk : j = k := by have : ¬ j < k := fun q => h (Int.ofNat_lt.2 q); omega
      conv => whnf
      subst hjk
      exact ⟨rfl, rfl⟩
theorem DD : aF 106 pq := fun args H n κ hs φ h0' hp vs K hr hargs hk => by
  unfold pq at hs
  split at hs
  · obtain ⟨x, y, rfl, e1, e2⟩ := vs2 hargs
    obtain ⟨b, s, N, a, k, V, rfl, hbn, hb, hm, hk64, ha, hN, hs1, hs2, hV, hs⟩ := hs
    refine cw (S := [b]) (O := [.cells (gP s N a) true]) (args0 := [.ptr 0 0, .si .i64 (k : Int)]) (aB Dz 3 _) (by kernel_rfl) hr
      (jo hbn hb (.inr rfl)) ?_ hk (DC s N a k hk64 ha hN hs1 hs2) fun u H' n' ⟨h1, h2⟩ => ?_
    · exact .cons e1 (.cons (by have := e2.mk; rw [hm] at this; exact this) .nil)
    · subst h1
      refine ⟨1, iP [b] n H [(0, some (.cells (gP s N (a + k)) true))], Nat.le_refl _, cG.put (Nat.le_refl _) rfl (fun x hx o ho => ?_), rfl, ?_⟩
      · simp only [List.mem_cons, List.not_mem_nil, or_false] at hx
        subst hx
        injection ho with ho; subst ho; exact ⟨h2, rfl, rfl⟩
      · rw [← hV] at hs; exact hs
  · exact hs.elim
noncomputable def KG : FuncId → EP := a9 106 pq KB
theorem JM : bG KG := aw Dz DD
theorem dL {s : List Nat} {a j b : Nat} {B : List Nat} (h : aK s a (j + 1) = b :: B) : aK s a 1 = [b] ∧ aK s (a + 1) j = B := by
  rw [Nat.add_comm j 1, qE] at h
  exact List.append_inj (s₂ := [b]) (t₂ := B) h (by rw [jn]; rfl)
theorem DE (s : List Nat) (N a U : Nat) (hU : U < 18446744073709551616) (hrd : aK s a (aZ U).length = aZ U) (hle : a + (aZ U).length ≤ N) (hN : N ≤ 8 * s.length) (hs1 : s.length ≤ 100000000) (hs : ∀ x ∈ s, x < 256) : az KG 4 109 [.ptr 0 0] (mkH [(0, .cells (gP s N a) true)]) 1
    fun u H' _ => u = .tup [.si .u64 (U : Int), .int .i64 0] ∧ H'.get 0 = some (.cells (gP s N (a + (aZ U).length)) true) := by
  have d0 : U ≠ 0 → U / 2 ^ 0 ≠ 0 := fun h => by simpa using h
  have d1 : ¬ U < 128 → U / 2 ^ 7 ≠ 0 := fun h => Nat.ne_of_gt (Nat.div_pos (by show 128 ≤ U; omega) (by decide))
  have d2 : ¬ U < 4096 → U / 2 ^ 12 ≠ 0 := fun h => Nat.ne_of_gt (Nat.div_pos (by show 4096 ≤ U; omega) (by decide))
  have d3 : ¬ U < 16777216 → U / 2 ^ 24 ≠ 0 := fun h => Nat.ne_of_gt (Nat.div_pos (by show 16777216 ≤ U; omega) (by decide))
  have z0 : U = 0 → U / 2 ^ 0 = 0 := fun h => by simp [h]
  have z1 : U < 128 → U / 2 ^ 7 = 0 := fun h => Nat.div_eq_of_lt h
  have z2 : U < 4096 → U / 2 ^ 12 = 0 := fun h => Nat.div_eq_of_lt h
  have z3 : U < 16777216 → U / 2 ^ 24 = 0 := fun h => Nat.div_eq_of_lt h
  by_cases c0 : U = 0
  · have hcd : aZ U = [0] ++ bitsOf U 0 := by
      unfold aZ
      rw [if_pos c0]; rfl
    rw [hcd] at hrd hle ⊢
    have hlen : ([0] ++ bitsOf U 0).length = 1 := by rw [List.length_append, aN]; rfl
    rw [hlen] at hrd hle ⊢
    obtain ⟨r0, h0⟩ := dL (j := 0) hrd
    have hnum : b5 0 (aK s (a + 1) 0) = U := by rw [show aK s (a + 1) 0 = bitsOf U 0 from h0]; exact (gv 0 U 0).trans (by rw [Nat.zero_mul, Nat.zero_add]; exact Nat.mod_eq_of_lt (by subst c0; decide))
    have v0 : b5 0 (aK s (a) 1) = 0 := by rw [r0]; rfl
    conv => whnf
    refine bg.roll 6 ?_
    conv => whnf
    refine ⟨0, s, N, a, 1, 0, rfl, by decide, rfl, rfl, by decide, by omega, hN, hs1, hs, v0, ?_⟩
    conv => whnf
    refine ag.dec (fun _ => ?_) (fun h => absurd rfl h)
    conv => whnf
    refine ⟨0, s, N, a + 1, 0, U, rfl, by decide, rfl, rfl, by decide, by omega, hN, hs1, hs, hnum, ?_⟩
    conv => whnf
    refine bg.roll 6 ?_
    conv => whnf
    refine ag.dec (fun h => absurd h (lk (m := 0) rfl (z0 c0))) (fun _ => ?_)
    conv => whnf
    exact ⟨rfl, rfl⟩
  · skip
    by_cases c1 : U < 128
    · have hcd : aZ U = [1, 0] ++ bitsOf U 7 := by
        unfold aZ
        rw [if_neg c0, if_pos c1]
      rw [hcd] at hrd hle ⊢
      have hlen : ([1, 0] ++ bitsOf U 7).length = 9 := by rw [List.length_append, aN]; rfl
      rw [hlen] at hrd hle ⊢
      obtain ⟨r0, h0⟩ := dL (j := 8) hrd
      obtain ⟨r1, h1⟩ := dL (j := 7) h0
      have hnum : b5 0 (aK s (a + 1 + 1) 7) = U := by rw [show aK s (a + 1 + 1) 7 = bitsOf U 7 from h1]; exact (gv 0 U 7).trans (by rw [Nat.zero_mul, Nat.zero_add]; exact Nat.mod_eq_of_lt (by omega))
      have v0 : b5 0 (aK s (a) 1) = 1 := by rw [r0]; rfl
      have v1 : b5 0 (aK s (a + 1) 1) = 0 := by rw [r1]; rfl
      conv => whnf
      refine bg.roll 6 ?_
      conv => whnf
      refine ⟨0, s, N, a, 1, 1, rfl, by decide, rfl, rfl, by decide, by omega, hN, hs1, hs, v0, ?_⟩
      conv => whnf
      refine ag.dec (fun h => absurd h (by decide)) (fun _ => ?_)
      conv => whnf
      refine ⟨0, s, N, a + 1, 1, 0, rfl, by decide, rfl, rfl, by decide, by omega, hN, hs1, hs, v1, ?_⟩
      conv => whnf
      refine ag.dec (fun _ => ?_) (fun h => absurd rfl h)
      conv => whnf
      refine ⟨0, s, N, a + 1 + 1, 7, U, rfl, by decide, rfl, rfl, by decide, by omega, hN, hs1, hs, hnum, ?_⟩
      conv => whnf
      refine bg.roll 6 ?_
      conv => whnf
      refine ag.dec (fun _ => ?_) (fun h => absurd h (cv (m := 0) rfl (d0 c0)))
      conv => whnf
      refine ag.dec (fun h => absurd h (lk (m := 7) rfl (z1 c1))) (fun _ => ?_)
      conv => whnf
      exact ⟨rfl, rfl⟩
    · skip
      by_cases c2 : U < 4096
      · have hcd : aZ U = [1, 1, 0] ++ bitsOf U 12 := by
          unfold aZ
          rw [if_neg c0, if_neg c1, if_pos c2]
        rw [hcd] at hrd hle ⊢
        have hlen : ([1, 1, 0] ++ bitsOf U 12).length = 15 := by rw [List.length_append, aN]; rfl
        rw [hlen] at hrd hle ⊢
        obtain ⟨r0, h0⟩ := dL (j := 14) hrd
        obtain ⟨r1, h1⟩ := dL (j := 13) h0
        obtain ⟨r2, h2⟩ := dL (j := 12) h1
        have hnum : b5 0 (aK s (a + 1 + 1 + 1) 12) = U := by rw [show aK s (a + 1 + 1 + 1) 12 = bitsOf U 12 from h2]; exact (gv 0 U 12).trans (by rw [Nat.zero_mul, Nat.zero_add]; exact Nat.mod_eq_of_lt (by omega))
        have v0 : b5 0 (aK s (a) 1) = 1 := by rw [r0]; rfl
        have v1 : b5 0 (aK s (a + 1) 1) = 1 := by rw [r1]; rfl
        have v2 : b5 0 (aK s (a + 1 + 1) 1) = 0 := by rw [r2]; rfl
        conv => whnf
        refine bg.roll 6 ?_
        conv => whnf
        refine ⟨0, s, N, a, 1, 1, rfl, by decide, rfl, rfl, by decide, by omega, hN, hs1, hs, v0, ?_⟩
        conv => whnf
        refine ag.dec (fun h => absurd h (by decide)) (fun _ => ?_)
        conv => whnf
        refine ⟨0, s, N, a + 1, 1, 1, rfl, by decide, rfl, rfl, by decide, by omega, hN, hs1, hs, v1, ?_⟩
        conv => whnf
        refine ag.dec (fun h => absurd h (by decide)) (fun _ => ?_)
        conv => whnf
        refine ⟨0, s, N, a + 1 + 1, 1, 0, rfl, by decide, rfl, rfl, by decide, by omega, hN, hs1, hs, v2, ?_⟩
        conv => whnf
        refine ag.dec (fun _ => ?_) (fun h => absurd rfl h)
        conv => whnf
        refine ⟨0, s, N, a + 1 + 1 + 1, 12, U, rfl, by decide, rfl, rfl, by decide, by omega, hN, hs1, hs, hnum, ?_⟩
        conv => whnf
        refine bg.roll 6 ?_
        conv => whnf
        refine ag.dec (fun _ => ?_) (fun h => absurd h (cv (m := 0) rfl (d0 c0)))
        conv => whnf
        refine ag.dec (fun _ => ?_) (fun h => absurd h (cv (m := 7) rfl (d1 c1)))
        conv => whnf
        refine ag.dec (fun h => absurd h (lk (m := 12) rfl (z2 c2))) (fun _ => ?_)
        conv => whnf
        exact ⟨rfl, rfl⟩
      · skip
        by_cases c3 : U < 16777216
        · have hcd : aZ U = [1, 1, 1, 0] ++ bitsOf U 24 := by
            unfold aZ
            rw [if_neg c0, if_neg c1, if_neg c2, if_pos c3]
          rw [hcd] at hrd hle ⊢
          have hlen : ([1, 1, 1, 0] ++ bitsOf U 24).length = 28 := by rw [List.length_append, aN]; rfl
          rw [hlen] at hrd hle ⊢
          obtain ⟨r0, h0⟩ := dL (j := 27) hrd
          obtain ⟨r1, h1⟩ := dL (j := 26) h0
          obtain ⟨r2, h2⟩ := dL (j := 25) h1
          obtain ⟨r3, h3⟩ := dL (j := 24) h2
          have hnum : b5 0 (aK s (a + 1 + 1 + 1 + 1) 24) = U := by rw [show aK s (a + 1 + 1 + 1 + 1) 24 = bitsOf U 24 from h3]; exact (gv 0 U 24).trans (by rw [Nat.zero_mul, Nat.zero_add]; exact Nat.mod_eq_of_lt (by omega))
          have v0 : b5 0 (aK s (a) 1) = 1 := by rw [r0]; rfl
          have v1 : b5 0 (aK s (a + 1) 1) = 1 := by rw [r1]; rfl
          have v2 : b5 0 (aK s (a + 1 + 1) 1) = 1 := by rw [r2]; rfl
          have v3 : b5 0 (aK s (a + 1 + 1 + 1) 1) = 0 := by rw [r3]; rfl
          conv => whnf
          refine bg.roll 6 ?_
          conv => whnf
          refine ⟨0, s, N, a, 1, 1, rfl, by decide, rfl, rfl, by decide, by omega, hN, hs1, hs, v0, ?_⟩
          conv => whnf
          refine ag.dec (fun h => absurd h (by decide)) (fun _ => ?_)
          conv => whnf
          refine ⟨0, s, N, a + 1, 1, 1, rfl, by decide, rfl, rfl, by decide, by omega, hN, hs1, hs, v1, ?_⟩
          conv => whnf
          refine ag.dec (fun h => absurd h (by decide)) (fun _ => ?_)
          conv => whnf
          refine ⟨0, s, N, a + 1 + 1, 1, 1, rfl, by decide, rfl, rfl, by decide, by omega, hN, hs1, hs, v2, ?_⟩
          conv => whnf
          refine ag.dec (fun h => absurd h (by decide)) (fun _ => ?_)
          conv => whnf
          refine ⟨0, s, N, a + 1 + 1 + 1, 1, 0, rfl, by decide, rfl, rfl, by decide, by omega, hN, hs1, hs, v3, ?_⟩
          conv => whnf
          refine ag.dec (fun _ => ?_) (fun h => absurd rfl h)
          conv => whnf
          refine ⟨0, s, N, a + 1 + 1 + 1 + 1, 24, U, rfl, by decide, rfl, rfl, by decide, by omega, hN, hs1, hs, hnum, ?_⟩
          conv => whnf
          refine bg.roll 6 ?_
          conv => whnf
          refine ag.dec (fun _ => ?_) (fun h => absurd h (cv (m := 0) rfl (d0 c0)))
          conv => whnf
          refine ag.dec (fun _ => ?_) (fun h => absurd h (cv (m := 7) rfl (d1 c1)))
          conv => whnf
          refine ag.dec (fun _ => ?_) (fun h => absurd h (cv (m := 12) rfl (d2 c2)))
          conv => whnf
          refine ag.dec (fun h => absurd h (lk (m := 24) rfl (z3 c3))) (fun _ => ?_)
          conv => whnf
          exact ⟨rfl, rfl⟩
        · skip
          have hcd : aZ U = [1, 1, 1, 1] ++ bitsOf U 64 := by
            unfold aZ
            rw [if_neg c0, if_neg c1, if_neg c2, if_neg c3]
          rw [hcd] at hrd hle ⊢
          have hlen : ([1, 1, 1, 1] ++ bitsOf U 64).length = 68 := by rw [List.length_append, aN]; rfl
          rw [hlen] at hrd hle ⊢
          obtain ⟨r0, h0⟩ := dL (j := 67) hrd
          obtain ⟨r1, h1⟩ := dL (j := 66) h0
          obtain ⟨r2, h2⟩ := dL (j := 65) h1
          obtain ⟨r3, h3⟩ := dL (j := 64) h2
          have hnum : b5 0 (aK s (a + 1 + 1 + 1 + 1) 64) = U := by rw [show aK s (a + 1 + 1 + 1 + 1) 64 = bitsOf U 64 from h3]; exact (gv 0 U 64).trans (by rw [Nat.zero_mul, Nat.zero_add]; exact Nat.mod_eq_of_lt (by omega))
          have v0 : b5 0 (aK s (a) 1) = 1 := by rw [r0]; rfl
          have v1 : b5 0 (aK s (a + 1) 1) = 1 := by rw [r1]; rfl
          have v2 : b5 0 (aK s (a + 1 + 1) 1) = 1 := by rw [r2]; rfl
          have v3 : b5 0 (aK s (a + 1 + 1 + 1) 1) = 1 := by rw [r3]; rfl
          conv => whnf
          refine bg.roll 6 ?_
          conv => whnf
          refine ⟨0, s, N, a, 1, 1, rfl, by decide, rfl, rfl, by decide, by omega, hN, hs1, hs, v0, ?_⟩
          conv => whnf
          refine ag.dec (fun h => absurd h (by decide)) (fun _ => ?_)
          conv => whnf
          refine ⟨0, s, N, a + 1, 1, 1, rfl, by decide, rfl, rfl, by decide, by omega, hN, hs1, hs, v1, ?_⟩
          conv => whnf
          refine ag.dec (fun h => absurd h (by decide)) (fun _ => ?_)
          conv => whnf
          refine ⟨0, s, N, a + 1 + 1, 1, 1, rfl, by decide, rfl, rfl, by decide, by omega, hN, hs1, hs, v2, ?_⟩
          conv => whnf
          refine ag.dec (fun h => absurd h (by decide)) (fun _ => ?_)
          conv => whnf
          refine ⟨0, s, N, a + 1 + 1 + 1, 1, 1, rfl, by decide, rfl, rfl, by decide, by omega, hN, hs1, hs, v3, ?_⟩
          conv => whnf
          refine ag.dec (fun h => absurd h (by decide)) (fun _ => ?_)
          conv => whnf
          refine ⟨0, s, N, a + 1 + 1 + 1 + 1, 64, U, rfl, by decide, rfl, rfl, by decide, by omega, hN, hs1, hs, hnum, ?_⟩
          conv => whnf
          refine bg.roll 6 ?_
          conv => whnf
          refine ag.dec (fun _ => ?_) (fun h => absurd h (cv (m := 0) rfl (d0 c0)))
          conv => whnf
          refine ag.dec (fun _ => ?_) (fun h => absurd h (cv (m := 7) rfl (d1 c1)))
          conv => whnf
          refine ag.dec (fun _ => ?_) (fun h => absurd h (cv (m := 12) rfl (d2 c2)))
          conv => whnf
          refine ag.dec (fun _ => ?_) (fun h => absurd h (cv (m := 24) rfl (d3 c3)))
          conv => whnf
          exact ⟨rfl, rfl⟩
end Go.Proofs.Ythjggjhebbdkdaa
namespace Go.Proofs.Ythjggjhebbdkdaa
open Go Go.RowKit
def tR (args : List AV) (H : AH) (n : Nat) (κ : PK) : Prop := match args with
  | [x] => ∃ (b : Nat) (s : List Nat) (N a U : Nat), x = .ptr b 0 ∧ b < n ∧ H.get b = some (.cells (gP s N a) true) ∧ U < 18446744073709551616 ∧ aK s a (aZ U).length = aZ U ∧ a + (aZ U).length ≤ N ∧ N ≤ 8 * s.length ∧ s.length ≤ 100000000 ∧ (∀ x ∈ s, x < 256) ∧
      κ (.tup [.si .u64 (U : Int), .int .i64 0]) (H.set (some (.cells (gP s N (a + (aZ U).length)) true)) aa b) n
  | _ => False
theorem Ig : aF 109 tR := fun args H n κ hs φ h0' hp vs K hr hargs hk => by
  unfold tR at hs
  split at hs
  · obtain ⟨x, rfl, e1⟩ := vs1 hargs
    obtain ⟨b, s, N, a, U, rfl, hbn, hb, hU, hrd, ha, hN, hs1, hs2, hs⟩ := hs
    refine cw (S := [b]) (O := [.cells (gP s N a) true]) (args0 := [.ptr 0 0]) (aB JM 4 _) (by kernel_rfl) hr
      (jo hbn hb (.inr rfl)) (.cons e1 .nil) hk (DE s N a U hU hrd ha hN hs1 hs2) fun u H' n' ⟨h1, h2⟩ => ?_
    subst h1
    refine ⟨1, iP [b] n H [(0, some (.cells (gP s N (a + (aZ U).length)) true))], Nat.le_refl _, cG.put (Nat.le_refl _) rfl (fun x hx o ho => ?_), rfl, hs⟩
    simp only [List.mem_cons, List.not_mem_nil, or_false] at hx
    subst hx
    injection ho with ho; subst ho; exact ⟨h2, rfl, rfl⟩
  · exact hs.elim
def ny (r : Nat) (T V st : Int) : List AV := [.ptr r 0, .si .i64 T, .si .i64 V, .si .i64 st, .int .i64 0]
def Ih : DT := [(5, [(some 1000000, [3, 5]), (none, [0, 1, 2, 3, 4, 5, 6, 7, 8, 9]), (none, [0, 1, 2, 4, 5, 3, 6, 7, 8, 9])]), (7, [(some 1000000, [4, 6]), (none, [0, 1, 2, 3, 4, 5, 6, 7, 8, 9, 10, 11]), (none, [0, 1, 2, 3, 5, 6, 4, 7, 8, 9, 10, 11])])]
noncomputable def KN : FuncId → EP := bK 82 Ih (a9 109 tR (a9 106 pq KB))
theorem JN : bG KN := aL (aw (aw Dz DD) Ig) (by kernel_rfl) (by kernel_rfl)
theorem wA (x : Int) : b5 0 (bitsOf (eQ x) 64) = eQ x := (gv 0 _ 64).trans (by rw [Nat.zero_mul, Nat.zero_add]; exact Nat.mod_eq_of_lt (yb x))
theorem zu {u : Nat} (h : u < 18446744073709551616) : bI .xor .i64 (IntKind.i64.wrap (((u : Nat) : Int).fdiv ((2 : Int) ^ min (Int.toNat 1) IntKind.u64.bits))) (IntKind.i64.wrap (0 - IntKind.i64.wrap (bI .and .u64 ((u : Nat) : Int) 1))) = ld u := H5 h
theorem Bg (s : List Nat) (N a : Nat) (T V st T' V' : Int) (h1 : aK s a 64 = bitsOf (eQ T') 64) (h2 : aK s (a + 64) 64 = bitsOf (eQ V') 64) (hT : aM T') (hV : aM V') (hle : a + 64 + 64 ≤ N) (hN : N ≤ 8 * s.length) (hs1 : s.length ≤ 100000000) (hs : ∀ x ∈ s, x < 256) :
    az KN 6 82 [.ptr 0 0, .sb true] (mkH [(0, .cells (ny 1 T V st) true), (1, .cells (gP s N a) true)]) 2
    fun u H' _ => u = .agg [.si .i64 T', .si .i64 V'] ∧ H'.get 0 = some (.cells (ny 1 T' V' st) true) ∧ H'.get 1 = some (.cells (gP s N (a + 64 + 64)) true) := by
  have e1 : b5 0 (aK s a 64) = eQ T' := by rw [h1, wA]
  have e2 : b5 0 (aK s (a + 64) 64) = eQ V' := by rw [h2, wA]
  have b1 : IntKind.i64.wrap ((eQ T' : Nat) : Int) = T' := wg hT
  have b2 : IntKind.i64.wrap ((eQ V' : Nat) : Int) = V' := wg hV
  have q1 := congr (congrArg (fun x y => AV.agg [.si .i64 x, .si .i64 y]) b1) b2
  have q2 := congr (congrArg (fun x y => some (AO.cells (ny 1 x y st) true)) b1) b2
  conv => whnf
  refine ag.sb (fun _ => ?_) (fun h => by cases h)
  conv => whnf
  refine ⟨1, s, N, a, 64, eQ T', rfl, by decide, rfl, rfl, by decide, by omega, hN, hs1, hs, e1, ?_⟩
  conv => whnf
  refine ⟨1, s, N, a + 64, 64, eQ V', rfl, by decide, rfl, rfl, by decide, by omega, hN, hs1, hs, e2, ?_⟩
  conv => whnf
  exact ⟨q1, q2, rfl⟩
theorem Bh (s : List Nat) (N a U W : Nat) (T V st : Int) (hU : U < 18446744073709551616) (hW : W < 18446744073709551616) (h1 : aK s a (aZ U).length = aZ U) (h2 : aK s (a + (aZ U).length) (aZ W).length = aZ W) (hle : a + (aZ U).length + (aZ W).length ≤ N) (hN : N ≤ 8 * s.length) (hs1 : s.length ≤ 100000000) (hs : ∀ x ∈ s, x < 256) :
    az KN 6 82 [.ptr 0 0, .sb false] (mkH [(0, .cells (ny 1 T V st) true), (1, .cells (gP s N a) true)]) 2
    fun u H' _ => u = .agg [.si .i64 (W64 (T + W64 (st + ld U))), .si .i64 (W64 (V + ld W))] ∧ H'.get 0 = some (.cells (ny 1 (W64 (T + W64 (st + ld U))) (W64 (V + ld W)) (W64 (st + ld U))) true) ∧ H'.get 1 = some (.cells (gP s N (a + (aZ U).length + (aZ W).length)) true) := by
  have z1 := zu hU
  have z2 := zu hW
  have q1 := congr (congrArg (fun x y => AV.agg [.si .i64 (W64 (T + W64 (st + x))), .si .i64 (W64 (V + y))]) z1) z2
  have q2 := congr (congrArg (fun x y => some (AO.cells (ny 1 (W64 (T + W64 (st + x))) (W64 (V + y)) (W64 (st + x))) true)) z1) z2
  have hle1 : a + (aZ U).length ≤ N := by omega
  conv => whnf
  refine ag.sb (fun h => by cases h) (fun _ => ?_)
  conv => whnf
  refine ⟨?_, ?_, trivial⟩ <;> (
    conv => whnf
    refine ⟨1, s, N, a, U, rfl, by decide, rfl, hU, h1, hle1, hN, hs1, hs, ?_⟩
    conv => whnf
    refine ⟨?_, ?_, trivial⟩ <;> (
      conv => whnf
      refine ⟨1, s, N, a + (aZ U).length, W, rfl, by decide, rfl, hW, h2, hle, hN, hs1, hs, ?_⟩
      conv => whnf
      exact ⟨q1, q2, rfl⟩))
inductive zv (s : List Nat) (a : Nat) (T V st : Int) : Bool → Nat → Int → Int → Int → Prop where
  | first {T' V' : Int} (h1 : aK s a 64 = bitsOf (eQ T') 64) (h2 : aK s (a + 64) 64 = bitsOf (eQ V') 64) (hT : aM T') (hV : aM V') : zv s a T V st true (a + 64 + 64) T' V' st
  | more {U W : Nat} (hU : U < 18446744073709551616) (hW : W < 18446744073709551616) (h1 : aK s a (aZ U).length = aZ U) (h2 : aK s (a + (aZ U).length) (aZ W).length = aZ W) : zv s a T V st false (a + (aZ U).length + (aZ W).length) (W64 (T + W64 (st + ld U))) (W64 (V + ld W)) (W64 (st + ld U))
def tS (args : List AV) (H : AH) (n : Nat) (κ : PK) : Prop := match args with
  | [x, q] => ∃ (b c : Nat) (s : List Nat) (N a a' : Nat) (T V st T' V' st' : Int) (f : Bool), x = .ptr b 0 ∧ mk q = .sb f ∧ b ≠ c ∧ b < n ∧ c < n ∧ H.get b = some (.cells (ny c T V st) true) ∧ H.get c = some (.cells (gP s N a) true) ∧ zv s a T V st f a' T' V' st' ∧ a' ≤ N ∧ N ≤ 8 * s.length ∧ s.length ≤ 100000000 ∧ (∀ x ∈ s, x < 256) ∧
      κ (.agg [.si .i64 T', .si .i64 V']) ((H.set (some (.cells (gP s N a') true)) aa c).set (some (.cells (ny c T' V' st') true)) aa b) n
  | _ => False
theorem Ii : aF 82 tS := fun args H n κ hs φ h0' hp vs K hr hargs hk => by
  unfold tS at hs
  split at hs
  · obtain ⟨x, y, rfl, e1, e2⟩ := vs2 hargs
    obtain ⟨b, c, s, N, a, a', T, V, st, T', V', st', f, rfl, hq, hbc, hbn, hcn, hb, hc, hnx, ha, hN, hs1, hs2, hs⟩ := hs
    have key : az KN 6 82 [.ptr 0 0, .sb f] (mkH [(0, .cells (ny 1 T V st) true), (1, .cells (gP s N a) true)]) 2
        fun u H' _ => u = .agg [.si .i64 T', .si .i64 V'] ∧ H'.get 0 = some (.cells (ny 1 T' V' st') true) ∧ H'.get 1 = some (.cells (gP s N a') true) := by
      cases hnx with
      | first h1 h2 hT hV => exact Bg s N a T V st T' V' h1 h2 hT hV ha hN hs1 hs2
      | more hU hW h1 h2 => exact Bh s N a _ _ T V st hU hW h1 h2 ha hN hs1 hs2
    refine cw (S := [b, c]) (O := [.cells (ny 1 T V st) true, .cells (gP s N a) true]) (args0 := [.ptr 0 0, .sb f]) (aB JN 6 _) (by kernel_rfl) hr
      (tO hbc hbn hcn hb hc (.inr rfl) (.inr rfl)) (.cons e1 (.cons (by have := e2.mk; rw [hq] at this; exact this) .nil)) hk key fun u H' n' ⟨h1, h2, h3⟩ => ?_
    subst h1
    refine ⟨2, iP [b, c] n H [(0, some (.cells (ny 1 T' V' st') true)), (1, some (.cells (gP s N a') true))], Nat.le_refl _, cG.put (Nat.le_refl _) rfl (fun x hx o ho => ?_), rfl, hs⟩
    simp only [List.mem_cons, List.not_mem_nil, or_false] at hx
    rcases hx with rfl | rfl
    · injection ho with ho; subst ho; exact ⟨h2, rfl, rfl⟩
    · injection ho with ho; subst ho; exact ⟨h3, rfl, rfl⟩
  · exact hs.elim
end Go.Proofs.Ythjggjhebbdkdaa
namespace Go.Proofs.Ythjggjhebbdkdaa
open Go Go.RowKit
def tP (X : Smp) (i : Nat) : Int := if i = 0 then 0 else tAt X (i - 1)
def vP (X : Smp) (i : Nat) : Int := if i = 0 then 0 else vAt X (i - 1)
theorem FE {X : Smp} {i : Nat} (h : i < X.length) : aK (pack (aU X)) (aE X i).length (bM X i).length = bM X i := by
  obtain ⟨D, hD⟩ := yd h
  exact wj (sF X) hD
theorem DF {s : List Nat} {a : Nat} {A B : List Nat} (h : aK s a (A ++ B).length = A ++ B) : aK s a A.length = A ∧ aK s (a + A.length) B.length = B := by
  rw [List.length_append, qE] at h
  exact List.append_inj h (by rw [jn])
theorem qG (X : Smp) (i : Nat) : (aE X (i + 1)).length = (aE X i).length + (bM X i).length := by rw [mD, List.length_append]
theorem DG {X : Smp} {i : Nat} (h : i ≤ X.length) : (aE X i).length ≤ (aU X).length := by
  obtain ⟨D, hD⟩ := n8 X i (X.length - i)
  rw [show i + (X.length - i) = X.length from by omega] at hD
  show _ ≤ (aE X X.length).length
  rw [hD, List.length_append]; omega
theorem DH {X : Smp} (h64 : ∀ x ∈ X, aM x.1 ∧ aM x.2) {i : Nat} (h : i < X.length) : zv (pack (aU X)) (aE X i).length (tP X i) (vP X i) (cW X i) (decide ((i : Int) = 0)) (aE X (i + 1)).length (tP X (i + 1)) (vP X (i + 1)) (cW X (i + 1)) := by
  have hr := FE h
  have ht := (Dq h64 i).1
  have hv := (Dq h64 i).2
  by_cases h0 : i = 0
  · subst h0
    obtain ⟨r1, r2⟩ := DF (A := bitsOf (eQ (tAt X 0)) 64) (B := bitsOf (eQ (vAt X 0)) 64) hr
    rw [aN] at r1
    rw [aN, aN] at r2
    have e : (aE X (0 + 1)).length = (aE X 0).length + 64 + 64 := by rw [qG]; simp [bM, aN]
    rw [e]
    exact .first r1 r2 ht hv
  · have hd : decide ((i : Int) = 0) = false := decide_eq_false (by omega)
    have es : bM X i = aZ (dT X i) ++ aZ (dV X i) := by unfold bM; rw [if_neg h0]
    rw [es] at hr
    obtain ⟨r1, r2⟩ := DF hr
    have e : (aE X (i + 1)).length = (aE X i).length + (aZ (dT X i)).length + (aZ (dV X i)).length := by rw [qG, es, List.length_append]; omega
    have e1 : tP X (i + 1) = W64 (tP X i + W64 (cW X i + ld (dT X i))) := by
      rw [wy X h0]; unfold tP; rw [if_neg (by omega), if_neg h0]; exact (JI h0 ht).symm
    have e2 : vP X (i + 1) = W64 (vP X i + ld (dV X i)) := by
      unfold vP; rw [if_neg (by omega), if_neg h0]; exact (JJ hv).symm
    rw [hd, e, e1, e2, ← wy X h0]
    exact .more (Hg X i) (Hh X i) r1 r2
theorem wB (L : Smp) (x : Int × Int) : smp (L ++ [x]) = smp L ++ [.si .i64 x.1, .si .i64 x.2] := by simp [smp]
theorem tyS : RTy 35 35 2 16 := ⟨_, _, _, rfl, rfl, (fun q h => by cases h), rfl, rfl, rfl, rfl, by decide, by decide⟩
noncomputable def dc (X : Smp) (i : Nat) : AE × AH := (mkE [(2, .si .i64 (((X.length : Nat) : Int))), (8, .ptr 0 (0)), (10, .ptr 1 (0)), (11, .rw 2 0 i 2 0), (12, .si .i64 (((i : Nat) : Int)))], mkH [(0, .cells (gP (pack (aU X)) (aU X).length (aE X i).length) true), (1, .cells (ny 0 (tP X i) (vP X i) (cW X i)) true), (2, .cells (smp ((X.take i))) true)])
theorem DI {X : Smp} {i : Nat} {p n : Nat} {σ : AE} {H : AH} (j2 : Nat) (hj : j2 ≠ 0 ∧ j2 ≠ 1) (hp : p ≤ 0) (e2 : mk (ay (pa 2) σ) = .si .i64 (((X.length : Nat) : Int))) (e8 : ay (pa 8) σ = .ptr 0 (0)) (e10 : ay (pa 10) σ = .ptr 1 (0)) (e11 : ae H 3 (fun b => if b = 2 then j2 else b) (ay (pa 11) σ) (.rw 2 0 i 2 0)) (e12 : mk (ay (pa 12) σ) = .si .i64 (((i : Nat) : Int))) (h0 : ∃ l, H.get 0 = some (.cells l true) ∧ lf H 3 (fun b => if b = 2 then j2 else b) l (gP (pack (aU X)) (aU X).length (aE X i).length)) (h1 : ∃ l, H.get 1 = some (.cells l true) ∧ lf H 3 (fun b => if b = 2 then j2 else b) l (ny 0 (tP X i) (vP X i) (cW X i))) (h2 : (∃ l, H.get j2 = some (.cells l true) ∧ l.map mk = smp ((X.take i))) ∨ (((X.take i)) = [] ∧ n ≤ j2)) : Cov p σ H n ((dc X i).1, (dc X i).2, 3) := by
  refine Cov.ofR (fun b => if b = 2 then j2 else b) (by omega) (fun b hb => by repeat' rw [if_neg (by omega)]) ?_ ?_ ?_
  · intro x hx
    simp only [List.mem_cons, List.not_mem_nil, or_false] at hx
    rcases hx with rfl | rfl | rfl | rfl | rfl
    · exact .int e2
    · exact .ptr (by decide) e8
    · exact .ptr (by decide) e10
    · exact e11
    · exact .int e12
  · intro x hx
    simp only [List.mem_cons, List.not_mem_nil, or_false] at hx
    rcases hx with rfl | rfl | rfl
    · exact ⟨by simp, .inl (h0.elim fun l h => ⟨_, h.1, aO.st h.2⟩)⟩
    · exact ⟨by simp, .inl (h1.elim fun l h => ⟨_, h.1, aO.st h.2⟩)⟩
    · exact ⟨by simp, h2.elim (fun ⟨l, h, g⟩ => .inl ⟨_, h, aO.bz (ba _) (by rw [g, aV]) (fun q => q)⟩) (fun h => .inr ⟨by rw [h.1]; rfl, h.2⟩)⟩
  · intro x hx y hy
    simp only [List.mem_cons, List.not_mem_nil, or_false] at hx hy
    rcases hx with rfl | rfl | rfl <;> rcases hy with rfl | rfl | rfl <;> simp <;> omega
noncomputable def KD : FuncId → EP := bK 66 [] (bK 83 [] (a9 82 tS evP))
theorem JO : bG KD := aL (aL (aw bd Ii) (by kernel_rfl) (by kernel_rfl)) (by kernel_rfl) (by kernel_rfl)
theorem FF (X : Smp) (hX : X.length ≤ 100000) (h64 : ∀ x ∈ X, aM x.1 ∧ aM x.2) : az KD 4 66 [.ss (pack (aU X)), .si .i64 ((aU X).length : Int), .si .i64 (X.length : Int)] .nil 0
    fun u H' _ => C7 X 0 u H' := by
  have hbl := wi X
  have hpl := bb (aU X)
  have hN : (aU X).length ≤ 8 * (pack (aU X)).length := by omega
  have h8 : IntKind.i64.wrap (8 * ((pack (aU X)).length : Int)) = ((8 * (pack (aU X)).length : Nat) : Int) := cr ⟨by omega, by omega⟩
  have hgt : ¬ IntKind.i64.wrap (8 * ((pack (aU X)).length : Int)) < ((aU X).length : Int) := by rw [h8]; omega
  have hs2 := zi (sF X)
  conv => whnf
  refine ag.dec (fun h => absurd h (by omega)) (fun _ => ?_)
  conv => whnf
  refine ag.dec (fun h => absurd h hgt) (fun _ => ?_)
  conv => whnf
  refine ag.dec (fun h => absurd h (by omega)) (fun _ => ?_)
  conv => whnf
  refine ag.dec (fun h => absurd h (by omega)) (fun _ => ?_)
  conv => whnf
  refine bg.mk { i : Nat // i ≤ X.length } 3 (fun i => dc X i.val) (fun i => X.length - i.val) ⟨0, Nat.zero_le _⟩ ?_ ?_
  · exact DI (j2 := 2) (by decide) (Nat.le_refl 0) rfl rfl rfl (.ky rfl) rfl ⟨_, rfl, .cons (.str rfl) (.cons (.int rfl) (.cons (.int rfl) (.cons (.bool rfl) .nil)))⟩ ⟨_, rfl, .cons (.ptr (by decide) rfl) (.cons (.int rfl) (.cons (.int rfl) (.cons (.int rfl) (.cons (.mk1 rfl rfl) .nil))))⟩ (.inr ⟨rfl, Nat.le_refl _⟩)
  · intro ⟨i, hi⟩
    conv => whnf
    refine ag.dec (fun h => ?_) (fun h => ?_)
    · have hi2 : i < X.length := by exact Int.ofNat_lt.1 h
      have hnx := DH h64 hi2
      have ha : (aE X (i + 1)).length ≤ (aU X).length := DG hi2
      have hs1 : (pack (aU X)).length ≤ 100000000 := by omega
      have hi1 : IntKind.i64.wrap ((i : Int) + 1) = (((i + 1 : Nat)) : Int) := cr ⟨by omega, by omega⟩
      have hrow : bu (smp (X.take i)) 0 (i * 2) = some (smp (X.take i)) := cD (by rw [aG, List.length_take]; omega)
      have hbig : (i + 1) * 16 ≤ 140737488355328 := by omega
      have htk : smp (X.take i) ++ [.si .i64 (tP X (i + 1)), .si .i64 (vP X (i + 1))] = smp (X.take (i + 1)) := by
        rw [List.take_succ_eq_append_getElem hi2, wB]
        unfold tP vP
        rw [if_neg (by omega), if_neg (by omega), Nat.add_sub_cancel, cX hi2, lg hi2]
      conv => whnf
      refine ⟨1, 0, pack (aU X), (aU X).length, (aE X i).length, (aE X (i + 1)).length, tP X i, vP X i, cW X i, tP X (i + 1), vP X (i + 1), cW X (i + 1), _, rfl, rfl, by decide, by decide, by decide, rfl, rfl, hnx, ha, hN, hs1, hs2, ?_⟩
      conv => whnf
      refine fk.grow 2 16 _ _ _ _ _ _ tyS (.old rfl) rfl rfl (.rw rfl hrow) hbig ?_
      conv => whnf
      exact ⟨⟨i + 1, hi2⟩, (show X.length - (i + 1) < X.length - i by omega), DI (j2 := 4) (by decide) (Nat.le_refl 0) rfl rfl rfl (ae.rw (by decide) rfl) (congrArg (AV.si .i64) hi1) ⟨_, rfl, .cons (.str rfl) (.cons (.int rfl) (.cons (.int rfl) (.cons (.bool rfl) .nil)))⟩ ⟨_, rfl, .cons (.ptr (by decide) rfl) (.cons (.int rfl) (.cons (.int rfl) (.cons (.int rfl) (.cons (.mk1 rfl rfl) .nil))))⟩ (.inl ⟨_, rfl, (congrArg (List.map mk) htk).trans (aV _)⟩)⟩
    · have hi3 : i = X.length := by have : ¬ i < X.length := fun q => h (Int.ofNat_lt.2 q); omega
      subst hi3
      conv => whnf
      refine ag.dec (fun h => absurd h (by rw [show IntKind.i64.wrap (((aU X).length : Int) - ((aE X X.length).length : Int)) = 0 from (cr ⟨by show _ ≤ ((aU X).length : Int) - ((aU X).length : Int); omega, by show ((aU X).length : Int) - ((aU X).length : Int) ≤ _; omega⟩).trans (Int.sub_self _)]; decide)) (fun _ => ?_)
      conv => whnf
      have hrow : bu (smp (X.take X.length)) 0 (X.length * 2) = some (smp X) := by rw [List.take_length]; exact dd X
      exact ⟨_, _, rfl, rfl, iX.rw rfl rfl hrow (aV X)⟩
def tT (args : List AV) (H : AH) (n : Nat) (κ : PK) : Prop := match args with
  | [x, y, z] => ∃ X : Smp, mk x = .ss (pack (aU X)) ∧ mk y = .si .i64 ((aU X).length : Int) ∧ mk z = .si .i64 (X.length : Int) ∧ X.length ≤ 100000 ∧ (∀ x ∈ X, aM x.1 ∧ aM x.2) ∧ y8 (JD 0) X H n κ
  | _ => False
theorem Hm : aF 66 tT := fun args H n κ hs φ h0' hp vs K hr hargs hk => by
  unfold tT at hs
  split at hs
  · obtain ⟨x, y, z, rfl, e1, e2, e3⟩ := vs3 hargs
    obtain ⟨X, h1, h2, h3, hX, h64, hs⟩ := hs
    exact A6 JO (fun _ _ h => h) (FF X hX h64) hs hr hk (by kernel_rfl) HR.ro0 (.cons (aA rfl (h1 ▸ e1.mk)) (.cons (aA rfl (h2 ▸ e2.mk)) (.cons (aA rfl (h3 ▸ e3.mk)) .nil)))
  · exact hs.elim
end Go.Proofs.Ythjggjhebbdkdaa
namespace Go.Proofs.Ythjggjhebbdkdaa
open Go Go.RowKit
theorem ae.frE {H : AH} {m : Nat} {r : Nat → Nat} {a : AV} {n k : Nat} {l : List AV} (e : a = .fr n k l) : ae H m r a (.fr n k l) := by subst e; exact .rI rfl
theorem cF.frz {φ : Ph} {H : AH} {n : Nat} {h0 hp : Hp} (hr : HR φ H n h0 hp) {a : AV} {L : Smp} {v : Value} (hS : cF H a L ∨ a = .fr L.length 2 (smp L)) (hv : VR φ a v) :
    ∃ z : Fz → Prop, (Wf hp → HR ⟨fun _ => none, z, z, fun _ _ => False⟩ .nil 0 hp hp) ∧ VR ⟨fun _ => none, z, z, fun _ _ => False⟩ (.fr L.length 2 (smp L)) v := by
  rcases hS with hS | rfl
  · rcases hS.open hr hv with ⟨rfl, h⟩ | ⟨p, C, hC, ⟨c, t, fz, h1, h2, h3, h4⟩, h⟩
    · refine ⟨fun _ => False, fun hw => ga hw, ?_⟩
      rw [(h φ).cg]
      exact .fre fun _ => rfl
    · have hst : (smp L).all rI = true := by
        rw [List.all_eq_true]
        intro y hy
        have := List.all_eq_true.1 (ba L) y hy
        cases y <;> first | rfl | cases this
      refine ⟨fun q => q = ⟨p.B, p.s, smp L⟩, fun hw => ⟨fun _ _ k => (by cases k), fun _ _ k => (by cases k), fun _ _ _ _ _ _ k => (by cases k), fun b o k => ⟨hw b o k, k⟩, Nat.le_refl _, fun q hq => ⟨?_, fun _ _ _ k => (by cases k)⟩, fun _ _ k => (by cases k)⟩, ?_⟩
      · subst hq
        exact ⟨⟨⟨hw _ _ h1, hst⟩, c, t, fz, h1, (show p.s + (smp L).length ≤ c.size by omega), h4 _⟩, .inl rfl⟩
      · obtain ⟨p1, C1, g1, rfl, g3, _⟩ := (h (ph1 p) 0 rfl).tm
        have : p = p1 := by simpa [ph1] using g1
        subst this
        exact .fr (q := ⟨p.B, p.s, smp L⟩) (o := 0) rfl (by rw [g3 rfl]; exact hC) (cD (aG L))
  · exact ⟨φ.z, fun hw => hr.za (ga hw) (fun _ _ h => by cases h) (fun _ h => h), m3 (ψ := ⟨fun _ => none, φ.z, φ.z, fun _ _ => False⟩) (fun _ h => h) rfl hv⟩
noncomputable def KL : FuncId → EP := bK 62 [] evP
theorem JP : bG KL := aL bd (by kernel_rfl) (by kernel_rfl)
noncomputable def pl0 (L : Smp) (t : Int) (i : Nat) : AE × AH := (mkE [(0, .fr L.length 2 (smp L)), (1, .si .i64 (t)), (6, .si .i64 (((i : Nat) : Int)))], mkH [])
theorem zw {L : Smp} {t : Int} {i : Nat} {p n : Nat} {σ : AE} {H : AH} (hp : p ≤ 0) (e0 : ay (pa 0) σ = .fr L.length 2 (smp L)) (e1 : mk (ay (pa 1) σ) = .si .i64 (t)) (e6 : mk (ay (pa 6) σ) = .si .i64 (((i : Nat) : Int))) : Cov p σ H n ((pl0 L t i).1, (pl0 L t i).2, 0) := by
  refine Cov.ofR (fun b => b) (by omega) (fun b hb => rfl) ?_ ?_ ?_
  · intro x hx
    simp only [List.mem_cons, List.not_mem_nil, or_false] at hx
    rcases hx with rfl | rfl | rfl
    · exact ae.frE e0
    · exact .int e1
    · exact .int e6
  · intro x hx
    cases hx
  · intro x hx y hy
    cases hx
theorem Bi (L : Smp) (t : Int) (hL : L.length ≤ 100000000) : az KL 3 62 [.fr L.length 2 (smp L), .si .i64 t] .nil 0 fun u _ _ => mkT u = mkT (.tup [.si .i64 ((plc L t : Nat) : Int), .sb (has L t)]) := by
  conv => whnf
  refine bg.mk { i : Nat // i ≤ plc L t } 0 (fun i => pl0 L t i.val) (fun i => L.length - i.val) ⟨0, Nat.zero_le _⟩ ?_ ?_
  · exact zw (Nat.le_refl 0) rfl rfl rfl
  · intro ⟨i, hi⟩
    have hpl := mC L t
    conv => whnf
    refine ag.dec (fun h => ?_) (fun h => ?_)
    · have hi2 : i < L.length := by exact Int.ofNat_lt.1 h
      have hti : tAt L i = L[i].1 := cX hi2
      have hi1 : IntKind.i64.wrap ((i : Int) + 1) = (((i + 1 : Nat)) : Int) := cr ⟨by omega, by omega⟩
      conv => whnf
      refine Idx.mk i rfl hi2 ?_
      conv => whnf
      refine ao (fy hi2 rfl) ?_
      conv => whnf
      refine ag.dec (fun h2 => ?_) (fun h2 => ?_)
      · have hlt : i + 1 ≤ plc L t := by
          rcases Nat.lt_or_ge i (plc L t) with q | q
          · exact q
          · have e : i = plc L t := by omega
            have := tM (L := L) (t := t) (by omega)
            rw [← e, hti] at this; omega
        conv => whnf
        exact ⟨⟨i + 1, hlt⟩, (show L.length - (i + 1) < L.length - i by omega), zw (Nat.le_refl 0) rfl rfl (congrArg (AV.si .i64) hi1)⟩
      · have e : i = plc L t := by
          rcases Nat.lt_or_ge i (plc L t) with q | q
          · have := tL q; rw [hti] at this; exact absurd this h2
          · omega
        have hb : decide (L[i].1 = t) = has L t := by
          unfold has
          rw [← e, hti]
          simp [hi2]
        have hq := congr (congrArg (fun (x : Nat) y => AV.tup [.si .i64 (x : Int), .sb y]) e) hb
        conv => whnf
        refine ag.dec (fun _ => ?_) (fun q => absurd h q)
        conv => whnf
        refine Idx.mk i rfl hi2 ?_
        conv => whnf
        refine ao (fy hi2 rfl) ?_
        conv => whnf
        exact hq
    · have e : i = plc L t := by have : ¬ i < L.length := fun q => h (Int.ofNat_lt.2 q); omega
      have hb : false = has L t := by
        unfold has
        refine (decide_eq_false fun q => ?_).symm
        have : ¬ i < L.length := fun q => h (Int.ofNat_lt.2 q)
        omega
      have hq := congr (congrArg (fun (x : Nat) y => AV.tup [.si .i64 (x : Int), .sb y]) e) hb
      conv => whnf
      refine ag.dec (fun q => absurd q h) (fun _ => ?_)
      conv => whnf
      exact hq
def zx (args : List AV) (H : AH) (n : Nat) (κ : PK) : Prop := match args with
  | [x, y] => ∃ (L : Smp) (t : Int), (cF H x L ∨ x = .fr L.length 2 (smp L)) ∧ mk y = .si .i64 t ∧ L.length ≤ 100000000 ∧ κ (.tup [.si .i64 ((plc L t : Nat) : Int), .sb (has L t)]) H n
  | _ => False
theorem zy : aF 62 zx := fun args H n κ hs φ h0' hp vs K hr hargs hk => by
  unfold zx at hs
  split at hs
  · obtain ⟨x, y, rfl, e1, e2⟩ := vs2 hargs
    obtain ⟨L, t, hS, hy, hL, hs⟩ := hs
    obtain ⟨z, hz, hv⟩ := cF.frz hr hS e1
    exact iI JP (v := .tup [.si .i64 ((plc L t : Nat) : Int), .sb (has L t)]) rfl (Bi L t hL) hs hr hk (by kernel_rfl) hz (.cons hv (.cons (aA rfl (hy ▸ e2.mk)) .nil))
  · exact hs.elim
theorem Bj (p a b : Int) : az evP 4 64 [.si .i64 p, .si .i64 a, .si .i64 b] .nil 0 fun u _ _ => mkT u = mkT (.tup [.si .i64 (a8 p a b).1, .si .i64 (a8 p a b).2]) := by
  have key : ∀ {x y : Int}, a8 p a b = (x, y) → mkT (.tup [.si .i64 x, .si .i64 y]) = mkT (.tup [.si .i64 (a8 p a b).1, .si .i64 (a8 p a b).2]) := fun e => by rw [e]
  conv => whnf
  refine ag.dec (fun h1 => ?_) (fun h1 => ?_)
  · have e := key (x := 0) (y := 8) (by simp [a8, h1])
    conv => whnf
    exact e
  conv => whnf
  refine ag.dec (fun h2 => ?_) (fun h2 => ?_)
  · have e := key (x := a) (y := 0) (by simp [a8, h2])
    conv => whnf
    exact e
  conv => whnf
  refine ag.dec (fun h3 => ?_) (fun h3 => ?_)
  · have e := key (x := b) (y := 0) (by simp [a8, h3])
    conv => whnf
    exact e
  conv => whnf
  refine ag.dec (fun h4 => ?_) (fun h4 => ?_)
  · have e := key (x := min a b) (y := 0) (by simp [a8, h4])
    conv => whnf
    exact e
  conv => whnf
  refine ag.dec (fun h5 => ?_) (fun h5 => ?_)
  · have e := key (x := max a b) (y := 0) (by simp [a8, h5])
    conv => whnf
    exact e
  conv => whnf
  refine ag.dec (fun h6 => ?_) (fun h6 => ?_)
  · have e9 : ((0 ≤ b ∧ W64 (a + b) < a) ∨ (b < 0 ∧ a < W64 (a + b))) → _ := fun h => key (x := 0) (y := 9) (by simp [a8, h6, h])
    have e0 : ¬ ((0 ≤ b ∧ W64 (a + b) < a) ∨ (b < 0 ∧ a < W64 (a + b))) → _ := fun h => key (x := W64 (a + b)) (y := 0) (by unfold a8; rw [if_neg h1, if_neg h2, if_neg h3, if_neg h4, if_neg h5, if_pos h6, if_neg h])
    conv => whnf
    refine ag.dec (fun hb => ?_) (fun hb => ?_)
    · conv => whnf
      refine ag.dec (fun hn => ?_) (fun hn => ?_)
      · have e := e9 (.inl ⟨hb, hn⟩)
        conv => whnf
        exact e
      · have e := e0 (fun q => q.elim (fun q => hn q.2) (fun q => by have := q.1; omega))
        conv => whnf
        refine ag.dec (fun q => absurd q (by omega)) (fun _ => ?_)
        conv => whnf
        exact e
    · conv => whnf
      refine ag.dec (fun hb2 => ?_) (fun q => absurd q (by omega))
      conv => whnf
      refine ag.dec (fun hn => ?_) (fun hn => ?_)
      · have e := e9 (.inr ⟨hb2, hn⟩)
        conv => whnf
        exact e
      · have e := e0 (fun q => q.elim (fun q => hb q.1) (fun q => hn q.2))
        conv => whnf
        exact e
  · have e := key (x := 0) (y := 1) (by simp [a8, h1, h2, h3, h4, h5, h6])
    conv => whnf
    exact e
def DJ (args : List AV) (H : AH) (n : Nat) (κ : PK) : Prop := match args with
  | [x, y, z] => ∃ p a b : Int, mk x = .si .i64 p ∧ mk y = .si .i64 a ∧ mk z = .si .i64 b ∧ κ (.tup [.si .i64 (a8 p a b).1, .si .i64 (a8 p a b).2]) H n
  | _ => False
theorem FG : aF 64 DJ := fun args H n κ hs φ h0' hp vs K hr hargs hk => by
  unfold DJ at hs
  split at hs
  · obtain ⟨x, y, z, rfl, e1, e2, e3⟩ := vs3 hargs
    obtain ⟨p, a, b, h1, h2, h3, hs⟩ := hs
    exact JC (v := .tup [.si .i64 (a8 p a b).1, .si .i64 (a8 p a b).2]) bd rfl rfl (Bj p a b) hs hr (.cons (aA rfl (h1 ▸ e1.mk)) (.cons (aA rfl (h2 ▸ e2.mk)) (.cons (aA rfl (h3 ▸ e3.mk)) .nil))) hk
  · exact hs.elim
def chk (size : Nat) (L : Smp) : List AV := [.si .i64 (size : Int), .ss (pack (aU L)), .si .i64 ((aU L).length : Int), .si .i64 (L.length : Int)]
noncomputable def KAl : FuncId → EP := bK 31 [] (a9 66 tT evP)
theorem yh : bG KAl := aL (aw bd Hm) (by kernel_rfl) (by kernel_rfl)
theorem zA (size : Nat) (L : Smp) (hs : 0 < size) (hL : L.length ≤ 100000) (h64 : ∀ x ∈ L, aM x.1 ∧ aM x.2) : az KAl 3 31 [.ptr 0 0] (mkH [(0, .ro (chk size L))]) 1 fun u H' _ => FrG L.length 2 (smp L) u H' := by
  conv => whnf
  refine ag.dB (fun h => absurd (show (0 : Int) < (size : Int) by omega) h) (fun _ => ?_)
  conv => whnf
  refine ⟨L, rfl, rfl, rfl, hL, h64, ⟨rfl, by decide⟩, ?_⟩
  conv => whnf
  exact Ft rfl rfl rfl rfl (aG L)
def mF (args : List AV) (H : AH) (n : Nat) (κ : PK) : Prop := match args with
  | [x] => ∃ (b size : Nat) (l : List AV) (L : Smp), x = .ptr b 0 ∧ H.get b = some (.cells l true) ∧ l.map mk = chk size L ∧ 0 < size ∧ L.length ≤ 100000 ∧ (∀ x ∈ L, aM x.1 ∧ aM x.2) ∧ κ (.fr L.length 2 (smp L)) H n
  | _ => False
theorem de (size : Nat) (L : Smp) : (chk size L).all flat.flat1 = true := rfl
theorem tU (size : Nat) (L : Smp) : (chk size L).map mk = chk size L := rfl
theorem wC : aF 31 mF := fun args H n κ hs φ h0' hp vs K hr hargs hk => by
  unfold mF at hs
  split at hs
  · obtain ⟨x, rfl, e1⟩ := vs1 hargs
    obtain ⟨b, size, l, L, rfl, hb, hl, hsz, hL, h64, hs⟩ := hs
    obtain ⟨p, hpb, rfl⟩ := e1.ct
    have hl4 : l.length = 4 := by have := congrArg List.length hl; simpa [chk] using this
    have hro := jx.of (s := chk size L) hr (.inr ⟨_, hb⟩) hpb (cD (n := 4) hl4) (by rw [hl, tU]) (de size L)
    exact zb yh (ba L) (aG L) (zA size L hsz hL h64) hs hr hk (by kernel_rfl) (φ0 := ⟨(ph1 ⟨p.B, p.s + 0, 4⟩).f, φ.z, φ.z, fun _ _ => False⟩)
      (fun hw => hr.za (HR.ro1 hw hro) (fun b o h => by
        have hm := bN h
        simp only [List.mem_cons, List.not_mem_nil, or_false] at hm
        injection hm with _ e; subst e; rfl) (fun _ h => h)) rfl (.cons (.ptr (p := ⟨p.B, p.s + 0, 4⟩) (o := 0) rfl) .nil)
  · exact hs.elim
end Go.Proofs.Ythjggjhebbdkdaa
namespace Go.Proofs.Ythjggjhebbdkdaa
open Go Go.RowKit
theorem PM.qH {α : Type} {v : α} {t : PM α} : (PM.set (some v) aa t 0).get 0 = some v := by cases t <;> rfl
theorem DK {u : AV} {H' : AH} {n' size : Nat} {e : Int} {M : Smp} {l : List AV} (hu : mk u = .si .i64 e) (hb : H'.get 0 = some (.cells l true)) (hl : l.map mk = chk size M) :
    ∃ v H2 n2, VTo u v ∧ cY H' n' H2 n2 ∧ (v = .si .i64 e ∧ PM.get H2 0 = some (.cells (chk size M) true)) :=
  ⟨.si .i64 e, H'.set (some (.cells (chk size M) true)) aa 0, n', fun φ w h => by rw [← hu]; exact h.mk, cY.yf hb rfl hl, rfl, PM.qH⟩
theorem ki (A B : Smp) : smp (A ++ B) = smp A ++ smp B := by simp [smp]
theorem wD (z : List AV) (a : Nat) : ∀ b, fv z (a + b) = fv z a ++ fv z b := by
  intro b
  induction a with
  | zero => simp [fv]
  | succ a ih => rw [Nat.succ_add]; simp [fv, ih]
theorem qI (z : List AV) : ∀ a, (fv z a).length = a * z.length
  | 0 => by simp [fv]
  | a + 1 => by simp [fv, qI z a, Nat.succ_mul]; omega
theorem iL : ∀ (P X Q Y : List AV), Y.length = X.length → ez (P ++ (X ++ Q)) P.length Y = some (P ++ (Y ++ Q))
  | [], [], Q, [], _ => by cases Q <;> rfl
  | [], [], Q, y :: Y, h => by simp at h
  | [], x :: X, Q, [], h => by simp at h
  | [], x :: X, Q, y :: Y, h => by
    have := iL [] X Q Y (by simpa using h)
    simp only [List.nil_append, List.length_nil] at this ⊢
    simp [ez, this]
  | p :: P, X, Q, Y, h => by
    have := iL P X Q Y h
    simp [ez, this]
theorem DL {L : Smp} {i : Nat} (h : i < L.length) {t m : Int} (ht : tAt L i = t) : ez (smp L) (0 + i * 2 + 1) [.si .i64 m] = some (smp (L.set i (t, m))) := by
  have e : L = L.take i ++ (L[i] :: L.drop (i + 1)) := by rw [← List.drop_eq_getElem_cons h, List.take_append_drop]
  have e2 : L.set i (t, m) = L.take i ++ ((t, m) :: L.drop (i + 1)) := by rw [List.set_eq_take_append_cons_drop, if_pos h]
  have hl : (L.take i).length = i := by rw [List.length_take]; omega
  have e3 : smp L = (smp (L.take i) ++ [.si .i64 L[i].1]) ++ ([.si .i64 L[i].2] ++ smp (L.drop (i + 1))) := by
    have := congrArg smp e
    rw [ki] at this
    rw [this, List.append_assoc]; rfl
  have e4 : smp (L.set i (t, m)) = (smp (L.take i) ++ [.si .i64 L[i].1]) ++ ([.si .i64 m] ++ smp (L.drop (i + 1))) := by
    rw [e2, ki, ← cX h, ht]; simp [smp]
  have := iL (smp (L.take i) ++ [.si .i64 L[i].1]) [.si .i64 L[i].2] (smp (L.drop (i + 1))) [.si .i64 m] rfl
  rw [List.length_append, aG, hl, ← e3, ← e4] at this
  rw [Nat.zero_add]; exact this
def z2 : List AV := [.int .i64 0, .int .i64 0]
theorem Bk {l : Nat} {x : Int} {H : AH} {n : Nat} (hx : x = (l : Int)) (hl : l ≤ 1000000) : pZ Try.prog 35 (.int .i64 x) (.int .i64 x) H n = some (.sl n 0 l l 0, H.set (some (.cells (fv z2 l) true)) aa n, n + 1) := by
  subst hx
  have e : pZ Try.prog 35 (.int .i64 (l : Int)) (.int .i64 (l : Int)) H n = if l ≤ l ∧ 16 * l ≤ 281474976710656 ∧ l ≤ 9223372036854775807 ∧ (2 : Nat) = 2 then some (.sl n 0 l l 0, H.set (some (.cells (fv z2 l) true)) aa n, n + 1) else none := rfl
  rw [e, if_pos ⟨Nat.le_refl _, by omega, by omega, rfl⟩]
theorem Bl {b l n c : Nat} {x : Int} (hx : x = (l : Int)) (hl : l ≤ n) (hc : n ≤ c) : fV Try.prog 35 (.sl b 0 n c 0) (some (.int .i64 x)) none none = some (.sl b (if c = l then 0 else 0 + l * 2) (n - l) (c - l) 0) := by
  subst hx
  have e : fV Try.prog 35 (.sl b 0 n c 0) (some (.int .i64 (l : Int))) none none = if l ≤ n ∧ n ≤ c ∧ c ≤ c then some (.sl b (if c = l then 0 else 0 + l * 2) (n - l) (c - l) 0) else none := rfl
  rw [e, if_pos ⟨hl, hc, Nat.le_refl _⟩]
noncomputable def KU : FuncId → EP := bK 29 [] (bK 31 [] (a9 62 zx (a9 64 DJ (a9 66 tT (a9 79 mE evP)))))
theorem JQ : bG KU := aL (aL (aw (aw (aw (aw bd wz) Hm) FG) zy) (by kernel_rfl) (by kernel_rfl)) (by kernel_rfl) (by kernel_rfl)
def ChQ (e : Int) (size : Nat) (M : Smp) : PK := fun u H' _ => u = .si .i64 e ∧ PM.get H' 0 = some (.cells (chk size M) true)
theorem wE {b : Bool} (h : b = false) : ¬ b = true := by simp [h]
theorem FH (size : Nat) (L : Smp) (t v p : Int) (hs : 0 < size) (hs2 : size ≤ 4096) (hF : bX L) (hv : aM v) : post (az KU 5 29) [.ptr 0 0, .agg [.si .i64 t, .si .i64 v], .si .i64 p] (mkH [(0, .cells (chk size L) true)]) 1 (ChQ (di size L t v p).2 size (di size L t v p).1) := by
  have hL := hF.2.2
  have h64 := hF.gO
  have hsz : (0 : Int) < (size : Int) := by omega
  have leaf : ∀ {u : AV} {H' : AH} {n' : Nat} {e : Int} {M : Smp} {l : List AV}, di size L t v p = (M, e) → mk u = .si .i64 e → PM.get H' 0 = some (.cells l true) → l.map mk = chk size M → ∃ v2 H2 n2, VTo u v2 ∧ cY H' n' H2 n2 ∧ ChQ (di size L t v p).2 size (di size L t v p).1 v2 H2 n2 := fun hp hu hb hl => by
    rw [hp]; exact DK hu hb hl
  show az KU 5 29 _ _ _ _
  conv => whnf
  refine ag.dB (fun h => absurd hsz h) (fun _ => ?_)
  conv => whnf
  refine ag.dec (fun h => ?_) (fun h => ?_)
  · have e : di size L t v p = (L, 1) := by unfold di; rw [if_pos (.inl h)]
    conv => whnf
    exact leaf e rfl rfl rfl
  conv => whnf
  refine ag.dec (fun h2 => ?_) (fun h2 => ?_)
  · have e : di size L t v p = (L, 1) := by unfold di; rw [if_pos (.inr h2)]
    conv => whnf
    exact leaf e rfl rfl rfl
  have hrange : ¬ (t < 0 ∨ 1099511627776 ≤ t) := fun q => q.elim h h2
  conv => whnf
  refine ag.dB (fun h => absurd hsz h) (fun _ => ?_)
  conv => whnf
  refine ⟨L, rfl, rfl, rfl, Nat.le_trans hL (by decide), h64, ⟨rfl, by decide⟩, ?_⟩
  conv => whnf
  refine ⟨L, t, .inl (.inr (.inl (.inl ⟨_, 0, 0, _, _, ⟨rfl, by decide⟩, .inr ⟨_, rfl⟩, dd L, aV L⟩))), rfl, Nat.le_trans hL (by decide), ?_⟩
  conv => whnf
  refine ag.nsb (fun hh => ?_) (fun hh => ?_)
  · have ha := mC L t
    have hLn := hF.2.2
    have hpe : di size L t v p = mB size L (gx L t v) := by unfold di; rw [if_neg hrange, if_neg (wE hh)]
    have hx : IntKind.i64.wrap ((L.length : Int) + 1) = ((L.length + 1 : Nat) : Int) := cr ⟨by omega, by omega⟩
    have hx2 : IntKind.i64.wrap ((plc L t : Int) + 1) = ((plc L t + 1 : Nat) : Int) := cr ⟨by omega, by omega⟩
    have htl : (L.take (plc L t)).length = plc L t := by rw [List.length_take]; omega
    have hdl : (L.drop (plc L t)).length = L.length - plc L t := by rw [List.length_drop]
    have hsub1 : bu (smp L) 0 (plc L t * 2) = some (smp (L.take (plc L t))) := by have := C5 (L := L) ha; rw [htl] at this; exact this
    have hsub2 : bu (smp L) (0 + plc L t * 2) ((L.length - plc L t) * 2) = some (smp (L.drop (plc L t))) := by
      unfold bu
      rw [Nat.ble_eq_true_of_le (by rw [aG]; omega), Nat.zero_add, nd, List.take_of_length_le (by rw [aG, hdl]; omega)]
    have hone : ∀ (M : Smp) (k : Nat), ((smp M).take k).all mf = true := fun M k => by
      rw [List.all_eq_true]
      intro y hy
      have := List.all_eq_true.1 (ba M) y (List.mem_of_mem_take hy)
      cases y <;> first | rfl | cases this
    have hr0 : fv z2 (L.length + 1) = fv z2 (plc L t) ++ (fv z2 1 ++ fv z2 (L.length - plc L t)) := by rw [← wD, ← wD]; congr 1; omega
    have hset1 : ez (fv z2 (L.length + 1)) 0 ((smp (L.take (plc L t))).take (min (plc L t) (L.length + 1) * 2)) = some (smp (L.take (plc L t)) ++ (fv z2 1 ++ fv z2 (L.length - plc L t))) := by
      rw [hr0, Nat.min_eq_left (by omega), List.take_of_length_le (by rw [aG, htl]; omega)]
      exact iL [] _ _ _ (by rw [aG, htl, qI]; rfl)
    have hset2 : ez (smp (L.take (plc L t)) ++ (fv z2 1 ++ fv z2 (L.length - plc L t))) (0 + plc L t * 2) [.si .i64 t, .si .i64 v] = some (smp (L.take (plc L t)) ++ ([.si .i64 t, .si .i64 v] ++ fv z2 (L.length - plc L t))) := by
      have := iL (smp (L.take (plc L t))) (fv z2 1) (fv z2 (L.length - plc L t)) [.si .i64 t, .si .i64 v] rfl
      rw [aG, htl] at this
      rw [Nat.zero_add]; exact this
    have hset3 : ez (smp (L.take (plc L t)) ++ ([.si .i64 t, .si .i64 v] ++ fv z2 (L.length - plc L t))) (if L.length + 1 = plc L t + 1 then 0 else 0 + (plc L t + 1) * 2) ((smp (L.drop (plc L t))).take (min (L.length - plc L t) (L.length + 1 - (plc L t + 1)) * 2)) = some (smp (gx L t v)) := by
      have ei : smp (gx L t v) = smp (L.take (plc L t)) ++ ([.si .i64 t, .si .i64 v] ++ smp (L.drop (plc L t))) := by unfold gx; rw [ki]; rfl
      have htk : (smp (L.drop (plc L t))).take ((L.length - plc L t) * 2) = smp (L.drop (plc L t)) := List.take_of_length_le (by rw [aG, hdl]; omega)
      rw [show min (L.length - plc L t) (L.length + 1 - (plc L t + 1)) = L.length - plc L t from by omega, htk, ei]
      by_cases q : L.length = plc L t
      · have hd0 : L.drop (plc L t) = [] := List.eq_nil_of_length_eq_zero (by omega)
        rw [if_pos (by omega), hd0, show L.length - plc L t = 0 from by omega]
        exact iL [] [] _ [] rfl
      · rw [if_neg (by omega)]
        have := iL (smp (L.take (plc L t)) ++ [.si .i64 t, .si .i64 v]) (fv z2 (L.length - plc L t)) [] (smp (L.drop (plc L t))) (by rw [aG, hdl, qI]; rfl)
        rw [List.length_append, aG, htl] at this
        rw [show 0 + (plc L t + 1) * 2 = plc L t * 2 + [AV.si .i64 t, .si .i64 v].length from by simp; omega]
        simpa using this
    have hhd : hd (AV.sy 3 0 (L.length + 1) (L.length + 1) 0) = .sl 3 0 (gx L t v).length (L.length + 1) 0 := by rw [iK]; rfl
    have hins : ∀ x ∈ gx L t v, aM x.1 ∧ aM x.2 := fun x hx => by
      rcases lj.1 hx with rfl | hx
      · exact ⟨⟨by omega, by omega⟩, hv⟩
      · exact h64 x hx
    have hw8 : IntKind.i64.wrap (8 * (size : Int)) = ((8 * size : Nat) : Int) := cr ⟨by omega, by omega⟩
    have hlq : [AV.si .i64 (size : Int), .ss (pack (aU (gx L t v))), .si .i64 ((aU (gx L t v)).length : Int), .si .i64 ((L.length + 1 : Nat) : Int)].map mk = chk size (gx L t v) := by unfold chk; rw [iK]; rfl
    have hil : (gx L t v).length ≤ 100000 := by rw [iK]; omega
    have hil2 : (gx L t v).length ≤ L.length + 1 := by rw [iK]; exact Nat.le_refl _
    have ha1 : plc L t < L.length + 1 := by omega
    have ha2 : plc L t + 1 ≤ L.length + 1 := by omega
    have hmax : L.length + 1 ≤ 1000000 := by omega
    conv => whnf
    refine Ask.mk _ (Bk hx hmax) ?_
    conv => whnf
    refine RSl.mk 0 (plc L t) rfl rfl (.inl rfl) (Nat.zero_le _) ha ?_
    conv => whnf
    refine yU.mk 2 (plc L t) (L.length + 1) 3 0 (L.length + 1) 0 2 0 2 0 _ (smp L) (smp (L.take (plc L t))) _ true rfl rfl (by decide) ⟨_, rfl, rfl⟩ (.inr ⟨_, rfl⟩) hsub1 rfl (hone _ _) hset1 ?_
    conv => whnf
    refine Idx.mk (plc L t) rfl ha1 ?_
    conv => whnf
    refine ao hset2 ?_
    conv => whnf
    refine Ask.mk _ (Bl hx2 ha2 (Nat.le_refl _)) ?_
    conv => whnf
    refine RSl.mk (plc L t) L.length rfl rfl (.inl rfl) ha (Nat.le_refl _) ?_
    conv => whnf
    refine yU.mk 2 (L.length - plc L t) (L.length + 1 - (plc L t + 1)) 3 (if L.length + 1 = plc L t + 1 then 0 else 0 + (plc L t + 1) * 2) (L.length + 1 - (plc L t + 1)) 0 2 (0 + plc L t * 2) 2 0 _ (smp L) (smp (L.drop (plc L t))) _ true rfl rfl (by decide) ⟨_, rfl, rfl⟩ (.inr ⟨_, rfl⟩) hsub2 rfl (hone _ _) hset3 ?_
    conv => whnf
    refine ⟨gx L t v, .inr (.inr ⟨3, 0, L.length + 1, 0, _, _, hhd, .inr ⟨_, rfl⟩, dd _, aV _, hil2⟩), hil, hins, ?_⟩
    conv => whnf
    refine ag.dec (fun h3 => ?_) (fun h3 => ?_)
    · have e : di size L t v p = (L, 2) := by rw [hpe]; unfold mB; rw [if_neg (by rw [hw8] at h3; omega)]
      conv => whnf
      exact leaf e rfl rfl rfl
    · have e : di size L t v p = (gx L t v, 0) := by rw [hpe]; unfold mB; rw [if_pos (by rw [hw8] at h3; omega)]
      conv => whnf
      exact leaf e rfl rfl hlq
  · have hpl : plc L t < L.length ∧ tAt L (plc L t) = t := by unfold has at hh; exact of_decide_eq_true hh
    have hvp : L[plc L t].2 = vAt L (plc L t) := (lg hpl.1).symm
    have hpe : di size L t v p = if (a8 p (vAt L (plc L t)) v).2 ≠ 0 then (L, (a8 p (vAt L (plc L t)) v).2) else mB size L (iJ L t (a8 p (vAt L (plc L t)) v).1) := by unfold di; rw [if_neg hrange, if_pos hh]
    have ho1 : 0 + plc L t * 2 + 1 = plc L t * 2 + 1 := by omega
    have hm0 : aM (a8 p L[plc L t].2 v).1 := sH (h64 _ (List.getElem_mem hpl.1)).2 hv
    have hset := DL hpl.1 (m := (a8 p L[plc L t].2 v).1) hpl.2
    have hins : ∀ x ∈ iJ L t (a8 p L[plc L t].2 v).1, aM x.1 ∧ aM x.2 := fun x hx => by
      rcases (nr hF.1 hh).1 hx with rfl | ⟨hx, _⟩
      · exact ⟨⟨by omega, by omega⟩, hm0⟩
      · exact h64 x hx
    have hsl := nq L t (a8 p L[plc L t].2 v).1
    have hil : (iJ L t (a8 p L[plc L t].2 v).1).length ≤ 100000 := by omega
    have hw8 : IntKind.i64.wrap (8 * (size : Int)) = ((8 * size : Nat) : Int) := cr ⟨by omega, by omega⟩
    have hrw : AV.rw 2 0 L.length 2 0 = .rw 2 0 (iJ L t (a8 p L[plc L t].2 v).1).length 2 0 := by rw [hsl]
    have hlq : [AV.si .i64 (size : Int), .ss (pack (aU (iJ L t (a8 p L[plc L t].2 v).1))), .si .i64 ((aU (iJ L t (a8 p L[plc L t].2 v).1)).length : Int), .si .i64 ((L.length : Nat) : Int)].map mk = chk size (iJ L t (a8 p L[plc L t].2 v).1) := by unfold chk; rw [hsl]; rfl
    conv => whnf
    refine Idx.mk (plc L t) rfl hpl.1 ?_
    conv => whnf
    refine ao (qp hpl.1 ho1) ?_
    conv => whnf
    refine ⟨p, L[plc L t].2, v, rfl, rfl, rfl, ?_⟩
    conv => whnf
    refine ag.dB (fun h3 => ?_) (fun h3 => ?_)
    · have e : di size L t v p = (L, (a8 p L[plc L t].2 v).2) := by rw [hpe, ← hvp, if_pos h3]
      conv => whnf
      exact leaf e rfl rfl rfl
    · have hpe2 : di size L t v p = mB size L (iJ L t (a8 p L[plc L t].2 v).1) := by rw [hpe, ← hvp, if_neg (fun q => q h3)]
      conv => whnf
      refine Idx.mk (plc L t) rfl hpl.1 ?_
      conv => whnf
      refine ao hset ?_
      conv => whnf
      refine ⟨iJ L t (a8 p L[plc L t].2 v).1, .inr (.inl (.inl ⟨_, 0, 0, _, _, ⟨hrw, by decide⟩, .inr ⟨_, rfl⟩, dd _, aV _⟩)), hil, hins, ?_⟩
      conv => whnf
      refine ag.dec (fun h4 => ?_) (fun h4 => ?_)
      · have e : di size L t v p = (L, 2) := by rw [hpe2]; unfold mB; rw [if_neg (by rw [hw8] at h4; omega)]
        conv => whnf
        exact leaf e rfl rfl rfl
      · have e : di size L t v p = (iJ L t (a8 p L[plc L t].2 v).1, 0) := by rw [hpe2]; unfold mB; rw [if_pos (by rw [hw8] at h4; omega)]
        conv => whnf
        exact leaf e rfl rfl hlq
def DM (args : List AV) (H : AH) (n : Nat) (κ : PK) : Prop := match args with
  | [x, y, z] => ∃ (b size : Nat) (L : Smp) (t v p : Int), x = .ptr b 0 ∧ la y t v ∧ mk z = .si .i64 p ∧ b < n ∧ H.get b = some (.cells (chk size L) true) ∧ 0 < size ∧ size ≤ 4096 ∧ bX L ∧ aM v ∧
      κ (.si .i64 (di size L t v p).2) (H.set (some (.cells (chk size (di size L t v p).1) true)) aa b) n
  | _ => False
theorem JR : aF 29 DM := fun args H n κ hs φ h0' hp vs K hr hargs hk => by
  unfold DM at hs
  split at hs
  · obtain ⟨x, y, z, rfl, e1, e2, e3⟩ := vs3 hargs
    obtain ⟨b, size, L, t, v, p, rfl, hy, hz, hbn, hb, hsz, hs2, hF, hv, hs⟩ := hs
    refine cw (S := [b]) (O := [.cells (chk size L) true]) (args0 := [.ptr 0 0, .agg [.si .i64 t, .si .i64 v], .si .i64 p]) (aF.post (aB JQ 5 _)) (by kernel_rfl) hr
      (jo hbn hb (.inr rfl)) (.cons e1 (.cons (hy.open e2 _) (.cons (aA rfl (hz ▸ e3.mk)) .nil))) hk (FH size L t v p hsz hs2 hF hv) fun u H' n' ⟨h1, h2⟩ => ?_
    subst h1
    refine ⟨1, iP [b] n H [(0, some (.cells (chk size (di size L t v p).1) true))], Nat.le_refl _, cG.put (Nat.le_refl _) rfl (fun x hx o ho => ?_), rfl, hs⟩
    simp only [List.mem_cons, List.not_mem_nil, or_false] at hx
    subst hx
    injection ho with ho; subst ho; exact ⟨h2, rfl, rfl⟩
  · exact hs.elim
end Go.Proofs.Ythjggjhebbdkdaa
namespace Go.Proofs.Ythjggjhebbdkdaa
open Go Go.RowKit
theorem yi (L : Smp) (a b : Int) {i : Nat} (h : i < L.length) : aS (L.take (i + 1)) a b = aS (L.take i) a b ++ (if (decide (L[i].1 < a) || decide (b < L[i].1)) = true then [L[i]] else []) := by
  unfold aS
  rw [List.take_succ_eq_append_getElem h, List.filter_append]
  congr 1
  simp only [List.filter_cons, List.filter_nil]
theorem Bm (L : Smp) (a b : Int) : (aS L a b).length ≤ L.length := List.length_filter_le _ _
noncomputable def dr (size : Nat) (L : Smp) (a : Int) (b : Int) (i : Nat) : AE × AH := (mkE [(0, .ptr 0 (0)), (1, .si .i64 (a)), (2, .si .i64 (b)), (7, .rw 1 0 (aS (L.take i) a b).length 2 0), (15, .fr L.length 2 (smp L)), (16, .si .i64 (((L.length : Nat) : Int))), (17, .si .i64 (((i : Nat) : Int)))], mkH [(0, .cells (chk size L) true), (1, .cells (smp ((aS (L.take i) a b))) true)])
theorem tV {size : Nat} {L : Smp} {a : Int} {b : Int} {i : Nat} {p n : Nat} {σ : AE} {H : AH} (j1 : Nat) (hj : j1 ≠ 0) (hp : p ≤ 1) (e0 : ay (pa 0) σ = .ptr 0 (0)) (e1 : mk (ay (pa 1) σ) = .si .i64 (a)) (e2 : mk (ay (pa 2) σ) = .si .i64 (b)) (e7 : ae H 2 (fun b => if b = 1 then j1 else b) (ay (pa 7) σ) (.rw 1 0 (aS (L.take i) a b).length 2 0)) (e15 : ay (pa 15) σ = .fr L.length 2 (smp L)) (e16 : mk (ay (pa 16) σ) = .si .i64 (((L.length : Nat) : Int))) (e17 : mk (ay (pa 17) σ) = .si .i64 (((i : Nat) : Int))) (h0 : ∃ l, H.get 0 = some (.cells l true) ∧ lf H 2 (fun b => if b = 1 then j1 else b) l (chk size L)) (h1 : (∃ l, H.get j1 = some (.cells l true) ∧ l.map mk = smp ((aS (L.take i) a b))) ∨ (((aS (L.take i) a b)) = [] ∧ n ≤ j1)) : Cov p σ H n ((dr size L a b i).1, (dr size L a b i).2, 2) := by
  refine Cov.ofR (fun b => if b = 1 then j1 else b) (by omega) (fun b hb => by repeat' rw [if_neg (by omega)]) ?_ ?_ ?_
  · intro x hx
    simp only [List.mem_cons, List.not_mem_nil, or_false] at hx
    rcases hx with rfl | rfl | rfl | rfl | rfl | rfl | rfl
    · exact .ptr (by decide) e0
    · exact .int e1
    · exact .int e2
    · exact e7
    · exact ae.frE e15
    · exact .int e16
    · exact .int e17
  · intro x hx
    simp only [List.mem_cons, List.not_mem_nil, or_false] at hx
    rcases hx with rfl | rfl
    · exact ⟨by simp, .inl (h0.elim fun l h => ⟨_, h.1, aO.st h.2⟩)⟩
    · exact ⟨by simp, h1.elim (fun ⟨l, h, g⟩ => .inl ⟨_, h, aO.bz (ba _) (by rw [g, aV]) (fun q => q)⟩) (fun h => .inr ⟨by rw [h.1]; rfl, h.2⟩)⟩
  · intro x hx y hy
    simp only [List.mem_cons, List.not_mem_nil, or_false] at hx hy
    rcases hx with rfl | rfl <;> rcases hy with rfl | rfl <;> simp <;> omega
noncomputable def KDr : FuncId → EP := a9 31 mF (a9 79 mE evP)
theorem Ij : bG KDr := aw (aw bd wz) wC
theorem DN (size : Nat) (L : Smp) (a b : Int) (hs : 0 < size) (hF : bX L) : post (az KDr 5 30) [.ptr 0 0, .si .i64 a, .si .i64 b] (mkH [(0, .cells (chk size L) true)]) 1 (ChQ ((L.length : Int) - ((aS L a b).length : Int)) size (aS L a b)) := by
  have hL := hF.2.2
  have h64 := hF.gO
  have hL1 : L.length ≤ 100000 := by omega
  have hsz : (0 : Int) < (size : Int) := by omega
  have hst : ∀ {H : AH} {m : Nat} {r : Nat → Nat}, lf H m r (chk size L) (chk size L) := .cons (.int rfl) (.cons (.str rfl) (.cons (.int rfl) (.cons (.int rfl) .nil)))
  show az KDr 5 30 _ _ _ _
  conv => whnf
  refine ag.dB (fun h => absurd hsz h) (fun _ => ?_)
  conv => whnf
  refine ⟨0, size, _, L, rfl, rfl, rfl, hs, hL1, h64, ?_⟩
  conv => whnf
  refine bg.mk { i : Nat // i ≤ L.length } 2 (fun i => dr size L a b i.val) (fun i => L.length - i.val) ⟨0, Nat.zero_le _⟩ ?_ ?_
  · exact tV (j1 := 1) (by decide) (Nat.le_refl 1) rfl rfl rfl (.ky rfl) rfl rfl rfl ⟨_, rfl, hst⟩ (.inr ⟨rfl, Nat.le_refl _⟩)
  · intro ⟨i, hi⟩
    have hml : (aS (L.take i) a b).length ≤ 20000 := Nat.le_trans (Bm _ _ _) (by rw [List.length_take]; omega)
    have hrow : bu (smp (aS (L.take i) a b)) 0 ((aS (L.take i) a b).length * 2) = some (smp (aS (L.take i) a b)) := dd _
    conv => whnf
    refine ag.dec (fun h => ?_) (fun h => ?_)
    · have hi2 : i < L.length := by exact Int.ofNat_lt.1 h
      have hi1 : IntKind.i64.wrap ((i : Int) + 1) = (((i + 1 : Nat)) : Int) := cr ⟨by omega, by omega⟩
      have hbig : ((aS (L.take i) a b).length + 1) * 16 ≤ 140737488355328 := by omega
      have hlt : L.length - (i + 1) < L.length - i := by omega
      have hsn := yi L a b hi2
      have hy : (decide (L[i].1 < a) || decide (b < L[i].1)) = true → aS (L.take (i + 1)) a b = aS (L.take i) a b ++ [L[i]] := fun q => by rw [hsn, if_pos q]
      have hn : ¬ (decide (L[i].1 < a) || decide (b < L[i].1)) = true → aS (L.take (i + 1)) a b = aS (L.take i) a b := fun q => by rw [hsn, if_neg q, List.append_nil]
      have hyl : (decide (L[i].1 < a) || decide (b < L[i].1)) = true → (aS (L.take i) a b).length + 1 = (aS (L.take (i + 1)) a b).length := fun q => by rw [hy q]; simp
      have hys : (decide (L[i].1 < a) || decide (b < L[i].1)) = true → (smp (aS (L.take i) a b) ++ [AV.si .i64 L[i].1, AV.si .i64 L[i].2]).map mk = smp (aS (L.take (i + 1)) a b) := fun q => by rw [hy q, ← wB, aV]
      have hns : ¬ (decide (L[i].1 < a) || decide (b < L[i].1)) = true → (smp (aS (L.take i) a b)).map mk = smp (aS (L.take (i + 1)) a b) := fun q => by rw [hn q, aV]
      have hnl : ¬ (decide (L[i].1 < a) || decide (b < L[i].1)) = true → (aS (L.take i) a b).length = (aS (L.take (i + 1)) a b).length := fun q => by rw [hn q]
      conv => whnf
      refine Idx.mk i rfl hi2 ?_
      conv => whnf
      refine ao (bT hi2 rfl) ?_
      conv => whnf
      refine ag.dec (fun h1 => ?_) (fun h1 => ?_)
      · have q : (decide (L[i].1 < a) || decide (b < L[i].1)) = true := by simp [h1]
        conv => whnf
        refine fk.grow 2 16 _ _ _ _ _ _ tyS (.old rfl) rfl rfl (.rw rfl hrow) hbig ?_
        conv => whnf
        exact ⟨⟨i + 1, hi2⟩, hlt, tV (j1 := 4) (by decide) (Nat.le_refl 1) rfl rfl rfl (ae.rw (by decide) rfl (hn := hyl q)) rfl rfl (congrArg (AV.si .i64) hi1) ⟨_, rfl, hst⟩ (.inl ⟨_, rfl, hys q⟩)⟩
      · conv => whnf
        refine ag.dec (fun h2 => ?_) (fun h2 => ?_)
        · have q : (decide (L[i].1 < a) || decide (b < L[i].1)) = true := by simp [h2]
          conv => whnf
          refine fk.grow 2 16 _ _ _ _ _ _ tyS (.old rfl) rfl rfl (.rw rfl hrow) hbig ?_
          conv => whnf
          exact ⟨⟨i + 1, hi2⟩, hlt, tV (j1 := 4) (by decide) (Nat.le_refl 1) rfl rfl rfl (ae.rw (by decide) rfl (hn := hyl q)) rfl rfl (congrArg (AV.si .i64) hi1) ⟨_, rfl, hst⟩ (.inl ⟨_, rfl, hys q⟩)⟩
        · have q : ¬ (decide (L[i].1 < a) || decide (b < L[i].1)) = true := by simp [h1, h2]
          conv => whnf
          exact ⟨⟨i + 1, hi2⟩, hlt, tV (j1 := 1) (by decide) (Nat.le_refl 1) rfl rfl rfl (ae.rw (by decide) rfl (hn := hnl q)) rfl rfl (congrArg (AV.si .i64) hi1) ⟨_, rfl, hst⟩ (.inl ⟨_, rfl, hns q⟩)⟩
    · have hi3 : i = L.length := by have : ¬ i < L.length := fun q => h (Int.ofNat_lt.2 q); omega
      have htk : L.take i = L := by rw [hi3, List.take_length]
      have hFd := qC (hF.sub (List.take_sublist i L)) a b
      have hil : (aS (L.take i) a b).length ≤ 100000 := by omega
      have hw : IntKind.i64.wrap ((L.length : Int) - ((aS (L.take i) a b).length : Int)) = (L.length : Int) - ((aS L a b).length : Int) := by
        rw [htk] at hml ⊢
        exact cr ⟨by omega, by omega⟩
      have hq : (chk size (aS (L.take i) a b)).map mk = chk size (aS L a b) := by rw [htk]; rfl
      conv => whnf
      refine ⟨aS (L.take i) a b, .inr (.inl (.inl ⟨_, 0, 0, _, _, ⟨rfl, by decide⟩, .inr ⟨_, rfl⟩, hrow, aV _⟩)), hil, hFd.gO, ?_⟩
      conv => whnf
      exact DK (congrArg (AV.si .i64) hw) rfl hq
def zB (args : List AV) (H : AH) (n : Nat) (κ : PK) : Prop := match args with
  | [x, y, z] => ∃ (c size : Nat) (L : Smp) (a b : Int), x = .ptr c 0 ∧ mk y = .si .i64 a ∧ mk z = .si .i64 b ∧ c < n ∧ H.get c = some (.cells (chk size L) true) ∧ 0 < size ∧ bX L ∧
      κ (.si .i64 ((L.length : Int) - ((aS L a b).length : Int))) (H.set (some (.cells (chk size (aS L a b)) true)) aa c) n
  | _ => False
theorem Ik : aF 30 zB := fun args H n κ hs φ h0' hp vs K hr hargs hk => by
  unfold zB at hs
  split at hs
  · obtain ⟨x, y, z, rfl, e1, e2, e3⟩ := vs3 hargs
    obtain ⟨c, size, L, a, b, rfl, hy, hz, hbn, hb, hsz, hF, hs⟩ := hs
    refine cw (S := [c]) (O := [.cells (chk size L) true]) (args0 := [.ptr 0 0, .si .i64 a, .si .i64 b]) (aF.post (aB Ij 5 _)) (by kernel_rfl) hr
      (jo hbn hb (.inr rfl)) (.cons e1 (.cons (aA rfl (hy ▸ e2.mk)) (.cons (aA rfl (hz ▸ e3.mk)) .nil))) hk (DN size L a b hsz hF) fun u H' n' ⟨h1, h2⟩ => ?_
    subst h1
    refine ⟨1, iP [c] n H [(0, some (.cells (chk size (aS L a b)) true))], Nat.le_refl _, cG.put (Nat.le_refl _) rfl (fun x hx o ho => ?_), rfl, hs⟩
    simp only [List.mem_cons, List.not_mem_nil, or_false] at hx
    subst hx
    injection ho with ho; subst ho; exact ⟨h2, rfl, rfl⟩
  · exact hs.elim
noncomputable def KGt : FuncId → EP := a9 31 mF (a9 62 zx evP)
theorem Il : bG KGt := aw (aw bd zy) wC
theorem DO {u v : AV} {H' : AH} {n' size : Nat} {L : Smp} (hu : mkT u = v) (hb : PM.get H' 0 = some (.cells (chk size L) true)) : ∃ v2 H2 n2, VTo u v2 ∧ cY H' n' H2 n2 ∧ (v2 = v ∧ PM.get H2 0 = some (.cells (chk size L) true)) := ⟨v, H', n', fun φ w h => hu ▸ h.mkT, .refl _ _, rfl, hb⟩
def GtQ (size : Nat) (L : Smp) (t : Int) : PK := fun u H' _ => u = .tup [.si .i64 (ij L t).1, .si .i64 (ij L t).2] ∧ PM.get H' 0 = some (.cells (chk size L) true)
theorem FI (size : Nat) (L : Smp) (t : Int) (hs : 0 < size) (hF : bX L) : post (az KGt 5 32) [.ptr 0 0, .si .i64 t] (mkH [(0, .cells (chk size L) true)]) 1 (GtQ size L t) := by
  have hL := hF.2.2
  have h64 := hF.gO
  have hL1 : L.length ≤ 100000 := by omega
  have hL2 : L.length ≤ 100000000 := by omega
  have hsz : (0 : Int) < (size : Int) := by omega
  show az KGt 5 32 _ _ _ _
  conv => whnf
  refine ag.dB (fun h => absurd hsz h) (fun _ => ?_)
  conv => whnf
  refine ⟨0, size, _, L, rfl, rfl, rfl, hs, hL1, h64, ?_⟩
  conv => whnf
  refine ⟨L, t, .inr rfl, rfl, hL2, ?_⟩
  conv => whnf
  refine ag.nsb (fun hh => ?_) (fun hh => ?_)
  · have e : AV.tup [.si .i64 0, .si .i64 5] = .tup [.si .i64 (ij L t).1, .si .i64 (ij L t).2] := by unfold ij; rw [if_neg (by simp [hh])]
    conv => whnf
    exact DO e rfl
  · have hpl : plc L t < L.length ∧ tAt L (plc L t) = t := by unfold has at hh; exact of_decide_eq_true hh
    have e : AV.tup [.si .i64 L[plc L t].2, .si .i64 0] = .tup [.si .i64 (ij L t).1, .si .i64 (ij L t).2] := by unfold ij; rw [if_pos hh, lg hpl.1]
    conv => whnf
    refine Idx.mk (plc L t) rfl hpl.1 ?_
    conv => whnf
    refine ao (qp hpl.1 rfl) ?_
    conv => whnf
    exact DO e rfl
def DP (args : List AV) (H : AH) (n : Nat) (κ : PK) : Prop := match args with
  | [x, y] => ∃ (c size : Nat) (L : Smp) (t : Int), x = .ptr c 0 ∧ mk y = .si .i64 t ∧ c < n ∧ H.get c = some (.cells (chk size L) true) ∧ 0 < size ∧ bX L ∧ κ (.tup [.si .i64 (ij L t).1, .si .i64 (ij L t).2]) H n
  | _ => False
theorem JS : aF 32 DP := fun args H n κ hs φ h0' hp vs K hr hargs hk => by
  unfold DP at hs
  split at hs
  · obtain ⟨x, y, rfl, e1, e2⟩ := vs2 hargs
    obtain ⟨c, size, L, t, rfl, hy, hbn, hb, hsz, hF, hs⟩ := hs
    refine cw (S := [c]) (O := [.cells (chk size L) true]) (args0 := [.ptr 0 0, .si .i64 t]) (aF.post (aB Il 5 _)) (by kernel_rfl) hr
      (jo hbn hb (.inr rfl)) (.cons e1 (.cons (aA rfl (hy ▸ e2.mk)) .nil)) hk (FI size L t hsz hF) fun u H' n' ⟨h1, h2⟩ => ?_
    subst h1
    refine ⟨1, H, Nat.le_refl _, cG.same fun i s o h3 h4 _ => ?_, rfl, hs⟩
    cases i with
    | zero =>
      injection h3 with h3; subst h3
      rw [hb] at h4; injection h4 with h4; subst h4
      exact ⟨_, h2, rfl, rfl, rfl⟩
    | succ i => simp at h3
  · exact hs.elim
end Go.Proofs.Ythjggjhebbdkdaa
namespace Go.Proofs.Ythjggjhebbdkdaa
open Go Go.RowKit
abbrev Op4 := Int × Int × Int × Int
def jq (S : List Op4) : List AV := S.flatMap fun o => [.si .i64 o.1, .si .i64 o.2.1, .si .i64 o.2.2.1, .si .i64 o.2.2.2]
theorem oM (S : List Op4) : (jq S).length = S.length * 4 := by
  induction S with
  | nil => rfl
  | cons x S ih => simp only [jq, List.flatMap_cons, List.length_append, List.length_cons, List.length_nil] at ih ⊢; omega
theorem Bn (S : List Op4) : (jq S).all flat.flat1 = true := by
  induction S with
  | nil => rfl
  | cons x S ih => exact ih
theorem sJ : ∀ (S : List Op4) (i : Nat), (jq S).drop (i * 4) = jq (S.drop i)
  | S, 0 => by simp
  | [], i + 1 => by simp [jq]
  | x :: S, i + 1 => by
    rw [show (i + 1) * 4 = i * 4 + 4 from by omega]
    exact sJ S i
theorem FJ {S : List Op4} {i : Nat} (h : i < S.length) : (jq S).drop (i * 4) = .si .i64 S[i].1 :: .si .i64 S[i].2.1 :: .si .i64 S[i].2.2.1 :: .si .i64 S[i].2.2.2 :: jq (S.drop (i + 1)) := by
  rw [sJ, List.drop_eq_getElem_cons h]; rfl
theorem eE {S : List Op4} {i o : Nat} (h : i < S.length) (ho : o = i * 4) : bu (jq S) o 4 = some [.si .i64 S[i].1, .si .i64 S[i].2.1, .si .i64 S[i].2.2.1, .si .i64 S[i].2.2.2] := by
  subst ho
  unfold bu
  rw [Nat.ble_eq_true_of_le (by rw [oM]; omega), FJ h]; rfl
def DQ (S : List Op4) : Prop := ∀ o ∈ S, aM o.1 ∧ aM o.2.1 ∧ aM o.2.2.1 ∧ aM o.2.2.2
noncomputable def rs (S : List Op4) (t : Int) (L : Smp) (v : Int) (is : Bool) (i : Nat) : AE × AH := (mkE [(0, .fr S.length 4 (jq S)), (1, .si .i64 (t)), (5, .ptr 0 (0)), (7, .si .i64 (v)), (8, .sb (is)), (9, .si .i64 (((i : Nat) : Int)))], mkH [(0, .cells (chk 4096 L) true)])
end Go.Proofs.Ythjggjhebbdkdaa
namespace Go.Proofs.Ythjggjhebbdkdaa
open Go Go.RowKit
theorem oa {P : Program} {t : TypeId} {H : AH} {a b c d : Int} (hp : eo P t = some [(0, 0), (0, 1)]) : oT P .neq t (.agg [.int .i64 a, .int .i64 b]) (.agg [.int .i64 c, .int .i64 d]) H = some (.bool (!(decide (a = c) && (decide (b = d) && true)))) := by
  simp [oT, hp, oA, nth, mY]
noncomputable def ho (M : Smp) (sz : Nat) (L : Smp) (i : Nat) : AE × AH := (mkE [(1, .fr M.length 2 (smp M)), (5, .ptr 0 (0)), (7, .si .i64 (((i : Nat) : Int)))], mkH [(0, .cells (chk sz L) true)])
end Go.Proofs.Ythjggjhebbdkdaa
namespace Go.Proofs.Ythjggjhebbdkdaa
open Go Go.RowKit
def rch (sz : Nat) (L : Smp) : List AV := [.si .i64 (sz : Int), .fr L.length 2 (smp L)]
end Go.Proofs.Ythjggjhebbdkdaa
namespace Go.Proofs.Ythjggjhebbdkdaa
open Go Go.RowKit
theorem DR (size : Nat) (L : Smp) (hs : 0 < size) (hL : L.length ≤ 100000) (h64 : ∀ x ∈ L, aM x.1 ∧ aM x.2) : az KAl 3 31 [.ptr 0 0] (mkH [(0, .ro (chk size L))]) 1 fun u H' _ => iX L u H' := by
  conv => whnf
  refine ag.dB (fun h => absurd (show (0 : Int) < (size : Int) by omega) h) (fun _ => ?_)
  conv => whnf
  refine ⟨L, rfl, rfl, rfl, hL, h64, ⟨rfl, by decide⟩, ?_⟩
  conv => whnf
  exact iX.rw rfl rfl (dd L) (aV L)
def tW (args : List AV) (H : AH) (n : Nat) (κ : PK) : Prop := match args with
  | [x] => ∃ (b size : Nat) (l : List AV) (L : Smp), x = .ptr b 0 ∧ H.get b = some (.cells l true) ∧ l.map mk = chk size L ∧ 0 < size ∧ L.length ≤ 100000 ∧ (∀ x ∈ L, aM x.1 ∧ aM x.2) ∧ y8 (fun r => r) L H n κ
  | _ => False
theorem Im : aF 31 tW := fun args H n κ hs φ h0' hp vs K hr hargs hk => by
  unfold tW at hs
  split at hs
  · obtain ⟨x, rfl, e1⟩ := vs1 hargs
    obtain ⟨b, size, l, L, rfl, hb, hl, hsz, hL, h64, hs⟩ := hs
    obtain ⟨p, hpb, rfl⟩ := e1.ct
    have hl4 : l.length = 4 := by have := congrArg List.length hl; simpa [chk] using this
    have hro := jx.of (s := chk size L) hr (.inr ⟨_, hb⟩) hpb (cD (n := 4) hl4) (by rw [hl, tU]) (de size L)
    exact A5 yh (fun _ _ h => h) (DR size L hsz hL h64) hs hr hk (by kernel_rfl) (φ0 := ph1 ⟨p.B, p.s + 0, 4⟩) (fun hw => HR.ro1 hw hro) (.cons (.ptr (p := ⟨p.B, p.s + 0, 4⟩) (o := 0) rfl) .nil)
  · exact hs.elim
def zC (args : List AV) (H : AH) (n : Nat) (κ : PK) : Prop := mF args H n κ ∨ tW args H n κ
theorem Io : aF 31 zC := fun args H n κ hs => hs.elim (wC args H n κ) (Im args H n κ)
theorem qJ {α : Type} {v : Option α} {t : PM α} : (PM.set v aa t 1).get 0 = t.get 0 := by cases t <;> rfl
theorem qK {α : Type} {v : Option α} {t : PM α} : (PM.set v aa t 0).get 1 = t.get 1 := by cases t <;> rfl
theorem qL {α : Type} {v : α} {t : PM α} : (PM.set (some v) aa t 1).get 1 = some v := by
  cases t with
  | nil => rfl
  | node l u r => cases l <;> rfl
def Ip (e : Int) (s1 s2 : Nat) (L M : Smp) : PK := fun u H' _ => u = .si .i64 e ∧ PM.get H' 0 = some (.cells (chk s1 L) true) ∧ PM.get H' 1 = some (.cells (chk s2 M) true)
theorem FK {u : AV} {H' : AH} {n' s1 s2 : Nat} {e : Int} {L M : Smp} {l m : List AV} (hu : mk u = .si .i64 e) (hb : PM.get H' 0 = some (.cells l true)) (hl : l.map mk = chk s1 L) (hc : PM.get H' 1 = some (.cells m true)) (hm : m.map mk = chk s2 M) :
    ∃ v H2 n2, VTo u v ∧ cY H' n' H2 n2 ∧ Ip e s1 s2 L M v H2 n2 :=
  ⟨.si .i64 e, (H'.set (some (.cells (chk s2 M) true)) aa 1).set (some (.cells (chk s1 L) true)) aa 0, n', fun φ w h => by rw [← hu]; exact h.mk, (cY.yf (l' := chk s2 M) hc rfl hm).trans (cY.yf (l' := chk s1 L) (qJ.trans hb) rfl hl), rfl, PM.qH, qK.trans qL⟩
noncomputable def KJo : FuncId → EP := a9 31 zC (a9 79 mE evP)
theorem Iq : bG KJo := aw (aw bd wz) Io
theorem DS (s1 s2 : Nat) (L M : Smp) (h1 : 0 < s1) (h1' : s1 ≤ 4096) (h2 : 0 < s2) (hF : bX L) (hG : bX M) : post (az KJo 5 38) [.ptr 0 0, .ptr 1 0] (mkH [(0, .cells (chk s1 L) true), (1, .cells (chk s2 M) true)]) 2 (Ip (bA s1 L M).2 s1 s2 (bA s1 L M).1.1 (bA s1 L M).1.2) := by
  have leaf : ∀ {u : AV} {H' : AH} {n' : Nat} {e : Int} {A B : Smp} {l m : List AV}, bA s1 L M = ((A, B), e) → mk u = .si .i64 e → PM.get H' 0 = some (.cells l true) → l.map mk = chk s1 A → PM.get H' 1 = some (.cells m true) → m.map mk = chk s2 B → ∃ v2 H2 n2, VTo u v2 ∧ cY H' n' H2 n2 ∧ Ip (bA s1 L M).2 s1 s2 (bA s1 L M).1.1 (bA s1 L M).1.2 v2 H2 n2 := fun hj hu hb hl hc hm => by
    rw [hj]; exact FK hu hb hl hc hm
  have hz1 : (0 : Int) < (s1 : Int) := by omega
  have hz2 : (0 : Int) < (s2 : Int) := by omega
  have hLl := hF.2.2
  have hMl := hG.2.2
  have hL1 : L.length ≤ 100000 := by omega
  have hM1 : M.length ≤ 100000 := by omega
  have hw8 : IntKind.i64.wrap (8 * (s1 : Int)) = ((8 * s1 : Nat) : Int) := cr ⟨by omega, by omega⟩
  have hrowL : bu (smp L) 0 (L.length * 2) = some (smp L) := dd L
  have hone : (smp M).all mf = true := by
    rw [List.all_eq_true]
    intro y hy
    have := List.all_eq_true.1 (ba M) y hy
    cases y <;> first | rfl | cases this
  have hbig : (L.length + M.length) * 16 ≤ 140737488355328 := by omega
  have hLM : (L ++ M).length = L.length + M.length := List.length_append
  have hsubLM : bu (smp L ++ smp M) 0 ((L ++ M).length * 2) = some (smp (L ++ M)) := by rw [← ki]; exact dd _
  have hLM1 : (L ++ M).length ≤ 100000 := by omega
  have h64 : ∀ x ∈ L ++ M, aM x.1 ∧ aM x.2 := fun x hx => (List.mem_append.1 hx).elim (hF.gO x) (hG.gO x)
  have hn0 : ∀ x ∈ ([] : Smp), aM x.1 ∧ aM x.2 := fun x hx => by cases hx
  have hlq : [AV.si .i64 (s1 : Int), .ss (pack (aU (L ++ M))), .si .i64 ((aU (L ++ M)).length : Int), .si .i64 ((L.length + M.length : Nat) : Int)].map mk = chk s1 (L ++ M) := by unfold chk; rw [hLM]; rfl
  show az KJo 5 38 _ _ _ _
  conv => whnf
  refine ag.dB (fun h => absurd hz1 h) (fun _ => ?_)
  conv => whnf
  refine ag.dB (fun h => absurd hz2 h) (fun _ => ?_)
  conv => whnf
  refine .inl ⟨0, s1, _, L, rfl, rfl, rfl, h1, hL1, hF.gO, ?_⟩
  conv => whnf
  refine ag.dec (fun hl0 => ?_) (fun hl0 => ?_)
  · have hLn : L = [] := List.eq_nil_of_length_eq_zero (Int.ofNat_inj.1 hl0)
    conv => whnf
    refine .inl ⟨1, s2, _, M, rfl, rfl, rfl, h2, hM1, hG.gO, ?_⟩
    conv => whnf
    refine ag.dec (fun hm0 => ?_) (fun hm0 => ?_)
    · have hj0 : bA s1 L M = if (aU (L ++ M)).length ≤ 8 * s1 then ((L ++ M, []), 0) else ((L, M), 2) := by unfold bA; rw [if_neg (by simp [lY, hLn])]
      conv => whnf
      refine .inr ⟨0, s1, _, L, rfl, rfl, rfl, h1, hL1, hF.gO, ⟨rfl, by decide⟩, ?_⟩
      conv => whnf
      refine .inl ⟨1, s2, _, M, rfl, rfl, rfl, h2, hM1, hG.gO, ?_⟩
      conv => whnf
      refine fk.grow 2 16 _ _ _ _ _ _ tyS .fr (aG M) hone (.rw rfl hrowL) hbig ?_
      conv => whnf
      refine ⟨L ++ M, .inr (.inl (.inl ⟨_, 0, 0, _, _, ⟨congrArg (fun k => AV.rw _ 0 k 2 0) hLM.symm, by decide⟩, .inr ⟨_, rfl⟩, hsubLM, aV _⟩)), hLM1, h64, ?_⟩
      conv => whnf
      refine ag.dec (fun h3 => ?_) (fun h3 => ?_)
      · have e : bA s1 L M = ((L, M), 2) := by rw [hj0, if_neg (by rw [hw8] at h3; omega)]
        conv => whnf
        exact leaf e rfl rfl rfl rfl rfl
      · have e : bA s1 L M = ((L ++ M, []), 0) := by rw [hj0, if_pos (by rw [hw8] at h3; omega)]
        conv => whnf
        refine ⟨[], .inl ⟨rfl, rfl⟩, by decide, hn0, ?_⟩
        conv => whnf
        exact leaf e rfl rfl hlq rfl rfl
    · have hmp : 0 < M.length := Nat.pos_of_ne_zero fun q => hm0 (by exact Int.ofNat_inj.2 q)
      conv => whnf
      refine Idx.mk 0 rfl hmp ?_
      conv => whnf
      refine ao (bT hmp rfl) ?_
      have hj0 : bA s1 L M = if (aU (L ++ M)).length ≤ 8 * s1 then ((L ++ M, []), 0) else ((L, M), 2) := by unfold bA; rw [if_neg (by simp [lY, hLn])]
      conv => whnf
      refine .inr ⟨0, s1, _, L, rfl, rfl, rfl, h1, hL1, hF.gO, ⟨rfl, by decide⟩, ?_⟩
      conv => whnf
      refine .inl ⟨1, s2, _, M, rfl, rfl, rfl, h2, hM1, hG.gO, ?_⟩
      conv => whnf
      refine fk.grow 2 16 _ _ _ _ _ _ tyS .fr (aG M) hone (.rw rfl hrowL) hbig ?_
      conv => whnf
      refine ⟨L ++ M, .inr (.inl (.inl ⟨_, 0, 0, _, _, ⟨congrArg (fun k => AV.rw _ 0 k 2 0) hLM.symm, by decide⟩, .inr ⟨_, rfl⟩, hsubLM, aV _⟩)), hLM1, h64, ?_⟩
      conv => whnf
      refine ag.dec (fun h3 => ?_) (fun h3 => ?_)
      · have e : bA s1 L M = ((L, M), 2) := by rw [hj0, if_neg (by rw [hw8] at h3; omega)]
        conv => whnf
        exact leaf e rfl rfl rfl rfl rfl
      · have e : bA s1 L M = ((L ++ M, []), 0) := by rw [hj0, if_pos (by rw [hw8] at h3; omega)]
        conv => whnf
        refine ⟨[], .inl ⟨rfl, rfl⟩, by decide, hn0, ?_⟩
        conv => whnf
        exact leaf e rfl rfl hlq rfl rfl
  · have hl1 : 0 < L.length := Nat.pos_of_ne_zero fun q => hl0 (by exact Int.ofNat_inj.2 q)
    have hlp : L.length - 1 < L.length := by omega
    have hlw : IntKind.i64.wrap ((L.length : Int) - 1) = ((L.length - 1 : Nat) : Int) := (cr ⟨by omega, by omega⟩).trans (by omega)
    conv => whnf
    refine Idx.mk (L.length - 1) hlw hlp ?_
    conv => whnf
    refine ao (bT hlp rfl) ?_
    conv => whnf
    refine .inl ⟨1, s2, _, M, rfl, rfl, rfl, h2, hM1, hG.gO, ?_⟩
    conv => whnf
    refine ag.dec (fun hm0 => ?_) (fun hm0 => ?_)
    · have hMn : M = [] := List.eq_nil_of_length_eq_zero (Int.ofNat_inj.1 hm0)
      have hj0 : bA s1 L M = if (aU (L ++ M)).length ≤ 8 * s1 then ((L ++ M, []), 0) else ((L, M), 2) := by unfold bA; rw [if_neg (by simp [lY, hMn])]
      conv => whnf
      refine .inr ⟨0, s1, _, L, rfl, rfl, rfl, h1, hL1, hF.gO, ⟨rfl, by decide⟩, ?_⟩
      conv => whnf
      refine .inl ⟨1, s2, _, M, rfl, rfl, rfl, h2, hM1, hG.gO, ?_⟩
      conv => whnf
      refine fk.grow 2 16 _ _ _ _ _ _ tyS .fr (aG M) hone (.rw rfl hrowL) hbig ?_
      conv => whnf
      refine ⟨L ++ M, .inr (.inl (.inl ⟨_, 0, 0, _, _, ⟨congrArg (fun k => AV.rw _ 0 k 2 0) hLM.symm, by decide⟩, .inr ⟨_, rfl⟩, hsubLM, aV _⟩)), hLM1, h64, ?_⟩
      conv => whnf
      refine ag.dec (fun h3 => ?_) (fun h3 => ?_)
      · have e : bA s1 L M = ((L, M), 2) := by rw [hj0, if_neg (by rw [hw8] at h3; omega)]
        conv => whnf
        exact leaf e rfl rfl rfl rfl rfl
      · have e : bA s1 L M = ((L ++ M, []), 0) := by rw [hj0, if_pos (by rw [hw8] at h3; omega)]
        conv => whnf
        refine ⟨[], .inl ⟨rfl, rfl⟩, by decide, hn0, ?_⟩
        conv => whnf
        exact leaf e rfl rfl hlq rfl rfl
    · have hmp : 0 < M.length := Nat.pos_of_ne_zero fun q => hm0 (by exact Int.ofNat_inj.2 q)
      conv => whnf
      refine Idx.mk 0 rfl hmp ?_
      conv => whnf
      refine ao (bT hmp rfl) ?_
      have hd : decide (M[0].1 ≤ L[L.length - 1].1) = lY L M := by
        unfold lY nt
        have a1 : decide (L ≠ []) = true := by rw [decide_eq_true_eq]; intro q; rw [q] at hl1; cases hl1
        have a2 : decide (M ≠ []) = true := by rw [decide_eq_true_eq]; intro q; rw [q] at hmp; cases hmp
        rw [cX hmp, cX hlp, a1, a2]; rfl
      conv => whnf
      refine ag.dec (fun hmt => ?_) (fun hmt => ?_)
      · have e : bA s1 L M = ((L, M), 1) := by unfold bA; rw [if_pos (hd ▸ decide_eq_true hmt)]
        conv => whnf
        exact leaf e rfl rfl rfl rfl rfl
      · have hnm : ¬ lY L M = true := by rw [← hd, decide_eq_true_eq]; exact hmt
        have hj0 : bA s1 L M = if (aU (L ++ M)).length ≤ 8 * s1 then ((L ++ M, []), 0) else ((L, M), 2) := by unfold bA; rw [if_neg hnm]
        conv => whnf
        refine .inr ⟨0, s1, _, L, rfl, rfl, rfl, h1, hL1, hF.gO, ⟨rfl, by decide⟩, ?_⟩
        conv => whnf
        refine .inl ⟨1, s2, _, M, rfl, rfl, rfl, h2, hM1, hG.gO, ?_⟩
        conv => whnf
        refine fk.grow 2 16 _ _ _ _ _ _ tyS .fr (aG M) hone (.rw rfl hrowL) hbig ?_
        conv => whnf
        refine ⟨L ++ M, .inr (.inl (.inl ⟨_, 0, 0, _, _, ⟨congrArg (fun k => AV.rw _ 0 k 2 0) hLM.symm, by decide⟩, .inr ⟨_, rfl⟩, hsubLM, aV _⟩)), hLM1, h64, ?_⟩
        conv => whnf
        refine ag.dec (fun h3 => ?_) (fun h3 => ?_)
        · have e : bA s1 L M = ((L, M), 2) := by rw [hj0, if_neg (by rw [hw8] at h3; omega)]
          conv => whnf
          exact leaf e rfl rfl rfl rfl rfl
        · have e : bA s1 L M = ((L ++ M, []), 0) := by rw [hj0, if_pos (by rw [hw8] at h3; omega)]
          conv => whnf
          refine ⟨[], .inl ⟨rfl, rfl⟩, by decide, hn0, ?_⟩
          conv => whnf
          exact leaf e rfl rfl hlq rfl rfl
def zD (args : List AV) (H : AH) (n : Nat) (κ : PK) : Prop := match args with
  | [x, y] => ∃ (b c s1 s2 : Nat) (L M : Smp), x = .ptr b 0 ∧ y = .ptr c 0 ∧ b ≠ c ∧ b < n ∧ c < n ∧ H.get b = some (.cells (chk s1 L) true) ∧ H.get c = some (.cells (chk s2 M) true) ∧ 0 < s1 ∧ s1 ≤ 4096 ∧ 0 < s2 ∧ bX L ∧ bX M ∧
      κ (.si .i64 (bA s1 L M).2) ((H.set (some (.cells (chk s2 (bA s1 L M).1.2) true)) aa c).set (some (.cells (chk s1 (bA s1 L M).1.1) true)) aa b) n
  | _ => False
theorem Ir : aF 38 zD := fun args H n κ hs φ h0' hp vs K hr hargs hk => by
  unfold zD at hs
  split at hs
  · obtain ⟨x, y, rfl, e1, e2⟩ := vs2 hargs
    obtain ⟨b, c, s1, s2, L, M, rfl, rfl, hbc, hbn, hcn, hb, hc, h1, h1', h2, hF, hG, hs⟩ := hs
    refine cw (S := [b, c]) (O := [.cells (chk s1 L) true, .cells (chk s2 M) true]) (args0 := [.ptr 0 0, .ptr 1 0]) (aF.post (aB Iq 5 _)) (by kernel_rfl) hr
      (tO hbc hbn hcn hb hc (.inr rfl) (.inr rfl)) (.cons e1 (.cons e2 .nil)) hk (DS s1 s2 L M h1 h1' h2 hF hG) fun u H' n' ⟨g1, g2, g3⟩ => ?_
    subst g1
    refine ⟨2, iP [b, c] n H [(0, some (.cells (chk s1 (bA s1 L M).1.1) true)), (1, some (.cells (chk s2 (bA s1 L M).1.2) true))], Nat.le_refl _, cG.put (Nat.le_refl _) rfl (fun x hx o ho => ?_), rfl, hs⟩
    simp only [List.mem_cons, List.not_mem_nil, or_false] at hx
    rcases hx with rfl | rfl
    · injection ho with ho; subst ho; exact ⟨g2, rfl, rfl⟩
    · injection ho with ho; subst ho; exact ⟨g3, rfl, rfl⟩
  · exact hs.elim
end Go.Proofs.Ythjggjhebbdkdaa
namespace Go.Proofs.Ythjggjhebbdkdaa
open Go Go.RowKit
def mG (L : Smp) (k : Nat) : Bool := decide (k < L.length - 1) && decide (2 * (aU (L.take k)).length < (aU L).length)
def oX (L : Smp) : Nat → Nat → Nat
  | 0, k => k
  | f + 1, k => if mG L k then oX L f (k + 1) else k
def bH (L : Smp) : Nat := oX L (L.length - 1) 1
theorem FL {L : Smp} {k : Nat} (h : mG L k = true) : oX L (L.length - k) k = oX L (L.length - (k + 1)) (k + 1) := by
  have h1 : k < L.length - 1 := by unfold mG at h; simp at h; exact h.1
  rw [show L.length - k = (L.length - (k + 1)) + 1 by omega]
  show (if mG L k = true then _ else _) = _
  rw [if_pos h]
theorem sK {L : Smp} {f k : Nat} (h : mG L k = false) : oX L f k = k := by cases f <;> simp [oX, h]
theorem tX (L : Smp) {k : Nat} (h : k ≤ L.length) : AV.fr k 2 ((smp L).take (k * 2)) = .fr (L.take k).length 2 (smp (L.take k)) := by rw [qq, List.length_take, Nat.min_eq_left h]
theorem zE (L : Smp) (k : Nat) : AV.fr (L.length - k) 2 ((smp L).drop (k * 2)) = .fr (L.drop k).length 2 (smp (L.drop k)) := by rw [nd, List.length_drop]
end Go.Proofs.Ythjggjhebbdkdaa
namespace Go.Proofs.Ythjggjhebbdkdaa
open Go Go.RowKit
def JT (args : List AV) (H : AH) (n : Nat) (κ : PK) : Prop := match args with
  | [x, y] => ∃ (b c s1 s2 : Nat) (L M : Smp), x = .ptr b 0 ∧ y = .ptr c 0 ∧ b ≠ c ∧ b < n ∧ c < n ∧ H.get b = some (.cells (rch s1 L) true) ∧ H.get c = some (.cells (rch s2 M) true) ∧ 0 < s1 ∧ s1 ≤ 4096 ∧ bX L ∧ bX M ∧
      κ (.si .i64 (bA s1 L M).2) ((H.set (some (.cells (rch s2 (bA s1 L M).1.2) true)) aa c).set (some (.cells (rch s1 (bA s1 L M).1.1) true)) aa b) n
  | _ => False
def zF (f : Nat → Smp → AV) (args : List AV) (H : AH) (n : Nat) (κ : PK) : Prop := match args with
  | [x] => ∃ (b size : Nat) (l : List AV) (L : Smp), x = .ptr b 0 ∧ H.get b = some (.cells l true) ∧ l.map mk = chk size L ∧ κ (f size L) H n
  | _ => False
theorem DU {f : FuncId} {g : Nat → Smp → AV} (hic : aj Try.prog f = true) (hg : ∀ size L, flat.flat1 (g size L) = true) (hrun : ∀ size L, az evP 3 f [.ptr 0 0] (mkH [(0, .ro (chk size L))]) 1 fun u _ _ => mkT u = mkT (g size L)) (hm : ∀ size L, mkT (g size L) = g size L) : aF f (zF g) := fun args H n κ hs φ h0' hp vs K hr hargs hk => by
  unfold zF at hs
  split at hs
  · obtain ⟨x, rfl, e1⟩ := vs1 hargs
    obtain ⟨b, size, l, L, rfl, hb, hl, hs⟩ := hs
    obtain ⟨p, hpb, rfl⟩ := e1.ct
    have hl4 : l.length = 4 := by have := congrArg List.length hl; simpa [chk] using this
    have hro := jx.of (s := chk size L) hr (.inr ⟨_, hb⟩) hpb (cD (n := 4) hl4) (by rw [hl, tU]) (de size L)
    exact iI bd (v := g size L) (qn (hg size L)) (hrun size L) (by rw [hm]; exact hs) hr hk hic (φ0 := ph1 ⟨p.B, p.s + 0, 4⟩) (fun hw => HR.ro1 hw hro) (.cons (.ptr (p := ⟨p.B, p.s + 0, 4⟩) (o := 0) rfl) .nil)
  · exact hs.elim
def It (_ : Nat) (L : Smp) : AV := .si .i64 (L.length : Int)
def zG (_ : Nat) (L : Smp) : AV := .si .i64 ((pack (aU L)).length : Int)
theorem JU : aF 34 (zF It) := DU (by kernel_rfl) (fun _ _ => rfl) (fun size L => by
  conv => whnf
  rfl) fun _ _ => rfl
end Go.Proofs.Ythjggjhebbdkdaa
