/- Texts of our own, joined: the engine, the machine that runs code, and what is known of the functions. -/
import Derived.Test.YtapjijhjnloimaaRows
import Derived.WalkKit
import Derived.Deep.Quiet
import Derived.ProofKit
import Derived.Laws.StructEq
import Derived.LaidEql
import Derived.Laws.BytesArg
import Derived.Maps.RangeRun
import Derived.RangeFuncSeq
import Derived.Scope
import Derived.Laws.Strings
import Derived.Laws.Strings2
import Derived.Below
import Derived.Carry
import Derived.OpenShut
import Derived.ChangeMaps5
import Derived.Deep.Slices
import Derived.Deep.SlicePairs
import Derived.SizedLaws
import Derived.Test.YtapjijhjnloimaaJc
import Derived.Laws.BitsAllLaws
set_option linter.unusedSimpArgs false
set_option linter.unusedVariables false
set_option maxHeartbeats 16000000
set_option maxRecDepth 100000
namespace Go.Proofs.Ytapjijhjnloimaa
open Go Go.RowKit
mutual
def ren (r : Nat → Nat) : AV → AV
  | .int k n => .int k n
  | .str s => .str s
  | .bool b => .bool b
  | .nil => .nil
  | .ptr b o => .ptr (r b) o
  | .nsl => .nsl
  | .sl b o n c k => .sl (r b) o n c k
  | .esl b => .esl (r b)
  | .agg l => .agg (dq r l)
  | .tup l => .tup (dq r l)
  | .fn f a c => .fn f (dq r a) (dq r c)
  | .map b => .map (r b)
  | .any v => .any v
  | .bad => .bad
  | .si k n => .si k n
  | .sb b => .sb b
  | .ss s => .ss s
  | .sy b o n c k => .sy (r b) o n c k
  | .rw b o n k x => .rw (r b) o n k x
  | .fr n k l => .fr n k l
  | .fa l o => .fa l o
def dq (r : Nat → Nat) : List AV → List AV
  | [] => []
  | a :: l => ren r a :: dq r l
end
mutual
def ltV (m : Nat) : AV → Bool
  | .int _ _ => true
  | .str _ => true
  | .bool _ => true
  | .nil => true
  | .ptr b _ => Nat.blt b m
  | .nsl => true
  | .sl b _ _ _ _ => Nat.blt b m
  | .esl b => Nat.blt b m
  | .agg l => jt m l
  | .tup l => jt m l
  | .fn _ a c => jt m a && jt m c
  | .map b => Nat.blt b m
  | .any _ => true
  | .bad => true
  | .si _ _ => true
  | .sb _ => true
  | .ss _ => true
  | .sy b _ _ _ _ => Nat.blt b m
  | .rw b _ _ _ _ => Nat.blt b m
  | .fr _ _ _ => true
  | .fa _ _ => true
def jt (m : Nat) : List AV → Bool
  | [] => true
  | a :: l => ltV m a && jt m l
end
def Ph.pull (χ : Ph) (r : Nat → Nat) : Ph := ⟨fun b => χ (r b), χ.z, χ.y, fun b => χ.s (r b)⟩
section
variable {χ ψ : Ph} {r : Nat → Nat} {m : Nat}
mutual
theorem VR.pull : ∀ (a : AV) (v : Value), VR χ (ren r a) v ↔ VR (χ.pull r) a v
  | .int k n, v => by simp only [ren, VR]
  | .str s, v => by simp only [ren, VR]
  | .bool b, v => by simp only [ren, VR]
  | .nil, v => by simp only [ren, VR]
  | .ptr b o, v => by simp only [ren, VR, Ph.pull]
  | .nsl, v => by simp only [ren, VR]
  | .sl b o n c k, v => by simp only [ren, VR, Ph.pull]
  | .esl b, v => by simp only [ren, VR, Ph.pull]
  | .agg l, v => by simp only [ren, VR, VRs.pull l]
  | .tup l, v => by simp only [ren, VR, VRs.pull l]
  | .fn f a c, v => by simp only [ren, VR, VRs.pull a, VRs.pull c]
  | .map b, v => by simp only [ren, VR, Ph.pull]
  | .any u, v => by simp only [ren, VR]
  | .bad, v => by simp only [ren, VR]
  | .si k n, v => by simp only [ren, VR]
  | .sb b, v => by simp only [ren, VR]
  | .ss s, v => by simp only [ren, VR]
  | .sy b o n c k, v => by simp only [ren, VR, Ph.pull]
  | .rw b o n k x, v => by simp only [ren, VR, Ph.pull]
  | .fr n k l, v => by simp only [ren, VR, Ph.pull]
  | .fa l o, v => by simp only [ren, VR, Ph.pull]
theorem VRs.pull : ∀ (l : List AV) (vs : List Value), VRs χ (dq r l) vs ↔ VRs (χ.pull r) l vs
  | [], vs => by simp only [dq, VRs]
  | a :: l, vs => by simp only [dq, VRs, VR.pull a, VRs.pull l]
end
mutual
theorem VR.below (he : ∀ b p, b < m → ψ b = some p → χ b = some p) (hz : ∀ q, ψ.z q → χ.z q) : ∀ (a : AV) (v : Value), ltV m a = true → VR ψ a v → VR χ a v
  | .int k n, v, _, h => by simp only [VR] at h ⊢; exact h
  | .str s, v, _, h => by simp only [VR] at h ⊢; exact h
  | .bool b, v, _, h => by simp only [VR] at h ⊢; exact h
  | .nil, v, _, h => by simp only [VR] at h ⊢; exact h
  | .ptr b o, v, hl, h => by
    simp only [ltV, Nat.blt_eq] at hl
    simp only [VR] at h ⊢
    obtain ⟨p, h1, h2⟩ := h
    exact ⟨p, he _ _ hl h1, h2⟩
  | .nsl, v, _, h => by simp only [VR] at h ⊢; exact h
  | .sl b o n c k, v, hl, h => by
    simp only [ltV, Nat.blt_eq] at hl
    simp only [VR] at h ⊢
    obtain ⟨p, C, h1, h2⟩ := h
    exact ⟨p, C, he _ _ hl h1, h2⟩
  | .esl b, v, hl, h => by
    simp only [ltV, Nat.blt_eq] at hl
    simp only [VR] at h ⊢
    obtain ⟨p, x, C, h1, h2⟩ := h
    exact ⟨p, x, C, he _ _ hl h1, h2⟩
  | .agg l, v, hl, h => by
    simp only [ltV] at hl
    simp only [VR] at h ⊢
    obtain ⟨cs, h1, h2⟩ := h
    exact ⟨cs, h1, VRs.below he hz l _ hl h2⟩
  | .tup l, v, hl, h => by
    simp only [ltV] at hl
    simp only [VR] at h ⊢
    obtain ⟨cs, h1, h2⟩ := h
    exact ⟨cs, h1, VRs.below he hz l _ hl h2⟩
  | .fn f a c, v, hl, h => by
    simp only [ltV, Bool.and_eq_true] at hl
    simp only [VR] at h ⊢
    obtain ⟨xs, cs, h1, h2, h3⟩ := h
    exact ⟨xs, cs, h1, VRs.below he hz a _ hl.1 h2, VRs.below he hz c _ hl.2 h3⟩
  | .map b, v, hl, h => by
    simp only [ltV, Nat.blt_eq] at hl
    simp only [VR] at h ⊢
    obtain ⟨p, h1, h2⟩ := h
    exact ⟨p, he _ _ hl h1, h2⟩
  | .any u, v, _, h => by simp only [VR] at h ⊢; exact h
  | .bad, v, _, h => by simp only [VR]
  | .si k n, v, _, h => by simp only [VR] at h ⊢; exact h
  | .sb b, v, _, h => by simp only [VR] at h ⊢; exact h
  | .ss s, v, _, h => by simp only [VR] at h ⊢; exact h
  | .sy b o n c k, v, hl, h => by
    simp only [ltV, Nat.blt_eq] at hl
    simp only [VR] at h ⊢
    obtain ⟨p, C, h1, h2⟩ := h
    exact ⟨p, C, he _ _ hl h1, h2⟩
  | .rw b o n k x, v, hl, h => by
    simp only [ltV, Nat.blt_eq] at hl
    simp only [VR] at h ⊢
    rcases h with h | ⟨p, a, C, h1, h2⟩
    · exact .inl h
    · exact .inr ⟨p, a, C, he _ _ hl h1, h2⟩
  | .fr n k l, v, _, h => by
    simp only [VR] at h ⊢
    rcases h with h | ⟨q, o, C, h1, h2⟩
    · exact .inl h
    · exact .inr ⟨q, o, C, hz _ h1, h2⟩
  | .fa l o, v, _, h => by
    simp only [VR] at h ⊢
    obtain ⟨q, x, h1, h2⟩ := h
    exact ⟨q, x, hz _ h1, h2⟩
theorem VRs.below (he : ∀ b p, b < m → ψ b = some p → χ b = some p) (hz : ∀ q, ψ.z q → χ.z q) : ∀ (l : List AV) (vs : List Value), jt m l = true → VRs ψ l vs → VRs χ l vs
  | [], vs, _, h => by simp only [VRs] at h ⊢; exact h
  | a :: l, vs, hl, h => by
    simp only [jt, Bool.and_eq_true] at hl
    simp only [VRs] at h ⊢
    obtain ⟨v, us, h1, h2, h3⟩ := h
    exact ⟨v, us, h1, VR.below he hz a v hl.1 h2, VRs.below he hz l us hl.2 h3⟩
end
end
def Cr (r : Nat → Nat) : List (AV × AV) → List (AV × AV)
  | [] => []
  | e :: es => (ren r e.1, ren r e.2) :: Cr r es
def dS (r : Nat → Nat) : AO → AO
  | .cells l z => .cells (dq r l) z
  | .map es => .map (Cr r es)
  | .ro l => .ro (dq r l)
  | .iter b m seen => .iter (r b) m seen
  | .sep Q => .sep Q
def ltE (m : Nat) : List (AV × AV) → Bool
  | [] => true
  | e :: es => ltV m e.1 && (ltV m e.2 && ltE m es)
def ltO (m : Nat) : AO → Bool
  | .cells l _ => jt m l
  | .map es => ltE m es
  | .ro l => jt m l
  | .iter b _ _ => Nat.blt b m
  | .sep _ => true
section
variable {χ ψ : Ph} {r : Nat → Nat} {m : Nat}
theorem jS : ∀ l : List AV, (dq r l).length = l.length
  | [] => rfl
  | a :: l => by simp [dq, jS l]
theorem rq : ∀ (l : List AV) (i : Nat), (dq r l)[i]? = (l[i]?).map (ren r)
  | [], i => by simp [dq]
  | a :: l, 0 => by simp [dq]
  | a :: l, i + 1 => by simp [dq, rq l i]
theorem Ai : ∀ {l : List AV}, jt m l = true → ∀ {i : Nat} {a : AV}, l[i]? = some a → ltV m a = true
  | [], _, i, a, h => by simp at h
  | b :: l, hl, i, a, h => by
    simp only [jt, Bool.and_eq_true] at hl
    cases i with
    | zero => simp only [List.getElem?_cons_zero, Option.some.injEq] at h; subst h; exact hl.1
    | succ i => exact Ai hl.2 (by simpa using h)
theorem CR.pull {c : Array Value} {s : Nat} {l : List AV} : CR χ c s (dq r l) ↔ CR (χ.pull r) c s l := by
  constructor
  · intro h i a e
    obtain ⟨v, h1, h2⟩ := h i (ren r a) (by rw [rq, e]; rfl)
    exact ⟨v, h1, (VR.pull _ _).1 h2⟩
  · intro h i a e
    rw [rq, Option.map_eq_some_iff] at e
    obtain ⟨a', e1, rfl⟩ := e
    obtain ⟨v, h1, h2⟩ := h i a' e1
    exact ⟨v, h1, (VR.pull _ _).2 h2⟩
theorem CR.below (he : ∀ b p, b < m → ψ b = some p → χ b = some p) (hz : ∀ q, ψ.z q → χ.z q) {c : Array Value} {s : Nat} {l : List AV} (hl : jt m l = true) (h : CR ψ c s l) : CR χ c s l := fun i a e => by
  obtain ⟨v, h1, h2⟩ := h i a e
  exact ⟨v, h1, VR.below he hz a v (Ai hl e) h2⟩
theorem MR.pull : ∀ {es : List (AV × AV)} {ms : List MapEntry}, MR χ (Cr r es) ms ↔ MR (χ.pull r) es ms
  | [], ms => Iff.rfl
  | e :: es, ms => by
    show (∃ m us, _ ∧ _ ∧ _ ∧ MR χ (Cr r es) us) ↔ ∃ m us, _ ∧ _ ∧ _ ∧ MR (χ.pull r) es us
    simp only [MR.pull (es := es), VR.pull]
theorem MR.below (he : ∀ b p, b < m → ψ b = some p → χ b = some p) (hz : ∀ q, ψ.z q → χ.z q) : ∀ {es : List (AV × AV)} {ms : List MapEntry}, ltE m es = true → MR ψ es ms → MR χ es ms
  | [], ms, _, h => h
  | e :: es, ms, hl, ⟨x, us, h1, h2, h3, h4⟩ => by
    simp only [ltE, Bool.and_eq_true] at hl
    exact ⟨x, us, h1, VR.below he hz _ _ hl.1 h2, VR.below he hz _ _ hl.2.1 h3, MR.below he hz hl.2.2 h4⟩
theorem OR.pull {p : Pl} {o : AO} {ob : Obj} : OR χ p (dS r o) ob ↔ OR (χ.pull r) p o ob := by
  cases o with
  | cells l z => simp only [dS, OR, jS, CR.pull]
  | map es => simp only [dS, OR, MR.pull]
  | iter b k seen => exact Iff.rfl
  | ro l => simp only [dS, OR, jS, CR.pull]
  | sep Q => exact Iff.rfl
theorem OR.below (he : ∀ b p, b < m → ψ b = some p → χ b = some p) (hz : ∀ q, ψ.z q → χ.z q) {p : Pl} {o : AO} {ob : Obj} (hl : ltO m o = true) (h : OR ψ p o ob) : OR χ p o ob := by
  cases o with
  | cells l z => obtain ⟨c, t, fz, h1, h2, h3, h4, h5, h6⟩ := h; exact ⟨c, t, fz, h1, h2, h3, h4, h5, h6.below he hz hl⟩
  | map es => obtain ⟨ms, cl, h1, h2, h3⟩ := h; exact ⟨ms, cl, h1, MR.below he hz hl h2, h3⟩
  | iter b k seen =>
    obtain ⟨h0, q, h1, h2⟩ := h
    simp only [ltO, Nat.blt_eq] at hl
    exact ⟨h0, q, he _ _ hl h1, h2⟩
  | ro l => obtain ⟨c, t, fz, h1, h2, h3, h4⟩ := h; exact ⟨c, t, fz, h1, h2, h3, h4.below he hz hl⟩
  | sep Q => exact h.elim
theorem fI (o : AO) : (dS r o).own = o.own := by cases o <;> rfl
theorem mM (o : AO) : (dS r o).free = o.free := by
  cases o with
  | cells l z => cases l <;> rfl
  | map es => rfl
  | iter b k seen => rfl
  | ro l => cases l <;> rfl
  | sep Q => rfl
theorem oN {o : AO} {Q : HP} (h : dS r o = .sep Q) : o = .sep Q := by cases o <;> first | exact h | cases h
theorem lf (o : AO) (ob : Obj) : (dS r o).under ob = o.under ob := by cases o <;> rfl
end
def bf (S : List Nat) (n b : Nat) : Nat := match S[b]? with
  | some s => s
  | none => n + (b - S.length)
def dH (O : List AO) : Nat → List (Nat × AO)
  | k => match O with
    | [] => []
    | o :: O => (k, o) :: dH O (k + 1)
theorem tI : ∀ {O : List AO} {k b : Nat} {o : AO}, (b, o) ∈ dH O k → ∃ i, b = k + i ∧ O[i]? = some o
  | [], k, b, o, h => by cases h
  | x :: O, k, b, o, h => by
    rcases List.mem_cons.1 (show (b, o) ∈ (k, x) :: dH O (k + 1) from h) with h | h
    · injection h with h1 h2; subst h1 h2; exact ⟨0, rfl, rfl⟩
    · obtain ⟨i, h1, h2⟩ := tI h
      exact ⟨i + 1, by omega, h2⟩
theorem lY : ∀ {S : List Nat}, S.Nodup → ∀ {i j a : Nat}, S[i]? = some a → S[j]? = some a → i = j
  | [], _, i, j, a, h, _ => by simp at h
  | x :: S, hn, i, j, a, h, k => by
    obtain ⟨h1, h2⟩ := List.nodup_cons.1 hn
    cases i with
    | zero =>
      cases j with
      | zero => rfl
      | succ j =>
        simp only [List.getElem?_cons_zero, Option.some.injEq, List.getElem?_cons_succ] at h k
        subst h
        exact absurd (List.mem_of_getElem? k) h1
    | succ i =>
      cases j with
      | zero =>
        simp only [List.getElem?_cons_zero, Option.some.injEq, List.getElem?_cons_succ] at h k
        subst k
        exact absurd (List.mem_of_getElem? h) h1
      | succ j =>
        simp only [List.getElem?_cons_succ] at h k
        rw [lY h2 h k]
section
variable {φ ψ : Ph} {H H' H2 : AH} {n n' m : Nat} {h0 hp g : Hp} {S : List Nat} {O : List AO}
def gK (H : AH) (n : Nat) (S : List Nat) (O : List AO) : Prop := S.Nodup ∧ S.length = O.length ∧ ∀ (i : Nat) s o, S[i]? = some s → O[i]? = some o → s < n ∧ H.get s = some (dS (bf S n) o) ∧ (o.void = false ∨ o.own = true)
theorem bW {i s : Nat} (h : S[i]? = some s) : bf S n i = s := by unfold bf; rw [h]
theorem fw {b : Nat} (h : S.length ≤ b) : bf S n b = n + (b - S.length) := by unfold bf; rw [List.getElem?_eq_none h]
def tJ (φ : Ph) (S : List Nat) (O : List AO) (B : Nat) : Prop := (∃ (i : Nat) (s : Nat) (o : AO) (p : Pl), S[i]? = some s ∧ O[i]? = some o ∧ o.own = true ∧ φ s = some p ∧ p.B = B) ∨ ∃ (i : Nat) (s : Nat) (Q : HP), S[i]? = some s ∧ O[i]? = some (.sep Q) ∧ φ.s s B
open Classical in
noncomputable def iF (φ : Ph) (S : List Nat) (O : List AO) (hp : Hp) : Hp := ⟨fun B => if tJ φ S O B then none else hp.f B, hp.n⟩
theorem yx {B : Nat} {o : Obj} (h : (iF φ S O hp).f B = some o) : hp.f B = some o ∧ ¬ tJ φ S O B := by
  unfold iF at h
  dsimp only at h
  split at h
  · cases h
  · rename_i q; exact ⟨h, q⟩
theorem hZ {B : Nat} (h : ¬ tJ φ S O B) : (iF φ S O hp).f B = hp.f B := by
  unfold iF
  dsimp only
  rw [if_neg h]
theorem yy {B : Nat} (h : (iF φ S O hp).f B = none) : tJ φ S O B ∨ hp.f B = none := by
  unfold iF at h
  dsimp only at h
  split at h
  · rename_i q; exact .inl q
  · exact .inr h
theorem gK.at (hh : gK H n S O) {i s : Nat} (hs : S[i]? = some s) : ∃ o, O[i]? = some o ∧ s < n ∧ H.get s = some (dS (bf S n) o) ∧ (o.void = false ∨ o.own = true) := by
  have hlt : i < O.length := by rw [← hh.2.1]; exact (List.getElem?_eq_some_iff.1 hs).1
  exact ⟨O[i], List.getElem?_eq_getElem hlt, hh.2.2 i s O[i] hs (List.getElem?_eq_getElem hlt)⟩
theorem tJ.base (hr : HR φ H n h0 hp) (hh : gK H n S O) {B : Nat} (h : tJ φ S O B) : h0.f B = none := by
  rcases h with ⟨i, s, o, p, h1, h2, h3, h4, rfl⟩ | ⟨i, s, Q, h1, h2, h3⟩
  · obtain ⟨_, h5, _⟩ := hh.2.2 i s o h1 h2
    obtain ⟨ob, h6, _⟩ := hr.of h5 h4
    rw [lf, AO.bd h3] at h6
    exact h6
  · exact ((hr.sep s Q (hh.2.2 i s _ h1 h2).2.1).2 B h3).1.2
theorem HR.small (hr : HR φ H n h0 hp) (hh : gK H n S O) (hw : Wf hp) : HR ⟨fun b => φ (bf S n b), φ.z, φ.z, fun b => φ.s (bf S n b)⟩ (mkH (dH O 0)) S.length (iF φ S O hp) hp := by
  have nlt : ∀ b p, φ (bf S n b) = some p → ∃ s, S[b]? = some s ∧ φ s = some p := fun b p e => by
    cases hb : S[b]? with
    | some s => rw [bW hb] at e; exact ⟨s, rfl, e⟩
    | none =>
      have hl := List.getElem?_eq_none_iff.1 hb
      rw [fw hl] at e
      have := (hr.dom _ _ e).1; omega
  have get : ∀ {b o}, (mkH (dH O 0)).get b = some o → O[b]? = some o := fun {b o} e => by
    obtain ⟨i, h1, h2⟩ := tI (aX e)
    rw [show b = i by omega]; exact h2
  have ofO : ∀ {b o}, O[b]? = some o → ∃ s, S[b]? = some s := fun {b o} e => by
    have := (List.getElem?_eq_some_iff.1 e).1
    rw [← hh.2.1] at this
    exact ⟨S[b], List.getElem?_eq_getElem this⟩
  refine ⟨fun b p e => ?_, fun b o e => ?_, fun b b' o o' p p' e e' ho ho' hp1 hp2 hB => ?_, fun b o e => ?_, Nat.le_refl _, fun q hq => ⟨⟨FzR.mono (φ := φ) (ψ := ⟨fun b => φ (bf S n b), φ.z, φ.z, fun b => φ.s (bf S n b)⟩) (fun _ h => h) (hr.frz q hq).1.1, .inl hq⟩, fun b o p e ho hp1 => ?_⟩, fun b Q e => ?_⟩
  rotate_left 5
  · have h1 := get e
    obtain ⟨s, h2⟩ := ofO h1
    obtain ⟨k1, k2⟩ := hr.sep s Q (hh.2.2 b s _ h2 h1).2.1
    have es : (⟨fun b => φ (bf S n b), φ.z, φ.z, fun b => φ.s (bf S n b)⟩ : Ph).s b = φ.s s := by show φ.s (bf S n b) = _; rw [bW h2]
    rw [es]
    refine ⟨k1, fun B hB => ?_⟩
    obtain ⟨g1, g2, g3, g4⟩ := k2 B hB
    refine ⟨⟨g1.1, ?_⟩, fun b' o' p' e1 e2 e3 => ?_, g3, fun b' Q' e1 e2 e3 => ?_⟩
    · unfold iF; dsimp only; rw [if_pos (.inr ⟨b, s, Q, h2, h1, hB⟩)]
    · have f1 := get e1
      obtain ⟨s', f2⟩ := ofO f1
      have e3 : φ (bf S n b') = some p' := e3
      rw [bW f2] at e3
      exact g2 s' _ p' (hh.2.2 b' s' o' f2 f1).2.1 (by rw [fI]; exact e2) e3
    · have f1 := get e1
      obtain ⟨s', f2⟩ := ofO f1
      have e3 : φ.s (bf S n b') B := e3
      rw [bW f2] at e3
      exact g4 s' Q' (hh.2.2 b' s' _ f2 f1).2.1 (fun q => e2 (by subst q; exact lY hh.1 f2 h2)) e3
  · obtain ⟨s, h1, h2⟩ := nlt b p e
    exact ⟨(List.getElem?_eq_some_iff.1 h1).1, (hr.dom s p h2).2⟩
  · have h1 := get e
    obtain ⟨s, h2⟩ := ofO h1
    obtain ⟨_, h4, h5⟩ := hh.2.2 b s o h2 h1
    rcases hr.live s _ h4 with ⟨hφ, hv⟩ | ⟨p, ob, h6, h7, h8, h9⟩
    · exact .inl ⟨by show φ (bf S n b) = _; rw [bW h2]; exact hφ, by rw [mM] at hv; exact hv⟩
    · refine .inr ⟨p, ob, by show φ (bf S n b) = _; rw [bW h2]; exact h6, ?_, h8, ?_⟩
      · rw [lf] at h7
        by_cases ho : o.own = true
        · rw [AO.bd ho]
          unfold iF
          dsimp only
          rw [if_pos (.inl ⟨b, s, o, p, h2, h1, ho, h6, rfl⟩)]
        · rw [hZ (fun hg => ?_), h8]
          · cases o <;> first | (exact absurd rfl ho; done) | rfl
          · have := hg.base hr hh
            rw [this] at h7
            cases o <;> first | (exact absurd rfl ho; done) | cases h7
      · have := (OR.pull (χ := φ) (r := bf S n)).1 h9
        exact OR.cx (φ := φ.pull (bf S n)) (ψ := ⟨fun b => φ (bf S n b), φ.z, φ.z, fun b => φ.s (bf S n b)⟩) ⟨fun _ _ h => h, fun _ h => h⟩ this
  · have h1 := get e
    have h1' := get e'
    obtain ⟨s, h2⟩ := ofO h1
    obtain ⟨s', h2'⟩ := ofO h1'
    have hp1 : φ (bf S n b) = some p := hp1
    have hp2 : φ (bf S n b') = some p' := hp2
    rw [bW h2] at hp1
    rw [bW h2'] at hp2
    have := hr.inj s s' _ _ p p' (hh.2.2 b s o h2 h1).2.1 (hh.2.2 b' s' o' h2' h1').2.1 (by rw [fI]; exact ho) (by rw [fI]; exact ho') hp1 hp2 hB
    subst this
    exact lY hh.1 h2 h2'
  · obtain ⟨h1, _⟩ := yx e
    exact ⟨hw _ _ h1, h1⟩
  · have h1 := get e
    obtain ⟨s, h2⟩ := ofO h1
    have hp1 : φ (bf S n b) = some p := hp1
    rw [bW h2] at hp1
    exact (hr.frz q hq).2 s _ p (hh.2.2 b s o h2 h1).2.1 (by rw [fI]; exact ho) hp1
def cU (S : List Nat) (n m : Nat) (H H' H2 : AH) : Prop := ∀ b o, H2.get b = some o → (∃ c o', c < m ∧ b = bf S n c ∧ H'.get c = some o' ∧ o'.own = true ∧ ltO m o' = true ∧ o = dS (bf S n) o') ∨ ((b < n ∨ n + (m - S.length) ≤ b) ∧ H.get b = some o ∧ (b ∈ S → o.own = false))
open Classical in
noncomputable def phA (φ ψ : Ph) (S : List Nat) (n m : Nat) : Ph := ⟨fun b => if h : ∃ c, c < m ∧ bf S n c = b then ψ h.choose else if b < n then φ b else none, fun q => φ.z q ∨ ψ.z q, φ.y, fun b => if h : ∃ c, c < m ∧ bf S n c = b then ψ.s h.choose else φ.s b⟩
theorem tK (hh : gK H n S O) {c d : Nat} (h : bf S n c = bf S n d) : c = d := by
  have lt : ∀ {i s}, S[i]? = some s → s < n := fun {i s} hs => by
    obtain ⟨_, _, h, _⟩ := hh.at hs; exact h
  cases hc : S[c]? with
  | some s =>
    cases hd : S[d]? with
    | some t =>
      rw [bW hc, bW hd] at h
      subst h
      exact lY hh.1 hc hd
    | none =>
      rw [bW hc, fw (List.getElem?_eq_none_iff.1 hd)] at h
      have := lt hc; omega
  | none =>
    have l1 := List.getElem?_eq_none_iff.1 hc
    cases hd : S[d]? with
    | some t =>
      rw [bW hd, fw l1] at h
      have := lt hd; omega
    | none =>
      have l2 := List.getElem?_eq_none_iff.1 hd
      rw [fw l1, fw l2] at h
      omega
theorem fh (hh : gK H n S O) {c : Nat} (hc : c < m) : phA φ ψ S n m (bf S n c) = ψ c := by
  have h : ∃ d, d < m ∧ bf S n d = bf S n c := ⟨c, hc, rfl⟩
  show (if h : ∃ d, d < m ∧ bf S n d = bf S n c then ψ h.choose else _) = _
  rw [dif_pos h, tK hh h.choose_spec.2]
theorem rr (hh : gK H n S O) {c : Nat} (hc : c < m) : (phA φ ψ S n m).s (bf S n c) = ψ.s c := by
  have h : ∃ d, d < m ∧ bf S n d = bf S n c := ⟨c, hc, rfl⟩
  show (if h : ∃ d, d < m ∧ bf S n d = bf S n c then ψ.s h.choose else _) = _
  rw [dif_pos h, tK hh h.choose_spec.2]
theorem mN (hh : gK H n S O) {b : Nat} (hb : b < n ∨ n + (m - S.length) ≤ b) (hS : b ∉ S) : (phA φ ψ S n m).s b = φ.s b := by
  have h : ¬ ∃ d, d < m ∧ bf S n d = b := fun ⟨d, h1, e⟩ => by
    cases hd : S[d]? with
    | some s => rw [bW hd] at e; subst e; exact hS (List.mem_of_getElem? hd)
    | none =>
      have := List.getElem?_eq_none_iff.1 hd
      rw [fw this] at e
      rcases hb with hb | hb <;> omega
  show (if h : ∃ d, d < m ∧ bf S n d = b then ψ.s h.choose else φ.s b) = _
  rw [dif_neg h]
theorem wL {b : Nat} (hb : b < n) (hS : b ∉ S) : phA φ ψ S n m b = φ b := by
  have h : ¬ ∃ d, d < m ∧ bf S n d = b := fun ⟨d, _, e⟩ => by
    cases hd : S[d]? with
    | some s => rw [bW hd] at e; subst e; exact hS (List.mem_of_getElem? hd)
    | none => rw [fw (List.getElem?_eq_none_iff.1 hd)] at e; omega
  show (if h : ∃ d, d < m ∧ bf S n d = b then ψ h.choose else _) = _
  rw [dif_neg h, if_pos hb]
theorem tL (hr : HR φ H n h0 hp) (hh : gK H n S O) {b : Nat} (hb : b < n ∨ n + (m - S.length) ≤ b) (hS : b ∉ S) : phA φ ψ S n m b = φ b := by
  rcases hb with hb | hb
  · exact wL hb hS
  · have h : ¬ ∃ d, d < m ∧ bf S n d = b := fun ⟨d, h1, e⟩ => by
      cases hd : S[d]? with
      | some s => rw [bW hd] at e; subst e; exact hS (List.mem_of_getElem? hd)
      | none =>
        have := List.getElem?_eq_none_iff.1 hd
        rw [fw this] at e; omega
    show (if h : ∃ d, d < m ∧ bf S n d = b then ψ h.choose else if b < n then φ b else none) = _
    rw [dif_neg h, if_neg (by omega)]
    cases e : φ b with
    | none => rfl
    | some p => have := (hr.dom b p e).1; omega
theorem Aj (hr : HR φ H n h0 hp) (hh : gK H n S O) (hm : S.length ≤ m) (hle : PLe ⟨fun b => φ (bf S n b), φ.z, φ.z, fun b => φ.s (bf S n b)⟩ ψ) : PLe φ (phA φ ψ S n m) := by
  refine ⟨fun b p e => ?_, fun _ h => .inl h, fun _ h => h⟩
  have hb := (hr.dom b p e).1
  by_cases hS : b ∈ S
  · obtain ⟨i, hi, rfl⟩ := List.mem_iff_getElem.1 hS
    have hi2 : S[i]? = some S[i] := List.getElem?_eq_getElem hi
    have := fh (φ := φ) (ψ := ψ) (m := m) hh (c := i) (by omega)
    rw [bW hi2] at this
    rw [this]
    exact hle.b i p (by show φ (bf S n i) = _; rw [bW hi2]; exact e)
  · rw [wL hb hS]; exact e
theorem HR.after (hr : HR φ H n h0 hp) (hh : gK H n S O) (hm : S.length ≤ m) (hle : PLe ⟨fun b => φ (bf S n b), φ.z, φ.z, fun b => φ.s (bf S n b)⟩ ψ) (hg : HR ψ H' n' (iF φ S O hp) g) (ha : cU S n m H H' H2) : HR (phA φ ψ S n m) H2 (n + (m - S.length)) h0 g := by
  have hple := Aj (m := m) hr hh hm hle
  have pull : ∀ b p, b < m → ψ b = some p → (phA φ ψ S n m).pull (bf S n) b = some p := fun b p hb e => by
    show phA φ ψ S n m (bf S n b) = _
    rw [fh hh hb]; exact e
  have hn0 : ∀ B, (iF φ S O hp).f B = none → h0.f B = none := fun B e => by
    rcases yy e with h | h
    · exact h.base hr hh
    · cases q : h0.f B with
      | none => rfl
      | some o => have := (hr.base B o q).2; rw [h] at this; cases this
  have old : ∀ {b o p}, (b < n ∨ n + (m - S.length) ≤ b) → H.get b = some o → (b ∈ S → o.own = false) → φ b = some p → ∃ ob, h0.f p.B = o.under ob ∧ hp.f p.B = some ob ∧ ¬ tJ φ S O p.B ∧ OR φ p o ob := fun {b o p} hb e hS hp1 => by
    obtain ⟨ob, h1, h2, h3⟩ := hr.of e hp1
    refine ⟨ob, h1, h2, fun hgn => ?_, h3⟩
    by_cases ho : o.own = true
    · rcases hgn with ⟨i, s, o', p', g1, g2, g3, g4, g5⟩ | ⟨i, s, Q, g1, g2, g3⟩
      · have := hr.inj s b _ o p' p (hh.2.2 i s o' g1 g2).2.1 e (by rw [fI]; exact g3) ho g4 hp1 g5
        subst this
        have := hS (List.mem_of_getElem? g1)
        rw [this] at ho; cases ho
      · exact ((hr.sep s Q (hh.2.2 i s _ g1 g2).2.1).2 _ g3).2.1 b o p e ho hp1 rfl
    · have := hgn.base hr hh
      rw [this] at h1
      cases o <;> first | (exact absurd rfl ho; done) | cases h1
  have oldP : ∀ {b o}, (b < n ∨ n + (m - S.length) ≤ b) → H.get b = some o → (b ∈ S → o.own = false) → ∀ p, phA φ ψ S n m b = some p → o.own = true ∨ φ b ≠ none → φ b = some p := fun {b o} hb e hS p hp1 hq => by
    by_cases hbS : b ∈ S
    · have hf := hS hbS
      rcases hq with hq | hq
      · rw [hf] at hq; cases hq
      · cases hφ : φ b with
        | none => exact absurd hφ hq
        | some q =>
          have := hple.b b q hφ
          rw [hp1] at this; rw [this]
    · rw [tL hr hh hb hbS] at hp1; exact hp1
  have oldS : ∀ {b Q B}, H.get b = some (.sep Q) → b ∉ S → φ.s b B → ∃ ob, hp.f B = some ob ∧ (iF φ S O hp).f B = some ob := fun {b Q B} e hS hB => by
    obtain ⟨k1, k2⟩ := hr.sep b Q e
    obtain ⟨ob, h1⟩ := Q.ex _ _ _ B k1 hB
    obtain ⟨_, g2, _, g4⟩ := k2 B hB
    refine ⟨ob, h1, ?_⟩
    rw [hZ (fun hgn => ?_)]
    · exact h1
    · rcases hgn with ⟨i, s, o', p', f1, f2, f3, f4, f5⟩ | ⟨i, s, Q', f1, f2, f3⟩
      · exact g2 s _ p' (hh.2.2 i s o' f1 f2).2.1 (by rw [fI]; exact f3) f4 f5
      · exact g4 s Q' (hh.2.2 i s _ f1 f2).2.1 (fun q => hS (by rw [← q]; exact List.mem_of_getElem? f1)) f3
  have sepS : ∀ {b : Nat} {Q : HP}, (b ∈ S → (AO.sep Q).own = false) → b ∉ S := fun h q => by cases h q
  refine ⟨fun b p e => ?_, fun b o e => ?_, fun b b' o o' p p' e e' ho ho' hp1 hp2 hB => ?_, fun b o e => ?_, Nat.le_trans hr.size hg.size, fun q hq => ?_, fun b Q e => ?_⟩
  rotate_left 5
  · rcases ha b _ e with ⟨c, o', hc, rfl, h1, h2, h3, h4⟩ | ⟨hb, h1, h2⟩
    · have h4 := oN h4.symm
      subst h4
      obtain ⟨k1, k2⟩ := hg.sep c Q h1
      rw [rr hh hc]
      refine ⟨Q.mono _ _ _ _ (fun q hq => Or.inr hq) k1, fun B hB => ?_⟩
      obtain ⟨g1, g2, g3, g4⟩ := k2 B hB
      refine ⟨⟨g1.1, hn0 B g1.2⟩, fun b' o' p' e1 e2 e3 => ?_, fun q hq => ?_, fun b' Q' e1 e2 e3 => ?_⟩
      · rcases ha b' o' e1 with ⟨d, x, hd, rfl, f1, f2, f3, rfl⟩ | ⟨hb', f1, f2⟩
        · rw [fh hh hd] at e3
          exact g2 d x p' f1 f2 e3
        · intro q
          obtain ⟨ob, j1, j2, j3, _⟩ := old hb' f1 f2 (oldP hb' f1 f2 p' e3 (.inl e2))
          rw [← q, hZ j3, j2] at g1; cases g1.2
      · rcases hq with hq | hq
        · exact g3 q (hle.z q hq)
        · exact g3 q hq
      · rcases ha b' _ e1 with ⟨d, x, hd, rfl, f1, f2, f3, f4⟩ | ⟨hb', f1, f2⟩
        · have f4 := oN f4.symm
          subst f4
          rw [rr hh hd] at e3
          exact g4 d Q' f1 (fun q => e2 (by rw [q])) e3
        · have hS' := sepS f2
          rw [mN hh hb' hS'] at e3
          obtain ⟨ob, _, j2⟩ := oldS f1 hS' e3
          rw [j2] at g1; cases g1.2
    · have hS := sepS h2
      obtain ⟨k1, k2⟩ := hr.sep b Q h1
      rw [mN hh hb hS]
      have keepB : ∀ B, φ.s b B → g.f B = hp.f B := fun B hB => by
        obtain ⟨ob, j1, j2⟩ := oldS h1 hS hB
        rw [j1]; exact (hg.base _ _ j2).2
      refine ⟨Q.mono _ _ _ _ (fun q hq => Or.inl hq) (Q.loc _ _ hp _ (show hp.n ≤ g.n from hg.size) keepB k1), fun B hB => ?_⟩
      obtain ⟨g1, g2, g3, g4⟩ := k2 B hB
      obtain ⟨ob, j1, j2⟩ := oldS h1 hS hB
      have hsz : hp.n ≤ g.n := hg.size
      refine ⟨⟨Nat.lt_of_lt_of_le g1.1 hsz, g1.2⟩, fun b' o' p' e1 e2 e3 => ?_, fun q hq => ?_, fun b' Q' e1 e2 e3 => ?_⟩
      · rcases ha b' o' e1 with ⟨d, x, hd, rfl, f1, f2, f3, rfl⟩ | ⟨hb', f1, f2⟩
        · rw [fh hh hd] at e3
          intro q
          obtain ⟨ob', f4, _⟩ := hg.of f1 e3
          rw [AO.bd f2, q, j2] at f4; cases f4
        · exact g2 b' o' p' f1 e2 (oldP hb' f1 f2 p' e3 (.inl e2))
      · rcases hq with hq | hq
        · exact g3 q hq
        · intro q2
          rcases (hg.frz q hq).1.2 with k | k
          · exact g3 q (hle.y q k) q2
          · rw [q2, j2] at k; cases k
      · rcases ha b' _ e1 with ⟨d, x, hd, rfl, f1, f2, f3, f4⟩ | ⟨hb', f1, f2⟩
        · have f4 := oN f4.symm
          subst f4
          rw [rr hh hd] at e3
          have := ((hg.sep d Q' f1).2 B e3).1.2
          rw [j2] at this; cases this
        · rw [mN hh hb' (sepS f2)] at e3
          exact g4 b' Q' f1 e2 e3
  · have e : (if h : ∃ c, c < m ∧ bf S n c = b then ψ h.choose else if b < n then φ b else none) = some p := e
    split at e
    · rename_i h
      obtain ⟨h1, h2⟩ := h.choose_spec
      refine ⟨?_, (hg.dom _ _ e).2⟩
      generalize h.choose = c at h1 h2
      cases hc : S[c]? with
      | some s => rw [bW hc] at h2; obtain ⟨_, _, h3, _⟩ := hh.at hc; omega
      | none =>
        have := List.getElem?_eq_none_iff.1 hc
        rw [fw this] at h2; omega
    · split at e
      · have := hr.dom b p e
        have hsz : hp.n ≤ g.n := hg.size
        omega
      · cases e
  · rcases ha b o e with ⟨c, o', hc, rfl, h1, h2, h3, rfl⟩ | ⟨hb, h1, h2⟩
    · rcases hg.live c o' h1 with ⟨h4, h5⟩ | ⟨p, ob, h4, h5, h6, h7⟩
      · exact .inl ⟨by rw [fh hh hc]; exact h4, by rw [mM]; exact h5⟩
      · refine .inr ⟨p, ob, by rw [fh hh hc]; exact h4, ?_, h6, ?_⟩
        · rw [lf, AO.bd h2]
          rw [AO.bd h2] at h5
          exact hn0 _ h5
        · exact (OR.pull (χ := phA φ ψ S n m)).2 (h7.below (m := m) pull (fun _ h => .inr h) h3)
    · rcases hr.live b o h1 with ⟨h3, h4⟩ | ⟨p, ob, h3, _⟩
      · by_cases hbS : b ∈ S
        · obtain ⟨i, hi, rfl⟩ := List.mem_iff_getElem.1 hbS
          obtain ⟨o', g1, _, g2, g3⟩ := hh.at (List.getElem?_eq_getElem hi)
          rw [h1] at g2; injection g2 with g2
          rcases g3 with g3 | g3
          · have q := h2 hbS
            rw [g2] at h4 q
            rw [mM] at h4
            rw [fI] at q
            cases o' with
            | sep Q => cases q
            | cells l z => rw [show (AO.cells l z).free = (AO.cells l z).void from rfl, g3] at h4; cases h4
            | ro l => rw [show (AO.ro l).free = (AO.ro l).void from rfl, g3] at h4; cases h4
            | map es => cases h4
            | iter _ _ _ => cases h4
          · have := h2 hbS
            rw [g2, fI, g3] at this; cases this
        · exact .inl ⟨by rw [tL hr hh hb hbS]; exact h3, h4⟩
      · obtain ⟨ob, h4, h5, h6, h7⟩ := old hb h1 h2 h3
        exact .inr ⟨p, ob, hple.b b p h3, h4, (hg.base _ _ (by rw [hZ h6]; exact h5)).2, h7.mono hple⟩
  · rcases ha b o e with ⟨c, x, hc, rfl, h1, h2, h3, rfl⟩ | ⟨hb, h1, h2⟩ <;> rcases ha b' o' e' with ⟨d, y, hd, rfl, k1, k2, k3, rfl⟩ | ⟨hb', k1, k2⟩
    · rw [fh hh hc] at hp1
      rw [fh hh hd] at hp2
      rw [hg.inj c d x y p p' h1 k1 h2 k2 hp1 hp2 hB]
    · exfalso
      rw [fh hh hc] at hp1
      have hp2' := oldP hb' k1 k2 p' hp2 (.inl ho')
      obtain ⟨ob, g1, g2, g3, _⟩ := old hb' k1 k2 hp2'
      obtain ⟨ob', g4, _⟩ := hg.of h1 hp1
      rw [AO.bd h2, hB, hZ g3, g2] at g4; cases g4
    · exfalso
      rw [fh hh hd] at hp2
      have hp1' := oldP hb h1 h2 p hp1 (.inl ho)
      obtain ⟨ob, g1, g2, g3, _⟩ := old hb h1 h2 hp1'
      obtain ⟨ob', g4, _⟩ := hg.of k1 hp2
      rw [AO.bd k2, ← hB, hZ g3, g2] at g4; cases g4
    · exact hr.inj b b' o o' p p' h1 k1 ho ho' (oldP hb h1 h2 p hp1 (.inl ho)) (oldP hb' k1 k2 p' hp2 (.inl ho')) hB
  · obtain ⟨_, h1⟩ := hr.base b o e
    have h2 : ¬ tJ φ S O b := fun hgn => by rw [hgn.base hr hh] at e; cases e
    exact hg.base b o (by rw [hZ h2]; exact h1)
  · rcases hq with hq | hq
    · obtain ⟨⟨h1, h2⟩, h3⟩ := hr.frz q hq
      have hψ : ψ.z q := hle.z q hq
      obtain ⟨⟨k1, k2⟩, k3⟩ := hg.frz q hψ
      refine ⟨⟨FzR.mono (φ := ψ) (ψ := phA φ ψ S n m) (fun _ h => Or.inr h) k1, h2⟩, fun b o p e ho hp1 => ?_⟩
      rcases ha b o e with ⟨c, x, hc, rfl, g1, g2, g3, rfl⟩ | ⟨hb, g1, g2⟩
      · rw [fh hh hc] at hp1
        exact k3 c x p g1 g2 hp1
      · exact h3 b o p g1 ho (oldP hb g1 g2 p hp1 (.inl ho))
    · obtain ⟨⟨k1, k2⟩, k3⟩ := hg.frz q hq
      refine ⟨⟨FzR.mono (φ := ψ) (ψ := phA φ ψ S n m) (fun _ h => Or.inr h) k1, ?_⟩, fun b o p e ho hp1 => ?_⟩
      · rcases k2 with k2 | k2
        · exact (hr.frz q (hle.y q k2)).1.2
        · exact .inr (hn0 _ k2)
      · rcases ha b o e with ⟨c, x, hc, rfl, g1, g2, g3, rfl⟩ | ⟨hb, g1, g2⟩
        · rw [fh hh hc] at hp1
          exact k3 c x p g1 g2 hp1
        · have hp1' := oldP hb g1 g2 p hp1 (.inl ho)
          obtain ⟨ob, j1, j2, j3, _⟩ := old hb g1 g2 hp1'
          rcases k2 with k2 | k2
          · exact (hr.frz q (hle.y q k2)).2 b o p g1 ho hp1'
          · intro hB
            rw [← hB, hZ j3, j2] at k2; cases k2
end
noncomputable def gQ (S : List Nat) (n : Nat) (H : AH) : List (Nat × Option AO) → AH
  | [] => H
  | x :: l => (gQ S n H l).set (x.2.map (dS (bf S n))) aa (bf S n x.1)
theorem tM {S : List Nat} {n : Nat} {H : AH} : ∀ {l : List (Nat × Option AO)} {b : Nat} {o : AO}, (gQ S n H l).get b = some o → (∃ x ∈ l, ∃ o', b = bf S n x.1 ∧ x.2 = some o' ∧ o = dS (bf S n) o') ∨ (H.get b = some o ∧ ∀ x ∈ l, b ≠ bf S n x.1)
  | [], b, o, h => .inr ⟨h, fun x hx => by cases hx⟩
  | x :: l, b, o, h => by
    rcases PM.ao aa _ _ b o (show ((gQ S n H l).set (x.2.map (dS (bf S n))) aa (bf S n x.1)).get b = some o from h) with ⟨h1, h2⟩ | ⟨h1, h2⟩
    · rw [Option.map_eq_some_iff] at h2
      obtain ⟨o', h3, h4⟩ := h2
      exact .inl ⟨x, List.mem_cons_self, o', h1, h3, h4.symm⟩
    · rcases tM h2 with ⟨y, h3, h4⟩ | ⟨h3, h4⟩
      · exact .inl ⟨y, List.mem_cons_of_mem _ h3, h4⟩
      · refine .inr ⟨h3, fun y hy => ?_⟩
        rcases List.mem_cons.1 hy with rfl | hy
        · exact h1
        · exact h4 y hy
theorem cU.put {S : List Nat} {n m : Nat} {H H' : AH} {l : List (Nat × Option AO)} (hm : S.length ≤ m) (hl : l.map (·.1) = List.range m) (h : ∀ x ∈ l, ∀ o, x.2 = some o → H'.get x.1 = some o ∧ o.own = true ∧ ltO m o = true) : cU S n m H H' (gQ S n H l) := fun b o e => by
  rcases tM e with ⟨x, h1, o', h2, h3, h4⟩ | ⟨h1, h2⟩
  · obtain ⟨k1, k2, k3⟩ := h x h1 o' h3
    have : x.1 ∈ List.range m := hl ▸ List.mem_map.2 ⟨x, h1, rfl⟩
    exact .inl ⟨x.1, o', List.mem_range.1 this, h2, k1, k2, k3, h4⟩
  · have key : ∀ c, c < m → b ≠ bf S n c := fun c hc => by
      have : c ∈ l.map (·.1) := hl ▸ List.mem_range.2 hc
      obtain ⟨x, h3, rfl⟩ := List.mem_map.1 this
      exact h2 x h3
    refine .inr ⟨?_, h1, fun hS => ?_⟩
    · by_cases q : b < n
      · exact .inl q
      · refine .inr ?_
        rcases Nat.lt_or_ge b (n + (m - S.length)) with q2 | q2
        · exfalso
          refine key (S.length + (b - n)) (by omega) ?_
          rw [fw (by omega)]; omega
        · exact q2
    · obtain ⟨i, hi, rfl⟩ := List.mem_iff_getElem.1 hS
      exact absurd (bW (n := n) (List.getElem?_eq_getElem hi)).symm (key i (by omega))
theorem cU.same {S : List Nat} {n : Nat} {H H' : AH} (h : ∀ (i s : Nat) o, S[i]? = some s → H.get s = some o → o.own = true → ∃ o', H'.get i = some o' ∧ o'.own = true ∧ ltO S.length o' = true ∧ o = dS (bf S n) o') : cU S n S.length H H' H := fun b o e => by
  by_cases hb : b ∈ S
  · obtain ⟨i, hi, rfl⟩ := List.mem_iff_getElem.1 hb
    by_cases ho : o.own = true
    · obtain ⟨o', h1, h2, h3, h4⟩ := h i S[i] o (List.getElem?_eq_getElem hi) e ho
      exact .inl ⟨i, o', hi, (bW (List.getElem?_eq_getElem hi)).symm, h1, h2, h3, h4⟩
    · exact .inr ⟨by omega, e, fun _ => by simpa using ho⟩
  · exact .inr ⟨by omega, e, fun h => absurd h hb⟩
theorem cG {f : FuncId} {run : List AV → AH → Nat → PK → Prop} (hrun : aM f run) {φ : Ph} {H : AH} {n : Nat} {h0 hp : Hp} {S : List Nat} {O : List AO} {args0 : List AV} {κ : PK} {K : KH} {vs : Array Value} (hic : ah Try.prog f = true)
    (hr : HR φ H n h0 hp) (hh : gK H n S O) (hargs : VRs φ (dq (bf S n) args0) vs.toList) (hk : cq φ h0 κ K)
    {Q : PK} (h : run args0 (mkH (dH O 0)) S.length Q) (hQ : ∀ u H' n', Q u H' n' → ∃ m H2, S.length ≤ m ∧ cU S n m H H' H2 ∧ ltV m u = true ∧ κ (ren (bf S n) u) H2 (n + (m - S.length))) : dg Try.prog f vs hp K := by
  have key : Wf hp → dg Try.prog f vs hp K := fun hw => hrun args0 _ _ _ h ⟨fun b => φ (bf S n b), φ.z, φ.z, fun b => φ.s (bf S n b)⟩ (iF φ S O hp) hp vs K (hr.small hh hw) (VRs.cx (φ := φ.pull (bf S n)) (ψ := ⟨fun b => φ (bf S n b), φ.z, φ.z, fun b => φ.s (bf S n b)⟩) ⟨fun _ _ h => h, fun _ h => h⟩ _ _ ((VRs.pull (χ := φ) (r := bf S n) args0 vs.toList).1 hargs)) fun ψ u H' n' w g hle hg hu hq => by
    obtain ⟨m, H2, hm, ha, hl, hκ⟩ := hQ u H' n' hq
    exact hk _ _ _ _ w g (Aj hr hh hm hle) (hr.after hh hm hle hg ha) ((VR.pull (χ := phA φ ψ S n m) u w).2 (VR.below (ψ := ψ) (m := m) (fun b p hb e => by
      show phA φ ψ S n m (bf S n b) = _
      rw [fh hh hb]; exact e) (fun _ h => Or.inr h) u w hl hu)) hκ
  exact ⟨hic, fun w hi => (key hi.wf).2 w hi⟩
theorem HR.FY {φ : Ph} {H : AH} {n : Nat} {h0 h : Hp} (hr : HR φ H n h0 h) {b : Nat} {o o' : AO} (hb : H.get b = some o) (hown : o.own = true) (hown' : o'.own = true) (hv : o.free = true → o'.free = true) (ho : ∀ p ob, φ b = some p → h.f p.B = some ob → OR φ p o ob → OR φ p o' ob) (hns : o'.x8 = none := by rfl) : HR φ (H.set (some o') aa b) n h0 h := by
  have back : ∀ z r, (H.set (some o') aa b).get z = some r → r.own = true → ∃ r', H.get z = some r' ∧ r'.own = true := fun z r hz hw2 => by
    rcases PM.ao aa H b z r hz with ⟨rfl, _⟩ | ⟨_, h2⟩
    · exact ⟨o, hb, hown⟩
    · exact ⟨r, h2, hw2⟩
  refine ⟨hr.dom, fun x q hx => ?_, fun x y q q' px py hx hy hwx hwy hpx hpy e => ?_, hr.base, hr.size, fun q hq => ⟨(hr.frz q hq).1, fun y oy py hy hwy hpy => ?_⟩, hr.kA (Nat.le_refl _) (fun x Q hx => ?_) (fun _ h => h) (fun _ h => .inl h) (fun _ _ _ _ _ => rfl) fun b' o1 p' e1 e2 e3 => ?_⟩
  rotate_left 3
  · rcases PM.ao aa H b x _ hx with ⟨_, h2⟩ | ⟨_, h2⟩
    · injection h2 with h2; subst h2; cases hns
    · exact ⟨h2, rfl⟩
  · obtain ⟨r, h1, h2⟩ := back b' o1 e1 e2
    exact .inl ⟨b', r, p', h1, h2, e3, rfl⟩
  · rcases PM.ao aa H b x q hx with ⟨rfl, h2⟩ | ⟨h1, h2⟩
    · injection h2 with h2
      subst h2
      rcases hr.live x o hb with ⟨h3, h4⟩ | ⟨p, ob, h3, h4, h5, h6⟩
      · exact .inl ⟨h3, hv h4⟩
      · exact .inr ⟨p, ob, h3, by rw [AO.bd hown']; rw [AO.bd hown] at h4; exact h4, h5, ho p ob h3 h5 h6⟩
    · exact hr.live x q h2
  · obtain ⟨r, hr1, hr3⟩ := back x q hx hwx
    obtain ⟨r', hr2, hr4⟩ := back y q' hy hwy
    exact hr.inj x y r r' px py hr1 hr2 hr3 hr4 hpx hpy e
  · obtain ⟨r, hr1, hr3⟩ := back y oy hy hwy
    exact (hr.frz q hq).2 y r py hr1 hr3 hpy
theorem HR.Ak {φ : Ph} {H : AH} {n : Nat} {h0 h : Hp} (hr : HR φ H n h0 h) {b : Nat} {l l' : List AV} {z : Bool} (hb : H.get b = some (.cells l z)) (hl : l'.length = l.length) (hc : ∀ (i : Nat) (a' : AV), l'[i]? = some a' → ∃ a, l[i]? = some a ∧ ∀ v, VR φ a v → VR φ a' v) : HR φ (H.set (some (.cells l' z)) aa b) n h0 h :=
  hr.FY hb rfl rfl (fun q => by cases l with
    | nil => cases l' with
      | nil => rfl
      | cons _ _ => simp at hl
    | cons _ _ => cases q) fun p ob _ _ ⟨c, t, fz, h1, h2, h3, h4, h5, h6⟩ => ⟨c, t, fz, h1, by rw [hl]; exact h2, h3, h4, h5, fun i a' hi => by
      obtain ⟨a, h7, h8⟩ := hc i a' hi
      obtain ⟨v, h9, h10⟩ := h6 i a h7
      exact ⟨v, h9, h8 v h10⟩⟩
end Go.Proofs.Ytapjijhjnloimaa
namespace Go.Proofs.Ytapjijhjnloimaa
open Go Go.RowKit
abbrev Pk := List ((Nat × Nat) × List AV)
def rv (p : Nat × Nat) : Value := .pointer (some ⟨p.1, p.2, none⟩)
def fk (p : Nat × Nat) : AV := .any (rv p)
def nD (p : Nat × Nat) (l : List AV) (h : Hp) : Prop := l.all flat.flat1 = true ∧ ∃ T c t, h.f p.1 = some (.cells c t (0, 0)) ∧ l.length ≤ T ∧ p.2 + T ≤ c.size ∧ CR Ph.no c p.2 l
def pkB (Cs : Pk) : List Nat := Cs.map fun c => c.1.1
theorem wM {A B : Pk} {p : Nat × Nat} {l : List AV} : (pkB (A ++ (p, l) :: B)).Nodup ↔ p.1 ∉ pkB (A ++ B) ∧ (pkB (A ++ B)).Nodup := by
  have h : (pkB (A ++ (p, l) :: B)).Perm (p.1 :: pkB (A ++ B)) := (List.perm_middle (l₁ := A) (l₂ := B) (a := (p, l))).map _
  rw [h.nodup_iff, List.nodup_cons]
def pk (Cs : Pk) : HP where
  P _ S h := (∀ B, S B → ∃ o, h.f B = some o) ∧ (pkB Cs).Nodup ∧ ∀ c ∈ Cs, S c.1.1 ∧ nD c.1 c.2 h
  loc z S h g _ e hp := ⟨fun B hB => by
    obtain ⟨o, ho⟩ := hp.1 B hB
    exact ⟨o, (e B hB).trans ho⟩, hp.2.1, fun c hc => ⟨(hp.2.2 c hc).1, by
    obtain ⟨k1, T, c', t, k2, k3⟩ := (hp.2.2 c hc).2
    exact ⟨k1, T, c', t, (e _ (hp.2.2 c hc).1).trans k2, k3⟩⟩⟩
  mono _ _ _ _ _ h := h
  ex _ _ _ B h hB := h.1 B hB
theorem PM.cr {α : Type} {v : Option α} : ∀ (f : Nat) (t : PM α) (n : Nat), n + 1 < 2 ^ f → (PM.set v f t n).get n = v
  | 0, t, n, h => by simp at h
  | f + 1, .nil, 0, h => rfl
  | f + 1, .node l u r, 0, h => rfl
  | f + 1, .nil, n + 1, h => by
    have h2 : n / 2 + 1 < 2 ^ f := by rw [Nat.pow_succ] at h; omega
    rw [PM.s9]
    split
    · rename_i q
      rw [PM.aS, if_pos q]; exact PM.cr f .nil (n / 2) h2
    · rename_i q
      rw [PM.aS, if_neg q]; exact PM.cr f .nil (n / 2) h2
  | f + 1, .node l u r, n + 1, h => by
    have h2 : n / 2 + 1 < 2 ^ f := by rw [Nat.pow_succ] at h; omega
    rw [PM.p6]
    split
    · rename_i q
      rw [PM.aS, if_pos q]; exact PM.cr f l (n / 2) h2
    · rename_i q
      rw [PM.aS, if_neg q]; exact PM.cr f r (n / 2) h2
theorem bZ {n : Nat} (h : n < 1000000) : n + 1 < 2 ^ aa := by
  have : (1000001 : Nat) < 2 ^ aa := by show 1000001 < 2 ^ 40; decide
  omega
section
variable {φ : Ph} {H : AH} {n : Nat} {h0 h : Hp} {b : Nat} {A B : Pk} {p : Nat × Nat} {l l' : List AV}
theorem HR.ry (hr : HR φ H n h0 h) {Q : HP} (hb : H.get b = some (.sep Q)) : φ b = none := by
  rcases hr.live b _ hb with ⟨h1, _⟩ | ⟨q, ob, _, _, _, h4⟩
  · exact h1
  · exact h4.elim
theorem HR.wN (hr : HR φ H n h0 h) (hbn : b < n) (hb : H.get b = some (.sep (pk (A ++ (p, l) :: B)))) :
    ∃ ψ T, PLe φ ψ ∧ ψ n = some ⟨p.1, p.2, T⟩ ∧ HR ψ ((H.set (some (.sep (pk (A ++ B)))) aa b).set (some (.cells l true)) aa n) (n + 1) h0 h := by
  obtain ⟨⟨s1, s2, s3⟩, s4⟩ := hr.sep b _ hb
  obtain ⟨hS, hfl, T, c, t, hc1, hc2, hc3, hc4⟩ := s3 (p, l) (by simp)
  obtain ⟨⟨k1, k2⟩, k3, k4, k5⟩ := s4 p.1 hS
  have hnd : p.1 ∉ pkB (A ++ B) ∧ (pkB (A ++ B)).Nodup := wM.1 s2
  have hbo := hr.ry hb
  have hn0 : φ n = none := by
    cases e : φ n with
    | none => rfl
    | some q => exact absurd (hr.dom n q e).1 (Nat.lt_irrefl _)
  let ψ : Ph := ⟨fun x => if x = n then some ⟨p.1, p.2, T⟩ else φ x, φ.z, φ.y, fun x => if x = b then (fun X => φ.s b X ∧ X ≠ p.1) else φ.s x⟩
  have hle : PLe φ ψ := ⟨fun x q e => by
    show (if x = n then _ else φ x) = some q
    rw [if_neg (fun q => by subst q; rw [hn0] at e; cases e)]; exact e, fun _ h => h, fun _ h => h⟩
  have ψn : ψ n = some ⟨p.1, p.2, T⟩ := if_pos rfl
  have ψo : ∀ x, x ≠ n → ψ x = φ x := fun x hx => if_neg hx
  have cs : ∀ x o, ((H.set (some (.sep (pk (A ++ B)))) aa b).set (some (.cells l true)) aa n).get x = some o → (x = n ∧ o = .cells l true) ∨ (x ≠ n ∧ ((x = b ∧ o = .sep (pk (A ++ B))) ∨ (x ≠ b ∧ H.get x = some o))) := fun x o hx => by
    rcases PM.ao aa _ n x o hx with ⟨h1, h2⟩ | ⟨h1, h2⟩
    · injection h2 with h2; exact .inl ⟨h1, h2.symm⟩
    · rcases PM.ao aa H b x o h2 with ⟨h3, h4⟩ | ⟨h3, h4⟩
      · injection h4 with h4; exact .inr ⟨h1, .inl ⟨h3, h4.symm⟩⟩
      · exact .inr ⟨h1, .inr ⟨h3, h4⟩⟩
  have old : ∀ x o q, ((H.set (some (.sep (pk (A ++ B)))) aa b).set (some (.cells l true)) aa n).get x = some o → o.own = true → ψ x = some q → (x = n ∧ q = ⟨p.1, p.2, T⟩) ∨ (x ≠ n ∧ H.get x = some o ∧ φ x = some q) := fun x o q hx ho hq => by
    rcases cs x o hx with ⟨h1, _⟩ | ⟨h1, ⟨h3, _⟩ | ⟨h3, h4⟩⟩
    · subst h1; rw [ψn] at hq; injection hq with hq; exact .inl ⟨rfl, hq.symm⟩
    · subst h3; rw [ψo _ h1, hbo] at hq; cases hq
    · rw [ψo _ h1] at hq; exact .inr ⟨h1, h4, hq⟩
  refine ⟨ψ, T, hle, ψn, ⟨fun x q hx => ?_, fun x o hx => ?_, fun x y o o' q q' hx hy ho ho' hq hq' e => ?_, hr.base, hr.size, fun q hq => ?_, fun x Q hx => ?_⟩⟩
  · by_cases hxn : x = n
    · subst hxn; rw [ψn] at hx; injection hx with hx; subst hx
      exact ⟨Nat.lt_succ_self _, k1⟩
    · rw [ψo _ hxn] at hx
      have := hr.dom x q hx
      exact ⟨by omega, this.2⟩
  · rcases cs x o hx with ⟨rfl, rfl⟩ | ⟨h1, ⟨rfl, rfl⟩ | ⟨h3, h4⟩⟩
    · exact .inr ⟨_, _, ψn, k2, hc1, c, t, (0, 0), rfl, hc2, hc3, eO _ _, fun _ => rfl, CR.cx (φ := Ph.no) (ψ := ψ) ⟨(fun _ _ h => by cases h), fun _ h => h.elim⟩ hc4⟩
    · exact .inl ⟨by rw [ψo _ h1]; exact hbo, rfl⟩
    · rcases hr.live x o h4 with ⟨g1, g2⟩ | ⟨q, ob, g1, g2, g3, g4⟩
      · exact .inl ⟨by rw [ψo _ h1]; exact g1, g2⟩
      · exact .inr ⟨q, ob, by rw [ψo _ h1]; exact g1, g2, g3, g4.mono hle⟩
  · rcases old x o q hx ho hq with ⟨rfl, rfl⟩ | ⟨a1, a2, a3⟩ <;> rcases old y o' q' hy ho' hq' with ⟨rfl, rfl⟩ | ⟨b1, b2, b3⟩
    · rfl
    · exact absurd e.symm (k3 y o' q' b2 ho' b3)
    · exact absurd e (k3 x o q a2 ho a3)
    · exact hr.inj x y o o' q q' a2 b2 ho ho' a3 b3 e
  · refine ⟨⟨FzR.mono (φ := φ) (ψ := ψ) hle.z (hr.frz q hq).1.1, (hr.frz q hq).1.2⟩, fun x o px hx ho hpx => ?_⟩
    rcases old x o px hx ho hpx with ⟨rfl, rfl⟩ | ⟨a1, a2, a3⟩
    · exact fun e => k4 q hq e.symm
    · exact (hr.frz q hq).2 x o px a2 ho a3
  · rcases cs x _ hx with ⟨_, h2⟩ | ⟨h1, ⟨rfl, h2⟩ | ⟨h3, h4⟩⟩
    · cases h2
    · injection h2 with h2; subst h2
      have es : ψ.s x = fun X => φ.s x X ∧ X ≠ p.1 := if_pos rfl
      rw [es]
      refine ⟨⟨fun X hX => s1 X hX.1, hnd.2, fun d hd => ?_⟩, fun X hX => ?_⟩
      · have hd2 : d ∈ A ++ (p, l) :: B := by
          rcases List.mem_append.1 hd with q | q
          · exact List.mem_append_left _ q
          · exact List.mem_append_right _ (List.mem_cons_of_mem _ q)
        exact ⟨⟨(s3 d hd2).1, fun e => hnd.1 (e ▸ List.mem_map_of_mem hd)⟩, (s3 d hd2).2⟩
      · obtain ⟨g1, g2, g3, g4⟩ := s4 X hX.1
        refine ⟨g1, fun y o q hy ho hq => ?_, g3, fun y Q' hy hne hs => ?_⟩
        · rcases old y o q hy ho hq with ⟨rfl, rfl⟩ | ⟨a1, a2, a3⟩
          · exact fun e => hX.2 e.symm
          · exact g2 y o q a2 ho a3
        · rcases cs y _ hy with ⟨_, q2⟩ | ⟨q1, ⟨q3, _⟩ | ⟨q3, q4⟩⟩
          · cases q2
          · exact hne q3
          · have : ψ.s y = φ.s y := if_neg q3
            rw [this] at hs
            exact g4 y Q' q4 hne hs
    · obtain ⟨g0, g⟩ := hr.sep x Q h4
      have es : ψ.s x = φ.s x := if_neg h3
      rw [es]
      refine ⟨g0, fun X hX => ?_⟩
      obtain ⟨g1, g2, g3, g4⟩ := g X hX
      refine ⟨g1, fun y o q hy ho hq => ?_, g3, fun y Q' hy hne hs => ?_⟩
      · rcases old y o q hy ho hq with ⟨rfl, rfl⟩ | ⟨a1, a2, a3⟩
        · exact fun (e : p.1 = X) => k5 x Q h4 h3 (by rw [e]; exact hX)
        · exact g2 y o q a2 ho a3
      · rcases cs y _ hy with ⟨_, q2⟩ | ⟨q1, ⟨q3, _⟩ | ⟨q3, q4⟩⟩
        · cases q2
        · subst q3
          have : ψ.s y = fun X => φ.s y X ∧ X ≠ p.1 := if_pos rfl
          rw [this] at hs
          exact g4 y _ hb hne hs.1
        · have : ψ.s y = φ.s y := if_neg q3
          rw [this] at hs
          exact g4 y Q' q4 hne hs
theorem HR.mO (hr : HR φ H n h0 h) {m T : Nat} (hbm : b ≠ m) (hb : H.get b = some (.sep (pk (A ++ B)))) (hm : H.get m = some (.cells l true)) (hp : φ m = some ⟨p.1, p.2, T⟩) (hl : l.map Go.Proofs.Ytapjijhjnloimaa.mk = l'.map Go.Proofs.Ytapjijhjnloimaa.mk) (hf : l'.all flat.flat1 = true) :
    ∃ ψ, SLe φ ψ ∧ PLe φ ψ ∧ ψ.f = φ.f ∧ HR ψ ((H.set none aa m).set (some (.sep (pk (A ++ (p, l') :: B)))) aa b) n h0 h := by
  obtain ⟨⟨s1, s2, s3⟩, s4⟩ := hr.sep b _ hb
  obtain ⟨ob, o1, o2, c, t, fz, rfl, o3, o4, o5, o6, o7⟩ := hr.of hm hp
  have o6 := o6 rfl
  subst o6
  have hbo := hr.ry hb
  have hpS : ¬ φ.s b p.1 := fun q => (s4 p.1 q).2.1 m _ _ hm rfl hp rfl
  let ψ : Ph := ⟨φ.f, φ.z, φ.y, fun x => if x = b then (fun X => φ.s b X ∨ X = p.1) else φ.s x⟩
  have cs : ∀ x o, ((H.set none aa m).set (some (.sep (pk (A ++ (p, l') :: B)))) aa b).get x = some o → (x = b ∧ o = .sep (pk (A ++ (p, l') :: B))) ∨ (x ≠ b ∧ x ≠ m ∧ H.get x = some o) := fun x o hx => by
    rcases PM.ao aa _ b x o hx with ⟨h1, h2⟩ | ⟨h1, h2⟩
    · injection h2 with h2; exact .inl ⟨h1, h2.symm⟩
    · rcases PM.ao aa H m x o h2 with ⟨h3, h4⟩ | ⟨h3, h4⟩
      · cases h4
      · exact .inr ⟨h1, h3, h4⟩
  have own : ∀ x o q, ((H.set none aa m).set (some (.sep (pk (A ++ (p, l') :: B)))) aa b).get x = some o → o.own = true → φ x = some q → x ≠ m ∧ H.get x = some o := fun x o q hx ho hq => by
    rcases cs x o hx with ⟨rfl, _⟩ | ⟨_, h2, h3⟩
    · rw [hbo] at hq; cases hq
    · exact ⟨h2, h3⟩
  have sle : SLe φ ψ := ⟨fun _ _ h => h, fun _ h => h⟩
  refine ⟨ψ, sle, ⟨fun _ _ h => h, fun _ h => h, fun _ h => h⟩, rfl, ⟨hr.dom, fun x o hx => ?_, fun x y o o' q q' hx hy ho ho' hq hq' e => ?_, hr.base, hr.size, fun q hq => ⟨⟨FzR.mono (φ := φ) (ψ := ψ) sle.z (hr.frz q hq).1.1, (hr.frz q hq).1.2⟩, fun x o px hx ho hpx => (hr.frz q hq).2 x o px (own x o px hx ho hpx).2 ho hpx⟩, fun x Q hx => ?_⟩⟩
  · rcases cs x o hx with ⟨rfl, rfl⟩ | ⟨_, _, h4⟩
    · exact .inl ⟨hbo, rfl⟩
    · rcases hr.live x o h4 with g | ⟨q, ob, g1, g2, g3, g4⟩
      · exact .inl g
      · exact .inr ⟨q, ob, g1, g2, g3, g4.cx sle⟩
  · exact hr.inj x y o o' q q' (own x o q hx ho hq).2 (own y o' q' hy ho' hq').2 ho ho' hq hq' e
  · rcases cs x _ hx with ⟨rfl, h2⟩ | ⟨h1, hxm, h4⟩
    · injection h2 with h2; subst h2
      have es : ψ.s x = fun X => φ.s x X ∨ X = p.1 := if_pos rfl
      rw [es]
      refine ⟨⟨fun X hX => ?_, ?_, fun d hd => ?_⟩, fun X hX => ?_⟩
      · rcases hX with hX | rfl
        · exact s1 X hX
        · exact ⟨_, o2⟩
      · refine wM.2 ⟨fun q => ?_, s2⟩
        obtain ⟨d, hd, e⟩ := List.mem_map.1 q
        exact hpS (e ▸ (s3 d hd).1)
      · have hd2 : d = (p, l') ∨ d ∈ A ++ B := by
          rcases List.mem_append.1 hd with q | q
          · exact .inr (List.mem_append_left _ q)
          · rcases List.mem_cons.1 q with q | q
            · exact .inl q
            · exact .inr (List.mem_append_right _ q)
        rcases hd2 with rfl | hd2
        · refine ⟨.inr rfl, hf, T, c, t, o2, ?_, o4, o7.jh hl hf⟩
          have : l'.length = l.length := by have := congrArg List.length hl; simpa using this.symm
          rw [this]; exact o3
        · exact ⟨.inl (s3 d hd2).1, (s3 d hd2).2⟩
      · rcases hX with hX | rfl
        · obtain ⟨g1, g2, g3, g4⟩ := s4 X hX
          refine ⟨g1, fun y o q hy ho hq => g2 y o q (own y o q hy ho hq).2 ho hq, g3, fun y Q' hy hne hs => ?_⟩
          rcases cs y _ hy with ⟨q1, _⟩ | ⟨q1, _, q4⟩
          · exact hne q1
          · have : ψ.s y = φ.s y := if_neg q1
            rw [this] at hs
            exact g4 y Q' q4 hne hs
        · refine ⟨⟨(hr.dom m _ hp).2, o1⟩, fun y o q hy ho hq e => ?_, fun q hq e => (hr.frz q hq).2 m _ _ hm rfl hp e.symm, fun y Q' hy hne hs => ?_⟩
          · obtain ⟨a1, a2⟩ := own y o q hy ho hq
            exact a1 (hr.inj y m o _ q _ a2 hm ho rfl hq hp e)
          · rcases cs y _ hy with ⟨q1, _⟩ | ⟨q1, _, q4⟩
            · exact hne q1
            · have : ψ.s y = φ.s y := if_neg q1
              rw [this] at hs
              exact ((hr.sep y Q' q4).2 _ hs).2.1 m _ _ hm rfl hp rfl
    · obtain ⟨g0, g⟩ := hr.sep x Q h4
      have es : ψ.s x = φ.s x := if_neg h1
      rw [es]
      refine ⟨g0, fun X hX => ?_⟩
      obtain ⟨g1, g2, g3, g4⟩ := g X hX
      refine ⟨g1, fun y o q hy ho hq => g2 y o q (own y o q hy ho hq).2 ho hq, g3, fun y Q' hy hne hs => ?_⟩
      rcases cs y _ hy with ⟨rfl, _⟩ | ⟨q1, _, q4⟩
      · have : ψ.s y = fun X => φ.s y X ∨ X = p.1 := if_pos rfl
        rw [this] at hs
        rcases hs with hs | rfl
        · exact g4 y _ hb hne hs
        · exact g2 m _ _ hm rfl hp rfl
      · have : ψ.s y = φ.s y := if_neg q1
        rw [this] at hs
        exact g4 y Q' q4 hne hs
theorem HR.wO (hr : HR φ H n h0 h) {Q Q' : HP} (hb : H.get b = some (.sep Q)) (hq : ∀ z S h, Q.P z S h → Q'.P z S h) : HR φ (H.set (some (.sep Q')) aa b) n h0 h := by
  have cs : ∀ x o, (H.set (some (.sep Q')) aa b).get x = some o → (x = b ∧ o = .sep Q') ∨ (x ≠ b ∧ H.get x = some o) := fun x o hx => by
    rcases PM.ao aa H b x o hx with ⟨h1, h2⟩ | h2
    · injection h2 with h2; exact .inl ⟨h1, h2.symm⟩
    · exact .inr h2
  have hbo := hr.ry hb
  have own : ∀ x o q, (H.set (some (.sep Q')) aa b).get x = some o → φ x = some q → H.get x = some o := fun x o q hx hq => by
    rcases cs x o hx with ⟨rfl, _⟩ | ⟨_, h3⟩
    · rw [hbo] at hq; cases hq
    · exact h3
  refine ⟨hr.dom, fun x o hx => ?_, fun x y o o' q q' hx hy ho ho' hq hq' e => hr.inj x y o o' q q' (own x o q hx hq) (own y o' q' hy hq') ho ho' hq hq' e, hr.base, hr.size, fun q hq => ⟨hr.frz q hq |>.1, fun x o px hx ho hpx => (hr.frz q hq).2 x o px (own x o px hx hpx) ho hpx⟩, fun x Q2 hx => ?_⟩
  · rcases cs x o hx with ⟨rfl, rfl⟩ | ⟨_, h4⟩
    · exact .inl ⟨hbo, rfl⟩
    · exact hr.live x o h4
  · have : ∃ Q3, H.get x = some (.sep Q3) ∧ ∀ z S h, Q3.P z S h → Q2.P z S h := by
      rcases cs x _ hx with ⟨rfl, h2⟩ | ⟨_, h4⟩
      · injection h2 with h2; subst h2; exact ⟨Q, hb, hq⟩
      · exact ⟨Q2, h4, fun _ _ _ h => h⟩
    obtain ⟨Q3, e1, e2⟩ := this
    obtain ⟨g0, g⟩ := hr.sep x Q3 e1
    refine ⟨e2 _ _ _ g0, fun X hX => ?_⟩
    obtain ⟨g1, g2, g3, g4⟩ := g X hX
    refine ⟨g1, fun y o q hy ho hq => g2 y o q (own y o q hy hq) ho hq, g3, fun y Q4 hy hne => ?_⟩
    rcases cs y _ hy with ⟨rfl, _⟩ | ⟨_, h4⟩
    · exact g4 y Q hb hne
    · exact g4 y Q4 h4 hne
theorem Ct {Cs Ds : Pk} (hs : ∀ c ∈ Ds, c ∈ Cs) (hd : (pkB Cs).Nodup → (pkB Ds).Nodup) : ∀ z S h, (pk Cs).P z S h → (pk Ds).P z S h := fun z S h ⟨h1, h2, h3⟩ => ⟨h1, hd h2, fun c hc => h3 c (hs c hc)⟩
theorem Ew {Cs Ds : Pk} (hp : Ds.Sublist Cs) : ∀ z S h, (pk Cs).P z S h → (pk Ds).P z S h := Ct (fun c hc => hp.subset hc) fun h => (hp.map _).nodup h
theorem HR.IU (hr : HR φ H n h0 h) : ∃ ψ, PLe φ ψ ∧ HR ψ (H.set (some (.sep (pk []))) aa n) (n + 1) h0 h := by
  have cs : ∀ x o, (H.set (some (.sep (pk []))) aa n).get x = some o → (x = n ∧ o = .sep (pk [])) ∨ (x ≠ n ∧ H.get x = some o) := fun x o hx => by
    rcases PM.ao aa H n x o hx with ⟨h1, h2⟩ | h2
    · injection h2 with h2; exact .inl ⟨h1, h2.symm⟩
    · exact .inr h2
  have hno : φ n = none := by
    cases e : φ n with
    | none => rfl
    | some q => exact absurd (hr.dom n q e).1 (Nat.lt_irrefl _)
  let ψ : Ph := ⟨φ.f, φ.z, φ.y, fun x => if x = n then (fun _ => False) else φ.s x⟩
  have own : ∀ x o q, (H.set (some (.sep (pk []))) aa n).get x = some o → φ x = some q → H.get x = some o := fun x o q hx hq => by
    rcases cs x o hx with ⟨rfl, _⟩ | ⟨_, h3⟩
    · rw [hno] at hq; cases hq
    · exact h3
  have sle : SLe φ ψ := ⟨fun _ _ h => h, fun _ h => h⟩
  refine ⟨ψ, ⟨fun _ _ h => h, fun _ h => h, fun _ h => h⟩, ⟨fun x q hx => ⟨by have := (hr.dom x q hx).1; omega, (hr.dom x q hx).2⟩, fun x o hx => ?_, fun x y o o' q q' hx hy ho ho' hq hq' e => hr.inj x y o o' q q' (own x o q hx hq) (own y o' q' hy hq') ho ho' hq hq' e, hr.base, hr.size, fun q hq => ⟨⟨FzR.mono (φ := φ) (ψ := ψ) sle.z (hr.frz q hq).1.1, (hr.frz q hq).1.2⟩, fun x o px hx ho hpx => (hr.frz q hq).2 x o px (own x o px hx hpx) ho hpx⟩, fun x Q2 hx => ?_⟩⟩
  · rcases cs x o hx with ⟨rfl, rfl⟩ | ⟨_, h4⟩
    · exact .inl ⟨hno, rfl⟩
    · rcases hr.live x o h4 with g | ⟨q, ob, g1, g2, g3, g4⟩
      · exact .inl g
      · exact .inr ⟨q, ob, g1, g2, g3, g4.cx sle⟩
  · rcases cs x _ hx with ⟨rfl, h2⟩ | ⟨h1, h4⟩
    · injection h2 with h2; subst h2
      have es : ψ.s x = fun _ => False := if_pos rfl
      rw [es]
      exact ⟨⟨(fun X hX => hX.elim), List.nodup_nil, fun c hc => by cases hc⟩, fun X hX => hX.elim⟩
    · obtain ⟨g0, g⟩ := hr.sep x Q2 h4
      have es : ψ.s x = φ.s x := if_neg h1
      rw [es]
      refine ⟨g0, fun X hX => ?_⟩
      obtain ⟨g1, g2, g3, g4⟩ := g X hX
      refine ⟨g1, fun y o q hy ho hq => g2 y o q (own y o q hy hq) ho hq, g3, fun y Q4 hy hne hs => ?_⟩
      rcases cs y _ hy with ⟨rfl, _⟩ | ⟨q1, q4⟩
      · have : ψ.s y = fun _ => False := if_pos rfl
        rw [this] at hs; exact hs
      · have : ψ.s y = φ.s y := if_neg q1
        rw [this] at hs
        exact g4 y Q4 q4 hne hs
end
theorem VR.rz {φ : Ph} {b : Nat} {p : Nat × Nat} {T : Nat} (h : φ b = some ⟨p.1, p.2, T⟩) : VR φ (.ptr b 0) (rv p) := .ptr (p := ⟨p.1, p.2, T⟩) (o := 0) h
def kO (H : AH) (n b : Nat) (A B : Pk) (p : Nat × Nat) (κ : PK) : PK := fun v H2 n2 => ∃ l2 l' Q, n2 = n + 1 ∧ (∀ x o, x ≠ n → x ≠ b → H.get x = some o → H2.get x = some o) ∧ H2.get b = some (.sep (pk (A ++ B))) ∧ H2.get n = some (.cells l2 true) ∧ l2.map mk = l'.map mk ∧ l'.all flat.flat1 = true ∧ (∀ z S h, (pk (A ++ (p, l') :: B)).P z S h → Q.P z S h) ∧ κ v (H.set (some (.sep Q)) aa b) (n + 1)
noncomputable def opn (H : AH) (n b : Nat) (A B : Pk) (l : List AV) : AH := (H.set (some (.sep (pk (A ++ B)))) aa b).set (some (.cells l true)) aa n
section
variable {H : AH} {n b : Nat} {A B : Pk} {p : Nat × Nat} {κ : PK} {v : AV} {l l2 l' : List AV} {Q : HP}
theorem lZ (hn : n < 1000000) : (opn H n b A B l).get n = some (.cells l true) := PM.cr aa _ _ (bZ hn)
theorem tN (hbn : b < n) (hn : n < 1000000) : (opn H n b A B l).get b = some (.sep (pk (A ++ B))) := PM.bT aa _ _ _ (bZ hn) (by omega) (PM.cr aa _ _ (bZ (by omega)))
theorem qk (hbn : b < n) (hn : n < 1000000) {x : Nat} {o : AO} (h1 : x ≠ n) (h2 : x ≠ b) (h : H.get x = some o) : (opn H n b A B l).get x = some o := PM.bT aa _ _ _ (bZ hn) h1 (PM.bT aa _ _ _ (bZ (by omega)) h2 h)
theorem kO.same (hbn : b < n) (hn : n < 1000000) (hl : l.map mk = l'.map mk) (hf : l'.all flat.flat1 = true) (hQ : ∀ z S h, (pk (A ++ (p, l') :: B)).P z S h → Q.P z S h) (hκ : κ v (H.set (some (.sep Q)) aa b) (n + 1)) : kO H n b A B p κ v (opn H n b A B l) (n + 1) :=
  ⟨l, l', Q, rfl, fun x o h1 h2 h3 => qk hbn hn h1 h2 h3, tN hbn hn, lZ hn, hl, hf, hQ, hκ⟩
theorem kO.set (hbn : b < n) (hn : n < 1000000) (hl : l2.map mk = l'.map mk) (hf : l'.all flat.flat1 = true) (hQ : ∀ z S h, (pk (A ++ (p, l') :: B)).P z S h → Q.P z S h) (hκ : κ v (H.set (some (.sep Q)) aa b) (n + 1)) : kO H n b A B p κ v ((opn H n b A B l).set (some (.cells l2 true)) aa n) (n + 1) :=
  ⟨l2, l', Q, rfl, fun x o h1 h2 h3 => PM.bT aa _ _ _ (bZ hn) h1 (qk hbn hn h1 h2 h3), PM.bT aa _ _ _ (bZ hn) (by omega) (tN hbn hn), PM.cr aa _ _ (bZ hn), hl, hf, hQ, hκ⟩
end
theorem aM.tO {f : FuncId} {run : List AV → AH → Nat → PK → Prop} (hrun : aM f run) {φ : Ph} {H : AH} {n : Nat} {h0 hp : Hp} {vs : Array Value} {κ : PK} {K : KH} {b : Nat} {A B : Pk} {p : Nat × Nat} {l : List AV} {rest : List AV}
    (hr : HR φ H n h0 hp) (hbn : b < n) (hn : n < 1000000) (hn0 : H.get n = none) (hb : H.get b = some (.sep (pk (A ++ (p, l) :: B)))) (hargs : VRs φ (fk p :: rest) vs.toList) (hk : cq φ h0 κ K)
    (hs : run (.ptr n 0 :: rest) (opn H n b A B l) (n + 1) (kO H n b A B p κ)) : dg Try.prog f vs hp K := by
  obtain ⟨ψ, T, hle, hψ, hr2⟩ := hr.wN hbn hb
  obtain ⟨w1, us1, q1, e1, r1⟩ := hargs.cons_inv
  have e1 : w1 = rv p := e1
  subst e1
  refine hrun _ _ _ _ hs ψ h0 hp vs K hr2 (by rw [q1]; exact .cons (VR.rz hψ) (VRs.mono hle _ _ r1)) fun χ v H2 n2 u g hle2 hg hu ⟨l2, l', Q, e2, hold, hb2, hn2, hl, hf, hQ, hκ⟩ => ?_
  subst e2
  obtain ⟨ω, _, hle3, _, hr3⟩ := hg.mO (m := n) (by omega) hb2 hn2 (hle2.b _ _ hψ) hl hf
  have hr4 := hr3.wO (Q' := Q) (PM.cr aa _ _ (bZ (by omega))) hQ
  refine hk ω v _ (n + 1) u g ((hle.trans hle2).trans hle3) (hr4.less fun x o hx => ?_) (VR.mono hle3 _ _ hu) hκ
  rcases PM.ao aa H b x o hx with ⟨rfl, h2⟩ | ⟨h1, h2⟩
  · rw [PM.cr aa _ _ (bZ (by omega))]; exact h2
  · by_cases hxn : x = n
    · subst hxn
      rw [hn0] at h2; cases h2
    · exact PM.bT aa _ _ _ (bZ (by omega)) h1 (PM.bT aa _ _ _ (bZ (by omega)) h1 (PM.bT aa _ _ _ (bZ hn) hxn (hold x o hxn h1 h2)))
end Go.Proofs.Ytapjijhjnloimaa
namespace Go.Proofs.Ytapjijhjnloimaa
open Go Go.RowKit
def bitsOf (u : Nat) : Nat → List Nat
  | 0 => []
  | m + 1 => (u / 2 ^ m) % 2 :: bitsOf u m
def cD (B : List Nat) : Prop := ∀ b ∈ B, b < 2
theorem aF (u : Nat) : ∀ m, (bitsOf u m).length = m
  | 0 => rfl
  | m + 1 => by simp [bitsOf, aF u m]
theorem cm (u : Nat) : ∀ m, cD (bitsOf u m)
  | 0 => fun b h => by cases h
  | m + 1 => fun b h => by
    rcases List.mem_cons.1 h with rfl | h
    · exact Nat.mod_lt _ (by decide)
    · exact cm u m b h
theorem cD.nil : cD [] := fun b h => by cases h
theorem cD.app {A B : List Nat} (h : cD A) (k : cD B) : cD (A ++ B) := fun b hb => (List.mem_append.1 hb).elim (h b) (k b)
theorem cD.one {b : Nat} (h : b < 2) : cD [b] := fun c hc => by simp at hc; omega
def bP (a : Nat) (B : List Nat) : Nat := B.foldl (fun u b => 2 * u + b) a
theorem fm (a u : Nat) : ∀ m, bP a (bitsOf u m) = a * 2 ^ m + u % 2 ^ m
  | 0 => by simp [bP, bitsOf, Nat.mod_one]
  | m + 1 => by
    show bP (2 * a + u / 2 ^ m % 2) (bitsOf u m) = _
    rw [fm _ u m, Nat.mod_pow_succ, Nat.pow_succ, Nat.add_mul]
    have e1 : 2 * a * 2 ^ m = a * (2 ^ m * 2) := by rw [Nat.mul_comm 2 a, Nat.mul_assoc, Nat.mul_comm 2]
    have e2 : u / 2 ^ m % 2 * 2 ^ m = 2 ^ m * (u / 2 ^ m % 2) := Nat.mul_comm _ _
    omega
theorem l5 : ∀ (B : List Nat) (a : Nat), bP a B = a * 2 ^ B.length + bP 0 B
  | [], a => by simp [bP]
  | b :: B, a => by
    show bP (2 * a + b) B = a * 2 ^ (B.length + 1) + bP (2 * 0 + b) B
    rw [l5 B (2 * a + b), l5 B (2 * 0 + b), Nat.pow_succ, Nat.add_mul]
    have e1 : 2 * a * 2 ^ B.length = a * (2 ^ B.length * 2) := by rw [Nat.mul_comm 2 a, Nat.mul_assoc, Nat.mul_comm 2]
    simp only [Nat.mul_zero, Nat.zero_add]
    omega
theorem nE : ∀ (B : List Nat), cD B → bP 0 B < 2 ^ B.length
  | [], _ => by simp [bP]
  | b :: B, h => by
    have ih := nE B fun c hc => h c (List.mem_cons_of_mem _ hc)
    have hb := h b List.mem_cons_self
    show bP (2 * 0 + b) B < _
    rw [l5, List.length_cons, Nat.pow_succ]
    have : (2 * 0 + b) * 2 ^ B.length ≤ 1 * 2 ^ B.length := Nat.mul_le_mul_right _ (by omega)
    omega
theorem oO (A B : List Nat) (a : Nat) : bP a (A ++ B) = bP (bP a A) B := by simp [bP, List.foldl_append]
theorem wP : ∀ (B : List Nat) (a j : Nat), cD B → ∀ h : j < B.length, bP a B / 2 ^ (B.length - 1 - j) % 2 = B[j]
  | b :: B, a, 0, hb, _ => by
    show bP (2 * a + b) B / 2 ^ (B.length + 1 - 1 - 0) % 2 = b
    have hlt := nE B fun c hc => hb c (List.mem_cons_of_mem _ hc)
    have := hb b List.mem_cons_self
    rw [l5, Nat.add_sub_cancel, Nat.sub_zero, Nat.mul_comm, Nat.mul_add_div (Nat.two_pow_pos _), Nat.div_eq_of_lt hlt]
    omega
  | b :: B, a, j + 1, hb, h => by
    have h' : j < B.length := by simpa using h
    have := wP B (2 * a + b) j (fun c hc => hb c (List.mem_cons_of_mem _ hc)) h'
    show bP (2 * a + b) B / 2 ^ (B.length + 1 - 1 - (j + 1)) % 2 = B[j]
    rw [show B.length + 1 - 1 - (j + 1) = B.length - 1 - j from by omega]
    exact this
def tQ (C : List Nat) : List Nat := C ++ List.replicate (8 - C.length) 0
def ia (C : List Nat) : Nat := bP 0 (tQ C)
def pack (B : List Nat) : List Nat := (List.range ((B.length + 7) / 8)).map fun i => ia ((B.drop (8 * i)).take 8)
def l8 (s : List Nat) (i : Nat) : Nat := (s[i / 8]?).getD 0 / 2 ^ (7 - i % 8) % 2
theorem nf {C : List Nat} (h : C.length ≤ 8) : (tQ C).length = 8 := by simp [tQ]; omega
theorem ql {C : List Nat} (h : cD C) : cD (tQ C) := h.app fun b hb => by
  have := List.eq_of_mem_replicate hb; omega
theorem tR {C : List Nat} (h : cD C) (hl : C.length ≤ 8) : ia C < 256 := by
  have := nE _ (ql h)
  rw [nf hl] at this
  exact this
theorem l9 {C : List Nat} : ia C = bP 0 C * 2 ^ (8 - C.length) := by
  unfold ia tQ
  rw [oO]
  have : ∀ m a, bP a (List.replicate m 0) = a * 2 ^ m := fun m => by
    induction m with
    | zero => intro a; simp [bP]
    | succ m ih =>
      intro a
      show bP (2 * a + 0) (List.replicate m 0) = _
      rw [ih, Nat.pow_succ, Nat.add_zero, Nat.mul_comm 2 a, Nat.mul_assoc, Nat.mul_comm 2]
  exact this _ _
theorem Al {C : List Nat} (h : cD C) (hl : C.length ≤ 8) {j : Nat} (hj : j < C.length) : ia C / 2 ^ (7 - j) % 2 = C[j] := by
  have hp := nf hl
  have := wP (tQ C) 0 j (ql h) (by omega)
  unfold ia
  rw [show 7 - j = (tQ C).length - 1 - j from by omega, this]
  simp [tQ, hj]
theorem aR (B : List Nat) : (pack B).length = (B.length + 7) / 8 := by simp [pack]
theorem ib (B : List Nat) (i : Nat) (h : i < (B.length + 7) / 8) : (pack B)[i]? = some (ia ((B.drop (8 * i)).take 8)) := by
  simp [pack, h]
theorem tS {B : List Nat} (h : cD B) (i m : Nat) : cD ((B.drop i).take m) := fun b hb => h b (List.mem_of_mem_drop (List.mem_of_mem_take hb))
theorem wQ {B : List Nat} (h : cD B) : ∀ x ∈ pack B, x < 256 := fun x hx => by
  simp only [pack, List.mem_map, List.mem_range] at hx
  obtain ⟨i, _, rfl⟩ := hx
  exact tR (tS h _ _) (by rw [List.length_take]; omega)
theorem vB {B : List Nat} (h : cD B) {i : Nat} (hi : i < B.length) : l8 (pack B) i = B[i] := by
  unfold l8
  rw [ib B (i / 8) (by omega)]
  have hl : i % 8 < ((B.drop (8 * (i / 8))).take 8).length := by rw [List.length_take, List.length_drop]; omega
  rw [Option.getD_some, Al (tS h _ _) (by rw [List.length_take]; omega) hl]
  rw [List.getElem_take, List.getElem_drop]
  congr 1; omega
theorem oP {B : List Nat} {b : Nat} (h : B.length % 8 = 0) : pack (B ++ [b]) = pack B ++ [b * 2 ^ 7] := by
  apply List.ext_getElem?
  intro i
  have hl : (pack B).length = B.length / 8 := by rw [aR]; omega
  rcases Nat.lt_trichotomy i (B.length / 8) with hi | hi | hi
  · rw [List.getElem?_append_left (by omega), ib _ _ (by simp; omega), ib _ _ (by omega)]
    rw [List.drop_append_of_le_length (by omega), List.take_append_of_le_length (by rw [List.length_drop]; omega)]
  · subst hi
    rw [List.getElem?_append_right (by omega), hl, Nat.sub_self, ib _ _ (by simp; omega)]
    have : (B ++ [b]).drop (8 * (B.length / 8)) = [b] := by
      rw [show 8 * (B.length / 8) = B.length from by omega]; simp
    rw [this]
    simp [l9, bP]
  · rw [List.getElem?_eq_none (by rw [aR]; simp; omega), List.getElem?_eq_none (by simp; omega)]
theorem Cu {B : List Nat} {b : Nat} (h : B.length % 8 ≠ 0) : pack (B ++ [b]) = (pack B).set (B.length / 8) (ia (B.drop (8 * (B.length / 8))) + b * 2 ^ (7 - B.length % 8)) := by
  apply List.ext_getElem?
  intro i
  have hl : (pack B).length = B.length / 8 + 1 := by rw [aR]; omega
  rcases Nat.lt_trichotomy i (B.length / 8) with hi | hi | hi
  · rw [List.getElem?_set_ne (by omega), ib _ _ (by simp; omega), ib _ _ (by omega)]
    rw [List.drop_append_of_le_length (by omega), List.take_append_of_le_length (by rw [List.length_drop]; omega)]
  · subst hi
    rw [List.getElem?_set_self (by omega), ib _ _ (by simp; omega)]
    have hC : (B.drop (8 * (B.length / 8))).length = B.length % 8 := by rw [List.length_drop]; omega
    rw [List.drop_append_of_le_length (by omega), List.take_of_length_le (by rw [List.length_append, hC]; simp; omega)]
    generalize B.drop (8 * (B.length / 8)) = C at hC
    have hr8 := Nat.mod_lt B.length (show 8 > 0 by decide)
    generalize B.length % 8 = r at hC h hr8
    rw [l9, l9, oO, List.length_append, hC]
    have hr : r < 8 ∨ 8 ≤ r := by omega
    show some ((2 * bP 0 C + b) * 2 ^ (8 - (r + 1))) = _
    congr 1
    rcases hr with hr | hr
    · rw [show 8 - (r + 1) = 7 - r from by omega, show 8 - r = 7 - r + 1 from by omega, Nat.pow_succ, Nat.add_mul, Nat.mul_comm 2 (bP 0 C), Nat.mul_assoc, Nat.mul_comm 2]
    · exfalso; omega
  · rw [List.getElem?_eq_none (by rw [aR]; simp; omega), List.getElem?_eq_none (by simp; omega)]
end Go.Proofs.Ytapjijhjnloimaa
namespace Go.Proofs.Ytapjijhjnloimaa
open Go Go.RowKit
theorem iG (op : BinOp) (k : IntKind) (x y : Int) (h : op = .and ∨ op = .or ∨ op = .xor) : bu op k x y = bits op k x y := by
  rcases h with rfl | rfl | rfl <;> rfl
theorem wrap_u64 (n : Int) : IntKind.u64.wrap n = n % 18446744073709551616 := by simp [IntKind.wrap, IntKind.bits, IntKind.signed]
def rA (n : Int) : Nat := if 0 ≤ n then (2 * n).toNat else (-2 * n - 1).toNat
def jT (u : Nat) : Int := if u % 2 = 0 then ((u / 2 : Nat) : Int) else -((u / 2 : Nat) : Int) - 1
theorem Am {n : Int} (h : aY n) : rA n < 18446744073709551616 := by
  unfold rA; have := h.1; have := h.2; split <;> omega
theorem wR (n : Int) : jT (rA n) = n := by
  unfold jT rA
  split
  · rename_i h
    rw [if_pos (by omega)]; omega
  · rename_i h
    rw [if_neg (by omega)]; omega
theorem An (a : Nat) (h : a < 18446744073709551616) : a ^^^ 18446744073709551615 = 18446744073709551615 - a := by
  have e : (BitVec.ofNat 64 a ^^^ BitVec.allOnes 64).toNat = 18446744073709551615 - a := by
    rw [BitVec.xor_allOnes, BitVec.toNat_not, BitVec.toNat_ofNat, Nat.mod_eq_of_lt h]
  rw [← e, BitVec.toNat_xor, BitVec.toNat_ofNat, Nat.mod_eq_of_lt h]
  rfl
theorem Ex {n : Int} (h : aY n) : n.fdiv 9223372036854775808 = if 0 ≤ n then 0 else -1 := by
  have := h.1; have := h.2
  rw [Int.fdiv_eq_ediv_of_nonneg _ (by decide)]
  split <;> omega
theorem Ey {n : Int} (h : aY n) : bu .xor .u64 (IntKind.u64.wrap (IntKind.u64.wrap n * 2)) (IntKind.u64.wrap (n.fdiv 9223372036854775808)) = ((rA n : Nat) : Int) := by
  have h1 := h.1; have h2 := h.2
  rw [iG _ _ _ _ (.inr (.inr rfl)), Ex h]
  unfold rA
  by_cases h0 : 0 ≤ n
  · rw [if_pos h0, if_pos h0]
    have e1 : IntKind.u64.wrap (IntKind.u64.wrap n * 2) = (((2 * n).toNat : Nat) : Int) := by rw [wrap_u64, wrap_u64]; omega
    have e2 : IntKind.u64.wrap 0 = ((0 : Nat) : Int) := by rw [wrap_u64]; rfl
    rw [e1, e2, u64_xor_nat _ _ (by omega) (by omega), Nat.xor_zero]
  · rw [if_neg h0, if_neg h0]
    have e1 : IntKind.u64.wrap (IntKind.u64.wrap n * 2) = (((2 * n + 18446744073709551616).toNat : Nat) : Int) := by rw [wrap_u64, wrap_u64]; omega
    have e2 : IntKind.u64.wrap (-1) = ((18446744073709551615 : Nat) : Int) := by rw [wrap_u64]; rfl
    rw [e1, e2, u64_xor_nat _ _ (by omega) (by omega), An _ (by omega)]
    omega
theorem rB {a : Int} (h0 : 0 ≤ a) (h1 : a ≤ 9223372036854775807) : bu .xor .i64 a (-1) = -a - 1 := by
  have e : bu .xor .i64 a (-1) = IntKind.i64.wrap (((BitVec.ofInt 64 a ^^^ BitVec.ofInt 64 (-1)).toNat : Nat) : Int) := rfl
  obtain ⟨m, rfl⟩ := Int.eq_ofNat_of_zero_le h0
  have e2 : (BitVec.ofInt 64 (m : Int) ^^^ BitVec.ofInt 64 (-1)).toNat = 18446744073709551615 - m := by
    have e3 : BitVec.ofInt 64 (-1) = BitVec.allOnes 64 := by decide
    rw [e3, BitVec.xor_allOnes, BitVec.toNat_not, BitVec.ofInt_natCast, BitVec.toNat_ofNat, Nat.mod_eq_of_lt (by omega)]
  rw [e, e2, IntKind.wrap_i64]
  omega
theorem rC {a : Int} (h0 : 0 ≤ a) (h1 : a ≤ 9223372036854775807) : bu .xor .i64 a 0 = a := by
  have e : bu .xor .i64 a 0 = IntKind.i64.wrap (((BitVec.ofInt 64 a ^^^ BitVec.ofInt 64 0).toNat : Nat) : Int) := rfl
  obtain ⟨m, rfl⟩ := Int.eq_ofNat_of_zero_le h0
  have e2 : (BitVec.ofInt 64 (m : Int) ^^^ BitVec.ofInt 64 0).toNat = m := by
    have e3 : BitVec.ofInt 64 0 = 0#64 := by decide
    rw [e3, BitVec.xor_zero, BitVec.ofInt_natCast, BitVec.toNat_ofNat, Nat.mod_eq_of_lt (by omega)]
  rw [e, e2, IntKind.wrap_i64]
  omega
theorem tT (a b : Nat) : (a : Int).fdiv (b : Int) = ((a / b : Nat) : Int) := by
  rw [Int.fdiv_eq_ediv_of_nonneg _ (Int.natCast_nonneg _)]; exact (Int.natCast_ediv a b).symm
theorem IV {u : Nat} (h : u < 18446744073709551616) : bu .and .u64 (u : Int) 1 = ((u % 2 : Nat) : Int) := by
  rw [iG _ _ _ _ (.inl rfl), show (1 : Int) = ((1 : Nat) : Int) from rfl, u64_and_nat _ _ h (by decide), nat_mask1]
theorem Ez {u : Nat} (h : u < 18446744073709551616) : bu .xor .i64 (IntKind.i64.wrap ((u : Int).fdiv 2)) (IntKind.i64.wrap (0 - IntKind.i64.wrap (bu .and .u64 (u : Int) 1))) = jT u := by
  rw [show (2 : Int) = ((2 : Nat) : Int) from rfl, tT, IV h]
  have e1 : IntKind.i64.wrap ((u / 2 : Nat) : Int) = ((u / 2 : Nat) : Int) := by rw [IntKind.wrap_i64]; omega
  rw [e1]
  unfold jT
  by_cases q : u % 2 = 0
  · rw [if_pos q, q]
    have e2 : IntKind.i64.wrap (0 - IntKind.i64.wrap ((0 : Nat) : Int)) = 0 := by rw [IntKind.wrap_i64, IntKind.wrap_i64]; rfl
    rw [e2, rC (by omega) (by omega)]
  · have q1 : u % 2 = 1 := by omega
    rw [if_neg q, q1]
    have e2 : IntKind.i64.wrap (0 - IntKind.i64.wrap ((1 : Nat) : Int)) = -1 := by rw [IntKind.wrap_i64, IntKind.wrap_i64]; rfl
    rw [e2, rB (by omega) (by omega)]
def aO (u : Nat) : List Nat := if u = 0 then [0] else if u < 128 then [1, 0] ++ bitsOf u 7 else if u < 4096 then [1, 1, 0] ++ bitsOf u 12 else if u < 16777216 then [1, 1, 1, 0] ++ bitsOf u 24 else [1, 1, 1, 1] ++ bitsOf u 64
theorem cD.lit {l : List Nat} (h : l.all (fun b => decide (b < 2)) = true) : cD l := fun b hb => by
  have := List.all_eq_true.1 h b hb
  exact of_decide_eq_true this
theorem lg (u : Nat) : cD (aO u) := by
  unfold aO
  repeat' split
  · exact .lit rfl
  all_goals exact (cD.lit rfl).app (cm _ _)
theorem dy (u : Nat) : (aO u).length ≤ 68 ∧ 1 ≤ (aO u).length := by
  unfold aO
  repeat' split
  all_goals simp [aF]
abbrev W64 (x : Int) : Int := IntKind.i64.wrap x
theorem oQ (x : Int) : aY (W64 x) := by
  unfold aY W64
  rw [IntKind.wrap_i64]; omega
theorem b5 {x : Int} (h : aY x) : W64 x = x := by
  have := h.1; have := h.2
  show IntKind.i64.wrap x = x
  rw [IntKind.wrap_i64]; omega
def dU (x : Int) : Nat := (x % 18446744073709551616).toNat
theorem Ao (x : Int) : IntKind.u64.wrap x = ((dU x : Nat) : Int) := by rw [wrap_u64]; unfold dU; omega
theorem vC (x : Int) : dU x < 18446744073709551616 := by unfold dU; omega
theorem tU {x : Int} (h : aY x) : W64 ((dU x : Nat) : Int) = x := by
  have := h.1; have := h.2
  show IntKind.i64.wrap _ = x
  unfold dU
  rw [IntKind.wrap_i64]; omega
def tAt (X : Smp) (i : Nat) : Int := ((X[i]?).getD (0, 0)).1
def vAt (X : Smp) (i : Nat) : Int := ((X[i]?).getD (0, 0)).2
def cH (X : Smp) (i : Nat) : Int := if i < 2 then 0 else W64 (tAt X (i - 1) - tAt X (i - 2))
def dT (X : Smp) (i : Nat) : Nat := rA (W64 (W64 (tAt X i - tAt X (i - 1)) - cH X i))
def dV (X : Smp) (i : Nat) : Nat := rA (W64 (vAt X i - vAt X (i - 1)))
def bF (X : Smp) (i : Nat) : List Nat := if i = 0 then bitsOf (dU (tAt X 0)) 64 ++ bitsOf (dU (vAt X 0)) 64 else aO (dT X i) ++ aO (dV X i)
def aw (X : Smp) : Nat → List Nat
  | 0 => []
  | i + 1 => aw X i ++ bF X i
def aK (X : Smp) : List Nat := aw X X.length
theorem vD (X : Smp) (i : Nat) : cD (bF X i) := by
  unfold bF; split
  · exact (cm _ _).app (cm _ _)
  · exact (lg _).app (lg _)
theorem dW (X : Smp) : ∀ i, cD (aw X i)
  | 0 => .nil
  | i + 1 => (dW X i).app (vD X i)
theorem qm (X : Smp) : cD (aK X) := dW X _
theorem kq (X : Smp) : ∀ i, (aw X i).length ≤ 136 * i
  | 0 => by simp [aw]
  | i + 1 => by
    have h1 := kq X i
    have h2 : (bF X i).length ≤ 136 := by
      unfold bF
      split
      · simp [aF]
      · rw [List.length_append]
        have := (dy (dT X i)).1
        have := (dy (dV X i)).1
        omega
    simp only [aw, List.length_append]
    omega
theorem tV (X : Smp) : (aK X).length ≤ 136 * X.length := kq X _
theorem mP (X : Smp) (i : Nat) : ∀ k, ∃ D, aw X (i + k) = aw X i ++ D
  | 0 => ⟨[], by simp⟩
  | k + 1 => by
    obtain ⟨D, h⟩ := mP X i k
    exact ⟨D ++ bF X (i + k), by show aw X (i + k) ++ bF X (i + k) = _; rw [h, List.append_assoc]⟩
theorem vE {X : Smp} {i : Nat} (h : i < X.length) : ∃ D, aK X = aw X i ++ (bF X i ++ D) := by
  obtain ⟨D, hD⟩ := mP X (i + 1) (X.length - (i + 1))
  refine ⟨D, ?_⟩
  unfold aK
  rw [show X.length = i + 1 + (X.length - (i + 1)) from by omega, hD]
  simp [aw]
theorem Ap : aK [] = [] := rfl
def aB (s : List Nat) (at' m : Nat) : List Nat := (List.range m).map fun j => l8 s (at' + j)
theorem tW {B A C D : List Nat} (hB : cD B) (h : B = A ++ (C ++ D)) : aB (pack B) A.length C.length = C := by
  apply List.ext_getElem?
  intro j
  by_cases hj : j < C.length
  · have hl : A.length + j < B.length := by rw [h]; simp; omega
    simp only [aB, List.getElem?_map, List.getElem?_range hj, Option.map_some]
    rw [vB hB hl, List.getElem?_eq_getElem hj]
    congr 1
    (try simp only [h])
    rw [List.getElem_append_right (by omega), List.getElem_append_left (by omega)]
    congr 1; omega
  · rw [List.getElem?_eq_none (by simp [aB]; omega), List.getElem?_eq_none (by omega)]
theorem tX (s : List Nat) (a j : Nat) : aB s a (j + 1) = aB s a j ++ [l8 s (a + j)] := by
  simp [aB, List.range_succ]
theorem tY (s : List Nat) (a j : Nat) : cD (aB s a j) := fun b hb => by
  simp only [aB, List.mem_map] at hb
  obtain ⟨_, _, rfl⟩ := hb
  exact Nat.mod_lt _ (by decide)
theorem iu (s : List Nat) (a j : Nat) : (aB s a j).length = j := by simp [aB]
theorem yz (a : Nat) (B : List Nat) (b : Nat) : bP a (B ++ [b]) = 2 * bP a B + b := by rw [oO]; rfl
theorem FZ {u b : Nat} (hu : u < 9223372036854775808) (hb : b < 2) : bu .or .u64 (IntKind.u64.wrap ((u : Int) * 2)) (IntKind.u64.wrap (b : Int)) = ((2 * u + b : Nat) : Int) := by
  have e1 : IntKind.u64.wrap ((u : Int) * 2) = ((2 * u : Nat) : Int) := by rw [wrap_u64]; omega
  have e2 : IntKind.u64.wrap (b : Int) = ((b : Nat) : Int) := by rw [wrap_u64]; omega
  rw [e1, e2, iG _ _ _ _ (.inr (.inl rfl)), u64_or_nat _ _ (by omega) (by omega), nat_join 1 _ _ (by omega) (by omega)]
theorem EA {c q : Nat} (hc : c < 256) : bu .and .u8 (((c / q : Nat)) : Int) 1 = ((c / q % 2 : Nat) : Int) := by
  rw [iG _ _ _ _ (.inl rfl), show (1 : Int) = ((1 : Nat) : Int) from rfl, u8_and_nat _ _ (Nat.lt_of_le_of_lt (Nat.div_le_self _ _) hc) (by decide), nat_mask1]
theorem EB (c : Nat) : bu .and .u8 (IntKind.u8.wrap (c : Int)) 1 = ((c % 2 : Nat) : Int) := by
  have e1 : IntKind.u8.wrap (c : Int) = ((c % 256 : Nat) : Int) := by rw [IntKind.wrap_u8]; omega
  rw [e1, iG _ _ _ _ (.inl rfl), show (1 : Int) = ((1 : Nat) : Int) from rfl, u8_and_nat _ _ (by omega) (by decide), nat_mask1]
  congr 1; omega
theorem EC {b r : Nat} (hb : b < 2) (hr : r < 8) : IntKind.u8.wrap ((b : Int) * (2 : Int) ^ r) = ((b * 2 ^ r : Nat) : Int) := by
  have hp : (2 : Nat) ^ r ≤ 2 ^ 7 := Nat.pow_le_pow_right (by decide) (by omega)
  have h2 : b * 2 ^ r ≤ 1 * 2 ^ r := Nat.mul_le_mul_right _ (by omega)
  have e : ((b : Int) * (2 : Int) ^ r) = ((b * 2 ^ r : Nat) : Int) := by
    rw [Int.natCast_mul, Int.natCast_pow]; rfl
  rw [e, IntKind.wrap_u8]
  omega
theorem DZ {a b r : Nat} (ha : a < 256) (hm : a % 2 ^ (r + 1) = 0) (hb : b < 2) (hr : r < 8) : bu .or .u8 (a : Int) ((b * 2 ^ r : Nat) : Int) = ((a + b * 2 ^ r : Nat) : Int) := by
  have hp : (2 : Nat) ^ r ≤ 2 ^ 7 := Nat.pow_le_pow_right (by decide) (by omega)
  have h2 : b * 2 ^ r ≤ 1 * 2 ^ r := Nat.mul_le_mul_right _ (by omega)
  have h3 : 0 < 2 ^ r := Nat.two_pow_pos r
  rw [iG _ _ _ _ (.inr (.inl rfl)), u8_or_nat _ _ ha (by omega), nat_join (r + 1) _ _ hm (by rw [Nat.pow_succ]; omega)]
theorem vF {C : List Nat} (h : C.length < 8) : ia C % 2 ^ (7 - C.length + 1) = 0 := by
  rw [l9, show 7 - C.length + 1 = 8 - C.length from by omega]
  exact Nat.mul_mod_left _ _
def bX (s : List Nat) : List AV := s.map fun c => .si .u8 (Int.ofNat c)
theorem ep (s : List Nat) : (bX s).length = s.length := by simp [bX]
theorem iH (s : List Nat) : (bX s).all flat.flat1 = true := by
  rw [List.all_eq_true]; intro x hx
  simp only [bX, List.mem_map] at hx
  obtain ⟨c, _, rfl⟩ := hx; rfl
theorem dI (s : List Nat) : (bX s).map mk = bX s := by simp [bX, mk]
end Go.Proofs.Ytapjijhjnloimaa
namespace Go.Proofs.Ytapjijhjnloimaa
open Go Go.RowKit
inductive jU (H : AH) (m : Nat) (r : Nat → Nat) : List AV → List AV → Prop where
  | nil : jU H m r [] []
  | cons {a a' : AV} {l l' : List AV} (h : ai H m r a a') (k : jU H m r l l') : jU H m r (a :: l) (a' :: l')
section
variable {H : AH} {m : Nat} {r : Nat → Nat}
theorem jU.length : ∀ {l l' : List AV}, jU H m r l l' → l.length = l'.length
  | _, _, .nil => rfl
  | _, _, .cons _ k => congrArg (· + 1) k.length
theorem jU.at : ∀ {l l' : List AV}, jU H m r l l' → ∀ (i : Nat) (a' : AV), l'[i]? = some a' → ∃ a, l[i]? = some a ∧ ai H m r a a'
  | _, _, .nil, i, a', h => by simp at h
  | _, _, .cons (a := a) q k, 0, a', h => by
    simp only [List.getElem?_cons_zero, Option.some.injEq] at h
    subst h
    exact ⟨a, rfl, q⟩
  | _, _, .cons q k, i + 1, a', h => by
    obtain ⟨b, h1, h2⟩ := k.at i a' (by simpa using h)
    exact ⟨b, by simpa using h1, h2⟩
theorem aQ.st {l l' : List AV} {z : Bool} (h : jU H m r l l') : aQ H m r (.cells l z) (.cells l' z) :=
  aQ.cells (by rw [h.length]; exact Nat.le_refl _) (fun q => q) h.at
end
mutual
theorem yA (r : Nat → Nat) : ∀ a : AV, flat.flat1 a = true → ren r a = a
  | .int _ _, _ => rfl
  | .str _, _ => rfl
  | .bool _, _ => rfl
  | .nil, _ => rfl
  | .nsl, _ => rfl
  | .si _ _, _ => rfl
  | .sb _, _ => rfl
  | .ss _, _ => rfl
  | .any _, _ => rfl
  | .bad, h => rfl
  | .ptr _ _, h => by cases h
  | .sl _ _ _ _ _, h => by cases h
  | .esl _, h => by cases h
  | .agg _, h => by cases h
  | .tup _, h => by cases h
  | .fn _ _ _, h => by cases h
  | .map _, h => by cases h
  | .sy _ _ _ _ _, h => by cases h
  | .rw _ _ _ _ _, h => by cases h
  | .fr _ _ _, h => by rfl
  | .fa _ _, h => by rfl
end
theorem qn (r : Nat → Nat) : ∀ l : List AV, l.all flat.flat1 = true → dq r l = l
  | [], _ => rfl
  | a :: l, h => by
    simp only [List.all_cons, Bool.and_eq_true] at h
    rw [dq, yA r a h.1, qn r l h.2]
theorem yB (m : Nat) : ∀ a : AV, flat.flat1 a = true → ltV m a = true
  | .int _ _, _ => rfl
  | .str _, _ => rfl
  | .bool _, _ => rfl
  | .nil, _ => rfl
  | .nsl, _ => rfl
  | .si _ _, _ => rfl
  | .sb _, _ => rfl
  | .ss _, _ => rfl
  | .any _, _ => rfl
  | .bad, h => rfl
  | .ptr _ _, h => by cases h
  | .sl _ _ _ _ _, h => by cases h
  | .esl _, h => by cases h
  | .agg _, h => by cases h
  | .tup _, h => by cases h
  | .fn _ _ _, h => by cases h
  | .map _, h => by cases h
  | .sy _ _ _ _ _, h => by cases h
  | .rw _ _ _ _ _, h => by cases h
  | .fr _ _ _, h => by rfl
  | .fa _ _, h => by rfl
theorem oR (m : Nat) : ∀ l : List AV, l.all flat.flat1 = true → jt m l = true
  | [], _ => rfl
  | a :: l, h => by
    simp only [List.all_cons, Bool.and_eq_true] at h
    rw [jt, yB m a h.1, oR m l h.2]; rfl
theorem VR.F0 {φ : Ph} {a a' : AV} {v : Value} (hf : Go.Proofs.Ytapjijhjnloimaa.flat.flat1 a' = true) (e : Go.Proofs.Ytapjijhjnloimaa.mk a = Go.Proofs.Ytapjijhjnloimaa.mk a') (h : VR φ a v) : VR φ a' v := by
  have h1 : VR φ (Go.Proofs.Ytapjijhjnloimaa.mk a') v := e ▸ h.mk
  have h2 : VR φ a' v := by cases a' <;> exact h1
  exact h2
theorem HR.vG {φ : Ph} {H : AH} {n : Nat} {h0 h : Hp} (hr : HR φ H n h0 h) {b : Nat} {l l' : List AV} {z : Bool} (hb : H.get b = some (.cells l z)) (hf : l'.all Go.Proofs.Ytapjijhjnloimaa.flat.flat1 = true) (e : l.map Go.Proofs.Ytapjijhjnloimaa.mk = l'.map Go.Proofs.Ytapjijhjnloimaa.mk) : HR φ (H.set (some (.cells l' z)) aa b) n h0 h :=
  hr.Ak hb (by have := congrArg List.length e; simp only [List.length_map] at this; omega) fun i a' hi => by
    have e := congrArg (fun x : List AV => x[i]?) e
    simp only [List.getElem?_map, hi, Option.map_some] at e
    rw [Option.map_eq_some_iff] at e
    obtain ⟨a, h1, h2⟩ := e
    exact ⟨a, h1, fun v hv => hv.F0 (List.all_eq_true.1 hf a' (List.mem_of_getElem? hi)) h2⟩
end Go.Proofs.Ytapjijhjnloimaa
namespace Go.Proofs.Ytapjijhjnloimaa
open Go Go.RowKit
def Up (L : Smp) : Prop := L.Pairwise fun x y => x.1 < y.1
def plc : Smp → Int → Nat
  | [], _ => 0
  | x :: L, t => if x.1 < t then plc L t + 1 else 0
def has (L : Smp) (t : Int) : Bool := decide (plc L t < L.length ∧ tAt L (plc L t) = t)
def fV (L : Smp) (t v : Int) : Smp := L.take (plc L t) ++ (t, v) :: L.drop (plc L t)
def gR (L : Smp) (t v : Int) : Smp := L.set (plc L t) (t, v)
def aV (p old now : Int) : Int × Int :=
  if p = 1 then (0, 8) else if p = 2 then (old, 0) else if p = 3 then (now, 0) else if p = 4 then (min old now, 0) else if p = 5 then (max old now, 0)
  else if p = 6 then (if (0 ≤ now ∧ W64 (old + now) < old) ∨ (now < 0 ∧ old < W64 (old + now)) then (0, 9) else (W64 (old + now), 0)) else (0, 1)
def lj (size : Nat) (L M : Smp) : Smp × Int := if (aK M).length ≤ 8 * size then (M, 0) else (L, 2)
def cR (size : Nat) (L : Smp) (t v p : Int) : Smp × Int :=
  if t < 0 ∨ 1099511627776 ≤ t then (L, 1)
  else if has L t then (if (aV p (vAt L (plc L t)) v).2 ≠ 0 then (L, (aV p (vAt L (plc L t)) v).2) else lj size L (gR L t (aV p (vAt L (plc L t)) v).1))
  else lj size L (fV L t v)
def aN (L : Smp) (a b : Int) : Smp := L.filter fun x => decide (x.1 < a) || decide (b < x.1)
def gS (L : Smp) (t : Int) : Int × Int := if has L t then (vAt L (plc L t), 0) else (0, 5)
theorem lk : ∀ (L : Smp) (t : Int), plc L t ≤ L.length
  | [], _ => Nat.le_refl _
  | x :: L, t => by
    unfold plc
    split
    · have := lk L t; simp only [List.length_cons]; omega
    · exact Nat.zero_le _
theorem vH : ∀ {L : Smp} {t : Int} {j : Nat} (h : j < plc L t), tAt L j < t
  | [], t, j, h => by simp [plc] at h
  | x :: L, t, j, h => by
    unfold plc at h
    split at h
    · rename_i hx
      cases j with
      | zero => exact hx
      | succ j =>
        have := vH (L := L) (t := t) (j := j) (by omega)
        simpa [tAt] using this
    · omega
theorem vI : ∀ {L : Smp} {t : Int} (_ : plc L t < L.length), t ≤ tAt L (plc L t)
  | [], t, h => by simp at h
  | x :: L, t, h => by
    unfold plc at h ⊢
    split
    · rename_i hx
      rw [if_pos hx] at h
      have := vI (L := L) (t := t) (by simpa using h)
      simpa [tAt] using this
    · rename_i hx
      show t ≤ x.1
      omega
theorem c6 {L : Smp} {i : Nat} (h : i < L.length) : tAt L i = L[i].1 := by simp [tAt, h]
theorem jV {L : Smp} {i : Nat} (h : i < L.length) : vAt L i = L[i].2 := by simp [vAt, h]
theorem Up.lt {L : Smp} (h : Up L) {i j : Nat} (hi : i < j) (hj : j < L.length) : tAt L i < tAt L j := by
  rw [c6 hj, c6 (by omega)]
  exact List.pairwise_iff_getElem.1 h i j (by omega) hj hi
theorem Up.of {L : Smp} (h : ∀ i, i + 1 < L.length → tAt L i < tAt L (i + 1)) : Up L := by
  refine List.pairwise_iff_getElem.2 fun i j hi hj hij => ?_
  obtain ⟨k, rfl⟩ : ∃ k, j = i + 1 + k := ⟨j - (i + 1), by omega⟩
  clear hij
  rw [← c6 hi, ← c6 hj]
  induction k with
  | zero => exact h i hj
  | succ k ih => exact Int.lt_trans (ih (by omega)) (h (i + 1 + k) hj)
theorem Cv {L : Smp} {t : Int} (h : has L t = true) : (t, vAt L (plc L t)) ∈ L := by
  unfold has at h
  rw [decide_eq_true_eq] at h
  have := List.getElem_mem h.1
  have e : L[plc L t] = (t, vAt L (plc L t)) := by
    rw [jV h.1]
    refine Prod.ext ?_ rfl
    rw [← c6 h.1]; exact h.2
  rw [← e]; exact this
theorem gM (L : Smp) (t v : Int) : (fV L t v).length = L.length + 1 := by
  have := lk L t
  simp [fV]; omega
theorem ma (L : Smp) (t v : Int) : (gR L t v).length = L.length := by simp [gR]
theorem tZ {L : Smp} {t v : Int} {x : Int × Int} : x ∈ fV L t v ↔ x = (t, v) ∨ x ∈ L := by
  unfold fV
  rw [List.mem_append, List.mem_cons]
  have := List.take_append_drop (plc L t) L
  constructor
  · rintro (h | h | h)
    · exact .inr (List.mem_of_mem_take h)
    · exact .inl h
    · exact .inr (List.mem_of_mem_drop h)
  · rintro (h | h)
    · exact .inr (.inl h)
    · rw [← this, List.mem_append] at h
      rcases h with h | h
      · exact .inl h
      · exact .inr (.inr h)
theorem wS {L : Smp} (h : Up L) {t : Int} (hn : has L t = false) (v : Int) : Up (fV L t v) := by
  have hle := lk L t
  refine .of fun i hi => ?_
  rw [gM] at hi
  have key : ∀ j, j < L.length + 1 → tAt (fV L t v) j = if j < plc L t then tAt L j else if j = plc L t then t else tAt L (j - 1) := fun j hj => by
    unfold tAt fV
    have hl : (L.take (plc L t)).length = plc L t := by simp; omega
    split
    · rename_i q
      rw [List.getElem?_append_left (by omega), List.getElem?_take, if_pos q]
    · rename_i q
      rw [List.getElem?_append_right (by omega), hl]
      split
      · rename_i q2; subst q2; simp
      · rename_i q2
        obtain ⟨m, rfl⟩ : ∃ m, j = plc L t + 1 + m := ⟨j - (plc L t + 1), by omega⟩
        rw [show plc L t + 1 + m - plc L t = m + 1 from by omega, List.getElem?_cons_succ, List.getElem?_drop, show plc L t + 1 + m - 1 = plc L t + m from by omega]
  rw [key i (by omega), key (i + 1) hi]
  have hp : plc L t < L.length → t < tAt L (plc L t) := fun q => by
    have h1 := vI q
    have h2 : tAt L (plc L t) ≠ t := fun e => by
      unfold has at hn
      rw [decide_eq_false_iff_not] at hn
      exact hn ⟨q, e⟩
    omega
  by_cases h1 : i + 1 < plc L t
  · rw [if_pos (by omega), if_pos h1]; exact h.lt (Nat.lt_succ_self i) (by omega)
  · rw [if_neg h1]
    by_cases h2 : i + 1 = plc L t
    · rw [if_pos h2, if_pos (by omega)]; exact vH (by omega)
    · rw [if_neg h2]
      by_cases h3 : i = plc L t
      · rw [if_neg (by omega), if_pos h3, show i + 1 - 1 = plc L t from by omega]; exact hp (by omega)
      · rw [if_neg (by omega), if_neg h3]; exact h.lt (by omega) (by omega)
theorem ua {L : Smp} (h : Up L) {t v : Int} (hh : has L t = true) {x : Int × Int} : x ∈ gR L t v ↔ x = (t, v) ∨ (x ∈ L ∧ x.1 ≠ t) := by
  have hh2 := hh
  unfold has at hh2
  rw [decide_eq_true_eq] at hh2
  obtain ⟨h1, h2⟩ := hh2
  unfold gR
  constructor
  · intro hx
    obtain ⟨i, hi, e⟩ := List.mem_iff_getElem.1 hx
    rw [List.length_set] at hi
    rw [List.getElem_set] at e
    split at e
    · exact .inl e.symm
    · rename_i q
      refine .inr ⟨by rw [← e]; exact List.getElem_mem hi, fun e2 => ?_⟩
      rw [← e, ← c6 hi] at e2
      rcases Nat.lt_or_gt_of_ne q with q | q
      · have := h.lt q hi; omega
      · have := h.lt q h1; omega
  · rintro (rfl | ⟨hx, hne⟩)
    · exact List.mem_iff_getElem.2 ⟨plc L t, by simpa using h1, by simp⟩
    · obtain ⟨i, hi, e⟩ := List.mem_iff_getElem.1 hx
      have : plc L t ≠ i := fun q => hne (by subst q; rw [← e, ← c6 hi]; exact h2)
      exact List.mem_iff_getElem.2 ⟨i, by simpa using hi, by rw [List.getElem_set_ne this]; exact e⟩
theorem wT {L : Smp} (h : Up L) {t v : Int} (hh : has L t = true) : Up (gR L t v) := by
  have hh2 := hh
  unfold has at hh2
  rw [decide_eq_true_eq] at hh2
  have key : ∀ j, tAt (gR L t v) j = tAt L j := fun j => by
    unfold gR tAt
    rw [List.getElem?_set]
    split
    · rename_i q
      subst q
      rw [if_pos hh2.1]
      have := hh2.2
      unfold tAt at this
      rw [this]; rfl
    · rfl
  refine .of fun i hi => ?_
  rw [ma] at hi
  rw [key, key]
  exact h.lt (Nat.lt_succ_self i) hi
def bK (L : Smp) : Prop := Up L ∧ (∀ x ∈ L, (0 ≤ x.1 ∧ x.1 < 1099511627776) ∧ aY x.2) ∧ L.length ≤ 20000
theorem bK.nil : bK [] := ⟨List.Pairwise.nil, (fun x h => by cases h), Nat.zero_le _⟩
theorem bK.fJ {L : Smp} (h : bK L) : ∀ x ∈ L, aY x.1 ∧ aY x.2 := fun x hx => by
  obtain ⟨⟨h1, h2⟩, h3⟩ := h.2.1 x hx
  exact ⟨⟨by omega, by omega⟩, h3⟩
theorem bK.sub {L M : Smp} (h : bK L) (hs : M.Sublist L) : bK M := ⟨h.1.sublist hs, fun x hx => h.2.1 x (hs.subset hx), Nat.le_trans hs.length_le h.2.2⟩
theorem ub (X : Smp) : ∀ i, 2 * i ≤ (aw X i).length
  | 0 => Nat.zero_le _
  | i + 1 => by
    have h1 := ub X i
    have h2 : 2 ≤ (bF X i).length := by
      unfold bF
      split
      · simp [aF]
      · rw [List.length_append]
        have := (dy (dT X i)).2
        have := (dy (dV X i)).2
        omega
    simp only [aw, List.length_append]
    omega
theorem wU (X : Smp) : 2 * X.length ≤ (aK X).length := ub X _
theorem Cw {a b : Int} (h : aY a) (k : aY b) : aY (min a b) := by
  rcases Int.le_total a b with q | q
  · rw [Int.min_eq_left q]; exact h
  · rw [Int.min_eq_right q]; exact k
theorem Cx {a b : Int} (h : aY a) (k : aY b) : aY (max a b) := by
  rcases Int.le_total a b with q | q
  · rw [Int.max_eq_right q]; exact k
  · rw [Int.max_eq_left q]; exact h
theorem qo {p a b : Int} (h : aY a) (k : aY b) : aY (aV p a b).1 := by
  have z : aY 0 := ⟨by omega, by omega⟩
  unfold aV
  split; exact z
  split; exact h
  split; exact k
  split; exact Cw h k
  split; exact Cx h k
  split
  · split
    · exact z
    · exact oQ _
  · exact z
theorem qp {size : Nat} (hs : size ≤ 4096) {L M : Smp} (h : bK L) (hu : Up M) (hm : ∀ x ∈ M, (0 ≤ x.1 ∧ x.1 < 1099511627776) ∧ aY x.2) : bK (lj size L M).1 := by
  unfold lj
  split
  · rename_i q
    have := wU M
    exact ⟨hu, hm, by show M.length ≤ 20000; omega⟩
  · exact h
theorem yC {size : Nat} (hs : size ≤ 4096) {L : Smp} (h : bK L) {t v p : Int} (hv : aY v) : bK (cR size L t v p).1 := by
  unfold cR
  split
  · exact h
  · rename_i ht
    have ht : 0 ≤ t ∧ t < 1099511627776 := by omega
    split
    · rename_i hh
      have ho : aY (vAt L (plc L t)) := (h.2.1 _ (Cv hh)).2
      split
      · exact h
      · refine qp hs h (wT h.1 hh) fun x hx => ?_
        rcases (ua h.1 hh).1 hx with rfl | ⟨hx, _⟩
        · exact ⟨ht, qo ho hv⟩
        · exact h.2.1 x hx
    · rename_i hh
      have hh : has L t = false := by simpa using hh
      refine qp hs h (wS h.1 hh v) fun x hx => ?_
      rcases tZ.1 hx with rfl | hx
      · exact ⟨ht, hv⟩
      · exact h.2.1 x hx
theorem oS {L : Smp} (h : bK L) (a b : Int) : bK (aN L a b) := h.sub List.filter_sublist
theorem ky {L : Smp} (h : L.length ≤ 7) : (aK L).length ≤ 944 := by
  have key : ∀ i, (aw L (i + 1)).length ≤ 128 + 136 * i := fun i => by
    induction i with
    | zero => simp [aw, bF, aF]
    | succ i ih =>
      show (aw L (i + 1) ++ bF L (i + 1)).length ≤ _
      rw [List.length_append]
      have h2 : (bF L (i + 1)).length ≤ 136 := by
        unfold bF
        rw [if_neg (by omega), List.length_append]
        have := (dy (dT L (i + 1))).1
        have := (dy (dV L (i + 1))).1
        omega
      omega
  unfold aK
  cases hl : L.length with
  | zero => simp [aw]
  | succ k => have := key k; omega
def mb (L : Smp) : Int := tAt L (L.length - 1)
def kP (L M : Smp) : Bool := decide (L ≠ []) && decide (M ≠ []) && decide (tAt M 0 ≤ mb L)
def bh (size : Nat) (L M : Smp) : (Smp × Smp) × Int := if kP L M then ((L, M), 1) else if (aK (L ++ M)).length ≤ 8 * size then ((L ++ M, []), 0) else ((L, M), 2)
theorem yD {size : Nat} (hs : size ≤ 4096) {L M : Smp} (h : bK L) (k : bK M) : bK (bh size L M).1.1 ∧ bK (bh size L M).1.2 := by
  unfold bh
  split
  · exact ⟨h, k⟩
  · rename_i hm
    split
    · rename_i hq
      refine ⟨⟨.of fun i hi => ?_, fun x hx => ?_, ?_⟩, .nil⟩
      · rw [List.length_append] at hi
        have a1 : ∀ j, j < L.length → tAt (L ++ M) j = tAt L j := fun j hj => by simp [tAt, List.getElem?_append_left hj]
        have a2 : ∀ j, L.length ≤ j → tAt (L ++ M) j = tAt M (j - L.length) := fun j hj => by simp [tAt, List.getElem?_append_right hj]
        by_cases h1 : i + 1 < L.length
        · rw [a1 i (by omega), a1 _ h1]; exact h.1.lt (Nat.lt_succ_self i) h1
        · rw [a2 (i + 1) (by omega)]
          by_cases h2 : i + 1 = L.length
          · rw [a1 i (by omega), show i + 1 - L.length = 0 from by omega]
            have hL : L ≠ [] := fun q => by subst q; simp at h2
            have hM : M ≠ [] := fun q => by subst q; simp at hi; omega
            have : ¬ tAt M 0 ≤ mb L := fun q => hm (by simp [kP, hL, hM, q])
            unfold mb at this
            rw [show L.length - 1 = i from by omega] at this
            omega
          · rw [a2 i (by omega), show i + 1 - L.length = i - L.length + 1 from by omega]
            exact k.1.lt (Nat.lt_succ_self _) (by omega)
      · rcases List.mem_append.1 hx with hx | hx
        · exact h.2.1 x hx
        · exact k.2.1 x hx
      · have := wU (L ++ M); show (L ++ M).length ≤ 20000; omega
    · exact ⟨h, k⟩
end Go.Proofs.Ytapjijhjnloimaa
namespace Go.Proofs.Ytapjijhjnloimaa
open Go Go.RowKit
def cI (H : AH) (n : Nat) (H' : AH) (n' : Nat) : Prop := ∀ (φ : Ph) (h0 h : Hp), HR φ H n h0 h → HR φ H' n' h0 h
def VTo (u v : AV) : Prop := ∀ (φ : Ph) (w : Value), VR φ u w → VR φ v w
theorem cI.refl (H : AH) (n : Nat) : cI H n H n := fun _ _ _ h => h
theorem cI.trans {H1 H2 H3 : AH} {n1 n2 n3 : Nat} (h : cI H1 n1 H2 n2) (k : cI H2 n2 H3 n3) : cI H1 n1 H3 n3 := fun φ h0 hp q => k φ h0 hp (h φ h0 hp q)
theorem cI.vG {H : AH} {n b : Nat} {l l' : List AV} {z : Bool} (hb : H.get b = some (.cells l z)) (hf : l'.all flat.flat1 = true) (e : l.map Go.Proofs.Ytapjijhjnloimaa.mk = l'.map Go.Proofs.Ytapjijhjnloimaa.mk) : cI H n (H.set (some (.cells l' z)) aa b) n := fun _ _ _ hr => hr.vG hb hf e
theorem VTo.refl (u : AV) : VTo u u := fun _ _ h => h
def post (g : List AV → AH → Nat → PK → Prop) (args : List AV) (H : AH) (n : Nat) (κ : PK) : Prop := g args H n fun u H' n' => ∃ v H2 n2, VTo u v ∧ cI H' n' H2 n2 ∧ κ v H2 n2
theorem aM.post {f : FuncId} {g : List AV → AH → Nat → PK → Prop} (hg : aM f g) : aM f (post g) := fun args H n κ hs φ h0 h vs K hr ha hk => hg args H n _ hs φ h0 h vs K hr ha fun ψ u H' n' w g' hle hg' hu ⟨v, H2, n2, h1, h2, h3⟩ => hk ψ v H2 n2 w g' hle (h2 _ _ _ hg') (h1 _ _ hu) h3
theorem Cy {s : List Nat} {i : Nat} (h : i < s.length) : (bX s)[i]? = some (.si .u8 (Int.ofNat s[i])) := by
  unfold bX
  rw [List.getElem?_map, List.getElem?_eq_getElem h]; rfl
theorem oT : ∀ (l : List AV) (o : Nat) (x : AV), o < l.length → dC l o [x] = some (l.set o x)
  | [], o, x, h => by simp at h
  | y :: l, 0, x, _ => by cases l <;> simp [dC]
  | y :: l, o + 1, x, h => by simp [dC, oT l o x (by simpa using h)]
theorem Aq (s : List Nat) (o : Nat) (c : Nat) : (bX s).set o (.si .u8 (Int.ofNat c)) = bX (s.set o c) := by simp [bX, List.map_set]
theorem Ar (s t : List Nat) : bX (s ++ t) = bX s ++ bX t := by simp [bX]
theorem uc {s : List Nat} (h : ∀ x ∈ s, x < 256) : gG (bX s) = some s := oH h
def shN (N : Nat) : Nat := 7 - N % 8
theorem wV (N : Nat) : IntKind.i64.wrap (7 - ((N : Nat) : Int).tmod 8) = ((shN N : Nat) : Int) := by
  have h : ((N : Nat) : Int).tmod 8 = ((N % 8 : Nat) : Int) := by
    rw [Int.tmod_eq_emod_of_nonneg (Int.natCast_nonneg _)]; rfl
  rw [h]
  have := Nat.mod_lt N (show 8 > 0 by decide)
  unfold shN
  rw [IntKind.wrap_i64]; omega
theorem As (N : Nat) : min (IntKind.i64.wrap (7 - ((N : Nat) : Int).tmod 8)).toNat 8 = shN N := by
  rw [wV]; unfold shN; simp; omega
theorem div_eq (N : Nat) (h : N ≤ 9223372036854775807) : IntKind.i64.wrap (((N : Nat) : Int).tdiv 8) = ((N / 8 : Nat) : Int) := by
  have e : ((N : Nat) : Int).tdiv 8 = ((N / 8 : Nat) : Int) := by
    rw [Int.tdiv_eq_ediv_of_nonneg (Int.natCast_nonneg _)]; rfl
  rw [e, IntKind.wrap_i64]; omega
theorem wW (N : Nat) : (((N : Nat) : Int).tmod 8 = 0) ↔ N % 8 = 0 := by
  have h : ((N : Nat) : Int).tmod 8 = ((N % 8 : Nat) : Int) := by
    rw [Int.tmod_eq_emod_of_nonneg (Int.natCast_nonneg _)]; rfl
  rw [h]; omega
theorem fdiv_pow (U m : Nat) : ((U : Nat) : Int).fdiv ((2 : Int) ^ m) = ((U / 2 ^ m : Nat) : Int) := by
  have : ((2 : Int) ^ m) = ((2 ^ m : Nat) : Int) := by rw [Int.natCast_pow]; rfl
  rw [this, tT]
theorem Au {U m : Nat} {i : Int} (hi : i = (m : Int)) (hm : m < 64) : bu .and .u8 (IntKind.u8.wrap (((U : Nat) : Int).fdiv ((2 : Int) ^ min i.toNat 64))) 1 = ((U / 2 ^ m % 2 : Nat) : Int) := by
  subst hi
  rw [show min (Int.toNat (m : Int)) 64 = m from by simp; omega, fdiv_pow, EB]
theorem wrU (x : Int) (b : Nat) (hb : b < 2) (hx : x = (b : Int)) (N : Nat) : IntKind.u8.wrap (x * (2 : Int) ^ min (IntKind.i64.wrap (7 - ((N : Nat) : Int).tmod 8)).toNat 8) = ((b * 2 ^ shN N : Nat) : Int) := by
  subst hx
  rw [As]
  exact EC hb (by unfold shN; omega)
theorem wX {B : List Nat} {x : Int} {b : Nat} (hb : b < 2) (hx : x = (b : Int)) (h8 : B.length % 8 = 0) {o : Nat} (ho : o = B.length / 8) :
    dC (bX (pack B) ++ [.int .u8 0]) o [.si .u8 (bu .or .u8 0 (IntKind.u8.wrap (x * (2 : Int) ^ min (IntKind.i64.wrap (7 - ((B.length : Nat) : Int).tmod 8)).toNat 8)))] = some (bX (pack (B ++ [b]))) := by
  have hl : (bX (pack B)).length = B.length / 8 := by rw [ep, aR]; omega
  have hs : shN B.length = 7 := by unfold shN; omega
  rw [oT _ _ _ (by simp [hl, ho]), wrU x b hb hx, hs, oP h8, Ar]
  have e : bu .or .u8 0 ((b * 2 ^ 7 : Nat) : Int) = Int.ofNat (b * 2 ^ 7) := by
    have := DZ (a := 0) (b := b) (r := 7) (by decide) (by decide) hb (by decide)
    rw [Nat.zero_add] at this
    exact this
  rw [e, List.set_append_right _ _ (by omega), hl, ho, Nat.sub_self]
  rfl
theorem Av {B : List Nat} (h8 : B.length % 8 = 0) {o : Nat} (ho : o = B.length / 8) : nth (bX (pack B) ++ [.int .u8 0]) o = some (.int .u8 0) := by
  have hl : (bX (pack B)).length = B.length / 8 := by rw [ep, aR]; omega
  rw [dQ, List.getElem?_append_right (by omega), hl, ho, Nat.sub_self]; rfl
theorem Aw {B : List Nat} (h8 : B.length % 8 ≠ 0) {o : Nat} (ho : o = B.length / 8) : nth (bX (pack B)) o = some (.si .u8 (Int.ofNat (ia (B.drop (8 * (B.length / 8)))))) := by
  have hp := ib B (B.length / 8) (by omega)
  have hl : B.length / 8 < (pack B).length := by rw [aR]; omega
  rw [dQ, ho, Cy hl]
  rw [List.getElem?_eq_getElem hl] at hp
  injection hp with hp
  rw [hp, List.take_of_length_le (by rw [List.length_drop]; omega)]
theorem wY {B : List Nat} {x : Int} {b : Nat} (hB : cD B) (hb : b < 2) (hx : x = (b : Int)) (h8 : B.length % 8 ≠ 0) {o : Nat} (ho : o = B.length / 8) :
    dC (bX (pack B)) o [.si .u8 (bu .or .u8 (Int.ofNat (ia (B.drop (8 * (B.length / 8))))) (IntKind.u8.wrap (x * (2 : Int) ^ min (IntKind.i64.wrap (7 - ((B.length : Nat) : Int).tmod 8)).toNat 8)))] = some (bX (pack (B ++ [b]))) := by
  have hl : B.length / 8 < (bX (pack B)).length := by rw [ep, aR]; omega
  have hd : (B.drop (8 * (B.length / 8))).length = B.length % 8 := by rw [List.length_drop]; omega
  have hd8 : (B.drop (8 * (B.length / 8))).length < 8 := by rw [hd]; exact Nat.mod_lt _ (by decide)
  have hc := tR (C := B.drop (8 * (B.length / 8))) (fun c hc => hB c (List.mem_of_mem_drop hc)) (by omega)
  have hr := vF hd8
  have hs : shN B.length = 7 - (B.drop (8 * (B.length / 8))).length := by rw [hd]; rfl
  rw [oT _ _ _ (by omega), wrU x b hb hx, Cu h8, hs, ← Aq, ho]
  have e := DZ (a := ia (B.drop (8 * (B.length / 8)))) (b := b) (r := 7 - (B.drop (8 * (B.length / 8))).length) hc hr hb (by omega)
  rw [show (Int.ofNat (ia (B.drop (8 * (B.length / 8))))) = ((ia (B.drop (8 * (B.length / 8))) : Nat) : Int) from rfl, e, hd]
  rfl
theorem ED {s : List Nat} (hs : ∀ x ∈ s, x < 256) {a c : Nat} (hc : nth s (a / 8) = some c) : bu .and .u8 ((Int.ofNat c).fdiv ((2 : Int) ^ min (IntKind.i64.wrap (7 - ((a : Nat) : Int).tmod 8)).toNat 8)) 1 = ((l8 s a : Nat) : Int) := by
  rw [dQ] at hc
  have hc2 : c < 256 := hs c (List.mem_of_getElem? hc)
  rw [As, show (Int.ofNat c) = ((c : Nat) : Int) from rfl, fdiv_pow, EA hc2]
  unfold l8 shN
  rw [hc]; rfl
theorem Cz {s : List Nat} (hs : ∀ x ∈ s, x < 256) {a c u : Nat} (hc : nth s (a / 8) = some c) (hu : u < 9223372036854775808) :
    bu .or .u64 (IntKind.u64.wrap (((u : Nat) : Int) * 2)) (IntKind.u64.wrap (bu .and .u8 ((Int.ofNat c).fdiv ((2 : Int) ^ min (IntKind.i64.wrap (7 - ((a : Nat) : Int).tmod 8)).toNat 8)) 1)) = ((2 * u + l8 s a : Nat) : Int) := by
  rw [ED hs hc]
  exact FZ hu (Nat.mod_lt _ (by decide))
theorem oU (s : List Nat) (a i j : Nat) : aB s a (i + j) = aB s a i ++ aB s (a + i) j := by
  unfold aB
  rw [List.range_add, List.map_append, List.map_map]
  congr 1
  exact List.map_congr_left fun k _ => by simp [Nat.add_assoc]
theorem yE (s : List Nat) (a : Nat) {j : Nat} (h : j ≤ 63) : bP 0 (aB s a j) < 9223372036854775808 := by
  have := nE _ (tY s a j)
  rw [iu] at this
  have h2 : 2 ^ j ≤ 2 ^ 63 := Nat.pow_le_pow_right (by decide) h
  omega
theorem Ax (x : Int) : W64 x = (x + 9223372036854775808) % 18446744073709551616 - 9223372036854775808 := by
  show IntKind.i64.wrap x = _
  rw [IntKind.wrap_i64]
theorem ue (a d : Int) : W64 (a + W64 (W64 d - a)) = W64 d := by
  (try simp only [Ax]); omega
theorem uf {a b : Int} (h : aY b) : W64 (a + W64 (b - a)) = b := by
  have := h.1; have := h.2
  (try simp only [Ax]); omega
theorem ug (X : Smp) {i : Nat} (h : i ≠ 0) : W64 (cH X i + jT (dT X i)) = cH X (i + 1) := by
  unfold dT
  rw [wR, ue]
  unfold cH
  rw [if_neg (by omega)]
  congr 2
theorem F1 {X : Smp} {i : Nat} (h : i ≠ 0) (hx : aY (tAt X i)) : W64 (tAt X (i - 1) + cH X (i + 1)) = tAt X i := by
  unfold cH
  rw [if_neg (by omega), show i + 1 - 1 = i from rfl, show i + 1 - 2 = i - 1 from by omega]
  exact uf hx
theorem F2 {X : Smp} {i : Nat} (hx : aY (vAt X i)) : W64 (vAt X (i - 1) + jT (dV X i)) = vAt X i := by
  unfold dV
  rw [wR]
  exact uf hx
theorem D0 (X : Smp) (i : Nat) : dT X i < 18446744073709551616 := Am (oQ _)
theorem D1 (X : Smp) (i : Nat) : dV X i < 18446744073709551616 := Am (oQ _)
theorem Ay {X : Smp} (h : ∀ x ∈ X, aY x.1 ∧ aY x.2) (i : Nat) : aY (tAt X i) ∧ aY (vAt X i) := by
  unfold tAt vAt
  cases e : X[i]? with
  | none => exact ⟨⟨by decide, by decide⟩, ⟨by decide, by decide⟩⟩
  | some x => exact h x (List.mem_of_getElem? e)
end Go.Proofs.Ytapjijhjnloimaa
namespace Go.Proofs.Ytapjijhjnloimaa
open Go Go.RowKit
theorem ai.fnp {H : AH} {m : Nat} {r : Nat → Nat} {a : AV} {f b o : Nat} (hb : b < m) (e : a = .fn f [.ptr (r b) o] []) : ai H m r a (.fn f [.ptr b o] []) := fun φ ψ v hr _ hv => by
  subst e
  obtain ⟨xs, cs, rfl, h1, h2⟩ := hv.kY
  obtain ⟨x, l, e1, h3, h4⟩ := h1.cons_inv
  obtain ⟨p, h5, rfl⟩ := h3.ct
  refine .fn ?_ (by rw [h2.aU]; exact .nil)
  rw [e1, h4.aU]
  exact .cons (.ptr (by rw [hr.1 b hb]; exact h5)) .nil
def ji (c : Nat) (B : List Nat) : List AV := [.rw c 0 (pack B).length 1 0, .si .i64 ((B.length : Nat) : Int)]
noncomputable def F3 (H : AH) (n b c : Nat) (B : List Nat) : AH := ((H.set (some (.cells (bX (pack B)) true)) aa n).set none aa c).set (some (.cells (ji n B) true)) aa b
def nF (args : List AV) (H : AH) (n : Nat) (κ : PK) : Prop := match args with
  | [x, u, m] => ∃ (b c U k : Nat) (B : List Nat), x = .ptr b 0 ∧ b ≠ c ∧ b < n ∧ c < n ∧ H.get b = some (.cells (ji c B) true) ∧ H.get c = some (.cells (bX (pack B)) true) ∧ cD B ∧ mk u = .si .u64 (U : Int) ∧ mk m = .si .i64 (k : Int) ∧ k ≤ 64 ∧ U < 2 ^ k ∧ B.length ≤ 100000000 ∧
      κ (.int .i64 0) (F3 H n b c (B ++ bitsOf U k)) (n + 1)
  | _ => False
theorem ng (U k : Nat) : bitsOf U (k + 1) = [U / 2 ^ k % 2] ++ bitsOf U k := rfl
noncomputable def wc (U : Nat) (D : List Nat) (k : Nat) : AE × AH := (mkE [(0, .si .u64 ((U : Nat) : Int)), (2, .fn 106 [.ptr 0 0] []), (6, .si .i64 (((k : Nat) : Int) - 1))], mkH [(0, .cells (ji 2 D) true), (2, .cells (bX ((pack D))) true)])
theorem mQ {U : Nat} {D : List Nat} {k : Nat} {p n : Nat} {σ : AE} {H : AH} (j2 : Nat) (hj : j2 ≠ 0) (hp : p ≤ 2) (e0 : ai H 3 (fun b => if b = 2 then j2 else b) (aA (pa 0) σ) (.si .u64 ((U : Nat) : Int))) (e2 : ai H 3 (fun b => if b = 2 then j2 else b) (aA (pa 2) σ) (.fn 106 [.ptr 0 0] [])) (e6 : mk (aA (pa 6) σ) = .si .i64 (((k : Nat) : Int) - 1)) (h0 : ∃ l, H.get 0 = some (.cells l true) ∧ jU H 3 (fun b => if b = 2 then j2 else b) l (ji 2 D)) (h2 : (∃ l, H.get j2 = some (.cells l true) ∧ l.map mk = bX ((pack D))) ∨ (((pack D)) = [] ∧ n ≤ j2)) : Cov p σ H n ((wc U D k).1, (wc U D k).2, 3) := by
  refine Cov.ofR (fun b => if b = 2 then j2 else b) (by omega) (fun b hb => by repeat' rw [if_neg (by omega)]) ?_ ?_ ?_
  · intro x hx
    simp only [List.mem_cons, List.not_mem_nil, or_false] at hx
    rcases hx with rfl | rfl | rfl
    · exact e0
    · exact e2
    · exact .int e6
  · intro x hx
    simp only [List.mem_cons, List.not_mem_nil, or_false] at hx
    rcases hx with rfl | rfl
    · exact ⟨by simp, .inl (h0.elim fun l h => ⟨_, h.1, aQ.st h.2⟩)⟩
    · exact ⟨by simp, h2.elim (fun ⟨l, h, g⟩ => .inl ⟨_, h, aQ.bA (iH _) (by rw [g, dI]) (fun q => q)⟩) (fun h => .inr ⟨by rw [h.1]; rfl, h.2⟩)⟩
  · intro x hx y hy
    simp only [List.mem_cons, List.not_mem_nil, or_false] at hx hy
    rcases hx with rfl | rfl <;> rcases hy with rfl | rfl <;> simp <;> omega
noncomputable def KW : FuncId → EP := bB 106 [] evP
theorem F4 : bI KW := aE a8 (by kernel_rfl) (by kernel_rfl)
theorem Az {U k : Nat} (hk : k ≤ 64) (hd : U / 2 ^ k = 0) : ¬ 0 < ((U : Nat) : Int).fdiv ((2 : Int) ^ min (Int.toNat (k : Int)) IntKind.u64.bits) := by
  rw [show min (Int.toNat (k : Int)) IntKind.u64.bits = k from by show min k 64 = k; omega, fdiv_pow, hd]; decide
theorem tyB : RTy 126 126 1 1 := ⟨_, _, _, rfl, rfl, (fun q h => by cases h), rfl, rfl, rfl, rfl, by decide, by decide⟩
theorem AA (B : List Nat) (U k : Nat) (hB : cD B) (hk : k ≤ 64) (hU : U < 2 ^ k) (hl : B.length ≤ 100000000) : az KW 5 94 [.ptr 0 0, .si .u64 (U : Int), .si .i64 (k : Int)] (mkH [(0, .cells (ji 1 B) true), (1, .cells (bX (pack B)) true)]) 2
    fun u H' _ => u = .int .i64 0 ∧ H'.get 0 = some (.cells (ji 2 (B ++ bitsOf U k)) true) ∧ H'.get 2 = some (.cells (bX (pack (B ++ bitsOf U k))) true) := by
  have hdiv : U / 2 ^ k = 0 := Nat.div_eq_of_lt hU
  have hkw : IntKind.i64.wrap ((k : Int) - 1) = (k : Int) - 1 := b5 ⟨by omega, by omega⟩
  conv => whnf
  refine ak.dec (fun h => absurd h (by omega)) (fun _ => ?_)
  conv => whnf
  refine ak.dec (fun h => absurd h (by omega)) (fun _ => ?_)
  conv => whnf
  refine ak.dec (fun h64 => ?_) (fun h64 => ?_)
  · conv => whnf
    refine ⟨by omega, ?_⟩
    conv => whnf
    refine ak.dec (fun h => absurd h (Az hk hdiv)) (fun _ => ?_)
    conv => whnf
    refine bz.mk { t : List Nat × Nat // t.1 ++ bitsOf U t.2 = B ++ bitsOf U k ∧ cD t.1 ∧ t.2 ≤ k ∧ t.1.length + t.2 = B.length + k } 3 (fun t => wc U t.val.1 t.val.2) (fun t => t.val.2) ⟨(B, k), rfl, hB, Nat.le_refl _, rfl⟩ ?_ ?_
    · exact mQ (j2 := 1) (by decide) (Nat.le_refl 2) (.int rfl) (.fnp (by decide) rfl) (congrArg (AV.si .i64) hkw) ⟨_, rfl, .cons (ai.rw (by decide) rfl) (.cons (.int rfl) .nil)⟩ (.inl ⟨_, rfl, dI _⟩)
    · intro ⟨(D, m), he, hD, hm, hlen⟩
      dsimp only at he hD hm hlen
      have hDl : D.length ≤ 100000064 := by omega
      have hDp : (pack D).length ≤ 100000000 := by rw [aR]; omega
      cases m with
      | zero =>
        conv => whnf
        refine ak.dec (fun h1 => absurd h1 (by show ¬ (0 : Int) ≤ ((0 : Nat) : Int) - 1; omega)) (fun _ => ?_)
        conv => whnf
        have e : D = B ++ bitsOf U k := by simpa [bitsOf] using he
        subst e
        exact ⟨rfl, rfl, rfl⟩
      | succ m =>
        have hb2 : U / 2 ^ m % 2 < 2 := Nat.mod_lt _ (by decide)
        have hi0 : 0 ≤ ((m + 1 : Nat) : Int) - 1 := by omega
        have hi : ((m + 1 : Nat) : Int) - 1 = (m : Int) := by omega
        have hbit := Au (U := U) hi (by omega)
        have hiw : IntKind.i64.wrap (((m + 1 : Nat) : Int) - 1 - 1) = ((m : Nat) : Int) - 1 := (congrArg IntKind.i64.wrap (congrArg (· - 1) hi)).trans (b5 ⟨by omega, by omega⟩)
        have hnw : IntKind.i64.wrap ((D.length : Int) + 1) = (((D ++ [U / 2 ^ m % 2]).length : Nat) : Int) := by rw [List.length_append, List.length_singleton]; exact b5 ⟨by omega, by omega⟩
        have hq := div_eq D.length (by omega)
        have hsh0 : 0 ≤ IntKind.i64.wrap (7 - (D.length : Int).tmod 8) := by rw [wV]; omega
        have hrow : bj (bX (pack D)) 0 ((pack D).length * 1) = some (bX (pack D)) := cz (by rw [ep, Nat.mul_one])
        have hnext : (D ++ [U / 2 ^ m % 2]) ++ bitsOf U m = B ++ bitsOf U k := by rw [List.append_assoc, ← ng]; exact he
        have hbig : ((pack D).length + 1) * 1 ≤ 140737488355328 := by omega
        have hDn : cD (D ++ [U / 2 ^ m % 2]) := hD.app (.one hb2)
        conv => whnf
        refine ak.dec (fun _ => ?_) (fun h1 => absurd hi0 h1)
        conv => whnf
        refine ⟨hi0, ?_⟩
        conv => whnf
        refine ak.dec (fun h8 => ?_) (fun h8 => ?_)
        · have h8 := (wW _).1 h8
          have hpl : (pack (D ++ [U / 2 ^ m % 2])).length = (pack D).length + 1 := by rw [oP h8]; simp
          have ho : 0 + D.length / 8 * 1 = D.length / 8 := by omega
          have hix : D.length / 8 < (pack D).length + 1 := by rw [aR]; omega
          conv => whnf
          refine jf.grow 1 1 _ _ _ _ _ _ tyB (.old rfl) rfl rfl (.rw rfl hrow) hbig ?_
          conv => whnf
          refine Idx.mk (D.length / 8) hq hix ?_
          conv => whnf
          refine aD (Av h8 ho) ?_
          conv => whnf
          refine ⟨hsh0, ?_⟩
          conv => whnf
          refine Idx.mk (D.length / 8) hq hix ?_
          conv => whnf
          refine aD (wX hb2 hbit h8 ho) ?_
          conv => whnf
          refine ⟨⟨(D ++ [U / 2 ^ m % 2], m), hnext, hDn, by omega, by simp; omega⟩, Nat.lt_succ_self m, mQ (j2 := 4) (by decide) (Nat.le_refl 2) (.int rfl) (.fnp (by decide) rfl) (congrArg (AV.si .i64) hiw) ⟨_, rfl, .cons (ai.rw (by decide) rfl (hn := hpl.symm)) (.cons (.int (congrArg (AV.si .i64) hnw)) .nil)⟩ (.inl ⟨_, rfl, dI _⟩)⟩
        · have h8 : D.length % 8 ≠ 0 := fun q => h8 ((wW _).2 q)
          have hpl : (pack (D ++ [U / 2 ^ m % 2])).length = (pack D).length := by rw [aR, aR]; simp; omega
          have ho : 0 + D.length / 8 * 1 = D.length / 8 := by omega
          have hix : D.length / 8 < (pack D).length := by rw [aR]; omega
          conv => whnf
          refine Idx.mk (D.length / 8) hq hix ?_
          conv => whnf
          refine aD (Aw h8 ho) ?_
          conv => whnf
          refine ⟨hsh0, ?_⟩
          conv => whnf
          refine Idx.mk (D.length / 8) hq hix ?_
          conv => whnf
          refine aD (wY hD hb2 hbit h8 ho) ?_
          conv => whnf
          refine ⟨⟨(D ++ [U / 2 ^ m % 2], m), hnext, hDn, by omega, by simp; omega⟩, Nat.lt_succ_self m, mQ (j2 := 2) (by decide) (Nat.le_refl 2) (.int rfl) (.fnp (by decide) rfl) (congrArg (AV.si .i64) hiw) ⟨_, rfl, .cons (ai.rw (by decide) rfl (hn := hpl.symm)) (.cons (.int (congrArg (AV.si .i64) hnw)) .nil)⟩ (.inl ⟨_, rfl, dI _⟩)⟩
  · conv => whnf
    refine bz.mk { t : List Nat × Nat // t.1 ++ bitsOf U t.2 = B ++ bitsOf U k ∧ cD t.1 ∧ t.2 ≤ k ∧ t.1.length + t.2 = B.length + k } 3 (fun t => wc U t.val.1 t.val.2) (fun t => t.val.2) ⟨(B, k), rfl, hB, Nat.le_refl _, rfl⟩ ?_ ?_
    · exact mQ (j2 := 1) (by decide) (Nat.le_refl 2) (.int rfl) (.fnp (by decide) rfl) (congrArg (AV.si .i64) hkw) ⟨_, rfl, .cons (ai.rw (by decide) rfl) (.cons (.int rfl) .nil)⟩ (.inl ⟨_, rfl, dI _⟩)
    · intro ⟨(D, m), he, hD, hm, hlen⟩
      dsimp only at he hD hm hlen
      have hDl : D.length ≤ 100000064 := by omega
      have hDp : (pack D).length ≤ 100000000 := by rw [aR]; omega
      cases m with
      | zero =>
        conv => whnf
        refine ak.dec (fun h1 => absurd h1 (by show ¬ (0 : Int) ≤ ((0 : Nat) : Int) - 1; omega)) (fun _ => ?_)
        conv => whnf
        have e : D = B ++ bitsOf U k := by simpa [bitsOf] using he
        subst e
        exact ⟨rfl, rfl, rfl⟩
      | succ m =>
        have hb2 : U / 2 ^ m % 2 < 2 := Nat.mod_lt _ (by decide)
        have hi0 : 0 ≤ ((m + 1 : Nat) : Int) - 1 := by omega
        have hi : ((m + 1 : Nat) : Int) - 1 = (m : Int) := by omega
        have hbit := Au (U := U) hi (by omega)
        have hiw : IntKind.i64.wrap (((m + 1 : Nat) : Int) - 1 - 1) = ((m : Nat) : Int) - 1 := (congrArg IntKind.i64.wrap (congrArg (· - 1) hi)).trans (b5 ⟨by omega, by omega⟩)
        have hnw : IntKind.i64.wrap ((D.length : Int) + 1) = (((D ++ [U / 2 ^ m % 2]).length : Nat) : Int) := by rw [List.length_append, List.length_singleton]; exact b5 ⟨by omega, by omega⟩
        have hq := div_eq D.length (by omega)
        have hsh0 : 0 ≤ IntKind.i64.wrap (7 - (D.length : Int).tmod 8) := by rw [wV]; omega
        have hrow : bj (bX (pack D)) 0 ((pack D).length * 1) = some (bX (pack D)) := cz (by rw [ep, Nat.mul_one])
        have hnext : (D ++ [U / 2 ^ m % 2]) ++ bitsOf U m = B ++ bitsOf U k := by rw [List.append_assoc, ← ng]; exact he
        have hbig : ((pack D).length + 1) * 1 ≤ 140737488355328 := by omega
        have hDn : cD (D ++ [U / 2 ^ m % 2]) := hD.app (.one hb2)
        conv => whnf
        refine ak.dec (fun _ => ?_) (fun h1 => absurd hi0 h1)
        conv => whnf
        refine ⟨hi0, ?_⟩
        conv => whnf
        refine ak.dec (fun h8 => ?_) (fun h8 => ?_)
        · have h8 := (wW _).1 h8
          have hpl : (pack (D ++ [U / 2 ^ m % 2])).length = (pack D).length + 1 := by rw [oP h8]; simp
          have ho : 0 + D.length / 8 * 1 = D.length / 8 := by omega
          have hix : D.length / 8 < (pack D).length + 1 := by rw [aR]; omega
          conv => whnf
          refine jf.grow 1 1 _ _ _ _ _ _ tyB (.old rfl) rfl rfl (.rw rfl hrow) hbig ?_
          conv => whnf
          refine Idx.mk (D.length / 8) hq hix ?_
          conv => whnf
          refine aD (Av h8 ho) ?_
          conv => whnf
          refine ⟨hsh0, ?_⟩
          conv => whnf
          refine Idx.mk (D.length / 8) hq hix ?_
          conv => whnf
          refine aD (wX hb2 hbit h8 ho) ?_
          conv => whnf
          refine ⟨⟨(D ++ [U / 2 ^ m % 2], m), hnext, hDn, by omega, by simp; omega⟩, Nat.lt_succ_self m, mQ (j2 := 4) (by decide) (Nat.le_refl 2) (.int rfl) (.fnp (by decide) rfl) (congrArg (AV.si .i64) hiw) ⟨_, rfl, .cons (ai.rw (by decide) rfl (hn := hpl.symm)) (.cons (.int (congrArg (AV.si .i64) hnw)) .nil)⟩ (.inl ⟨_, rfl, dI _⟩)⟩
        · have h8 : D.length % 8 ≠ 0 := fun q => h8 ((wW _).2 q)
          have hpl : (pack (D ++ [U / 2 ^ m % 2])).length = (pack D).length := by rw [aR, aR]; simp; omega
          have ho : 0 + D.length / 8 * 1 = D.length / 8 := by omega
          have hix : D.length / 8 < (pack D).length := by rw [aR]; omega
          conv => whnf
          refine Idx.mk (D.length / 8) hq hix ?_
          conv => whnf
          refine aD (Aw h8 ho) ?_
          conv => whnf
          refine ⟨hsh0, ?_⟩
          conv => whnf
          refine Idx.mk (D.length / 8) hq hix ?_
          conv => whnf
          refine aD (wY hD hb2 hbit h8 ho) ?_
          conv => whnf
          refine ⟨⟨(D ++ [U / 2 ^ m % 2], m), hnext, hDn, by omega, by simp; omega⟩, Nat.lt_succ_self m, mQ (j2 := 2) (by decide) (Nat.le_refl 2) (.int rfl) (.fnp (by decide) rfl) (congrArg (AV.si .i64) hiw) ⟨_, rfl, .cons (ai.rw (by decide) rfl (hn := hpl.symm)) (.cons (.int (congrArg (AV.si .i64) hnw)) .nil)⟩ (.inl ⟨_, rfl, dI _⟩)⟩
end Go.Proofs.Ytapjijhjnloimaa
namespace Go.Proofs.Ytapjijhjnloimaa
open Go Go.RowKit
theorem jj {H : AH} {n b : Nat} {o : AO} (hb : b < n) (h : H.get b = some (dS (bf [b] n) o)) (hv : o.void = false ∨ o.own = true) : gK H n [b] [o] := ⟨by simp, rfl, fun i s q h1 h2 => by
  match i, h1, h2 with
  | 0, h1, h2 => injection h1 with h1; injection h2 with h2; subst h1 h2; exact ⟨hb, h, hv⟩⟩
theorem rD {H : AH} {n b c : Nat} {o q : AO} (hbc : b ≠ c) (hb : b < n) (hc : c < n) (h : H.get b = some (dS (bf [b, c] n) o)) (k : H.get c = some (dS (bf [b, c] n) q)) (hv : o.void = false ∨ o.own = true) (kv : q.void = false ∨ q.own = true) : gK H n [b, c] [o, q] :=
  ⟨by simp [hbc], rfl, fun i s r h1 h2 => by
    match i, h1, h2 with
    | 0, h1, h2 => injection h1 with h1; injection h2 with h2; subst h1 h2; exact ⟨hb, h, hv⟩
    | 1, h1, h2 => injection h1 with h1; injection h2 with h2; subst h1 h2; exact ⟨hc, k, kv⟩⟩
theorem mc (r : Nat → Nat) (c : Nat) (B : List Nat) : dq r (ji c B) = ji (r c) B := rfl
theorem me (r : Nat → Nat) (s : List Nat) : dq r (bX s) = bX s := qn r _ (iH s)
theorem IW (H : AH) (n b c : Nat) (B : List Nat) : gQ [b, c] n H [(0, some (.cells (ji 2 B) true)), (1, none), (2, some (.cells (bX (pack B)) true))] = F3 H n b c B := by
  simp only [gQ, Option.map_some, Option.map_none, dS, mc, me]
  rfl
theorem AB : aM 94 nF := fun args H n κ hs φ h0' hp vs K hr hargs hk => by
  unfold nF at hs
  split at hs
  · obtain ⟨x, y, z, rfl, e1, e2, e3⟩ := vs3 hargs
    obtain ⟨b, c, U, k, B, rfl, hbc, hbn, hcn, hb, hc, hB, hu, hm, hk64, hU, hl, hs⟩ := hs
    refine cG (S := [b, c]) (O := [.cells (ji 1 B) true, .cells (bX (pack B)) true]) (args0 := [.ptr 0 0, .si .u64 (U : Int), .si .i64 (k : Int)]) (aG F4 5 _) (by kernel_rfl) hr
      (rD hbc hbn hcn (by rw [dS, mc]; exact hb) (by rw [dS, me]; exact hc) (.inr rfl) (.inr rfl)) ?_ hk (AA B U k hB hk64 hU hl) fun u H' n' ⟨h1, h2, h3⟩ => ?_
    · exact .cons e1 (.cons (by have := e2.mk; rw [hu] at this; exact this) (.cons (by have := e3.mk; rw [hm] at this; exact this) .nil))
    · subst h1
      refine ⟨3, gQ [b, c] n H [(0, some (.cells (ji 2 (B ++ bitsOf U k)) true)), (1, none), (2, some (.cells (bX (pack (B ++ bitsOf U k))) true))], Nat.le_succ 2, cU.put (Nat.le_succ 2) rfl (fun x hx o ho => ?_), rfl, ?_⟩
      · simp only [List.mem_cons, List.not_mem_nil, or_false] at hx
        rcases hx with rfl | rfl | rfl
        · injection ho with ho; subst ho; exact ⟨h2, rfl, rfl⟩
        · cases ho
        · injection ho with ho; subst ho; exact ⟨h3, rfl, oR _ _ (iH _)⟩
      · rw [IW]; exact hs
  · exact hs.elim
noncomputable def KP1 : FuncId → EP := a9 94 nF evP
theorem EE : bI KP1 := au a8 AB
theorem jW {U : Nat} {w : Int} {m : Nat} (hw : min w.toNat IntKind.u64.bits = m) (h : U / 2 ^ m = 0) : ¬ 0 < ((U : Nat) : Int).fdiv ((2 : Int) ^ min w.toNat IntKind.u64.bits) := by
  rw [hw, fdiv_pow, h]; decide
theorem b7 {U : Nat} {w : Int} {m : Nat} (hw : min w.toNat IntKind.u64.bits = m) (h : U / 2 ^ m ≠ 0) : ¬ ¬ 0 < ((U : Nat) : Int).fdiv ((2 : Int) ^ min w.toNat IntKind.u64.bits) := by
  rw [hw, fdiv_pow]; exact not_not_intro (Int.natCast_pos.2 (Nat.pos_of_ne_zero h))
theorem AD (B : List Nat) (U : Nat) (hB : cD B) (hU : U < 18446744073709551616) (hl : B.length ≤ 99999000) : az KP1 3 95 [.ptr 0 0, .si .u64 (U : Int)] (mkH [(0, .cells (ji 1 B) true), (1, .cells (bX (pack B)) true)]) 2
    fun u H' _ => u = .int .i64 0 ∧ ∃ B', B' = B ++ aO U ∧ H'.get 0 = some (.cells (ji 6 B') true) ∧ H'.get 6 = some (.cells (bX (pack B')) true) := by
  have d0 : U ≠ 0 → U / 2 ^ 0 ≠ 0 := fun h => by simpa using h
  have d1 : ¬ U < 128 → U / 2 ^ 7 ≠ 0 := fun h => Nat.ne_of_gt (Nat.div_pos (by show 128 ≤ U; omega) (by decide))
  have d2 : ¬ U < 4096 → U / 2 ^ 12 ≠ 0 := fun h => Nat.ne_of_gt (Nat.div_pos (by show 4096 ≤ U; omega) (by decide))
  have d3 : ¬ U < 16777216 → U / 2 ^ 24 ≠ 0 := fun h => Nat.ne_of_gt (Nat.div_pos (by show 16777216 ≤ U; omega) (by decide))
  have z0 : U = 0 → U / 2 ^ 0 = 0 := fun h => by simp [h]
  have z1 : U < 128 → U / 2 ^ 7 = 0 := fun h => Nat.div_eq_of_lt h
  have z2 : U < 4096 → U / 2 ^ 12 = 0 := fun h => Nat.div_eq_of_lt h
  have z3 : U < 16777216 → U / 2 ^ 24 = 0 := fun h => Nat.div_eq_of_lt h
  by_cases c0 : U = 0
  · have hc : (B ++ bitsOf 0 1) ++ bitsOf U 0 = B ++ aO U := by
      rw [List.append_assoc]; congr 1; unfold aO
      rw [if_pos c0]; rfl
    have hb1 : cD (B ++ bitsOf 0 1) := hB.app (cm _ _)
    have hl1 : (B ++ bitsOf 0 1).length ≤ 100000000 := by rw [List.length_append, aF]; omega
    have hl0 : B.length ≤ 100000000 := by omega
    have hu1 : U < 2 ^ 0 := by subst c0; decide
    conv => whnf
    refine bz.roll 6 ?_
    conv => whnf
    refine ak.dec (fun h => absurd h (jW (m := 0) rfl (z0 c0))) (fun _ => ?_)
    conv => whnf
    refine ⟨0, 1, 0, 1, B, rfl, by decide, by decide, by decide, rfl, rfl, hB, rfl, rfl, by decide, by decide, hl0, ?_⟩
    conv => whnf
    refine ⟨0, _, U, 0, B ++ bitsOf 0 1, rfl, ?_, by decide, ?_, rfl, rfl, hb1, rfl, rfl, by decide, hu1, hl1, ?_⟩
    · decide
    · decide
    conv => whnf
    exact ⟨rfl, _, hc, rfl, rfl⟩
  · skip
    by_cases c1 : U < 128
    · have hc : (B ++ bitsOf 2 2) ++ bitsOf U 7 = B ++ aO U := by
        rw [List.append_assoc]; congr 1; unfold aO
        rw [if_neg c0, if_pos c1]; rfl
      have hb1 : cD (B ++ bitsOf 2 2) := hB.app (cm _ _)
      have hl1 : (B ++ bitsOf 2 2).length ≤ 100000000 := by rw [List.length_append, aF]; omega
      have hl0 : B.length ≤ 100000000 := by omega
      have hu1 : U < 2 ^ 7 := by omega
      conv => whnf
      refine bz.roll 6 ?_
      conv => whnf
      refine ak.dec (fun _ => ?_) (fun h => absurd h (b7 (m := 0) rfl (d0 c0)))
      conv => whnf
      refine ak.dec (fun h => absurd h (jW (m := 7) rfl (z1 c1))) (fun _ => ?_)
      conv => whnf
      refine ⟨0, 1, 2, 2, B, rfl, by decide, by decide, by decide, rfl, rfl, hB, rfl, rfl, by decide, by decide, hl0, ?_⟩
      conv => whnf
      refine ⟨0, _, U, 7, B ++ bitsOf 2 2, rfl, ?_, by decide, ?_, rfl, rfl, hb1, rfl, rfl, by decide, hu1, hl1, ?_⟩
      · decide
      · decide
      conv => whnf
      exact ⟨rfl, _, hc, rfl, rfl⟩
    · skip
      by_cases c2 : U < 4096
      · have hc : (B ++ bitsOf 6 3) ++ bitsOf U 12 = B ++ aO U := by
          rw [List.append_assoc]; congr 1; unfold aO
          rw [if_neg c0, if_neg c1, if_pos c2]; rfl
        have hb1 : cD (B ++ bitsOf 6 3) := hB.app (cm _ _)
        have hl1 : (B ++ bitsOf 6 3).length ≤ 100000000 := by rw [List.length_append, aF]; omega
        have hl0 : B.length ≤ 100000000 := by omega
        have hu1 : U < 2 ^ 12 := by omega
        conv => whnf
        refine bz.roll 6 ?_
        conv => whnf
        refine ak.dec (fun _ => ?_) (fun h => absurd h (b7 (m := 0) rfl (d0 c0)))
        conv => whnf
        refine ak.dec (fun _ => ?_) (fun h => absurd h (b7 (m := 7) rfl (d1 c1)))
        conv => whnf
        refine ak.dec (fun h => absurd h (jW (m := 12) rfl (z2 c2))) (fun _ => ?_)
        conv => whnf
        refine ⟨0, 1, 6, 3, B, rfl, by decide, by decide, by decide, rfl, rfl, hB, rfl, rfl, by decide, by decide, hl0, ?_⟩
        conv => whnf
        refine ⟨0, _, U, 12, B ++ bitsOf 6 3, rfl, ?_, by decide, ?_, rfl, rfl, hb1, rfl, rfl, by decide, hu1, hl1, ?_⟩
        · decide
        · decide
        conv => whnf
        exact ⟨rfl, _, hc, rfl, rfl⟩
      · skip
        by_cases c3 : U < 16777216
        · have hc : (B ++ bitsOf 14 4) ++ bitsOf U 24 = B ++ aO U := by
            rw [List.append_assoc]; congr 1; unfold aO
            rw [if_neg c0, if_neg c1, if_neg c2, if_pos c3]; rfl
          have hb1 : cD (B ++ bitsOf 14 4) := hB.app (cm _ _)
          have hl1 : (B ++ bitsOf 14 4).length ≤ 100000000 := by rw [List.length_append, aF]; omega
          have hl0 : B.length ≤ 100000000 := by omega
          have hu1 : U < 2 ^ 24 := by omega
          conv => whnf
          refine bz.roll 6 ?_
          conv => whnf
          refine ak.dec (fun _ => ?_) (fun h => absurd h (b7 (m := 0) rfl (d0 c0)))
          conv => whnf
          refine ak.dec (fun _ => ?_) (fun h => absurd h (b7 (m := 7) rfl (d1 c1)))
          conv => whnf
          refine ak.dec (fun _ => ?_) (fun h => absurd h (b7 (m := 12) rfl (d2 c2)))
          conv => whnf
          refine ak.dec (fun h => absurd h (jW (m := 24) rfl (z3 c3))) (fun _ => ?_)
          conv => whnf
          refine ⟨0, 1, 14, 4, B, rfl, by decide, by decide, by decide, rfl, rfl, hB, rfl, rfl, by decide, by decide, hl0, ?_⟩
          conv => whnf
          refine ⟨0, _, U, 24, B ++ bitsOf 14 4, rfl, ?_, by decide, ?_, rfl, rfl, hb1, rfl, rfl, by decide, hu1, hl1, ?_⟩
          · decide
          · decide
          conv => whnf
          exact ⟨rfl, _, hc, rfl, rfl⟩
        · skip
          have hc : (B ++ bitsOf 15 4) ++ bitsOf U 64 = B ++ aO U := by
            rw [List.append_assoc]; congr 1; unfold aO
            rw [if_neg c0, if_neg c1, if_neg c2, if_neg c3]; rfl
          have hb1 : cD (B ++ bitsOf 15 4) := hB.app (cm _ _)
          have hl1 : (B ++ bitsOf 15 4).length ≤ 100000000 := by rw [List.length_append, aF]; omega
          have hl0 : B.length ≤ 100000000 := by omega
          have hu1 : U < 2 ^ 64 := by omega
          conv => whnf
          refine bz.roll 6 ?_
          conv => whnf
          refine ak.dec (fun _ => ?_) (fun h => absurd h (b7 (m := 0) rfl (d0 c0)))
          conv => whnf
          refine ak.dec (fun _ => ?_) (fun h => absurd h (b7 (m := 7) rfl (d1 c1)))
          conv => whnf
          refine ak.dec (fun _ => ?_) (fun h => absurd h (b7 (m := 12) rfl (d2 c2)))
          conv => whnf
          refine ak.dec (fun _ => ?_) (fun h => absurd h (b7 (m := 24) rfl (d3 c3)))
          conv => whnf
          refine ⟨0, 1, 15, 4, B, rfl, by decide, by decide, by decide, rfl, rfl, hB, rfl, rfl, by decide, by decide, hl0, ?_⟩
          conv => whnf
          refine ⟨0, _, U, 64, B ++ bitsOf 15 4, rfl, ?_, by decide, ?_, rfl, rfl, hb1, rfl, rfl, by decide, hu1, hl1, ?_⟩
          · decide
          · decide
          conv => whnf
          exact ⟨rfl, _, hc, rfl, rfl⟩
end Go.Proofs.Ytapjijhjnloimaa
namespace Go.Proofs.Ytapjijhjnloimaa
open Go Go.RowKit
noncomputable def D3 (H : AH) (n b c : Nat) (B : List Nat) : AH := ((((((H.set (some (.cells (bX (pack B)) true)) aa (n + 4)).set none aa (n + 3)).set none aa (n + 2)).set none aa (n + 1)).set none aa n).set none aa c).set (some (.cells (ji (n + 4) B) true)) aa b
def rE (args : List AV) (H : AH) (n : Nat) (κ : PK) : Prop := match args with
  | [x, u] => ∃ (b c U : Nat) (B : List Nat), x = .ptr b 0 ∧ b ≠ c ∧ b < n ∧ c < n ∧ H.get b = some (.cells (ji c B) true) ∧ H.get c = some (.cells (bX (pack B)) true) ∧ cD B ∧ mk u = .si .u64 (U : Int) ∧ U < 18446744073709551616 ∧ B.length ≤ 99999000 ∧
      κ (.int .i64 0) (D3 H n b c (B ++ aO U)) (n + 5)
  | _ => False
def wZ (B : List Nat) : List (Nat × Option AO) := [(0, some (.cells (ji 6 B) true)), (1, none), (2, none), (3, none), (4, none), (5, none), (6, some (.cells (bX (pack B)) true))]
theorem IX (H : AH) (n b c : Nat) (B : List Nat) : gQ [b, c] n H (wZ B) = D3 H n b c B := by
  simp only [gQ, wZ, Option.map_some, Option.map_none, dS, mc, me]
  rfl
theorem EF : aM 95 rE := fun args H n κ hs φ h0' hp vs K hr hargs hk => by
  unfold rE at hs
  split at hs
  · obtain ⟨x, y, rfl, e1, e2⟩ := vs2 hargs
    obtain ⟨b, c, U, B, rfl, hbc, hbn, hcn, hb, hc, hB, hu, hU, hl, hs⟩ := hs
    refine cG (S := [b, c]) (O := [.cells (ji 1 B) true, .cells (bX (pack B)) true]) (args0 := [.ptr 0 0, .si .u64 (U : Int)]) (aG EE 3 _) (by kernel_rfl) hr
      (rD hbc hbn hcn (by rw [dS, mc]; exact hb) (by rw [dS, me]; exact hc) (.inr rfl) (.inr rfl)) ?_ hk (AD B U hB hU hl) fun u H' n' ⟨h1, B', hB', h2, h3⟩ => ?_
    · exact .cons e1 (.cons (by have := e2.mk; rw [hu] at this; exact this) .nil)
    · subst h1 hB'
      refine ⟨7, gQ [b, c] n H (wZ (B ++ aO U)), Nat.le_of_ble_eq_true rfl, cU.put (Nat.le_of_ble_eq_true rfl) rfl (fun x hx o ho => ?_), rfl, ?_⟩
      · simp only [wZ, List.mem_cons, List.not_mem_nil, or_false] at hx
        rcases hx with rfl | rfl | rfl | rfl | rfl | rfl | rfl
        · injection ho with ho; subst ho; exact ⟨h2, rfl, rfl⟩
        · cases ho
        · cases ho
        · cases ho
        · cases ho
        · cases ho
        · injection ho with ho; subst ho; exact ⟨h3, rfl, oR _ _ (iH _)⟩
      · rw [IX]; exact hs
  · exact hs.elim
noncomputable def KE : FuncId → EP := bB 87 [] (a9 95 rE (a9 94 nF evP))
theorem D4 : bI KE := aE (au (au a8 AB) EF) (by kernel_rfl) (by kernel_rfl)
theorem w6 {n : Int} (h : aY n) : bu .xor .u64 (IntKind.u64.wrap (IntKind.u64.wrap n * (2 : Int) ^ min (Int.toNat 1) IntKind.u64.bits)) (IntKind.u64.wrap (n.fdiv ((2 : Int) ^ min (Int.toNat 63) IntKind.i64.bits))) = ((rA n : Nat) : Int) := Ey h
theorem ll (X : Smp) (i : Nat) : aw X (i + 1) = aw X i ++ bF X i := rfl
theorem AF (X : Smp) : aw X 0 ++ bitsOf (dU (tAt X 0)) 64 ++ bitsOf (dU (vAt X 0)) 64 = aw X (0 + 1) := by
  rw [ll, List.append_assoc]; rfl
theorem AG (X : Smp) {i : Nat} (h : i ≠ 0) : aw X i ++ aO (dT X i) ++ aO (dV X i) = aw X (i + 1) := by
  rw [ll, List.append_assoc]; unfold bF; rw [if_neg h]
theorem oV : pack [] = [] := by simp [pack]
noncomputable def ec (L : Smp) (cap : Nat) (i : Nat) : AE × AH := (mkE [(0, .sy 0 0 L.length cap 0), (4, .ptr 1 (0)), (5, .si .i64 (cH L i)), (11, .sy 0 0 L.length cap 0), (12, .si .i64 (((L.length : Nat) : Int))), (13, .si .i64 (((i : Nat) : Int)))], mkH [(0, .ro (smp (L))), (1, .cells (ji 2 (aw L i)) true), (2, .cells (bX ((pack (aw L i)))) true)])
theorem vJ {L : Smp} {cap : Nat} {i : Nat} {p n : Nat} {σ : AE} {H : AH} (j2 : Nat) (hj : j2 ≠ 0 ∧ j2 ≠ 1) (hp : p ≤ 1) (e0 : mk (aA (pa 0) σ) = .sy 0 0 L.length cap 0) (e4 : aA (pa 4) σ = .ptr 1 (0)) (e5 : mk (aA (pa 5) σ) = .si .i64 (cH L i)) (e11 : mk (aA (pa 11) σ) = .sy 0 0 L.length cap 0) (e12 : mk (aA (pa 12) σ) = .si .i64 (((L.length : Nat) : Int))) (e13 : mk (aA (pa 13) σ) = .si .i64 (((i : Nat) : Int))) (h0 : H.get 0 = some (.ro (smp (L)))) (h1 : ∃ l, H.get 1 = some (.cells l true) ∧ jU H 3 (fun b => if b = 2 then j2 else b) l (ji 2 (aw L i))) (h2 : (∃ l, H.get j2 = some (.cells l true) ∧ l.map mk = bX ((pack (aw L i)))) ∨ (((pack (aw L i))) = [] ∧ n ≤ j2)) : Cov p σ H n ((ec L cap i).1, (ec L cap i).2, 3) := by
  refine Cov.ofR (fun b => if b = 2 then j2 else b) (by omega) (fun b hb => by repeat' rw [if_neg (by omega)]) ?_ ?_ ?_
  · intro x hx
    simp only [List.mem_cons, List.not_mem_nil, or_false] at hx
    rcases hx with rfl | rfl | rfl | rfl | rfl | rfl
    · exact .sy (by decide) e0
    · exact .ptr (by decide) e4
    · exact .int e5
    · exact .sy (by decide) e11
    · exact .int e12
    · exact .int e13
  · intro x hx
    simp only [List.mem_cons, List.not_mem_nil, or_false] at hx
    rcases hx with rfl | rfl | rfl
    · exact ⟨by simp, .inl ⟨_, h0, aQ.Ac (bO _) rfl⟩⟩
    · exact ⟨by simp, .inl (h1.elim fun l h => ⟨_, h.1, aQ.st h.2⟩)⟩
    · exact ⟨by simp, h2.elim (fun ⟨l, h, g⟩ => .inl ⟨_, h, aQ.bA (iH _) (by rw [g, dI]) (fun q => q)⟩) (fun h => .inr ⟨by rw [h.1]; rfl, h.2⟩)⟩
  · intro x hx y hy
    simp only [List.mem_cons, List.not_mem_nil, or_false] at hx hy
    rcases hx with rfl | rfl | rfl <;> rcases hy with rfl | rfl | rfl <;> simp <;> omega
theorem CA (L : Smp) (cap : Nat) (hL : L.length ≤ 100000) (h64 : ∀ x ∈ L, aY x.1 ∧ aY x.2) : az KE 3 87 [.sy 0 0 L.length cap 0] (mkH [(0, .ro (smp L))]) 1
    fun u _ _ => mkT u = mkT (.tup [.ss (pack (aK L)), .si .i64 ((aK L).length : Int)]) := by
  conv => whnf
  refine bz.mk { i : Nat // i ≤ L.length } 3 (fun i => ec L cap i.val) (fun i => L.length - i.val) ⟨0, Nat.zero_le _⟩ ?_ ?_
  · exact vJ (j2 := 2) (by decide) (Nat.le_refl 1) rfl rfl rfl rfl rfl rfl rfl ⟨_, rfl, .cons (.qh rfl (hn := congrArg List.length oV)) (.cons (.int rfl) .nil)⟩ (.inr ⟨oV, Nat.le_refl _⟩)
  · intro ⟨i, hi⟩
    have hlt0 : ((aw L i).length) ≤ 13600000 := Nat.le_trans (kq L i) (by omega)
    have hsub : bj (bX (pack (aw L i))) 0 (pack (aw L i)).length = some (bX (pack (aw L i))) := cz (ep _)
    have hbyt : gG (bX (pack (aw L i))) = some (pack (aw L i)) := uc (wQ (dW L i))
    have hnx : i < L.length → IntKind.i64.wrap ((i : Int) + 1) = (((i + 1 : Nat)) : Int) := fun q => b5 ⟨by omega, by omega⟩
    conv => whnf
    refine ak.dec (fun h => ?_) (fun h => ?_)
    · have hi2 : i < L.length := by exact Int.ofNat_lt.1 h
      have ht : L[i].1 = tAt L i := (c6 hi2).symm
      have hv : L[i].2 = vAt L i := (jV hi2).symm
      conv => whnf
      refine Idx.mk i rfl hi2 ?_
      conv => whnf
      refine aD (du hi2 (Nat.zero_add _)) ?_
      conv => whnf
      refine ak.dec (fun h0 => ?_) (fun h0 => ?_)
      · have h0 : i = 0 := by exact Int.ofNat_inj.1 h0
        subst h0
        have hu0 : AV.si .u64 (IntKind.u64.wrap L[0].1) = .si .u64 ((dU (tAt L 0) : Nat) : Int) := congrArg (AV.si .u64) ((Ao _).trans (by rw [ht]))
        have hu1 : AV.si .u64 (IntKind.u64.wrap L[0].2) = .si .u64 ((dU (vAt L 0) : Nat) : Int) := congrArg (AV.si .u64) ((Ao _).trans (by rw [hv]))
        have hB1 : cD (aw L 0 ++ bitsOf (dU (tAt L 0)) 64) := (dW L 0).app (cm _ _)
        have hl1 : (aw L 0 ++ bitsOf (dU (tAt L 0)) 64).length ≤ 100000000 := by rw [List.length_append, aF]; omega
        conv => whnf
        refine ⟨1, 2, dU (tAt L 0), 64, aw L 0, rfl, by decide, by decide, by decide, rfl, rfl, dW _ _, hu0, rfl, Nat.le_refl _, vC _, Nat.le_trans hlt0 (by decide), ?_⟩
        conv => whnf
        refine ⟨1, 4, dU (vAt L 0), 64, aw L 0 ++ bitsOf (dU (tAt L 0)) 64, rfl, by decide, by decide, by decide, rfl, rfl, hB1, hu1, rfl, Nat.le_refl _, vC _, hl1, ?_⟩
        conv => whnf
        refine ⟨⟨1, by omega⟩, (show L.length - 1 < L.length - 0 by omega), vJ (j2 := 5) (by decide) (Nat.le_refl 1) rfl rfl (congrArg (AV.si .i64) rfl) rfl rfl (congrArg (AV.si .i64) (hnx hi2)) rfl ⟨_, rfl, .cons (ai.rw (by decide) rfl (hn := congrArg (fun x => (pack x).length) (AF L))) (.cons (.int (congrArg (fun x : List Nat => AV.si .i64 (x.length : Int)) (AF L))) .nil)⟩ (.inl ⟨_, rfl, (dI _).trans (congrArg (fun x => bX (pack x)) (AF L))⟩)⟩
      · have h0 : i ≠ 0 := fun q => h0 (by exact Int.ofNat_inj.2 q)
        have hp : i - 1 < L.length := by omega
        have hpw : IntKind.i64.wrap ((i : Int) - 1) = ((i - 1 : Nat) : Int) := (b5 ⟨by omega, by omega⟩).trans (by omega)
        have ht1 : L[i - 1].1 = tAt L (i - 1) := (c6 hp).symm
        have hv1 : L[i - 1].2 = vAt L (i - 1) := (jV hp).symm
        have ho0 : 0 + (i - 1) * 2 + 0 = (i - 1) * 2 := by omega
        have ho1 : 0 + (i - 1) * 2 + 1 = (i - 1) * 2 + 1 := by omega
        have hst : IntKind.i64.wrap (L[i].1 - L[i - 1].1) = cH L (i + 1) := by
          unfold cH; rw [if_neg (by omega), ht, ht1]; rfl
        have hu0 : AV.si .u64 (bu .xor .u64 (IntKind.u64.wrap (IntKind.u64.wrap (IntKind.i64.wrap (IntKind.i64.wrap (L[i].1 - L[i - 1].1) - cH L i)) * (2 : Int) ^ min (Int.toNat 1) IntKind.u64.bits)) (IntKind.u64.wrap ((IntKind.i64.wrap (IntKind.i64.wrap (L[i].1 - L[i - 1].1) - cH L i)).fdiv ((2 : Int) ^ min (Int.toNat 63) IntKind.i64.bits)))) = .si .u64 ((dT L i : Nat) : Int) := congrArg (AV.si .u64) ((w6 (oQ _)).trans (by unfold dT; rw [ht, ht1]))
        have hu1 : AV.si .u64 (bu .xor .u64 (IntKind.u64.wrap (IntKind.u64.wrap (IntKind.i64.wrap (L[i].2 - L[i - 1].2)) * (2 : Int) ^ min (Int.toNat 1) IntKind.u64.bits)) (IntKind.u64.wrap ((IntKind.i64.wrap (L[i].2 - L[i - 1].2)).fdiv ((2 : Int) ^ min (Int.toNat 63) IntKind.i64.bits)))) = .si .u64 ((dV L i : Nat) : Int) := congrArg (AV.si .u64) ((w6 (oQ _)).trans (by unfold dV; rw [hv, hv1]))
        have hB1 : cD (aw L i ++ aO (dT L i)) := (dW L i).app (lg _)
        have hl1 : (aw L i ++ aO (dT L i)).length ≤ 99999000 := by have := (dy (dT L i)).1; rw [List.length_append]; omega
        conv => whnf
        refine Idx.mk (i - 1) hpw hp ?_
        conv => whnf
        refine aD (oI hp ho0) ?_
        conv => whnf
        refine ⟨1, 2, dT L i, aw L i, rfl, by decide, by decide, by decide, rfl, rfl, dW _ _, hu0, D0 _ _, Nat.le_trans hlt0 (by decide), ?_⟩
        conv => whnf
        refine Idx.mk (i - 1) hpw hp ?_
        conv => whnf
        refine aD (oJ hp ho1) ?_
        conv => whnf
        refine ⟨1, 8, dV L i, aw L i ++ aO (dT L i), rfl, by decide, by decide, by decide, rfl, rfl, hB1, hu1, D1 _ _, hl1, ?_⟩
        conv => whnf
        refine ⟨⟨i + 1, by omega⟩, (show L.length - (i + 1) < L.length - i by omega), vJ (j2 := 13) (by decide) (Nat.le_refl 1) rfl rfl (congrArg (AV.si .i64) hst) rfl rfl (congrArg (AV.si .i64) (hnx hi2)) rfl ⟨_, rfl, .cons (ai.rw (by decide) rfl (hn := congrArg (fun x => (pack x).length) (AG L h0))) (.cons (.int (congrArg (fun x : List Nat => AV.si .i64 (x.length : Int)) (AG L h0))) .nil)⟩ (.inl ⟨_, rfl, (dI _).trans (congrArg (fun x => bX (pack x)) (AG L h0))⟩)⟩
    · have hi3 : i = L.length := by have : ¬ i < L.length := fun q => h (Int.ofNat_lt.2 q); omega
      conv => whnf
      refine FT.mk _ _ _ _ _ _ _ _ rfl (by decide) ⟨_, rfl, rfl, rfl⟩ (.inr ⟨_, rfl⟩) hsub hbyt ?_
      conv => whnf
      subst hi3
      rfl
theorem AI : az KE 3 87 [.nsl] .nil 0 fun u _ _ => mkT u = mkT (.tup [.ss (pack (aK [])), .si .i64 ((aK []).length : Int)]) := by
  conv => whnf
  refine bz.roll 1 ?_
  conv => whnf
  exact (show _ = AV.tup [.ss [], .si .i64 0] from rfl).trans (by rw [Ap, oV]; rfl)
def ln (args : List AV) (H : AH) (n : Nat) (κ : PK) : Prop := match args with
  | [l] => ∃ L, lW H l L ∧ L.length ≤ 100000 ∧ (∀ x ∈ L, aY x.1 ∧ aY x.2) ∧ κ (.tup [.ss (pack (aK L)), .si .i64 ((aK L).length : Int)]) H n
  | _ => False
theorem uh : aM 87 ln := fun args H n κ hs φ h0' hp vs K hr hargs hk => by
  unfold ln at hs
  split at hs
  · obtain ⟨x, rfl, e1⟩ := vs1 hargs
    obtain ⟨L, hS, hL, h64, hs⟩ := hs
    rcases hS.open hr e1 with ⟨rfl, hv⟩ | ⟨p, C, _, hro, hv⟩
    · exact gJ D4 (v := .tup [.ss (pack (aK [])), .si .i64 ((aK []).length : Int)]) rfl AI hs hr hk (by kernel_rfl) HR.ro0 (.cons (hv _) .nil)
    · exact gJ D4 (v := .tup [.ss (pack (aK L)), .si .i64 ((aK L).length : Int)]) rfl (CA L C hL h64) hs hr hk (by kernel_rfl) (fun hw => HR.ro1 hw hro) (.cons (hv _ 0 rfl) .nil)
  · exact hs.elim
end Go.Proofs.Ytapjijhjnloimaa
namespace Go.Proofs.Ytapjijhjnloimaa
open Go Go.RowKit
noncomputable def KB : FuncId → EP := bB 113 [] (bB 90 [] evP)
theorem AJ : bI KB := aE (aE a8 (by kernel_rfl) (by kernel_rfl)) (by kernel_rfl) (by kernel_rfl)
def fK (s : List Nat) (N a : Nat) : List AV := [.ss s, .si .i64 ((N : Nat) : Int), .si .i64 ((a : Nat) : Int), .sb true]
def nG (args : List AV) (H : AH) (n : Nat) (κ : PK) : Prop := match args with
  | [x, m] => ∃ (b : Nat) (s : List Nat) (N a k V : Nat), x = .ptr b 0 ∧ b < n ∧ H.get b = some (.cells (fK s N a) true) ∧ mk m = .si .i64 (k : Int) ∧ k ≤ 64 ∧ a + k ≤ N ∧ N ≤ 8 * s.length ∧ s.length ≤ 100000000 ∧ (∀ x ∈ s, x < 256) ∧ bP 0 (aB s a k) = V ∧
      κ (.tup [.si .u64 (V : Int), .int .i64 0]) (H.set (some (.cells (fK s N (a + k)) true)) aa b) n
  | _ => False
noncomputable def rg (s : List Nat) (N : Nat) (a : Nat) (k : Nat) (j : Nat) : AE × AH := (mkE [(0, .ptr 0 (0)), (6, .si .u64 ((bP 0 (aB s a j) : Nat) : Int)), (30, .si .i64 (((k : Nat) : Int))), (31, .si .i64 (((j : Nat) : Int)))], mkH [(0, .cells (fK s N (a + j)) true)])
theorem AK {s : List Nat} {N : Nat} {a : Nat} {k : Nat} {j : Nat} {p n : Nat} {σ : AE} {H : AH} (hp : p ≤ 1) (e0 : aA (pa 0) σ = .ptr 0 (0)) (e6 : ai H 1 (fun b => b) (aA (pa 6) σ) (.si .u64 ((bP 0 (aB s a j) : Nat) : Int))) (e30 : mk (aA (pa 30) σ) = .si .i64 (((k : Nat) : Int))) (e31 : mk (aA (pa 31) σ) = .si .i64 (((j : Nat) : Int))) (h0 : ∃ l, H.get 0 = some (.cells l true) ∧ jU H 1 (fun b => b) l (fK s N (a + j))) : Cov p σ H n ((rg s N a k j).1, (rg s N a k j).2, 1) := by
  refine Cov.ofR (fun b => b) (by omega) (fun b hb => rfl) ?_ ?_ ?_
  · intro x hx
    simp only [List.mem_cons, List.not_mem_nil, or_false] at hx
    rcases hx with rfl | rfl | rfl | rfl
    · exact .ptr (by decide) e0
    · exact e6
    · exact .int e30
    · exact .int e31
  · intro x hx
    simp only [List.mem_cons, List.not_mem_nil, or_false] at hx
    subst hx
    exact ⟨by simp, .inl (h0.elim fun l h => ⟨_, h.1, aQ.st h.2⟩)⟩
  · intro x hx y hy
    simp only [List.mem_cons, List.not_mem_nil, or_false] at hx hy
    subst hx hy
    exact fun q => rfl
theorem EG {s : List Nat} (hs : ∀ x ∈ s, x < 256) {a c u : Nat} (hc : nth s (a / 8) = some c) (hu : u < 9223372036854775808) :
    bu .or .u64 (IntKind.u64.wrap (((u : Nat) : Int) * (2 : Int) ^ min (Int.toNat 1) IntKind.u64.bits)) (IntKind.u64.wrap (bu .and .u8 ((Int.ofNat c).fdiv ((2 : Int) ^ min (IntKind.i64.wrap (7 - ((a : Nat) : Int).tmod 8)).toNat IntKind.u8.bits)) 1)) = ((2 * u + l8 s a : Nat) : Int) := Cz hs hc hu
theorem AL (s : List Nat) (N a k : Nat) (hk : k ≤ 64) (ha : a + k ≤ N) (hN : N ≤ 8 * s.length) (hs1 : s.length ≤ 100000000) (hs : ∀ x ∈ s, x < 256) : az KB 3 113 [.ptr 0 0, .si .i64 (k : Int)] (mkH [(0, .cells (fK s N a) true)]) 1
    fun u H' _ => u = .tup [.si .u64 ((bP 0 (aB s a k) : Nat) : Int), .int .i64 0] ∧ H'.get 0 = some (.cells (fK s N (a + k)) true) := by
  have hleft : ¬ IntKind.i64.wrap ((N : Int) - (a : Int)) < (k : Int) := by
    rw [show IntKind.i64.wrap ((N : Int) - (a : Int)) = (N : Int) - (a : Int) from b5 ⟨by omega, by omega⟩]; omega
  conv => whnf
  refine ak.nsb (fun h => by cases h) (fun _ => ?_)
  conv => whnf
  refine ak.dec (fun h => absurd h (by omega)) (fun _ => ?_)
  conv => whnf
  refine ak.dec (fun h => absurd h (by omega)) (fun _ => ?_)
  conv => whnf
  refine ak.dec (fun h => absurd h hleft) (fun _ => ?_)
  conv => whnf
  refine bz.mk { j : Nat // j ≤ k } 1 (fun j => rg s N a k j.val) (fun j => k - j.val) ⟨0, Nat.zero_le _⟩ ?_ ?_
  · exact AK (Nat.le_refl 1) rfl (.int rfl) rfl rfl ⟨_, rfl, .cons (.str rfl) (.cons (.int rfl) (.cons (.int rfl) (.cons (.bool rfl) .nil)))⟩
  · intro ⟨j, hj⟩
    conv => whnf
    refine ak.dec (fun h => ?_) (fun h => ?_)
    · have hjk : j < k := by exact Int.ofNat_lt.1 h
      have hq := div_eq (a + j) (by omega)
      have hq2 : (a + j) / 8 < s.length := by omega
      have hc : nth s ((a + j) / 8) = some s[(a + j) / 8] := by rw [dQ, List.getElem?_eq_getElem hq2]
      have hsh0 : 0 ≤ IntKind.i64.wrap (7 - ((a + j : Nat) : Int).tmod 8) := by rw [wV]; omega
      have hnum : 2 * bP 0 (aB s a j) + l8 s (a + j) = bP 0 (aB s a (j + 1)) := by rw [tX, yz]
      have hu := congrArg (AV.si .u64) ((EG (u := bP 0 (aB s a j)) hs hc (yE s a (by omega))).trans (congrArg (fun x : Nat => (x : Int)) hnum))
      have hj1 : IntKind.i64.wrap ((j : Int) + 1) = (((j + 1 : Nat)) : Int) := b5 ⟨by omega, by omega⟩
      have ha1 : IntKind.i64.wrap (((a + j : Nat) : Int) + 1) = (((a + (j + 1) : Nat)) : Int) := b5 ⟨by omega, by omega⟩
      conv => whnf
      refine Idx.mk ((a + j) / 8) hq hq2 ?_
      conv => whnf
      refine Ask.mk _ hc ?_
      conv => whnf
      refine ⟨hsh0, ?_⟩
      conv => whnf
      refine ⟨⟨j + 1, hjk⟩, (show k - (j + 1) < k - j by omega), AK (Nat.le_refl 1) rfl (.int hu) rfl (congrArg (AV.si .i64) hj1) ⟨_, rfl, .cons (.str rfl) (.cons (.int rfl) (.cons (.int (congrArg (AV.si .i64) ha1)) (.cons (.bool rfl) .nil)))⟩⟩
    · have hjk : j = k := by have : ¬ j < k := fun q => h (Int.ofNat_lt.2 q); omega
      conv => whnf
      subst hjk
      exact ⟨rfl, rfl⟩
theorem AM : aM 113 nG := fun args H n κ hs φ h0' hp vs K hr hargs hk => by
  unfold nG at hs
  split at hs
  · obtain ⟨x, y, rfl, e1, e2⟩ := vs2 hargs
    obtain ⟨b, s, N, a, k, V, rfl, hbn, hb, hm, hk64, ha, hN, hs1, hs2, hV, hs⟩ := hs
    refine cG (S := [b]) (O := [.cells (fK s N a) true]) (args0 := [.ptr 0 0, .si .i64 (k : Int)]) (aG AJ 3 _) (by kernel_rfl) hr
      (jj hbn hb (.inr rfl)) ?_ hk (AL s N a k hk64 ha hN hs1 hs2) fun u H' n' ⟨h1, h2⟩ => ?_
    · exact .cons e1 (.cons (by have := e2.mk; rw [hm] at this; exact this) .nil)
    · subst h1
      refine ⟨1, gQ [b] n H [(0, some (.cells (fK s N (a + k)) true))], Nat.le_refl _, cU.put (Nat.le_refl _) rfl (fun x hx o ho => ?_), rfl, ?_⟩
      · simp only [List.mem_cons, List.not_mem_nil, or_false] at hx
        subst hx
        injection ho with ho; subst ho; exact ⟨h2, rfl, rfl⟩
      · rw [← hV] at hs; exact hs
  · exact hs.elim
noncomputable def KG : FuncId → EP := a9 113 nG KB
theorem F5 : bI KG := au AJ AM
theorem dh {s : List Nat} {a j b : Nat} {B : List Nat} (h : aB s a (j + 1) = b :: B) : aB s a 1 = [b] ∧ aB s (a + 1) j = B := by
  rw [Nat.add_comm j 1, oU] at h
  exact List.append_inj (s₂ := [b]) (t₂ := B) h (by rw [iu]; rfl)
theorem AN (s : List Nat) (N a U : Nat) (hU : U < 18446744073709551616) (hrd : aB s a (aO U).length = aO U) (hle : a + (aO U).length ≤ N) (hN : N ≤ 8 * s.length) (hs1 : s.length ≤ 100000000) (hs : ∀ x ∈ s, x < 256) : az KG 4 116 [.ptr 0 0] (mkH [(0, .cells (fK s N a) true)]) 1
    fun u H' _ => u = .tup [.si .u64 (U : Int), .int .i64 0] ∧ H'.get 0 = some (.cells (fK s N (a + (aO U).length)) true) := by
  have d0 : U ≠ 0 → U / 2 ^ 0 ≠ 0 := fun h => by simpa using h
  have d1 : ¬ U < 128 → U / 2 ^ 7 ≠ 0 := fun h => Nat.ne_of_gt (Nat.div_pos (by show 128 ≤ U; omega) (by decide))
  have d2 : ¬ U < 4096 → U / 2 ^ 12 ≠ 0 := fun h => Nat.ne_of_gt (Nat.div_pos (by show 4096 ≤ U; omega) (by decide))
  have d3 : ¬ U < 16777216 → U / 2 ^ 24 ≠ 0 := fun h => Nat.ne_of_gt (Nat.div_pos (by show 16777216 ≤ U; omega) (by decide))
  have z0 : U = 0 → U / 2 ^ 0 = 0 := fun h => by simp [h]
  have z1 : U < 128 → U / 2 ^ 7 = 0 := fun h => Nat.div_eq_of_lt h
  have z2 : U < 4096 → U / 2 ^ 12 = 0 := fun h => Nat.div_eq_of_lt h
  have z3 : U < 16777216 → U / 2 ^ 24 = 0 := fun h => Nat.div_eq_of_lt h
  by_cases c0 : U = 0
  · have hcd : aO U = [0] ++ bitsOf U 0 := by
      unfold aO
      rw [if_pos c0]; rfl
    rw [hcd] at hrd hle ⊢
    have hlen : ([0] ++ bitsOf U 0).length = 1 := by rw [List.length_append, aF]; rfl
    rw [hlen] at hrd hle ⊢
    obtain ⟨r0, h0⟩ := dh (j := 0) hrd
    have hnum : bP 0 (aB s (a + 1) 0) = U := by rw [show aB s (a + 1) 0 = bitsOf U 0 from h0]; exact (fm 0 U 0).trans (by rw [Nat.zero_mul, Nat.zero_add]; exact Nat.mod_eq_of_lt (by subst c0; decide))
    have v0 : bP 0 (aB s (a) 1) = 0 := by rw [r0]; rfl
    conv => whnf
    refine bz.roll 6 ?_
    conv => whnf
    refine ⟨0, s, N, a, 1, 0, rfl, by decide, rfl, rfl, by decide, by omega, hN, hs1, hs, v0, ?_⟩
    conv => whnf
    refine ak.dec (fun _ => ?_) (fun h => absurd rfl h)
    conv => whnf
    refine ⟨0, s, N, a + 1, 0, U, rfl, by decide, rfl, rfl, by decide, by omega, hN, hs1, hs, hnum, ?_⟩
    conv => whnf
    refine bz.roll 6 ?_
    conv => whnf
    refine ak.dec (fun h => absurd h (jW (m := 0) rfl (z0 c0))) (fun _ => ?_)
    conv => whnf
    exact ⟨rfl, rfl⟩
  · skip
    by_cases c1 : U < 128
    · have hcd : aO U = [1, 0] ++ bitsOf U 7 := by
        unfold aO
        rw [if_neg c0, if_pos c1]
      rw [hcd] at hrd hle ⊢
      have hlen : ([1, 0] ++ bitsOf U 7).length = 9 := by rw [List.length_append, aF]; rfl
      rw [hlen] at hrd hle ⊢
      obtain ⟨r0, h0⟩ := dh (j := 8) hrd
      obtain ⟨r1, h1⟩ := dh (j := 7) h0
      have hnum : bP 0 (aB s (a + 1 + 1) 7) = U := by rw [show aB s (a + 1 + 1) 7 = bitsOf U 7 from h1]; exact (fm 0 U 7).trans (by rw [Nat.zero_mul, Nat.zero_add]; exact Nat.mod_eq_of_lt (by omega))
      have v0 : bP 0 (aB s (a) 1) = 1 := by rw [r0]; rfl
      have v1 : bP 0 (aB s (a + 1) 1) = 0 := by rw [r1]; rfl
      conv => whnf
      refine bz.roll 6 ?_
      conv => whnf
      refine ⟨0, s, N, a, 1, 1, rfl, by decide, rfl, rfl, by decide, by omega, hN, hs1, hs, v0, ?_⟩
      conv => whnf
      refine ak.dec (fun h => absurd h (by decide)) (fun _ => ?_)
      conv => whnf
      refine ⟨0, s, N, a + 1, 1, 0, rfl, by decide, rfl, rfl, by decide, by omega, hN, hs1, hs, v1, ?_⟩
      conv => whnf
      refine ak.dec (fun _ => ?_) (fun h => absurd rfl h)
      conv => whnf
      refine ⟨0, s, N, a + 1 + 1, 7, U, rfl, by decide, rfl, rfl, by decide, by omega, hN, hs1, hs, hnum, ?_⟩
      conv => whnf
      refine bz.roll 6 ?_
      conv => whnf
      refine ak.dec (fun _ => ?_) (fun h => absurd h (b7 (m := 0) rfl (d0 c0)))
      conv => whnf
      refine ak.dec (fun h => absurd h (jW (m := 7) rfl (z1 c1))) (fun _ => ?_)
      conv => whnf
      exact ⟨rfl, rfl⟩
    · skip
      by_cases c2 : U < 4096
      · have hcd : aO U = [1, 1, 0] ++ bitsOf U 12 := by
          unfold aO
          rw [if_neg c0, if_neg c1, if_pos c2]
        rw [hcd] at hrd hle ⊢
        have hlen : ([1, 1, 0] ++ bitsOf U 12).length = 15 := by rw [List.length_append, aF]; rfl
        rw [hlen] at hrd hle ⊢
        obtain ⟨r0, h0⟩ := dh (j := 14) hrd
        obtain ⟨r1, h1⟩ := dh (j := 13) h0
        obtain ⟨r2, h2⟩ := dh (j := 12) h1
        have hnum : bP 0 (aB s (a + 1 + 1 + 1) 12) = U := by rw [show aB s (a + 1 + 1 + 1) 12 = bitsOf U 12 from h2]; exact (fm 0 U 12).trans (by rw [Nat.zero_mul, Nat.zero_add]; exact Nat.mod_eq_of_lt (by omega))
        have v0 : bP 0 (aB s (a) 1) = 1 := by rw [r0]; rfl
        have v1 : bP 0 (aB s (a + 1) 1) = 1 := by rw [r1]; rfl
        have v2 : bP 0 (aB s (a + 1 + 1) 1) = 0 := by rw [r2]; rfl
        conv => whnf
        refine bz.roll 6 ?_
        conv => whnf
        refine ⟨0, s, N, a, 1, 1, rfl, by decide, rfl, rfl, by decide, by omega, hN, hs1, hs, v0, ?_⟩
        conv => whnf
        refine ak.dec (fun h => absurd h (by decide)) (fun _ => ?_)
        conv => whnf
        refine ⟨0, s, N, a + 1, 1, 1, rfl, by decide, rfl, rfl, by decide, by omega, hN, hs1, hs, v1, ?_⟩
        conv => whnf
        refine ak.dec (fun h => absurd h (by decide)) (fun _ => ?_)
        conv => whnf
        refine ⟨0, s, N, a + 1 + 1, 1, 0, rfl, by decide, rfl, rfl, by decide, by omega, hN, hs1, hs, v2, ?_⟩
        conv => whnf
        refine ak.dec (fun _ => ?_) (fun h => absurd rfl h)
        conv => whnf
        refine ⟨0, s, N, a + 1 + 1 + 1, 12, U, rfl, by decide, rfl, rfl, by decide, by omega, hN, hs1, hs, hnum, ?_⟩
        conv => whnf
        refine bz.roll 6 ?_
        conv => whnf
        refine ak.dec (fun _ => ?_) (fun h => absurd h (b7 (m := 0) rfl (d0 c0)))
        conv => whnf
        refine ak.dec (fun _ => ?_) (fun h => absurd h (b7 (m := 7) rfl (d1 c1)))
        conv => whnf
        refine ak.dec (fun h => absurd h (jW (m := 12) rfl (z2 c2))) (fun _ => ?_)
        conv => whnf
        exact ⟨rfl, rfl⟩
      · skip
        by_cases c3 : U < 16777216
        · have hcd : aO U = [1, 1, 1, 0] ++ bitsOf U 24 := by
            unfold aO
            rw [if_neg c0, if_neg c1, if_neg c2, if_pos c3]
          rw [hcd] at hrd hle ⊢
          have hlen : ([1, 1, 1, 0] ++ bitsOf U 24).length = 28 := by rw [List.length_append, aF]; rfl
          rw [hlen] at hrd hle ⊢
          obtain ⟨r0, h0⟩ := dh (j := 27) hrd
          obtain ⟨r1, h1⟩ := dh (j := 26) h0
          obtain ⟨r2, h2⟩ := dh (j := 25) h1
          obtain ⟨r3, h3⟩ := dh (j := 24) h2
          have hnum : bP 0 (aB s (a + 1 + 1 + 1 + 1) 24) = U := by rw [show aB s (a + 1 + 1 + 1 + 1) 24 = bitsOf U 24 from h3]; exact (fm 0 U 24).trans (by rw [Nat.zero_mul, Nat.zero_add]; exact Nat.mod_eq_of_lt (by omega))
          have v0 : bP 0 (aB s (a) 1) = 1 := by rw [r0]; rfl
          have v1 : bP 0 (aB s (a + 1) 1) = 1 := by rw [r1]; rfl
          have v2 : bP 0 (aB s (a + 1 + 1) 1) = 1 := by rw [r2]; rfl
          have v3 : bP 0 (aB s (a + 1 + 1 + 1) 1) = 0 := by rw [r3]; rfl
          conv => whnf
          refine bz.roll 6 ?_
          conv => whnf
          refine ⟨0, s, N, a, 1, 1, rfl, by decide, rfl, rfl, by decide, by omega, hN, hs1, hs, v0, ?_⟩
          conv => whnf
          refine ak.dec (fun h => absurd h (by decide)) (fun _ => ?_)
          conv => whnf
          refine ⟨0, s, N, a + 1, 1, 1, rfl, by decide, rfl, rfl, by decide, by omega, hN, hs1, hs, v1, ?_⟩
          conv => whnf
          refine ak.dec (fun h => absurd h (by decide)) (fun _ => ?_)
          conv => whnf
          refine ⟨0, s, N, a + 1 + 1, 1, 1, rfl, by decide, rfl, rfl, by decide, by omega, hN, hs1, hs, v2, ?_⟩
          conv => whnf
          refine ak.dec (fun h => absurd h (by decide)) (fun _ => ?_)
          conv => whnf
          refine ⟨0, s, N, a + 1 + 1 + 1, 1, 0, rfl, by decide, rfl, rfl, by decide, by omega, hN, hs1, hs, v3, ?_⟩
          conv => whnf
          refine ak.dec (fun _ => ?_) (fun h => absurd rfl h)
          conv => whnf
          refine ⟨0, s, N, a + 1 + 1 + 1 + 1, 24, U, rfl, by decide, rfl, rfl, by decide, by omega, hN, hs1, hs, hnum, ?_⟩
          conv => whnf
          refine bz.roll 6 ?_
          conv => whnf
          refine ak.dec (fun _ => ?_) (fun h => absurd h (b7 (m := 0) rfl (d0 c0)))
          conv => whnf
          refine ak.dec (fun _ => ?_) (fun h => absurd h (b7 (m := 7) rfl (d1 c1)))
          conv => whnf
          refine ak.dec (fun _ => ?_) (fun h => absurd h (b7 (m := 12) rfl (d2 c2)))
          conv => whnf
          refine ak.dec (fun h => absurd h (jW (m := 24) rfl (z3 c3))) (fun _ => ?_)
          conv => whnf
          exact ⟨rfl, rfl⟩
        · skip
          have hcd : aO U = [1, 1, 1, 1] ++ bitsOf U 64 := by
            unfold aO
            rw [if_neg c0, if_neg c1, if_neg c2, if_neg c3]
          rw [hcd] at hrd hle ⊢
          have hlen : ([1, 1, 1, 1] ++ bitsOf U 64).length = 68 := by rw [List.length_append, aF]; rfl
          rw [hlen] at hrd hle ⊢
          obtain ⟨r0, h0⟩ := dh (j := 67) hrd
          obtain ⟨r1, h1⟩ := dh (j := 66) h0
          obtain ⟨r2, h2⟩ := dh (j := 65) h1
          obtain ⟨r3, h3⟩ := dh (j := 64) h2
          have hnum : bP 0 (aB s (a + 1 + 1 + 1 + 1) 64) = U := by rw [show aB s (a + 1 + 1 + 1 + 1) 64 = bitsOf U 64 from h3]; exact (fm 0 U 64).trans (by rw [Nat.zero_mul, Nat.zero_add]; exact Nat.mod_eq_of_lt (by omega))
          have v0 : bP 0 (aB s (a) 1) = 1 := by rw [r0]; rfl
          have v1 : bP 0 (aB s (a + 1) 1) = 1 := by rw [r1]; rfl
          have v2 : bP 0 (aB s (a + 1 + 1) 1) = 1 := by rw [r2]; rfl
          have v3 : bP 0 (aB s (a + 1 + 1 + 1) 1) = 1 := by rw [r3]; rfl
          conv => whnf
          refine bz.roll 6 ?_
          conv => whnf
          refine ⟨0, s, N, a, 1, 1, rfl, by decide, rfl, rfl, by decide, by omega, hN, hs1, hs, v0, ?_⟩
          conv => whnf
          refine ak.dec (fun h => absurd h (by decide)) (fun _ => ?_)
          conv => whnf
          refine ⟨0, s, N, a + 1, 1, 1, rfl, by decide, rfl, rfl, by decide, by omega, hN, hs1, hs, v1, ?_⟩
          conv => whnf
          refine ak.dec (fun h => absurd h (by decide)) (fun _ => ?_)
          conv => whnf
          refine ⟨0, s, N, a + 1 + 1, 1, 1, rfl, by decide, rfl, rfl, by decide, by omega, hN, hs1, hs, v2, ?_⟩
          conv => whnf
          refine ak.dec (fun h => absurd h (by decide)) (fun _ => ?_)
          conv => whnf
          refine ⟨0, s, N, a + 1 + 1 + 1, 1, 1, rfl, by decide, rfl, rfl, by decide, by omega, hN, hs1, hs, v3, ?_⟩
          conv => whnf
          refine ak.dec (fun h => absurd h (by decide)) (fun _ => ?_)
          conv => whnf
          refine ⟨0, s, N, a + 1 + 1 + 1 + 1, 64, U, rfl, by decide, rfl, rfl, by decide, by omega, hN, hs1, hs, hnum, ?_⟩
          conv => whnf
          refine bz.roll 6 ?_
          conv => whnf
          refine ak.dec (fun _ => ?_) (fun h => absurd h (b7 (m := 0) rfl (d0 c0)))
          conv => whnf
          refine ak.dec (fun _ => ?_) (fun h => absurd h (b7 (m := 7) rfl (d1 c1)))
          conv => whnf
          refine ak.dec (fun _ => ?_) (fun h => absurd h (b7 (m := 12) rfl (d2 c2)))
          conv => whnf
          refine ak.dec (fun _ => ?_) (fun h => absurd h (b7 (m := 24) rfl (d3 c3)))
          conv => whnf
          exact ⟨rfl, rfl⟩
end Go.Proofs.Ytapjijhjnloimaa
namespace Go.Proofs.Ytapjijhjnloimaa
open Go Go.RowKit
def rF (args : List AV) (H : AH) (n : Nat) (κ : PK) : Prop := match args with
  | [x] => ∃ (b : Nat) (s : List Nat) (N a U : Nat), x = .ptr b 0 ∧ b < n ∧ H.get b = some (.cells (fK s N a) true) ∧ U < 18446744073709551616 ∧ aB s a (aO U).length = aO U ∧ a + (aO U).length ≤ N ∧ N ≤ 8 * s.length ∧ s.length ≤ 100000000 ∧ (∀ x ∈ s, x < 256) ∧
      κ (.tup [.si .u64 (U : Int), .int .i64 0]) (H.set (some (.cells (fK s N (a + (aO U).length)) true)) aa b) n
  | _ => False
theorem EI : aM 116 rF := fun args H n κ hs φ h0' hp vs K hr hargs hk => by
  unfold rF at hs
  split at hs
  · obtain ⟨x, rfl, e1⟩ := vs1 hargs
    obtain ⟨b, s, N, a, U, rfl, hbn, hb, hU, hrd, ha, hN, hs1, hs2, hs⟩ := hs
    refine cG (S := [b]) (O := [.cells (fK s N a) true]) (args0 := [.ptr 0 0]) (aG F5 4 _) (by kernel_rfl) hr
      (jj hbn hb (.inr rfl)) (.cons e1 .nil) hk (AN s N a U hU hrd ha hN hs1 hs2) fun u H' n' ⟨h1, h2⟩ => ?_
    subst h1
    refine ⟨1, gQ [b] n H [(0, some (.cells (fK s N (a + (aO U).length)) true))], Nat.le_refl _, cU.put (Nat.le_refl _) rfl (fun x hx o ho => ?_), rfl, hs⟩
    simp only [List.mem_cons, List.not_mem_nil, or_false] at hx
    subst hx
    injection ho with ho; subst ho; exact ⟨h2, rfl, rfl⟩
  · exact hs.elim
def mf (r : Nat) (T V st : Int) : List AV := [.ptr r 0, .si .i64 T, .si .i64 V, .si .i64 st, .int .i64 0]
def EJ : DT := [(5, [(some 1000000, [3, 5]), (none, [0, 1, 2, 3, 4, 5, 6, 7, 8, 9]), (none, [0, 1, 2, 4, 5, 3, 6, 7, 8, 9])]), (7, [(some 1000000, [4, 6]), (none, [0, 1, 2, 3, 4, 5, 6, 7, 8, 9, 10, 11]), (none, [0, 1, 2, 3, 5, 6, 4, 7, 8, 9, 10, 11])])]
noncomputable def KN : FuncId → EP := bB 89 EJ (a9 116 rF (a9 113 nG KB))
theorem F6 : bI KN := aE (au (au AJ AM) EI) (by kernel_rfl) (by kernel_rfl)
theorem ui (x : Int) : bP 0 (bitsOf (dU x) 64) = dU x := (fm 0 _ 64).trans (by rw [Nat.zero_mul, Nat.zero_add]; exact Nat.mod_eq_of_lt (vC x))
theorem w8 {u : Nat} (h : u < 18446744073709551616) : bu .xor .i64 (IntKind.i64.wrap (((u : Nat) : Int).fdiv ((2 : Int) ^ min (Int.toNat 1) IntKind.u64.bits))) (IntKind.i64.wrap (0 - IntKind.i64.wrap (bu .and .u64 ((u : Nat) : Int) 1))) = jT u := Ez h
theorem yF (s : List Nat) (N a : Nat) (T V st T' V' : Int) (h1 : aB s a 64 = bitsOf (dU T') 64) (h2 : aB s (a + 64) 64 = bitsOf (dU V') 64) (hT : aY T') (hV : aY V') (hle : a + 64 + 64 ≤ N) (hN : N ≤ 8 * s.length) (hs1 : s.length ≤ 100000000) (hs : ∀ x ∈ s, x < 256) :
    az KN 6 89 [.ptr 0 0, .sb true] (mkH [(0, .cells (mf 1 T V st) true), (1, .cells (fK s N a) true)]) 2
    fun u H' _ => u = .agg [.si .i64 T', .si .i64 V'] ∧ H'.get 0 = some (.cells (mf 1 T' V' st) true) ∧ H'.get 1 = some (.cells (fK s N (a + 64 + 64)) true) := by
  have e1 : bP 0 (aB s a 64) = dU T' := by rw [h1, ui]
  have e2 : bP 0 (aB s (a + 64) 64) = dU V' := by rw [h2, ui]
  have b1 : IntKind.i64.wrap ((dU T' : Nat) : Int) = T' := tU hT
  have b2 : IntKind.i64.wrap ((dU V' : Nat) : Int) = V' := tU hV
  have q1 := congr (congrArg (fun x y => AV.agg [.si .i64 x, .si .i64 y]) b1) b2
  have q2 := congr (congrArg (fun x y => some (AO.cells (mf 1 x y st) true)) b1) b2
  conv => whnf
  refine ak.sb (fun _ => ?_) (fun h => by cases h)
  conv => whnf
  refine ⟨1, s, N, a, 64, dU T', rfl, by decide, rfl, rfl, by decide, by omega, hN, hs1, hs, e1, ?_⟩
  conv => whnf
  refine ⟨1, s, N, a + 64, 64, dU V', rfl, by decide, rfl, rfl, by decide, by omega, hN, hs1, hs, e2, ?_⟩
  conv => whnf
  exact ⟨q1, q2, rfl⟩
theorem yG (s : List Nat) (N a U W : Nat) (T V st : Int) (hU : U < 18446744073709551616) (hW : W < 18446744073709551616) (h1 : aB s a (aO U).length = aO U) (h2 : aB s (a + (aO U).length) (aO W).length = aO W) (hle : a + (aO U).length + (aO W).length ≤ N) (hN : N ≤ 8 * s.length) (hs1 : s.length ≤ 100000000) (hs : ∀ x ∈ s, x < 256) :
    az KN 6 89 [.ptr 0 0, .sb false] (mkH [(0, .cells (mf 1 T V st) true), (1, .cells (fK s N a) true)]) 2
    fun u H' _ => u = .agg [.si .i64 (W64 (T + W64 (st + jT U))), .si .i64 (W64 (V + jT W))] ∧ H'.get 0 = some (.cells (mf 1 (W64 (T + W64 (st + jT U))) (W64 (V + jT W)) (W64 (st + jT U))) true) ∧ H'.get 1 = some (.cells (fK s N (a + (aO U).length + (aO W).length)) true) := by
  have z1 := w8 hU
  have z2 := w8 hW
  have q1 := congr (congrArg (fun x y => AV.agg [.si .i64 (W64 (T + W64 (st + x))), .si .i64 (W64 (V + y))]) z1) z2
  have q2 := congr (congrArg (fun x y => some (AO.cells (mf 1 (W64 (T + W64 (st + x))) (W64 (V + y)) (W64 (st + x))) true)) z1) z2
  have hle1 : a + (aO U).length ≤ N := by omega
  conv => whnf
  refine ak.sb (fun h => by cases h) (fun _ => ?_)
  conv => whnf
  refine ⟨?_, ?_, trivial⟩ <;> (
    conv => whnf
    refine ⟨1, s, N, a, U, rfl, by decide, rfl, hU, h1, hle1, hN, hs1, hs, ?_⟩
    conv => whnf
    refine ⟨?_, ?_, trivial⟩ <;> (
      conv => whnf
      refine ⟨1, s, N, a + (aO U).length, W, rfl, by decide, rfl, hW, h2, hle, hN, hs1, hs, ?_⟩
      conv => whnf
      exact ⟨q1, q2, rfl⟩))
inductive w9 (s : List Nat) (a : Nat) (T V st : Int) : Bool → Nat → Int → Int → Int → Prop where
  | first {T' V' : Int} (h1 : aB s a 64 = bitsOf (dU T') 64) (h2 : aB s (a + 64) 64 = bitsOf (dU V') 64) (hT : aY T') (hV : aY V') : w9 s a T V st true (a + 64 + 64) T' V' st
  | more {U W : Nat} (hU : U < 18446744073709551616) (hW : W < 18446744073709551616) (h1 : aB s a (aO U).length = aO U) (h2 : aB s (a + (aO U).length) (aO W).length = aO W) : w9 s a T V st false (a + (aO U).length + (aO W).length) (W64 (T + W64 (st + jT U))) (W64 (V + jT W)) (W64 (st + jT U))
def rG (args : List AV) (H : AH) (n : Nat) (κ : PK) : Prop := match args with
  | [x, q] => ∃ (b c : Nat) (s : List Nat) (N a a' : Nat) (T V st T' V' st' : Int) (f : Bool), x = .ptr b 0 ∧ mk q = .sb f ∧ b ≠ c ∧ b < n ∧ c < n ∧ H.get b = some (.cells (mf c T V st) true) ∧ H.get c = some (.cells (fK s N a) true) ∧ w9 s a T V st f a' T' V' st' ∧ a' ≤ N ∧ N ≤ 8 * s.length ∧ s.length ≤ 100000000 ∧ (∀ x ∈ s, x < 256) ∧
      κ (.agg [.si .i64 T', .si .i64 V']) ((H.set (some (.cells (fK s N a') true)) aa c).set (some (.cells (mf c T' V' st') true)) aa b) n
  | _ => False
theorem EK : aM 89 rG := fun args H n κ hs φ h0' hp vs K hr hargs hk => by
  unfold rG at hs
  split at hs
  · obtain ⟨x, y, rfl, e1, e2⟩ := vs2 hargs
    obtain ⟨b, c, s, N, a, a', T, V, st, T', V', st', f, rfl, hq, hbc, hbn, hcn, hb, hc, hnx, ha, hN, hs1, hs2, hs⟩ := hs
    have key : az KN 6 89 [.ptr 0 0, .sb f] (mkH [(0, .cells (mf 1 T V st) true), (1, .cells (fK s N a) true)]) 2
        fun u H' _ => u = .agg [.si .i64 T', .si .i64 V'] ∧ H'.get 0 = some (.cells (mf 1 T' V' st') true) ∧ H'.get 1 = some (.cells (fK s N a') true) := by
      cases hnx with
      | first h1 h2 hT hV => exact yF s N a T V st T' V' h1 h2 hT hV ha hN hs1 hs2
      | more hU hW h1 h2 => exact yG s N a _ _ T V st hU hW h1 h2 ha hN hs1 hs2
    refine cG (S := [b, c]) (O := [.cells (mf 1 T V st) true, .cells (fK s N a) true]) (args0 := [.ptr 0 0, .sb f]) (aG F6 6 _) (by kernel_rfl) hr
      (rD hbc hbn hcn hb hc (.inr rfl) (.inr rfl)) (.cons e1 (.cons (by have := e2.mk; rw [hq] at this; exact this) .nil)) hk key fun u H' n' ⟨h1, h2, h3⟩ => ?_
    subst h1
    refine ⟨2, gQ [b, c] n H [(0, some (.cells (mf 1 T' V' st') true)), (1, some (.cells (fK s N a') true))], Nat.le_refl _, cU.put (Nat.le_refl _) rfl (fun x hx o ho => ?_), rfl, hs⟩
    simp only [List.mem_cons, List.not_mem_nil, or_false] at hx
    rcases hx with rfl | rfl
    · injection ho with ho; subst ho; exact ⟨h2, rfl, rfl⟩
    · injection ho with ho; subst ho; exact ⟨h3, rfl, rfl⟩
  · exact hs.elim
end Go.Proofs.Ytapjijhjnloimaa
namespace Go.Proofs.Ytapjijhjnloimaa
open Go Go.RowKit
def tP (X : Smp) (i : Nat) : Int := if i = 0 then 0 else tAt X (i - 1)
def vP (X : Smp) (i : Nat) : Int := if i = 0 then 0 else vAt X (i - 1)
theorem CB {X : Smp} {i : Nat} (h : i < X.length) : aB (pack (aK X)) (aw X i).length (bF X i).length = bF X i := by
  obtain ⟨D, hD⟩ := vE h
  exact tW (qm X) hD
theorem AP {s : List Nat} {a : Nat} {A B : List Nat} (h : aB s a (A ++ B).length = A ++ B) : aB s a A.length = A ∧ aB s (a + A.length) B.length = B := by
  rw [List.length_append, oU] at h
  exact List.append_inj h (by rw [iu])
theorem oW (X : Smp) (i : Nat) : (aw X (i + 1)).length = (aw X i).length + (bF X i).length := by rw [ll, List.length_append]
theorem AQ {X : Smp} {i : Nat} (h : i ≤ X.length) : (aw X i).length ≤ (aK X).length := by
  obtain ⟨D, hD⟩ := mP X i (X.length - i)
  rw [show i + (X.length - i) = X.length from by omega] at hD
  show _ ≤ (aw X X.length).length
  rw [hD, List.length_append]; omega
theorem AS {X : Smp} (h64 : ∀ x ∈ X, aY x.1 ∧ aY x.2) {i : Nat} (h : i < X.length) : w9 (pack (aK X)) (aw X i).length (tP X i) (vP X i) (cH X i) (decide ((i : Int) = 0)) (aw X (i + 1)).length (tP X (i + 1)) (vP X (i + 1)) (cH X (i + 1)) := by
  have hr := CB h
  have ht := (Ay h64 i).1
  have hv := (Ay h64 i).2
  by_cases h0 : i = 0
  · subst h0
    obtain ⟨r1, r2⟩ := AP (A := bitsOf (dU (tAt X 0)) 64) (B := bitsOf (dU (vAt X 0)) 64) hr
    rw [aF] at r1
    rw [aF, aF] at r2
    have e : (aw X (0 + 1)).length = (aw X 0).length + 64 + 64 := by rw [oW]; simp [bF, aF]
    rw [e]
    exact .first r1 r2 ht hv
  · have hd : decide ((i : Int) = 0) = false := decide_eq_false (by omega)
    have es : bF X i = aO (dT X i) ++ aO (dV X i) := by unfold bF; rw [if_neg h0]
    rw [es] at hr
    obtain ⟨r1, r2⟩ := AP hr
    have e : (aw X (i + 1)).length = (aw X i).length + (aO (dT X i)).length + (aO (dV X i)).length := by rw [oW, es, List.length_append]; omega
    have e1 : tP X (i + 1) = W64 (tP X i + W64 (cH X i + jT (dT X i))) := by
      rw [ug X h0]; unfold tP; rw [if_neg (by omega), if_neg h0]; exact (F1 h0 ht).symm
    have e2 : vP X (i + 1) = W64 (vP X i + jT (dV X i)) := by
      unfold vP; rw [if_neg (by omega), if_neg h0]; exact (F2 hv).symm
    rw [hd, e, e1, e2, ← ug X h0]
    exact .more (D0 X i) (D1 X i) r1 r2
theorem uj (L : Smp) (x : Int × Int) : smp (L ++ [x]) = smp L ++ [.si .i64 x.1, .si .i64 x.2] := by simp [smp]
theorem tyS : RTy 22 22 2 16 := ⟨_, _, _, rfl, rfl, (fun q h => by cases h), rfl, rfl, rfl, rfl, by decide, by decide⟩
noncomputable def dc (X : Smp) (i : Nat) : AE × AH := (mkE [(2, .si .i64 (((X.length : Nat) : Int))), (8, .ptr 0 (0)), (10, .ptr 1 (0)), (11, .rw 2 0 i 2 0), (12, .si .i64 (((i : Nat) : Int)))], mkH [(0, .cells (fK (pack (aK X)) (aK X).length (aw X i).length) true), (1, .cells (mf 0 (tP X i) (vP X i) (cH X i)) true), (2, .cells (smp ((X.take i))) true)])
theorem AT {X : Smp} {i : Nat} {p n : Nat} {σ : AE} {H : AH} (j2 : Nat) (hj : j2 ≠ 0 ∧ j2 ≠ 1) (hp : p ≤ 0) (e2 : mk (aA (pa 2) σ) = .si .i64 (((X.length : Nat) : Int))) (e8 : aA (pa 8) σ = .ptr 0 (0)) (e10 : aA (pa 10) σ = .ptr 1 (0)) (e11 : ai H 3 (fun b => if b = 2 then j2 else b) (aA (pa 11) σ) (.rw 2 0 i 2 0)) (e12 : mk (aA (pa 12) σ) = .si .i64 (((i : Nat) : Int))) (h0 : ∃ l, H.get 0 = some (.cells l true) ∧ jU H 3 (fun b => if b = 2 then j2 else b) l (fK (pack (aK X)) (aK X).length (aw X i).length)) (h1 : ∃ l, H.get 1 = some (.cells l true) ∧ jU H 3 (fun b => if b = 2 then j2 else b) l (mf 0 (tP X i) (vP X i) (cH X i))) (h2 : (∃ l, H.get j2 = some (.cells l true) ∧ l.map mk = smp ((X.take i))) ∨ (((X.take i)) = [] ∧ n ≤ j2)) : Cov p σ H n ((dc X i).1, (dc X i).2, 3) := by
  refine Cov.ofR (fun b => if b = 2 then j2 else b) (by omega) (fun b hb => by repeat' rw [if_neg (by omega)]) ?_ ?_ ?_
  · intro x hx
    simp only [List.mem_cons, List.not_mem_nil, or_false] at hx
    rcases hx with rfl | rfl | rfl | rfl | rfl
    · exact .int e2
    · exact .ptr (by decide) e8
    · exact .ptr (by decide) e10
    · exact e11
    · exact .int e12
  · intro x hx
    simp only [List.mem_cons, List.not_mem_nil, or_false] at hx
    rcases hx with rfl | rfl | rfl
    · exact ⟨by simp, .inl (h0.elim fun l h => ⟨_, h.1, aQ.st h.2⟩)⟩
    · exact ⟨by simp, .inl (h1.elim fun l h => ⟨_, h.1, aQ.st h.2⟩)⟩
    · exact ⟨by simp, h2.elim (fun ⟨l, h, g⟩ => .inl ⟨_, h, aQ.bA (bO _) (by rw [g, ba]) (fun q => q)⟩) (fun h => .inr ⟨by rw [h.1]; rfl, h.2⟩)⟩
  · intro x hx y hy
    simp only [List.mem_cons, List.not_mem_nil, or_false] at hx hy
    rcases hx with rfl | rfl | rfl <;> rcases hy with rfl | rfl | rfl <;> simp <;> omega
noncomputable def KD : FuncId → EP := bB 76 [] (bB 90 [] (a9 89 rG evP))
theorem F7 : bI KD := aE (aE (au a8 EK) (by kernel_rfl) (by kernel_rfl)) (by kernel_rfl) (by kernel_rfl)
theorem CC (X : Smp) (hX : X.length ≤ 100000) (h64 : ∀ x ∈ X, aY x.1 ∧ aY x.2) : az KD 4 76 [.ss (pack (aK X)), .si .i64 ((aK X).length : Int), .si .i64 (X.length : Int)] .nil 0
    fun u H' _ => Ae X 0 u H' := by
  have hbl := tV X
  have hpl := aR (aK X)
  have hN : (aK X).length ≤ 8 * (pack (aK X)).length := by omega
  have h8 : IntKind.i64.wrap (8 * ((pack (aK X)).length : Int)) = ((8 * (pack (aK X)).length : Nat) : Int) := b5 ⟨by omega, by omega⟩
  have hgt : ¬ IntKind.i64.wrap (8 * ((pack (aK X)).length : Int)) < ((aK X).length : Int) := by rw [h8]; omega
  have hs2 := wQ (qm X)
  conv => whnf
  refine ak.dec (fun h => absurd h (by omega)) (fun _ => ?_)
  conv => whnf
  refine ak.dec (fun h => absurd h hgt) (fun _ => ?_)
  conv => whnf
  refine ak.dec (fun h => absurd h (by omega)) (fun _ => ?_)
  conv => whnf
  refine ak.dec (fun h => absurd h (by omega)) (fun _ => ?_)
  conv => whnf
  refine bz.mk { i : Nat // i ≤ X.length } 3 (fun i => dc X i.val) (fun i => X.length - i.val) ⟨0, Nat.zero_le _⟩ ?_ ?_
  · exact AT (j2 := 2) (by decide) (Nat.le_refl 0) rfl rfl rfl (.qh rfl) rfl ⟨_, rfl, .cons (.str rfl) (.cons (.int rfl) (.cons (.int rfl) (.cons (.bool rfl) .nil)))⟩ ⟨_, rfl, .cons (.ptr (by decide) rfl) (.cons (.int rfl) (.cons (.int rfl) (.cons (.int rfl) (.cons (.mk1 rfl rfl) .nil))))⟩ (.inr ⟨rfl, Nat.le_refl _⟩)
  · intro ⟨i, hi⟩
    conv => whnf
    refine ak.dec (fun h => ?_) (fun h => ?_)
    · have hi2 : i < X.length := by exact Int.ofNat_lt.1 h
      have hnx := AS h64 hi2
      have ha : (aw X (i + 1)).length ≤ (aK X).length := AQ hi2
      have hs1 : (pack (aK X)).length ≤ 100000000 := by omega
      have hi1 : IntKind.i64.wrap ((i : Int) + 1) = (((i + 1 : Nat)) : Int) := b5 ⟨by omega, by omega⟩
      have hrow : bj (smp (X.take i)) 0 (i * 2) = some (smp (X.take i)) := cz (by rw [aT, List.length_take]; omega)
      have hbig : (i + 1) * 16 ≤ 140737488355328 := by omega
      have htk : smp (X.take i) ++ [.si .i64 (tP X (i + 1)), .si .i64 (vP X (i + 1))] = smp (X.take (i + 1)) := by
        rw [List.take_succ_eq_append_getElem hi2, uj]
        unfold tP vP
        rw [if_neg (by omega), if_neg (by omega), Nat.add_sub_cancel, c6 hi2, jV hi2]
      conv => whnf
      refine ⟨1, 0, pack (aK X), (aK X).length, (aw X i).length, (aw X (i + 1)).length, tP X i, vP X i, cH X i, tP X (i + 1), vP X (i + 1), cH X (i + 1), _, rfl, rfl, by decide, by decide, by decide, rfl, rfl, hnx, ha, hN, hs1, hs2, ?_⟩
      conv => whnf
      refine jf.grow 2 16 _ _ _ _ _ _ tyS (.old rfl) rfl rfl (.rw rfl hrow) hbig ?_
      conv => whnf
      exact ⟨⟨i + 1, hi2⟩, (show X.length - (i + 1) < X.length - i by omega), AT (j2 := 4) (by decide) (Nat.le_refl 0) rfl rfl rfl (ai.rw (by decide) rfl) (congrArg (AV.si .i64) hi1) ⟨_, rfl, .cons (.str rfl) (.cons (.int rfl) (.cons (.int rfl) (.cons (.bool rfl) .nil)))⟩ ⟨_, rfl, .cons (.ptr (by decide) rfl) (.cons (.int rfl) (.cons (.int rfl) (.cons (.int rfl) (.cons (.mk1 rfl rfl) .nil))))⟩ (.inl ⟨_, rfl, (congrArg (List.map mk) htk).trans (ba _)⟩)⟩
    · have hi3 : i = X.length := by have : ¬ i < X.length := fun q => h (Int.ofNat_lt.2 q); omega
      subst hi3
      conv => whnf
      refine ak.dec (fun h => absurd h (by rw [show IntKind.i64.wrap (((aK X).length : Int) - ((aw X X.length).length : Int)) = 0 from (b5 ⟨by show _ ≤ ((aK X).length : Int) - ((aK X).length : Int); omega, by show ((aK X).length : Int) - ((aK X).length : Int) ≤ _; omega⟩).trans (Int.sub_self _)]; decide)) (fun _ => ?_)
      conv => whnf
      have hrow : bj (smp (X.take X.length)) 0 (X.length * 2) = some (smp X) := by rw [List.take_length]; exact dw X
      exact ⟨_, _, rfl, rfl, g8.rw rfl rfl hrow (ba X)⟩
def rH (args : List AV) (H : AH) (n : Nat) (κ : PK) : Prop := match args with
  | [x, y, z] => ∃ X : Smp, mk x = .ss (pack (aK X)) ∧ mk y = .si .i64 ((aK X).length : Int) ∧ mk z = .si .i64 (X.length : Int) ∧ X.length ≤ 100000 ∧ (∀ x ∈ X, aY x.1 ∧ aY x.2) ∧ wI (FV 0) X H n κ
  | _ => False
theorem D5 : aM 76 rH := fun args H n κ hs φ h0' hp vs K hr hargs hk => by
  unfold rH at hs
  split at hs
  · obtain ⟨x, y, z, rfl, e1, e2, e3⟩ := vs3 hargs
    obtain ⟨X, h1, h2, h3, hX, h64, hs⟩ := hs
    exact yw F7 (fun _ _ h => h) (CC X hX h64) hs hr hk (by kernel_rfl) HR.ro0 (.cons (aC rfl (h1 ▸ e1.mk)) (.cons (aC rfl (h2 ▸ e2.mk)) (.cons (aC rfl (h3 ▸ e3.mk)) .nil)))
  · exact hs.elim
end Go.Proofs.Ytapjijhjnloimaa
namespace Go.Proofs.Ytapjijhjnloimaa
open Go Go.RowKit
theorem ai.frE {H : AH} {m : Nat} {r : Nat → Nat} {a : AV} {n k : Nat} {l : List AV} (e : a = .fr n k l) : ai H m r a (.fr n k l) := by subst e; exact .vj rfl
theorem lW.frz {φ : Ph} {H : AH} {n : Nat} {h0 hp : Hp} (hr : HR φ H n h0 hp) {a : AV} {L : Smp} {v : Value} (hS : lW H a L ∨ a = .fr L.length 2 (smp L)) (hv : VR φ a v) :
    ∃ z : Fz → Prop, (Wf hp → HR ⟨fun _ => none, z, z, fun _ _ => False⟩ .nil 0 hp hp) ∧ VR ⟨fun _ => none, z, z, fun _ _ => False⟩ (.fr L.length 2 (smp L)) v := by
  rcases hS with hS | rfl
  · rcases hS.open hr hv with ⟨rfl, h⟩ | ⟨p, C, hC, ⟨c, t, fz, h1, h2, h3, h4⟩, h⟩
    · refine ⟨fun _ => False, fun hw => eW hw, ?_⟩
      rw [(h φ).cj]
      exact .fre fun _ => rfl
    · have hst : (smp L).all vj = true := by
        rw [List.all_eq_true]
        intro y hy
        have := List.all_eq_true.1 (bO L) y hy
        cases y <;> first | rfl | cases this
      refine ⟨fun q => q = ⟨p.B, p.s, smp L⟩, fun hw => ⟨fun _ _ k => (by cases k), fun _ _ k => (by cases k), fun _ _ _ _ _ _ k => (by cases k), fun b o k => ⟨hw b o k, k⟩, Nat.le_refl _, fun q hq => ⟨?_, fun _ _ _ k => (by cases k)⟩, fun _ _ k => (by cases k)⟩, ?_⟩
      · subst hq
        exact ⟨⟨⟨hw _ _ h1, hst⟩, c, t, fz, h1, (show p.s + (smp L).length ≤ c.size by omega), h4 _⟩, .inl rfl⟩
      · obtain ⟨p1, C1, g1, rfl, g3, _⟩ := (h (ph1 p) 0 rfl).qW
        have : p = p1 := by simpa [ph1] using g1
        subst this
        exact .fr (q := ⟨p.B, p.s, smp L⟩) (o := 0) rfl (by rw [g3 rfl]; exact hC) (cz (aT L))
  · exact ⟨φ.z, fun hw => hr.wJ (eW hw) (fun _ _ h => by cases h) (fun _ h => h), ny (ψ := ⟨fun _ => none, φ.z, φ.z, fun _ _ => False⟩) (fun _ h => h) rfl hv⟩
noncomputable def KL : FuncId → EP := bB 73 [] evP
theorem F8 : bI KL := aE a8 (by kernel_rfl) (by kernel_rfl)
noncomputable def pl0 (L : Smp) (t : Int) (i : Nat) : AE × AH := (mkE [(0, .fr L.length 2 (smp L)), (1, .si .i64 (t)), (6, .si .i64 (((i : Nat) : Int)))], mkH [])
theorem xa {L : Smp} {t : Int} {i : Nat} {p n : Nat} {σ : AE} {H : AH} (hp : p ≤ 0) (e0 : aA (pa 0) σ = .fr L.length 2 (smp L)) (e1 : mk (aA (pa 1) σ) = .si .i64 (t)) (e6 : mk (aA (pa 6) σ) = .si .i64 (((i : Nat) : Int))) : Cov p σ H n ((pl0 L t i).1, (pl0 L t i).2, 0) := by
  refine Cov.ofR (fun b => b) (by omega) (fun b hb => rfl) ?_ ?_ ?_
  · intro x hx
    simp only [List.mem_cons, List.not_mem_nil, or_false] at hx
    rcases hx with rfl | rfl | rfl
    · exact ai.frE e0
    · exact .int e1
    · exact .int e6
  · intro x hx
    cases hx
  · intro x hx y hy
    cases hx
theorem yH (L : Smp) (t : Int) (hL : L.length ≤ 100000000) : az KL 3 73 [.fr L.length 2 (smp L), .si .i64 t] .nil 0 fun u _ _ => mkT u = mkT (.tup [.si .i64 ((plc L t : Nat) : Int), .sb (has L t)]) := by
  conv => whnf
  refine bz.mk { i : Nat // i ≤ plc L t } 0 (fun i => pl0 L t i.val) (fun i => L.length - i.val) ⟨0, Nat.zero_le _⟩ ?_ ?_
  · exact xa (Nat.le_refl 0) rfl rfl rfl
  · intro ⟨i, hi⟩
    have hpl := lk L t
    conv => whnf
    refine ak.dec (fun h => ?_) (fun h => ?_)
    · have hi2 : i < L.length := by exact Int.ofNat_lt.1 h
      have hti : tAt L i = L[i].1 := c6 hi2
      have hi1 : IntKind.i64.wrap ((i : Int) + 1) = (((i + 1 : Nat)) : Int) := b5 ⟨by omega, by omega⟩
      conv => whnf
      refine Idx.mk i rfl hi2 ?_
      conv => whnf
      refine aD (oI hi2 rfl) ?_
      conv => whnf
      refine ak.dec (fun h2 => ?_) (fun h2 => ?_)
      · have hlt : i + 1 ≤ plc L t := by
          rcases Nat.lt_or_ge i (plc L t) with q | q
          · exact q
          · have e : i = plc L t := by omega
            have := vI (L := L) (t := t) (by omega)
            rw [← e, hti] at this; omega
        conv => whnf
        exact ⟨⟨i + 1, hlt⟩, (show L.length - (i + 1) < L.length - i by omega), xa (Nat.le_refl 0) rfl rfl (congrArg (AV.si .i64) hi1)⟩
      · have e : i = plc L t := by
          rcases Nat.lt_or_ge i (plc L t) with q | q
          · have := vH q; rw [hti] at this; exact absurd this h2
          · omega
        have hb : decide (L[i].1 = t) = has L t := by
          unfold has
          rw [← e, hti]
          simp [hi2]
        have hq := congr (congrArg (fun (x : Nat) y => AV.tup [.si .i64 (x : Int), .sb y]) e) hb
        conv => whnf
        refine ak.dec (fun _ => ?_) (fun q => absurd h q)
        conv => whnf
        refine Idx.mk i rfl hi2 ?_
        conv => whnf
        refine aD (oI hi2 rfl) ?_
        conv => whnf
        exact hq
    · have e : i = plc L t := by have : ¬ i < L.length := fun q => h (Int.ofNat_lt.2 q); omega
      have hb : false = has L t := by
        unfold has
        refine (decide_eq_false fun q => ?_).symm
        have : ¬ i < L.length := fun q => h (Int.ofNat_lt.2 q)
        omega
      have hq := congr (congrArg (fun (x : Nat) y => AV.tup [.si .i64 (x : Int), .sb y]) e) hb
      conv => whnf
      refine ak.dec (fun q => absurd q h) (fun _ => ?_)
      conv => whnf
      exact hq
def xb (args : List AV) (H : AH) (n : Nat) (κ : PK) : Prop := match args with
  | [x, y] => ∃ (L : Smp) (t : Int), (lW H x L ∨ x = .fr L.length 2 (smp L)) ∧ mk y = .si .i64 t ∧ L.length ≤ 100000000 ∧ κ (.tup [.si .i64 ((plc L t : Nat) : Int), .sb (has L t)]) H n
  | _ => False
theorem xc : aM 73 xb := fun args H n κ hs φ h0' hp vs K hr hargs hk => by
  unfold xb at hs
  split at hs
  · obtain ⟨x, y, rfl, e1, e2⟩ := vs2 hargs
    obtain ⟨L, t, hS, hy, hL, hs⟩ := hs
    obtain ⟨z, hz, hv⟩ := lW.frz hr hS e1
    exact gJ F8 (v := .tup [.si .i64 ((plc L t : Nat) : Int), .sb (has L t)]) rfl (yH L t hL) hs hr hk (by kernel_rfl) hz (.cons hv (.cons (aC rfl (hy ▸ e2.mk)) .nil))
  · exact hs.elim
theorem yI (p a b : Int) : az evP 4 26 [.si .i64 p, .si .i64 a, .si .i64 b] .nil 0 fun u _ _ => mkT u = mkT (.tup [.si .i64 (aV p a b).1, .si .i64 (aV p a b).2]) := by
  have key : ∀ {x y : Int}, aV p a b = (x, y) → mkT (.tup [.si .i64 x, .si .i64 y]) = mkT (.tup [.si .i64 (aV p a b).1, .si .i64 (aV p a b).2]) := fun e => by rw [e]
  conv => whnf
  refine ak.dec (fun h1 => ?_) (fun h1 => ?_)
  · have e := key (x := 0) (y := 8) (by simp [aV, h1])
    conv => whnf
    exact e
  conv => whnf
  refine ak.dec (fun h2 => ?_) (fun h2 => ?_)
  · have e := key (x := a) (y := 0) (by simp [aV, h2])
    conv => whnf
    exact e
  conv => whnf
  refine ak.dec (fun h3 => ?_) (fun h3 => ?_)
  · have e := key (x := b) (y := 0) (by simp [aV, h3])
    conv => whnf
    exact e
  conv => whnf
  refine ak.dec (fun h4 => ?_) (fun h4 => ?_)
  · have e := key (x := min a b) (y := 0) (by simp [aV, h4])
    conv => whnf
    exact e
  conv => whnf
  refine ak.dec (fun h5 => ?_) (fun h5 => ?_)
  · have e := key (x := max a b) (y := 0) (by simp [aV, h5])
    conv => whnf
    exact e
  conv => whnf
  refine ak.dec (fun h6 => ?_) (fun h6 => ?_)
  · have e9 : ((0 ≤ b ∧ W64 (a + b) < a) ∨ (b < 0 ∧ a < W64 (a + b))) → _ := fun h => key (x := 0) (y := 9) (by simp [aV, h6, h])
    have e0 : ¬ ((0 ≤ b ∧ W64 (a + b) < a) ∨ (b < 0 ∧ a < W64 (a + b))) → _ := fun h => key (x := W64 (a + b)) (y := 0) (by unfold aV; rw [if_neg h1, if_neg h2, if_neg h3, if_neg h4, if_neg h5, if_pos h6, if_neg h])
    conv => whnf
    refine ak.dec (fun hb => ?_) (fun hb => ?_)
    · conv => whnf
      refine ak.dec (fun hn => ?_) (fun hn => ?_)
      · have e := e9 (.inl ⟨hb, hn⟩)
        conv => whnf
        exact e
      · have e := e0 (fun q => q.elim (fun q => hn q.2) (fun q => by have := q.1; omega))
        conv => whnf
        refine ak.dec (fun q => absurd q (by omega)) (fun _ => ?_)
        conv => whnf
        exact e
    · conv => whnf
      refine ak.dec (fun hb2 => ?_) (fun q => absurd q (by omega))
      conv => whnf
      refine ak.dec (fun hn => ?_) (fun hn => ?_)
      · have e := e9 (.inr ⟨hb2, hn⟩)
        conv => whnf
        exact e
      · have e := e0 (fun q => q.elim (fun q => hb q.1) (fun q => hn q.2))
        conv => whnf
        exact e
  · have e := key (x := 0) (y := 1) (by simp [aV, h1, h2, h3, h4, h5, h6])
    conv => whnf
    exact e
def AU (args : List AV) (H : AH) (n : Nat) (κ : PK) : Prop := match args with
  | [x, y, z] => ∃ p a b : Int, mk x = .si .i64 p ∧ mk y = .si .i64 a ∧ mk z = .si .i64 b ∧ κ (.tup [.si .i64 (aV p a b).1, .si .i64 (aV p a b).2]) H n
  | _ => False
theorem CD : aM 26 AU := fun args H n κ hs φ h0' hp vs K hr hargs hk => by
  unfold AU at hs
  split at hs
  · obtain ⟨x, y, z, rfl, e1, e2, e3⟩ := vs3 hargs
    obtain ⟨p, a, b, h1, h2, h3, hs⟩ := hs
    exact FU (v := .tup [.si .i64 (aV p a b).1, .si .i64 (aV p a b).2]) a8 rfl rfl (yI p a b) hs hr (.cons (aC rfl (h1 ▸ e1.mk)) (.cons (aC rfl (h2 ▸ e2.mk)) (.cons (aC rfl (h3 ▸ e3.mk)) .nil))) hk
  · exact hs.elim
def chk (size : Nat) (L : Smp) : List AV := [.si .i64 (size : Int), .ss (pack (aK L)), .si .i64 ((aK L).length : Int), .si .i64 (L.length : Int)]
noncomputable def KAl : FuncId → EP := bB 43 [] (a9 76 rH evP)
theorem vK : bI KAl := aE (au a8 D5) (by kernel_rfl) (by kernel_rfl)
theorem xd (size : Nat) (L : Smp) (hs : 0 < size) (hL : L.length ≤ 100000) (h64 : ∀ x ∈ L, aY x.1 ∧ aY x.2) : az KAl 3 43 [.ptr 0 0] (mkH [(0, .ro (chk size L))]) 1 fun u H' _ => FrG L.length 2 (smp L) u H' := by
  conv => whnf
  refine ak.dF (fun h => absurd (show (0 : Int) < (size : Int) by omega) h) (fun _ => ?_)
  conv => whnf
  refine ⟨L, rfl, rfl, rfl, hL, h64, ⟨rfl, by decide⟩, ?_⟩
  conv => whnf
  exact Cq rfl rfl rfl rfl (aT L)
def lp (args : List AV) (H : AH) (n : Nat) (κ : PK) : Prop := match args with
  | [x] => ∃ (b size : Nat) (l : List AV) (L : Smp), x = .ptr b 0 ∧ H.get b = some (.cells l true) ∧ l.map mk = chk size L ∧ 0 < size ∧ L.length ≤ 100000 ∧ (∀ x ∈ L, aY x.1 ∧ aY x.2) ∧ κ (.fr L.length 2 (smp L)) H n
  | _ => False
theorem cO (size : Nat) (L : Smp) : (chk size L).all flat.flat1 = true := rfl
theorem rI (size : Nat) (L : Smp) : (chk size L).map mk = chk size L := rfl
theorem uk : aM 43 lp := fun args H n κ hs φ h0' hp vs K hr hargs hk => by
  unfold lp at hs
  split at hs
  · obtain ⟨x, rfl, e1⟩ := vs1 hargs
    obtain ⟨b, size, l, L, rfl, hb, hl, hsz, hL, h64, hs⟩ := hs
    obtain ⟨p, hpb, rfl⟩ := e1.ct
    have hl4 : l.length = 4 := by have := congrArg List.length hl; simpa [chk] using this
    have hro := kC.of (s := chk size L) hr (.inr ⟨_, hb⟩) hpb (cz (n := 4) hl4) (by rw [hl, rI]) (cO size L)
    exact wK vK (bO L) (aT L) (xd size L hsz hL h64) hs hr hk (by kernel_rfl) (φ0 := ⟨(ph1 ⟨p.B, p.s + 0, 4⟩).f, φ.z, φ.z, fun _ _ => False⟩)
      (fun hw => hr.wJ (HR.ro1 hw hro) (fun b o h => by
        have hm := aX h
        simp only [List.mem_cons, List.not_mem_nil, or_false] at hm
        injection hm with _ e; subst e; rfl) (fun _ h => h)) rfl (.cons (.ptr (p := ⟨p.B, p.s + 0, 4⟩) (o := 0) rfl) .nil)
  · exact hs.elim
end Go.Proofs.Ytapjijhjnloimaa
namespace Go.Proofs.Ytapjijhjnloimaa
open Go Go.RowKit
theorem PM.oX {α : Type} {v : α} {t : PM α} : (PM.set (some v) aa t 0).get 0 = some v := by cases t <;> rfl
theorem AW {u : AV} {H' : AH} {n' size : Nat} {e : Int} {M : Smp} {l : List AV} (hu : mk u = .si .i64 e) (hb : H'.get 0 = some (.cells l true)) (hl : l.map mk = chk size M) :
    ∃ v H2 n2, VTo u v ∧ cI H' n' H2 n2 ∧ (v = .si .i64 e ∧ PM.get H2 0 = some (.cells (chk size M) true)) :=
  ⟨.si .i64 e, H'.set (some (.cells (chk size M) true)) aa 0, n', fun φ w h => by rw [← hu]; exact h.mk, cI.vG hb rfl hl, rfl, PM.oX⟩
theorem mg (A B : Smp) : smp (A ++ B) = smp A ++ smp B := by simp [smp]
theorem um (z : List AV) (a : Nat) : ∀ b, eG z (a + b) = eG z a ++ eG z b := by
  intro b
  induction a with
  | zero => simp [eG]
  | succ a ih => rw [Nat.succ_add]; simp [eG, ih]
theorem oY (z : List AV) : ∀ a, (eG z a).length = a * z.length
  | 0 => by simp [eG]
  | a + 1 => by simp [eG, oY z a, Nat.succ_mul]; omega
theorem gN : ∀ (P X Q Y : List AV), Y.length = X.length → dC (P ++ (X ++ Q)) P.length Y = some (P ++ (Y ++ Q))
  | [], [], Q, [], _ => by cases Q <;> rfl
  | [], [], Q, y :: Y, h => by simp at h
  | [], x :: X, Q, [], h => by simp at h
  | [], x :: X, Q, y :: Y, h => by
    have := gN [] X Q Y (by simpa using h)
    simp only [List.nil_append, List.length_nil] at this ⊢
    simp [dC, this]
  | p :: P, X, Q, Y, h => by
    have := gN P X Q Y h
    simp [dC, this]
theorem AX {L : Smp} {i : Nat} (h : i < L.length) {t m : Int} (ht : tAt L i = t) : dC (smp L) (0 + i * 2 + 1) [.si .i64 m] = some (smp (L.set i (t, m))) := by
  have e : L = L.take i ++ (L[i] :: L.drop (i + 1)) := by rw [← List.drop_eq_getElem_cons h, List.take_append_drop]
  have e2 : L.set i (t, m) = L.take i ++ ((t, m) :: L.drop (i + 1)) := by rw [List.set_eq_take_append_cons_drop, if_pos h]
  have hl : (L.take i).length = i := by rw [List.length_take]; omega
  have e3 : smp L = (smp (L.take i) ++ [.si .i64 L[i].1]) ++ ([.si .i64 L[i].2] ++ smp (L.drop (i + 1))) := by
    have := congrArg smp e
    rw [mg] at this
    rw [this, List.append_assoc]; rfl
  have e4 : smp (L.set i (t, m)) = (smp (L.take i) ++ [.si .i64 L[i].1]) ++ ([.si .i64 m] ++ smp (L.drop (i + 1))) := by
    rw [e2, mg, ← c6 h, ht]; simp [smp]
  have := gN (smp (L.take i) ++ [.si .i64 L[i].1]) [.si .i64 L[i].2] (smp (L.drop (i + 1))) [.si .i64 m] rfl
  rw [List.length_append, aT, hl, ← e3, ← e4] at this
  rw [Nat.zero_add]; exact this
def z2 : List AV := [.int .i64 0, .int .i64 0]
theorem yJ {l : Nat} {x : Int} {H : AH} {n : Nat} (hx : x = (l : Int)) (hl : l ≤ 1000000) : og Try.prog 22 (.int .i64 x) (.int .i64 x) H n = some (.sl n 0 l l 0, H.set (some (.cells (eG z2 l) true)) aa n, n + 1) := by
  subst hx
  have e : og Try.prog 22 (.int .i64 (l : Int)) (.int .i64 (l : Int)) H n = if l ≤ l ∧ 16 * l ≤ 281474976710656 ∧ l ≤ 9223372036854775807 ∧ (2 : Nat) = 2 then some (.sl n 0 l l 0, H.set (some (.cells (eG z2 l) true)) aa n, n + 1) else none := rfl
  rw [e, if_pos ⟨Nat.le_refl _, by omega, by omega, rfl⟩]
theorem yK {b l n c : Nat} {x : Int} (hx : x = (l : Int)) (hl : l ≤ n) (hc : n ≤ c) : eT Try.prog 22 (.sl b 0 n c 0) (some (.int .i64 x)) none none = some (.sl b (if c = l then 0 else 0 + l * 2) (n - l) (c - l) 0) := by
  subst hx
  have e : eT Try.prog 22 (.sl b 0 n c 0) (some (.int .i64 (l : Int))) none none = if l ≤ n ∧ n ≤ c ∧ c ≤ c then some (.sl b (if c = l then 0 else 0 + l * 2) (n - l) (c - l) 0) else none := rfl
  rw [e, if_pos ⟨hl, hc, Nat.le_refl _⟩]
noncomputable def KU : FuncId → EP := bB 41 [] (bB 43 [] (a9 73 xb (a9 26 AU (a9 76 rH (a9 87 ln evP)))))
theorem F9 : bI KU := aE (aE (au (au (au (au a8 uh) D5) CD) xc) (by kernel_rfl) (by kernel_rfl)) (by kernel_rfl) (by kernel_rfl)
def ChQ (e : Int) (size : Nat) (M : Smp) : PK := fun u H' _ => u = .si .i64 e ∧ PM.get H' 0 = some (.cells (chk size M) true)
theorem uo {b : Bool} (h : b = false) : ¬ b = true := by simp [h]
theorem CE (size : Nat) (L : Smp) (t v p : Int) (hs : 0 < size) (hs2 : size ≤ 4096) (hF : bK L) (hv : aY v) : post (az KU 5 41) [.ptr 0 0, .agg [.si .i64 t, .si .i64 v], .si .i64 p] (mkH [(0, .cells (chk size L) true)]) 1 (ChQ (cR size L t v p).2 size (cR size L t v p).1) := by
  have hL := hF.2.2
  have h64 := hF.fJ
  have hsz : (0 : Int) < (size : Int) := by omega
  have leaf : ∀ {u : AV} {H' : AH} {n' : Nat} {e : Int} {M : Smp} {l : List AV}, cR size L t v p = (M, e) → mk u = .si .i64 e → PM.get H' 0 = some (.cells l true) → l.map mk = chk size M → ∃ v2 H2 n2, VTo u v2 ∧ cI H' n' H2 n2 ∧ ChQ (cR size L t v p).2 size (cR size L t v p).1 v2 H2 n2 := fun hp hu hb hl => by
    rw [hp]; exact AW hu hb hl
  show az KU 5 41 _ _ _ _
  conv => whnf
  refine ak.dF (fun h => absurd hsz h) (fun _ => ?_)
  conv => whnf
  refine ak.dec (fun h => ?_) (fun h => ?_)
  · have e : cR size L t v p = (L, 1) := by unfold cR; rw [if_pos (.inl h)]
    conv => whnf
    exact leaf e rfl rfl rfl
  conv => whnf
  refine ak.dec (fun h2 => ?_) (fun h2 => ?_)
  · have e : cR size L t v p = (L, 1) := by unfold cR; rw [if_pos (.inr h2)]
    conv => whnf
    exact leaf e rfl rfl rfl
  have hrange : ¬ (t < 0 ∨ 1099511627776 ≤ t) := fun q => q.elim h h2
  conv => whnf
  refine ak.dF (fun h => absurd hsz h) (fun _ => ?_)
  conv => whnf
  refine ⟨L, rfl, rfl, rfl, Nat.le_trans hL (by decide), h64, ⟨rfl, by decide⟩, ?_⟩
  conv => whnf
  refine ⟨L, t, .inl (.inr (.inl (.inl ⟨_, 0, 0, _, _, ⟨rfl, by decide⟩, .inr ⟨_, rfl⟩, dw L, ba L⟩))), rfl, Nat.le_trans hL (by decide), ?_⟩
  conv => whnf
  refine ak.nsb (fun hh => ?_) (fun hh => ?_)
  · have ha := lk L t
    have hLn := hF.2.2
    have hpe : cR size L t v p = lj size L (fV L t v) := by unfold cR; rw [if_neg hrange, if_neg (uo hh)]
    have hx : IntKind.i64.wrap ((L.length : Int) + 1) = ((L.length + 1 : Nat) : Int) := b5 ⟨by omega, by omega⟩
    have hx2 : IntKind.i64.wrap ((plc L t : Int) + 1) = ((plc L t + 1 : Nat) : Int) := b5 ⟨by omega, by omega⟩
    have htl : (L.take (plc L t)).length = plc L t := by rw [List.length_take]; omega
    have hdl : (L.drop (plc L t)).length = L.length - plc L t := by rw [List.length_drop]
    have hsub1 : bj (smp L) 0 (plc L t * 2) = some (smp (L.take (plc L t))) := by have := Ad (L := L) ha; rw [htl] at this; exact this
    have hsub2 : bj (smp L) (0 + plc L t * 2) ((L.length - plc L t) * 2) = some (smp (L.drop (plc L t))) := by
      unfold bj
      rw [Nat.ble_eq_true_of_le (by rw [aT]; omega), Nat.zero_add, lV, List.take_of_length_le (by rw [aT, hdl]; omega)]
    have hone : ∀ (M : Smp) (k : Nat), ((smp M).take k).all lJ = true := fun M k => by
      rw [List.all_eq_true]
      intro y hy
      have := List.all_eq_true.1 (bO M) y (List.mem_of_mem_take hy)
      cases y <;> first | rfl | cases this
    have hr0 : eG z2 (L.length + 1) = eG z2 (plc L t) ++ (eG z2 1 ++ eG z2 (L.length - plc L t)) := by rw [← um, ← um]; congr 1; omega
    have hset1 : dC (eG z2 (L.length + 1)) 0 ((smp (L.take (plc L t))).take (min (plc L t) (L.length + 1) * 2)) = some (smp (L.take (plc L t)) ++ (eG z2 1 ++ eG z2 (L.length - plc L t))) := by
      rw [hr0, Nat.min_eq_left (by omega), List.take_of_length_le (by rw [aT, htl]; omega)]
      exact gN [] _ _ _ (by rw [aT, htl, oY]; rfl)
    have hset2 : dC (smp (L.take (plc L t)) ++ (eG z2 1 ++ eG z2 (L.length - plc L t))) (0 + plc L t * 2) [.si .i64 t, .si .i64 v] = some (smp (L.take (plc L t)) ++ ([.si .i64 t, .si .i64 v] ++ eG z2 (L.length - plc L t))) := by
      have := gN (smp (L.take (plc L t))) (eG z2 1) (eG z2 (L.length - plc L t)) [.si .i64 t, .si .i64 v] rfl
      rw [aT, htl] at this
      rw [Nat.zero_add]; exact this
    have hset3 : dC (smp (L.take (plc L t)) ++ ([.si .i64 t, .si .i64 v] ++ eG z2 (L.length - plc L t))) (if L.length + 1 = plc L t + 1 then 0 else 0 + (plc L t + 1) * 2) ((smp (L.drop (plc L t))).take (min (L.length - plc L t) (L.length + 1 - (plc L t + 1)) * 2)) = some (smp (fV L t v)) := by
      have ei : smp (fV L t v) = smp (L.take (plc L t)) ++ ([.si .i64 t, .si .i64 v] ++ smp (L.drop (plc L t))) := by unfold fV; rw [mg]; rfl
      have htk : (smp (L.drop (plc L t))).take ((L.length - plc L t) * 2) = smp (L.drop (plc L t)) := List.take_of_length_le (by rw [aT, hdl]; omega)
      rw [show min (L.length - plc L t) (L.length + 1 - (plc L t + 1)) = L.length - plc L t from by omega, htk, ei]
      by_cases q : L.length = plc L t
      · have hd0 : L.drop (plc L t) = [] := List.eq_nil_of_length_eq_zero (by omega)
        rw [if_pos (by omega), hd0, show L.length - plc L t = 0 from by omega]
        exact gN [] [] _ [] rfl
      · rw [if_neg (by omega)]
        have := gN (smp (L.take (plc L t)) ++ [.si .i64 t, .si .i64 v]) (eG z2 (L.length - plc L t)) [] (smp (L.drop (plc L t))) (by rw [aT, hdl, oY]; rfl)
        rw [List.length_append, aT, htl] at this
        rw [show 0 + (plc L t + 1) * 2 = plc L t * 2 + [AV.si .i64 t, .si .i64 v].length from by simp; omega]
        simpa using this
    have hhd : hd (AV.sy 3 0 (L.length + 1) (L.length + 1) 0) = .sl 3 0 (fV L t v).length (L.length + 1) 0 := by rw [gM]; rfl
    have hins : ∀ x ∈ fV L t v, aY x.1 ∧ aY x.2 := fun x hx => by
      rcases tZ.1 hx with rfl | hx
      · exact ⟨⟨by omega, by omega⟩, hv⟩
      · exact h64 x hx
    have hw8 : IntKind.i64.wrap (8 * (size : Int)) = ((8 * size : Nat) : Int) := b5 ⟨by omega, by omega⟩
    have hlq : [AV.si .i64 (size : Int), .ss (pack (aK (fV L t v))), .si .i64 ((aK (fV L t v)).length : Int), .si .i64 ((L.length + 1 : Nat) : Int)].map mk = chk size (fV L t v) := by unfold chk; rw [gM]; rfl
    have hil : (fV L t v).length ≤ 100000 := by rw [gM]; omega
    have hil2 : (fV L t v).length ≤ L.length + 1 := by rw [gM]; exact Nat.le_refl _
    have ha1 : plc L t < L.length + 1 := by omega
    have ha2 : plc L t + 1 ≤ L.length + 1 := by omega
    have hmax : L.length + 1 ≤ 1000000 := by omega
    conv => whnf
    refine Ask.mk _ (yJ hx hmax) ?_
    conv => whnf
    refine RSl.mk 0 (plc L t) rfl rfl (.inl rfl) (Nat.zero_le _) ha ?_
    conv => whnf
    refine wz.mk 2 (plc L t) (L.length + 1) 3 0 (L.length + 1) 0 2 0 2 0 _ (smp L) (smp (L.take (plc L t))) _ true rfl rfl (by decide) ⟨_, rfl, rfl⟩ (.inr ⟨_, rfl⟩) hsub1 rfl (hone _ _) hset1 ?_
    conv => whnf
    refine Idx.mk (plc L t) rfl ha1 ?_
    conv => whnf
    refine aD hset2 ?_
    conv => whnf
    refine Ask.mk _ (yK hx2 ha2 (Nat.le_refl _)) ?_
    conv => whnf
    refine RSl.mk (plc L t) L.length rfl rfl (.inl rfl) ha (Nat.le_refl _) ?_
    conv => whnf
    refine wz.mk 2 (L.length - plc L t) (L.length + 1 - (plc L t + 1)) 3 (if L.length + 1 = plc L t + 1 then 0 else 0 + (plc L t + 1) * 2) (L.length + 1 - (plc L t + 1)) 0 2 (0 + plc L t * 2) 2 0 _ (smp L) (smp (L.drop (plc L t))) _ true rfl rfl (by decide) ⟨_, rfl, rfl⟩ (.inr ⟨_, rfl⟩) hsub2 rfl (hone _ _) hset3 ?_
    conv => whnf
    refine ⟨fV L t v, .inr (.inr ⟨3, 0, L.length + 1, 0, _, _, hhd, .inr ⟨_, rfl⟩, dw _, ba _, hil2⟩), hil, hins, ?_⟩
    conv => whnf
    refine ak.dec (fun h3 => ?_) (fun h3 => ?_)
    · have e : cR size L t v p = (L, 2) := by rw [hpe]; unfold lj; rw [if_neg (by rw [hw8] at h3; omega)]
      conv => whnf
      exact leaf e rfl rfl rfl
    · have e : cR size L t v p = (fV L t v, 0) := by rw [hpe]; unfold lj; rw [if_pos (by rw [hw8] at h3; omega)]
      conv => whnf
      exact leaf e rfl rfl hlq
  · have hpl : plc L t < L.length ∧ tAt L (plc L t) = t := by unfold has at hh; exact of_decide_eq_true hh
    have hvp : L[plc L t].2 = vAt L (plc L t) := (jV hpl.1).symm
    have hpe : cR size L t v p = if (aV p (vAt L (plc L t)) v).2 ≠ 0 then (L, (aV p (vAt L (plc L t)) v).2) else lj size L (gR L t (aV p (vAt L (plc L t)) v).1) := by unfold cR; rw [if_neg hrange, if_pos hh]
    have ho1 : 0 + plc L t * 2 + 1 = plc L t * 2 + 1 := by omega
    have hm0 : aY (aV p L[plc L t].2 v).1 := qo (h64 _ (List.getElem_mem hpl.1)).2 hv
    have hset := AX hpl.1 (m := (aV p L[plc L t].2 v).1) hpl.2
    have hins : ∀ x ∈ gR L t (aV p L[plc L t].2 v).1, aY x.1 ∧ aY x.2 := fun x hx => by
      rcases (ua hF.1 hh).1 hx with rfl | ⟨hx, _⟩
      · exact ⟨⟨by omega, by omega⟩, hm0⟩
      · exact h64 x hx
    have hsl := ma L t (aV p L[plc L t].2 v).1
    have hil : (gR L t (aV p L[plc L t].2 v).1).length ≤ 100000 := by omega
    have hw8 : IntKind.i64.wrap (8 * (size : Int)) = ((8 * size : Nat) : Int) := b5 ⟨by omega, by omega⟩
    have hrw : AV.rw 2 0 L.length 2 0 = .rw 2 0 (gR L t (aV p L[plc L t].2 v).1).length 2 0 := by rw [hsl]
    have hlq : [AV.si .i64 (size : Int), .ss (pack (aK (gR L t (aV p L[plc L t].2 v).1))), .si .i64 ((aK (gR L t (aV p L[plc L t].2 v).1)).length : Int), .si .i64 ((L.length : Nat) : Int)].map mk = chk size (gR L t (aV p L[plc L t].2 v).1) := by unfold chk; rw [hsl]; rfl
    conv => whnf
    refine Idx.mk (plc L t) rfl hpl.1 ?_
    conv => whnf
    refine aD (oJ hpl.1 ho1) ?_
    conv => whnf
    refine ⟨p, L[plc L t].2, v, rfl, rfl, rfl, ?_⟩
    conv => whnf
    refine ak.dF (fun h3 => ?_) (fun h3 => ?_)
    · have e : cR size L t v p = (L, (aV p L[plc L t].2 v).2) := by rw [hpe, ← hvp, if_pos h3]
      conv => whnf
      exact leaf e rfl rfl rfl
    · have hpe2 : cR size L t v p = lj size L (gR L t (aV p L[plc L t].2 v).1) := by rw [hpe, ← hvp, if_neg (fun q => q h3)]
      conv => whnf
      refine Idx.mk (plc L t) rfl hpl.1 ?_
      conv => whnf
      refine aD hset ?_
      conv => whnf
      refine ⟨gR L t (aV p L[plc L t].2 v).1, .inr (.inl (.inl ⟨_, 0, 0, _, _, ⟨hrw, by decide⟩, .inr ⟨_, rfl⟩, dw _, ba _⟩)), hil, hins, ?_⟩
      conv => whnf
      refine ak.dec (fun h4 => ?_) (fun h4 => ?_)
      · have e : cR size L t v p = (L, 2) := by rw [hpe2]; unfold lj; rw [if_neg (by rw [hw8] at h4; omega)]
        conv => whnf
        exact leaf e rfl rfl rfl
      · have e : cR size L t v p = (gR L t (aV p L[plc L t].2 v).1, 0) := by rw [hpe2]; unfold lj; rw [if_pos (by rw [hw8] at h4; omega)]
        conv => whnf
        exact leaf e rfl rfl hlq
def AY (args : List AV) (H : AH) (n : Nat) (κ : PK) : Prop := match args with
  | [x, y, z] => ∃ (b size : Nat) (L : Smp) (t v p : Int), x = .ptr b 0 ∧ jR y t v ∧ mk z = .si .i64 p ∧ b < n ∧ H.get b = some (.cells (chk size L) true) ∧ 0 < size ∧ size ≤ 4096 ∧ bK L ∧ aY v ∧
      κ (.si .i64 (cR size L t v p).2) (H.set (some (.cells (chk size (cR size L t v p).1) true)) aa b) n
  | _ => False
theorem Ga : aM 41 AY := fun args H n κ hs φ h0' hp vs K hr hargs hk => by
  unfold AY at hs
  split at hs
  · obtain ⟨x, y, z, rfl, e1, e2, e3⟩ := vs3 hargs
    obtain ⟨b, size, L, t, v, p, rfl, hy, hz, hbn, hb, hsz, hs2, hF, hv, hs⟩ := hs
    refine cG (S := [b]) (O := [.cells (chk size L) true]) (args0 := [.ptr 0 0, .agg [.si .i64 t, .si .i64 v], .si .i64 p]) (aM.post (aG F9 5 _)) (by kernel_rfl) hr
      (jj hbn hb (.inr rfl)) (.cons e1 (.cons (hy.open e2 _) (.cons (aC rfl (hz ▸ e3.mk)) .nil))) hk (CE size L t v p hsz hs2 hF hv) fun u H' n' ⟨h1, h2⟩ => ?_
    subst h1
    refine ⟨1, gQ [b] n H [(0, some (.cells (chk size (cR size L t v p).1) true))], Nat.le_refl _, cU.put (Nat.le_refl _) rfl (fun x hx o ho => ?_), rfl, hs⟩
    simp only [List.mem_cons, List.not_mem_nil, or_false] at hx
    subst hx
    injection ho with ho; subst ho; exact ⟨h2, rfl, rfl⟩
  · exact hs.elim
end Go.Proofs.Ytapjijhjnloimaa
namespace Go.Proofs.Ytapjijhjnloimaa
open Go Go.RowKit
theorem vL (L : Smp) (a b : Int) {i : Nat} (h : i < L.length) : aN (L.take (i + 1)) a b = aN (L.take i) a b ++ (if (decide (L[i].1 < a) || decide (b < L[i].1)) = true then [L[i]] else []) := by
  unfold aN
  rw [List.take_succ_eq_append_getElem h, List.filter_append]
  congr 1
  simp only [List.filter_cons, List.filter_nil]
theorem yL (L : Smp) (a b : Int) : (aN L a b).length ≤ L.length := List.length_filter_le _ _
noncomputable def dr (size : Nat) (L : Smp) (a : Int) (b : Int) (i : Nat) : AE × AH := (mkE [(0, .ptr 0 (0)), (1, .si .i64 (a)), (2, .si .i64 (b)), (7, .rw 1 0 (aN (L.take i) a b).length 2 0), (15, .fr L.length 2 (smp L)), (16, .si .i64 (((L.length : Nat) : Int))), (17, .si .i64 (((i : Nat) : Int)))], mkH [(0, .cells (chk size L) true), (1, .cells (smp ((aN (L.take i) a b))) true)])
theorem rJ {size : Nat} {L : Smp} {a : Int} {b : Int} {i : Nat} {p n : Nat} {σ : AE} {H : AH} (j1 : Nat) (hj : j1 ≠ 0) (hp : p ≤ 1) (e0 : aA (pa 0) σ = .ptr 0 (0)) (e1 : mk (aA (pa 1) σ) = .si .i64 (a)) (e2 : mk (aA (pa 2) σ) = .si .i64 (b)) (e7 : ai H 2 (fun b => if b = 1 then j1 else b) (aA (pa 7) σ) (.rw 1 0 (aN (L.take i) a b).length 2 0)) (e15 : aA (pa 15) σ = .fr L.length 2 (smp L)) (e16 : mk (aA (pa 16) σ) = .si .i64 (((L.length : Nat) : Int))) (e17 : mk (aA (pa 17) σ) = .si .i64 (((i : Nat) : Int))) (h0 : ∃ l, H.get 0 = some (.cells l true) ∧ jU H 2 (fun b => if b = 1 then j1 else b) l (chk size L)) (h1 : (∃ l, H.get j1 = some (.cells l true) ∧ l.map mk = smp ((aN (L.take i) a b))) ∨ (((aN (L.take i) a b)) = [] ∧ n ≤ j1)) : Cov p σ H n ((dr size L a b i).1, (dr size L a b i).2, 2) := by
  refine Cov.ofR (fun b => if b = 1 then j1 else b) (by omega) (fun b hb => by repeat' rw [if_neg (by omega)]) ?_ ?_ ?_
  · intro x hx
    simp only [List.mem_cons, List.not_mem_nil, or_false] at hx
    rcases hx with rfl | rfl | rfl | rfl | rfl | rfl | rfl
    · exact .ptr (by decide) e0
    · exact .int e1
    · exact .int e2
    · exact e7
    · exact ai.frE e15
    · exact .int e16
    · exact .int e17
  · intro x hx
    simp only [List.mem_cons, List.not_mem_nil, or_false] at hx
    rcases hx with rfl | rfl
    · exact ⟨by simp, .inl (h0.elim fun l h => ⟨_, h.1, aQ.st h.2⟩)⟩
    · exact ⟨by simp, h1.elim (fun ⟨l, h, g⟩ => .inl ⟨_, h, aQ.bA (bO _) (by rw [g, ba]) (fun q => q)⟩) (fun h => .inr ⟨by rw [h.1]; rfl, h.2⟩)⟩
  · intro x hx y hy
    simp only [List.mem_cons, List.not_mem_nil, or_false] at hx hy
    rcases hx with rfl | rfl <;> rcases hy with rfl | rfl <;> simp <;> omega
noncomputable def KDr : FuncId → EP := a9 43 lp (a9 87 ln evP)
theorem EL : bI KDr := au (au a8 uh) uk
theorem AZ (size : Nat) (L : Smp) (a b : Int) (hs : 0 < size) (hF : bK L) : post (az KDr 5 42) [.ptr 0 0, .si .i64 a, .si .i64 b] (mkH [(0, .cells (chk size L) true)]) 1 (ChQ ((L.length : Int) - ((aN L a b).length : Int)) size (aN L a b)) := by
  have hL := hF.2.2
  have h64 := hF.fJ
  have hL1 : L.length ≤ 100000 := by omega
  have hsz : (0 : Int) < (size : Int) := by omega
  have hst : ∀ {H : AH} {m : Nat} {r : Nat → Nat}, jU H m r (chk size L) (chk size L) := .cons (.int rfl) (.cons (.str rfl) (.cons (.int rfl) (.cons (.int rfl) .nil)))
  show az KDr 5 42 _ _ _ _
  conv => whnf
  refine ak.dF (fun h => absurd hsz h) (fun _ => ?_)
  conv => whnf
  refine ⟨0, size, _, L, rfl, rfl, rfl, hs, hL1, h64, ?_⟩
  conv => whnf
  refine bz.mk { i : Nat // i ≤ L.length } 2 (fun i => dr size L a b i.val) (fun i => L.length - i.val) ⟨0, Nat.zero_le _⟩ ?_ ?_
  · exact rJ (j1 := 1) (by decide) (Nat.le_refl 1) rfl rfl rfl (.qh rfl) rfl rfl rfl ⟨_, rfl, hst⟩ (.inr ⟨rfl, Nat.le_refl _⟩)
  · intro ⟨i, hi⟩
    have hml : (aN (L.take i) a b).length ≤ 20000 := Nat.le_trans (yL _ _ _) (by rw [List.length_take]; omega)
    have hrow : bj (smp (aN (L.take i) a b)) 0 ((aN (L.take i) a b).length * 2) = some (smp (aN (L.take i) a b)) := dw _
    conv => whnf
    refine ak.dec (fun h => ?_) (fun h => ?_)
    · have hi2 : i < L.length := by exact Int.ofNat_lt.1 h
      have hi1 : IntKind.i64.wrap ((i : Int) + 1) = (((i + 1 : Nat)) : Int) := b5 ⟨by omega, by omega⟩
      have hbig : ((aN (L.take i) a b).length + 1) * 16 ≤ 140737488355328 := by omega
      have hlt : L.length - (i + 1) < L.length - i := by omega
      have hsn := vL L a b hi2
      have hy : (decide (L[i].1 < a) || decide (b < L[i].1)) = true → aN (L.take (i + 1)) a b = aN (L.take i) a b ++ [L[i]] := fun q => by rw [hsn, if_pos q]
      have hn : ¬ (decide (L[i].1 < a) || decide (b < L[i].1)) = true → aN (L.take (i + 1)) a b = aN (L.take i) a b := fun q => by rw [hsn, if_neg q, List.append_nil]
      have hyl : (decide (L[i].1 < a) || decide (b < L[i].1)) = true → (aN (L.take i) a b).length + 1 = (aN (L.take (i + 1)) a b).length := fun q => by rw [hy q]; simp
      have hys : (decide (L[i].1 < a) || decide (b < L[i].1)) = true → (smp (aN (L.take i) a b) ++ [AV.si .i64 L[i].1, AV.si .i64 L[i].2]).map mk = smp (aN (L.take (i + 1)) a b) := fun q => by rw [hy q, ← uj, ba]
      have hns : ¬ (decide (L[i].1 < a) || decide (b < L[i].1)) = true → (smp (aN (L.take i) a b)).map mk = smp (aN (L.take (i + 1)) a b) := fun q => by rw [hn q, ba]
      have hnl : ¬ (decide (L[i].1 < a) || decide (b < L[i].1)) = true → (aN (L.take i) a b).length = (aN (L.take (i + 1)) a b).length := fun q => by rw [hn q]
      conv => whnf
      refine Idx.mk i rfl hi2 ?_
      conv => whnf
      refine aD (du hi2 rfl) ?_
      conv => whnf
      refine ak.dec (fun h1 => ?_) (fun h1 => ?_)
      · have q : (decide (L[i].1 < a) || decide (b < L[i].1)) = true := by simp [h1]
        conv => whnf
        refine jf.grow 2 16 _ _ _ _ _ _ tyS (.old rfl) rfl rfl (.rw rfl hrow) hbig ?_
        conv => whnf
        exact ⟨⟨i + 1, hi2⟩, hlt, rJ (j1 := 4) (by decide) (Nat.le_refl 1) rfl rfl rfl (ai.rw (by decide) rfl (hn := hyl q)) rfl rfl (congrArg (AV.si .i64) hi1) ⟨_, rfl, hst⟩ (.inl ⟨_, rfl, hys q⟩)⟩
      · conv => whnf
        refine ak.dec (fun h2 => ?_) (fun h2 => ?_)
        · have q : (decide (L[i].1 < a) || decide (b < L[i].1)) = true := by simp [h2]
          conv => whnf
          refine jf.grow 2 16 _ _ _ _ _ _ tyS (.old rfl) rfl rfl (.rw rfl hrow) hbig ?_
          conv => whnf
          exact ⟨⟨i + 1, hi2⟩, hlt, rJ (j1 := 4) (by decide) (Nat.le_refl 1) rfl rfl rfl (ai.rw (by decide) rfl (hn := hyl q)) rfl rfl (congrArg (AV.si .i64) hi1) ⟨_, rfl, hst⟩ (.inl ⟨_, rfl, hys q⟩)⟩
        · have q : ¬ (decide (L[i].1 < a) || decide (b < L[i].1)) = true := by simp [h1, h2]
          conv => whnf
          exact ⟨⟨i + 1, hi2⟩, hlt, rJ (j1 := 1) (by decide) (Nat.le_refl 1) rfl rfl rfl (ai.rw (by decide) rfl (hn := hnl q)) rfl rfl (congrArg (AV.si .i64) hi1) ⟨_, rfl, hst⟩ (.inl ⟨_, rfl, hns q⟩)⟩
    · have hi3 : i = L.length := by have : ¬ i < L.length := fun q => h (Int.ofNat_lt.2 q); omega
      have htk : L.take i = L := by rw [hi3, List.take_length]
      have hFd := oS (hF.sub (List.take_sublist i L)) a b
      have hil : (aN (L.take i) a b).length ≤ 100000 := by omega
      have hw : IntKind.i64.wrap ((L.length : Int) - ((aN (L.take i) a b).length : Int)) = (L.length : Int) - ((aN L a b).length : Int) := by
        rw [htk] at hml ⊢
        exact b5 ⟨by omega, by omega⟩
      have hq : (chk size (aN (L.take i) a b)).map mk = chk size (aN L a b) := by rw [htk]; rfl
      conv => whnf
      refine ⟨aN (L.take i) a b, .inr (.inl (.inl ⟨_, 0, 0, _, _, ⟨rfl, by decide⟩, .inr ⟨_, rfl⟩, hrow, ba _⟩)), hil, hFd.fJ, ?_⟩
      conv => whnf
      exact AW (congrArg (AV.si .i64) hw) rfl hq
def xe (args : List AV) (H : AH) (n : Nat) (κ : PK) : Prop := match args with
  | [x, y, z] => ∃ (c size : Nat) (L : Smp) (a b : Int), x = .ptr c 0 ∧ mk y = .si .i64 a ∧ mk z = .si .i64 b ∧ c < n ∧ H.get c = some (.cells (chk size L) true) ∧ 0 < size ∧ bK L ∧
      κ (.si .i64 ((L.length : Int) - ((aN L a b).length : Int))) (H.set (some (.cells (chk size (aN L a b)) true)) aa c) n
  | _ => False
theorem EM : aM 42 xe := fun args H n κ hs φ h0' hp vs K hr hargs hk => by
  unfold xe at hs
  split at hs
  · obtain ⟨x, y, z, rfl, e1, e2, e3⟩ := vs3 hargs
    obtain ⟨c, size, L, a, b, rfl, hy, hz, hbn, hb, hsz, hF, hs⟩ := hs
    refine cG (S := [c]) (O := [.cells (chk size L) true]) (args0 := [.ptr 0 0, .si .i64 a, .si .i64 b]) (aM.post (aG EL 5 _)) (by kernel_rfl) hr
      (jj hbn hb (.inr rfl)) (.cons e1 (.cons (aC rfl (hy ▸ e2.mk)) (.cons (aC rfl (hz ▸ e3.mk)) .nil))) hk (AZ size L a b hsz hF) fun u H' n' ⟨h1, h2⟩ => ?_
    subst h1
    refine ⟨1, gQ [c] n H [(0, some (.cells (chk size (aN L a b)) true))], Nat.le_refl _, cU.put (Nat.le_refl _) rfl (fun x hx o ho => ?_), rfl, hs⟩
    simp only [List.mem_cons, List.not_mem_nil, or_false] at hx
    subst hx
    injection ho with ho; subst ho; exact ⟨h2, rfl, rfl⟩
  · exact hs.elim
noncomputable def KGt : FuncId → EP := a9 43 lp (a9 73 xb evP)
theorem EN : bI KGt := au (au a8 xc) uk
theorem A0 {u v : AV} {H' : AH} {n' size : Nat} {L : Smp} (hu : mkT u = v) (hb : PM.get H' 0 = some (.cells (chk size L) true)) : ∃ v2 H2 n2, VTo u v2 ∧ cI H' n' H2 n2 ∧ (v2 = v ∧ PM.get H2 0 = some (.cells (chk size L) true)) := ⟨v, H', n', fun φ w h => hu ▸ h.mkT, .refl _ _, rfl, hb⟩
def GtQ (size : Nat) (L : Smp) (t : Int) : PK := fun u H' _ => u = .tup [.si .i64 (gS L t).1, .si .i64 (gS L t).2] ∧ PM.get H' 0 = some (.cells (chk size L) true)
theorem CF (size : Nat) (L : Smp) (t : Int) (hs : 0 < size) (hF : bK L) : post (az KGt 5 44) [.ptr 0 0, .si .i64 t] (mkH [(0, .cells (chk size L) true)]) 1 (GtQ size L t) := by
  have hL := hF.2.2
  have h64 := hF.fJ
  have hL1 : L.length ≤ 100000 := by omega
  have hL2 : L.length ≤ 100000000 := by omega
  have hsz : (0 : Int) < (size : Int) := by omega
  show az KGt 5 44 _ _ _ _
  conv => whnf
  refine ak.dF (fun h => absurd hsz h) (fun _ => ?_)
  conv => whnf
  refine ⟨0, size, _, L, rfl, rfl, rfl, hs, hL1, h64, ?_⟩
  conv => whnf
  refine ⟨L, t, .inr rfl, rfl, hL2, ?_⟩
  conv => whnf
  refine ak.nsb (fun hh => ?_) (fun hh => ?_)
  · have e : AV.tup [.si .i64 0, .si .i64 5] = .tup [.si .i64 (gS L t).1, .si .i64 (gS L t).2] := by unfold gS; rw [if_neg (by simp [hh])]
    conv => whnf
    exact A0 e rfl
  · have hpl : plc L t < L.length ∧ tAt L (plc L t) = t := by unfold has at hh; exact of_decide_eq_true hh
    have e : AV.tup [.si .i64 L[plc L t].2, .si .i64 0] = .tup [.si .i64 (gS L t).1, .si .i64 (gS L t).2] := by unfold gS; rw [if_pos hh, jV hpl.1]
    conv => whnf
    refine Idx.mk (plc L t) rfl hpl.1 ?_
    conv => whnf
    refine aD (oJ hpl.1 rfl) ?_
    conv => whnf
    exact A0 e rfl
def A1 (args : List AV) (H : AH) (n : Nat) (κ : PK) : Prop := match args with
  | [x, y] => ∃ (c size : Nat) (L : Smp) (t : Int), x = .ptr c 0 ∧ mk y = .si .i64 t ∧ c < n ∧ H.get c = some (.cells (chk size L) true) ∧ 0 < size ∧ bK L ∧ κ (.tup [.si .i64 (gS L t).1, .si .i64 (gS L t).2]) H n
  | _ => False
theorem Gb : aM 44 A1 := fun args H n κ hs φ h0' hp vs K hr hargs hk => by
  unfold A1 at hs
  split at hs
  · obtain ⟨x, y, rfl, e1, e2⟩ := vs2 hargs
    obtain ⟨c, size, L, t, rfl, hy, hbn, hb, hsz, hF, hs⟩ := hs
    refine cG (S := [c]) (O := [.cells (chk size L) true]) (args0 := [.ptr 0 0, .si .i64 t]) (aM.post (aG EN 5 _)) (by kernel_rfl) hr
      (jj hbn hb (.inr rfl)) (.cons e1 (.cons (aC rfl (hy ▸ e2.mk)) .nil)) hk (CF size L t hsz hF) fun u H' n' ⟨h1, h2⟩ => ?_
    subst h1
    refine ⟨1, H, Nat.le_refl _, cU.same fun i s o h3 h4 _ => ?_, rfl, hs⟩
    cases i with
    | zero =>
      injection h3 with h3; subst h3
      rw [hb] at h4; injection h4 with h4; subst h4
      exact ⟨_, h2, rfl, rfl, rfl⟩
    | succ i => simp at h3
  · exact hs.elim
end Go.Proofs.Ytapjijhjnloimaa
namespace Go.Proofs.Ytapjijhjnloimaa
open Go Go.RowKit
abbrev Op4 := Int × Int × Int × Int
def IY (S : List Op4) : List AV := S.flatMap fun o => [.si .i64 o.1, .si .i64 o.2.1, .si .i64 o.2.2.1, .si .i64 o.2.2.2]
noncomputable def rs (S : List Op4) (t : Int) (L : Smp) (v : Int) (is : Bool) (i : Nat) : AE × AH := (mkE [(0, .fr S.length 4 (IY S)), (1, .si .i64 (t)), (5, .ptr 0 (0)), (7, .si .i64 (v)), (8, .sb (is)), (9, .si .i64 (((i : Nat) : Int)))], mkH [(0, .cells (chk 4096 L) true)])
end Go.Proofs.Ytapjijhjnloimaa
namespace Go.Proofs.Ytapjijhjnloimaa
open Go Go.RowKit
theorem yM {P : Program} {t : TypeId} {H : AH} {a b c d : Int} (hp : dM P t = some [(0, 0), (0, 1)]) : od P .neq t (.agg [.int .i64 a, .int .i64 b]) (.agg [.int .i64 c, .int .i64 d]) H = some (.bool (!(decide (a = c) && (decide (b = d) && true)))) := by
  simp [od, hp, m4, nth, lK]
noncomputable def ho (M : Smp) (sz : Nat) (L : Smp) (i : Nat) : AE × AH := (mkE [(1, .fr M.length 2 (smp M)), (5, .ptr 0 (0)), (7, .si .i64 (((i : Nat) : Int)))], mkH [(0, .cells (chk sz L) true)])
end Go.Proofs.Ytapjijhjnloimaa
namespace Go.Proofs.Ytapjijhjnloimaa
open Go Go.RowKit
def rch (sz : Nat) (L : Smp) : List AV := [.si .i64 (sz : Int), .fr L.length 2 (smp L)]
end Go.Proofs.Ytapjijhjnloimaa
namespace Go.Proofs.Ytapjijhjnloimaa
open Go Go.RowKit
theorem A2 (size : Nat) (L : Smp) (hs : 0 < size) (hL : L.length ≤ 100000) (h64 : ∀ x ∈ L, aY x.1 ∧ aY x.2) : az KAl 3 43 [.ptr 0 0] (mkH [(0, .ro (chk size L))]) 1 fun u H' _ => g8 L u H' := by
  conv => whnf
  refine ak.dF (fun h => absurd (show (0 : Int) < (size : Int) by omega) h) (fun _ => ?_)
  conv => whnf
  refine ⟨L, rfl, rfl, rfl, hL, h64, ⟨rfl, by decide⟩, ?_⟩
  conv => whnf
  exact g8.rw rfl rfl (dw L) (ba L)
def rK (args : List AV) (H : AH) (n : Nat) (κ : PK) : Prop := match args with
  | [x] => ∃ (b size : Nat) (l : List AV) (L : Smp), x = .ptr b 0 ∧ H.get b = some (.cells l true) ∧ l.map mk = chk size L ∧ 0 < size ∧ L.length ≤ 100000 ∧ (∀ x ∈ L, aY x.1 ∧ aY x.2) ∧ wI (fun r => r) L H n κ
  | _ => False
theorem EO : aM 43 rK := fun args H n κ hs φ h0' hp vs K hr hargs hk => by
  unfold rK at hs
  split at hs
  · obtain ⟨x, rfl, e1⟩ := vs1 hargs
    obtain ⟨b, size, l, L, rfl, hb, hl, hsz, hL, h64, hs⟩ := hs
    obtain ⟨p, hpb, rfl⟩ := e1.ct
    have hl4 : l.length = 4 := by have := congrArg List.length hl; simpa [chk] using this
    have hro := kC.of (s := chk size L) hr (.inr ⟨_, hb⟩) hpb (cz (n := 4) hl4) (by rw [hl, rI]) (cO size L)
    exact yu vK (fun _ _ h => h) (A2 size L hsz hL h64) hs hr hk (by kernel_rfl) (φ0 := ph1 ⟨p.B, p.s + 0, 4⟩) (fun hw => HR.ro1 hw hro) (.cons (.ptr (p := ⟨p.B, p.s + 0, 4⟩) (o := 0) rfl) .nil)
  · exact hs.elim
def xf (args : List AV) (H : AH) (n : Nat) (κ : PK) : Prop := lp args H n κ ∨ rK args H n κ
theorem ER : aM 43 xf := fun args H n κ hs => hs.elim (uk args H n κ) (EO args H n κ)
theorem oZ {α : Type} {v : Option α} {t : PM α} : (PM.set v aa t 1).get 0 = t.get 0 := by cases t <;> rfl
theorem o0 {α : Type} {v : Option α} {t : PM α} : (PM.set v aa t 0).get 1 = t.get 1 := by cases t <;> rfl
theorem o8 {α : Type} {v : α} {t : PM α} : (PM.set (some v) aa t 1).get 1 = some v := by
  cases t with
  | nil => rfl
  | node l u r => cases l <;> rfl
def ES (e : Int) (s1 s2 : Nat) (L M : Smp) : PK := fun u H' _ => u = .si .i64 e ∧ PM.get H' 0 = some (.cells (chk s1 L) true) ∧ PM.get H' 1 = some (.cells (chk s2 M) true)
theorem CG {u : AV} {H' : AH} {n' s1 s2 : Nat} {e : Int} {L M : Smp} {l m : List AV} (hu : mk u = .si .i64 e) (hb : PM.get H' 0 = some (.cells l true)) (hl : l.map mk = chk s1 L) (hc : PM.get H' 1 = some (.cells m true)) (hm : m.map mk = chk s2 M) :
    ∃ v H2 n2, VTo u v ∧ cI H' n' H2 n2 ∧ ES e s1 s2 L M v H2 n2 :=
  ⟨.si .i64 e, (H'.set (some (.cells (chk s2 M) true)) aa 1).set (some (.cells (chk s1 L) true)) aa 0, n', fun φ w h => by rw [← hu]; exact h.mk, (cI.vG (l' := chk s2 M) hc rfl hm).trans (cI.vG (l' := chk s1 L) (oZ.trans hb) rfl hl), rfl, PM.oX, o0.trans o8⟩
noncomputable def KJo : FuncId → EP := a9 43 xf (a9 87 ln evP)
theorem ET : bI KJo := au (au a8 uh) ER
theorem A3 (s1 s2 : Nat) (L M : Smp) (h1 : 0 < s1) (h1' : s1 ≤ 4096) (h2 : 0 < s2) (hF : bK L) (hG : bK M) : post (az KJo 5 50) [.ptr 0 0, .ptr 1 0] (mkH [(0, .cells (chk s1 L) true), (1, .cells (chk s2 M) true)]) 2 (ES (bh s1 L M).2 s1 s2 (bh s1 L M).1.1 (bh s1 L M).1.2) := by
  have leaf : ∀ {u : AV} {H' : AH} {n' : Nat} {e : Int} {A B : Smp} {l m : List AV}, bh s1 L M = ((A, B), e) → mk u = .si .i64 e → PM.get H' 0 = some (.cells l true) → l.map mk = chk s1 A → PM.get H' 1 = some (.cells m true) → m.map mk = chk s2 B → ∃ v2 H2 n2, VTo u v2 ∧ cI H' n' H2 n2 ∧ ES (bh s1 L M).2 s1 s2 (bh s1 L M).1.1 (bh s1 L M).1.2 v2 H2 n2 := fun hj hu hb hl hc hm => by
    rw [hj]; exact CG hu hb hl hc hm
  have hz1 : (0 : Int) < (s1 : Int) := by omega
  have hz2 : (0 : Int) < (s2 : Int) := by omega
  have hLl := hF.2.2
  have hMl := hG.2.2
  have hL1 : L.length ≤ 100000 := by omega
  have hM1 : M.length ≤ 100000 := by omega
  have hw8 : IntKind.i64.wrap (8 * (s1 : Int)) = ((8 * s1 : Nat) : Int) := b5 ⟨by omega, by omega⟩
  have hrowL : bj (smp L) 0 (L.length * 2) = some (smp L) := dw L
  have hone : (smp M).all lJ = true := by
    rw [List.all_eq_true]
    intro y hy
    have := List.all_eq_true.1 (bO M) y hy
    cases y <;> first | rfl | cases this
  have hbig : (L.length + M.length) * 16 ≤ 140737488355328 := by omega
  have hLM : (L ++ M).length = L.length + M.length := List.length_append
  have hsubLM : bj (smp L ++ smp M) 0 ((L ++ M).length * 2) = some (smp (L ++ M)) := by rw [← mg]; exact dw _
  have hLM1 : (L ++ M).length ≤ 100000 := by omega
  have h64 : ∀ x ∈ L ++ M, aY x.1 ∧ aY x.2 := fun x hx => (List.mem_append.1 hx).elim (hF.fJ x) (hG.fJ x)
  have hn0 : ∀ x ∈ ([] : Smp), aY x.1 ∧ aY x.2 := fun x hx => by cases hx
  have hlq : [AV.si .i64 (s1 : Int), .ss (pack (aK (L ++ M))), .si .i64 ((aK (L ++ M)).length : Int), .si .i64 ((L.length + M.length : Nat) : Int)].map mk = chk s1 (L ++ M) := by unfold chk; rw [hLM]; rfl
  show az KJo 5 50 _ _ _ _
  conv => whnf
  refine ak.dF (fun h => absurd hz1 h) (fun _ => ?_)
  conv => whnf
  refine ak.dF (fun h => absurd hz2 h) (fun _ => ?_)
  conv => whnf
  refine .inl ⟨0, s1, _, L, rfl, rfl, rfl, h1, hL1, hF.fJ, ?_⟩
  conv => whnf
  refine ak.dec (fun hl0 => ?_) (fun hl0 => ?_)
  · have hLn : L = [] := List.eq_nil_of_length_eq_zero (Int.ofNat_inj.1 hl0)
    conv => whnf
    refine .inl ⟨1, s2, _, M, rfl, rfl, rfl, h2, hM1, hG.fJ, ?_⟩
    conv => whnf
    refine ak.dec (fun hm0 => ?_) (fun hm0 => ?_)
    · have hj0 : bh s1 L M = if (aK (L ++ M)).length ≤ 8 * s1 then ((L ++ M, []), 0) else ((L, M), 2) := by unfold bh; rw [if_neg (by simp [kP, hLn])]
      conv => whnf
      refine .inr ⟨0, s1, _, L, rfl, rfl, rfl, h1, hL1, hF.fJ, ⟨rfl, by decide⟩, ?_⟩
      conv => whnf
      refine .inl ⟨1, s2, _, M, rfl, rfl, rfl, h2, hM1, hG.fJ, ?_⟩
      conv => whnf
      refine jf.grow 2 16 _ _ _ _ _ _ tyS .fr (aT M) hone (.rw rfl hrowL) hbig ?_
      conv => whnf
      refine ⟨L ++ M, .inr (.inl (.inl ⟨_, 0, 0, _, _, ⟨congrArg (fun k => AV.rw _ 0 k 2 0) hLM.symm, by decide⟩, .inr ⟨_, rfl⟩, hsubLM, ba _⟩)), hLM1, h64, ?_⟩
      conv => whnf
      refine ak.dec (fun h3 => ?_) (fun h3 => ?_)
      · have e : bh s1 L M = ((L, M), 2) := by rw [hj0, if_neg (by rw [hw8] at h3; omega)]
        conv => whnf
        exact leaf e rfl rfl rfl rfl rfl
      · have e : bh s1 L M = ((L ++ M, []), 0) := by rw [hj0, if_pos (by rw [hw8] at h3; omega)]
        conv => whnf
        refine ⟨[], .inl ⟨rfl, rfl⟩, by decide, hn0, ?_⟩
        conv => whnf
        exact leaf e rfl rfl hlq rfl rfl
    · have hmp : 0 < M.length := Nat.pos_of_ne_zero fun q => hm0 (by exact Int.ofNat_inj.2 q)
      conv => whnf
      refine Idx.mk 0 rfl hmp ?_
      conv => whnf
      refine aD (du hmp rfl) ?_
      have hj0 : bh s1 L M = if (aK (L ++ M)).length ≤ 8 * s1 then ((L ++ M, []), 0) else ((L, M), 2) := by unfold bh; rw [if_neg (by simp [kP, hLn])]
      conv => whnf
      refine .inr ⟨0, s1, _, L, rfl, rfl, rfl, h1, hL1, hF.fJ, ⟨rfl, by decide⟩, ?_⟩
      conv => whnf
      refine .inl ⟨1, s2, _, M, rfl, rfl, rfl, h2, hM1, hG.fJ, ?_⟩
      conv => whnf
      refine jf.grow 2 16 _ _ _ _ _ _ tyS .fr (aT M) hone (.rw rfl hrowL) hbig ?_
      conv => whnf
      refine ⟨L ++ M, .inr (.inl (.inl ⟨_, 0, 0, _, _, ⟨congrArg (fun k => AV.rw _ 0 k 2 0) hLM.symm, by decide⟩, .inr ⟨_, rfl⟩, hsubLM, ba _⟩)), hLM1, h64, ?_⟩
      conv => whnf
      refine ak.dec (fun h3 => ?_) (fun h3 => ?_)
      · have e : bh s1 L M = ((L, M), 2) := by rw [hj0, if_neg (by rw [hw8] at h3; omega)]
        conv => whnf
        exact leaf e rfl rfl rfl rfl rfl
      · have e : bh s1 L M = ((L ++ M, []), 0) := by rw [hj0, if_pos (by rw [hw8] at h3; omega)]
        conv => whnf
        refine ⟨[], .inl ⟨rfl, rfl⟩, by decide, hn0, ?_⟩
        conv => whnf
        exact leaf e rfl rfl hlq rfl rfl
  · have hl1 : 0 < L.length := Nat.pos_of_ne_zero fun q => hl0 (by exact Int.ofNat_inj.2 q)
    have hlp : L.length - 1 < L.length := by omega
    have hlw : IntKind.i64.wrap ((L.length : Int) - 1) = ((L.length - 1 : Nat) : Int) := (b5 ⟨by omega, by omega⟩).trans (by omega)
    conv => whnf
    refine Idx.mk (L.length - 1) hlw hlp ?_
    conv => whnf
    refine aD (du hlp rfl) ?_
    conv => whnf
    refine .inl ⟨1, s2, _, M, rfl, rfl, rfl, h2, hM1, hG.fJ, ?_⟩
    conv => whnf
    refine ak.dec (fun hm0 => ?_) (fun hm0 => ?_)
    · have hMn : M = [] := List.eq_nil_of_length_eq_zero (Int.ofNat_inj.1 hm0)
      have hj0 : bh s1 L M = if (aK (L ++ M)).length ≤ 8 * s1 then ((L ++ M, []), 0) else ((L, M), 2) := by unfold bh; rw [if_neg (by simp [kP, hMn])]
      conv => whnf
      refine .inr ⟨0, s1, _, L, rfl, rfl, rfl, h1, hL1, hF.fJ, ⟨rfl, by decide⟩, ?_⟩
      conv => whnf
      refine .inl ⟨1, s2, _, M, rfl, rfl, rfl, h2, hM1, hG.fJ, ?_⟩
      conv => whnf
      refine jf.grow 2 16 _ _ _ _ _ _ tyS .fr (aT M) hone (.rw rfl hrowL) hbig ?_
      conv => whnf
      refine ⟨L ++ M, .inr (.inl (.inl ⟨_, 0, 0, _, _, ⟨congrArg (fun k => AV.rw _ 0 k 2 0) hLM.symm, by decide⟩, .inr ⟨_, rfl⟩, hsubLM, ba _⟩)), hLM1, h64, ?_⟩
      conv => whnf
      refine ak.dec (fun h3 => ?_) (fun h3 => ?_)
      · have e : bh s1 L M = ((L, M), 2) := by rw [hj0, if_neg (by rw [hw8] at h3; omega)]
        conv => whnf
        exact leaf e rfl rfl rfl rfl rfl
      · have e : bh s1 L M = ((L ++ M, []), 0) := by rw [hj0, if_pos (by rw [hw8] at h3; omega)]
        conv => whnf
        refine ⟨[], .inl ⟨rfl, rfl⟩, by decide, hn0, ?_⟩
        conv => whnf
        exact leaf e rfl rfl hlq rfl rfl
    · have hmp : 0 < M.length := Nat.pos_of_ne_zero fun q => hm0 (by exact Int.ofNat_inj.2 q)
      conv => whnf
      refine Idx.mk 0 rfl hmp ?_
      conv => whnf
      refine aD (du hmp rfl) ?_
      have hd : decide (M[0].1 ≤ L[L.length - 1].1) = kP L M := by
        unfold kP mb
        have a1 : decide (L ≠ []) = true := by rw [decide_eq_true_eq]; intro q; rw [q] at hl1; cases hl1
        have a2 : decide (M ≠ []) = true := by rw [decide_eq_true_eq]; intro q; rw [q] at hmp; cases hmp
        rw [c6 hmp, c6 hlp, a1, a2]; rfl
      conv => whnf
      refine ak.dec (fun hmt => ?_) (fun hmt => ?_)
      · have e : bh s1 L M = ((L, M), 1) := by unfold bh; rw [if_pos (hd ▸ decide_eq_true hmt)]
        conv => whnf
        exact leaf e rfl rfl rfl rfl rfl
      · have hnm : ¬ kP L M = true := by rw [← hd, decide_eq_true_eq]; exact hmt
        have hj0 : bh s1 L M = if (aK (L ++ M)).length ≤ 8 * s1 then ((L ++ M, []), 0) else ((L, M), 2) := by unfold bh; rw [if_neg hnm]
        conv => whnf
        refine .inr ⟨0, s1, _, L, rfl, rfl, rfl, h1, hL1, hF.fJ, ⟨rfl, by decide⟩, ?_⟩
        conv => whnf
        refine .inl ⟨1, s2, _, M, rfl, rfl, rfl, h2, hM1, hG.fJ, ?_⟩
        conv => whnf
        refine jf.grow 2 16 _ _ _ _ _ _ tyS .fr (aT M) hone (.rw rfl hrowL) hbig ?_
        conv => whnf
        refine ⟨L ++ M, .inr (.inl (.inl ⟨_, 0, 0, _, _, ⟨congrArg (fun k => AV.rw _ 0 k 2 0) hLM.symm, by decide⟩, .inr ⟨_, rfl⟩, hsubLM, ba _⟩)), hLM1, h64, ?_⟩
        conv => whnf
        refine ak.dec (fun h3 => ?_) (fun h3 => ?_)
        · have e : bh s1 L M = ((L, M), 2) := by rw [hj0, if_neg (by rw [hw8] at h3; omega)]
          conv => whnf
          exact leaf e rfl rfl rfl rfl rfl
        · have e : bh s1 L M = ((L ++ M, []), 0) := by rw [hj0, if_pos (by rw [hw8] at h3; omega)]
          conv => whnf
          refine ⟨[], .inl ⟨rfl, rfl⟩, by decide, hn0, ?_⟩
          conv => whnf
          exact leaf e rfl rfl hlq rfl rfl
def xg (args : List AV) (H : AH) (n : Nat) (κ : PK) : Prop := match args with
  | [x, y] => ∃ (b c s1 s2 : Nat) (L M : Smp), x = .ptr b 0 ∧ y = .ptr c 0 ∧ b ≠ c ∧ b < n ∧ c < n ∧ H.get b = some (.cells (chk s1 L) true) ∧ H.get c = some (.cells (chk s2 M) true) ∧ 0 < s1 ∧ s1 ≤ 4096 ∧ 0 < s2 ∧ bK L ∧ bK M ∧
      κ (.si .i64 (bh s1 L M).2) ((H.set (some (.cells (chk s2 (bh s1 L M).1.2) true)) aa c).set (some (.cells (chk s1 (bh s1 L M).1.1) true)) aa b) n
  | _ => False
theorem EU : aM 50 xg := fun args H n κ hs φ h0' hp vs K hr hargs hk => by
  unfold xg at hs
  split at hs
  · obtain ⟨x, y, rfl, e1, e2⟩ := vs2 hargs
    obtain ⟨b, c, s1, s2, L, M, rfl, rfl, hbc, hbn, hcn, hb, hc, h1, h1', h2, hF, hG, hs⟩ := hs
    refine cG (S := [b, c]) (O := [.cells (chk s1 L) true, .cells (chk s2 M) true]) (args0 := [.ptr 0 0, .ptr 1 0]) (aM.post (aG ET 5 _)) (by kernel_rfl) hr
      (rD hbc hbn hcn hb hc (.inr rfl) (.inr rfl)) (.cons e1 (.cons e2 .nil)) hk (A3 s1 s2 L M h1 h1' h2 hF hG) fun u H' n' ⟨g1, g2, g3⟩ => ?_
    subst g1
    refine ⟨2, gQ [b, c] n H [(0, some (.cells (chk s1 (bh s1 L M).1.1) true)), (1, some (.cells (chk s2 (bh s1 L M).1.2) true))], Nat.le_refl _, cU.put (Nat.le_refl _) rfl (fun x hx o ho => ?_), rfl, hs⟩
    simp only [List.mem_cons, List.not_mem_nil, or_false] at hx
    rcases hx with rfl | rfl
    · injection ho with ho; subst ho; exact ⟨g2, rfl, rfl⟩
    · injection ho with ho; subst ho; exact ⟨g3, rfl, rfl⟩
  · exact hs.elim
end Go.Proofs.Ytapjijhjnloimaa
namespace Go.Proofs.Ytapjijhjnloimaa
open Go Go.RowKit
def lq (L : Smp) (k : Nat) : Bool := decide (k < L.length - 1) && decide (2 * (aK (L.take k)).length < (aK L).length)
def nq (L : Smp) : Nat → Nat → Nat
  | 0, k => k
  | f + 1, k => if lq L k then nq L f (k + 1) else k
def bt (L : Smp) : Nat := nq L (L.length - 1) 1
theorem CH {L : Smp} {k : Nat} (h : lq L k = true) : nq L (L.length - k) k = nq L (L.length - (k + 1)) (k + 1) := by
  have h1 : k < L.length - 1 := by unfold lq at h; simp at h; exact h.1
  rw [show L.length - k = (L.length - (k + 1)) + 1 by omega]
  show (if lq L k = true then _ else _) = _
  rw [if_pos h]
theorem qq {L : Smp} {f k : Nat} (h : lq L k = false) : nq L f k = k := by cases f <;> simp [nq, h]
theorem rL (L : Smp) {k : Nat} (h : k ≤ L.length) : AV.fr k 2 ((smp L).take (k * 2)) = .fr (L.take k).length 2 (smp (L.take k)) := by rw [oK, List.length_take, Nat.min_eq_left h]
theorem xh (L : Smp) (k : Nat) : AV.fr (L.length - k) 2 ((smp L).drop (k * 2)) = .fr (L.drop k).length 2 (smp (L.drop k)) := by rw [lV, List.length_drop]
end Go.Proofs.Ytapjijhjnloimaa
namespace Go.Proofs.Ytapjijhjnloimaa
open Go Go.RowKit
def Gc (args : List AV) (H : AH) (n : Nat) (κ : PK) : Prop := match args with
  | [x, y] => ∃ (b c s1 s2 : Nat) (L M : Smp), x = .ptr b 0 ∧ y = .ptr c 0 ∧ b ≠ c ∧ b < n ∧ c < n ∧ H.get b = some (.cells (rch s1 L) true) ∧ H.get c = some (.cells (rch s2 M) true) ∧ 0 < s1 ∧ s1 ≤ 4096 ∧ bK L ∧ bK M ∧
      κ (.si .i64 (bh s1 L M).2) ((H.set (some (.cells (rch s2 (bh s1 L M).1.2) true)) aa c).set (some (.cells (rch s1 (bh s1 L M).1.1) true)) aa b) n
  | _ => False
def xi (f : Nat → Smp → AV) (args : List AV) (H : AH) (n : Nat) (κ : PK) : Prop := match args with
  | [x] => ∃ (b size : Nat) (l : List AV) (L : Smp), x = .ptr b 0 ∧ H.get b = some (.cells l true) ∧ l.map mk = chk size L ∧ κ (f size L) H n
  | _ => False
theorem A4 {f : FuncId} {g : Nat → Smp → AV} (hic : ah Try.prog f = true) (hg : ∀ size L, flat.flat1 (g size L) = true) (hrun : ∀ size L, az evP 3 f [.ptr 0 0] (mkH [(0, .ro (chk size L))]) 1 fun u _ _ => mkT u = mkT (g size L)) (hm : ∀ size L, mkT (g size L) = g size L) : aM f (xi g) := fun args H n κ hs φ h0' hp vs K hr hargs hk => by
  unfold xi at hs
  split at hs
  · obtain ⟨x, rfl, e1⟩ := vs1 hargs
    obtain ⟨b, size, l, L, rfl, hb, hl, hs⟩ := hs
    obtain ⟨p, hpb, rfl⟩ := e1.ct
    have hl4 : l.length = 4 := by have := congrArg List.length hl; simpa [chk] using this
    have hro := kC.of (s := chk size L) hr (.inr ⟨_, hb⟩) hpb (cz (n := 4) hl4) (by rw [hl, rI]) (cO size L)
    exact gJ a8 (v := g size L) (oG (hg size L)) (hrun size L) (by rw [hm]; exact hs) hr hk hic (φ0 := ph1 ⟨p.B, p.s + 0, 4⟩) (fun hw => HR.ro1 hw hro) (.cons (.ptr (p := ⟨p.B, p.s + 0, 4⟩) (o := 0) rfl) .nil)
  · exact hs.elim
def EV (_ : Nat) (L : Smp) : AV := .si .i64 (L.length : Int)
def xj (_ : Nat) (L : Smp) : AV := .si .i64 ((pack (aK L)).length : Int)
theorem Ge : aM 46 (xi EV) := A4 (by kernel_rfl) (fun _ _ => rfl) (fun size L => by
  conv => whnf
  rfl) fun _ _ => rfl
end Go.Proofs.Ytapjijhjnloimaa
namespace Go.Proofs.Ytapjijhjnloimaa
open Go Go.RowKit
noncomputable def KDb : FuncId → EP := a9 87 ln evP
theorem EW : bI KDb := au a8 uh
theorem yN (L : Smp) (hL : L.length ≤ 100000) (h64 : ∀ x ∈ L, aY x.1 ∧ aY x.2) (h0 : L.length ≠ 0) : az KDb 3 77 [.fr L.length 2 (smp L)] .nil 0 fun u _ _ => mkT u = mkT (.si .i64 ((aK L).length : Int)) := by
  conv => whnf
  refine ⟨L, .inr (.inl (.inr ⟨_, rfl, ba _, h0⟩)), hL, h64, ?_⟩
  conv => whnf
  rfl
def uq (args : List AV) (H : AH) (n : Nat) (κ : PK) : Prop := match args with
  | [x] => ∃ L : Smp, x = .fr L.length 2 (smp L) ∧ L.length ≤ 100000 ∧ (∀ x ∈ L, aY x.1 ∧ aY x.2) ∧ L.length ≠ 0 ∧ κ (.si .i64 ((aK L).length : Int)) H n
  | _ => False
theorem CI : aM 77 uq := fun args H n κ hs φ h0' hp vs K hr hargs hk => by
  unfold uq at hs
  split at hs
  · obtain ⟨x, rfl, e1⟩ := vs1 hargs
    obtain ⟨L, rfl, hL, h64, h0, hs⟩ := hs
    exact gJ EW (v := .si .i64 ((aK L).length : Int)) rfl (yN L hL h64 h0) hs hr hk (by kernel_rfl) (φ0 := ⟨fun _ => none, φ.z, φ.z, fun _ _ => False⟩) (fun hw => hr.wJ (eW hw) (fun _ _ h => by cases h) (fun _ h => h)) (.cons (ny (ψ := ⟨fun _ => none, φ.z, φ.z, fun _ _ => False⟩) (fun _ h => h) rfl e1) .nil)
  · exact hs.elim
theorem EX : kN uq := .pure fun args H n κ hs => by
  unfold uq at *
  split at hs
  · obtain ⟨L, h1, h2, h3, h4, h5⟩ := hs
    exact ⟨_, h5, fun κ' h => ⟨L, h1, h2, h3, h4, h⟩⟩
  · exact hs.elim
def SpQ (sz : Nat) (L : Smp) (k : Nat) : PK := fun u H' _ => u = .tup [.ptr 1 0, .int .i64 0] ∧ PM.get H' 0 = some (.cells (chk sz (L.take k)) true) ∧ PM.get H' 1 = some (.cells (chk sz (L.drop k)) true)
noncomputable def spt (sz : Nat) (L : Smp) (k : Nat) : AE × AH := (mkE [(0, .ptr 0 (0)), (4, .fr L.length 2 (smp L)), (5, .si .i64 (((k : Nat) : Int)))], mkH [(0, .cells (chk sz L) true)])
theorem xk {sz : Nat} {L : Smp} {k : Nat} {p n : Nat} {σ : AE} {H : AH} (hp : p ≤ 1) (e0 : aA (pa 0) σ = .ptr 0 (0)) (e4 : aA (pa 4) σ = .fr L.length 2 (smp L)) (e5 : mk (aA (pa 5) σ) = .si .i64 (((k : Nat) : Int))) (h0 : ∃ l, H.get 0 = some (.cells l true) ∧ jU H 1 (fun b => b) l (chk sz L)) : Cov p σ H n ((spt sz L k).1, (spt sz L k).2, 1) := by
  refine Cov.ofR (fun b => b) (by omega) (fun b hb => rfl) ?_ ?_ ?_
  · intro x hx
    simp only [List.mem_cons, List.not_mem_nil, or_false] at hx
    rcases hx with rfl | rfl | rfl
    · exact .ptr (by decide) e0
    · exact ai.frE e4
    · exact .int e5
  · intro x hx
    simp only [List.mem_cons, List.not_mem_nil, or_false] at hx
    subst hx
    exact ⟨by simp, .inl (h0.elim fun l h => ⟨_, h.1, aQ.st h.2⟩)⟩
  · intro x hx y hy
    simp only [List.mem_cons, List.not_mem_nil, or_false] at hx hy
    subst hx hy
    exact fun q => rfl
def CJ : DT := [(7, [(some 0, [5]), (some 0, [4]), (some 0, [20]), (some 0, [21]), (some 0, [19, 22]), (some 0, [23]), (some 0, [4, 24]), (some 0, [5, 24]), (some 0, [25, 26, 24]), (none, [27, 24]), (some 0, [28, 24]), (some 2, [0, 24]), (some 3, [30, 24]), (some 4, [31, 24]), (some 5, [32, 24]), (some 0, [29, 33, 24]), (some 0, [24, 34])])]
noncomputable def KSp : FuncId → EP := bB 52 CJ (dG 77 uq (a9 43 lp (a9 87 ln evP)))
theorem A5 : bI KSp := aE (bN (au (au a8 uh) uk) CI EX) (by kernel_rfl) (by kernel_rfl)
theorem A6 {sz : Nat} {L : Smp} : ∀ {H : AH} {m : Nat} {r : Nat → Nat}, jU H m r (chk sz L) (chk sz L) := .cons (.int rfl) (.cons (.str rfl) (.cons (.int rfl) (.cons (.int rfl) .nil)))
theorem vM (sz : Nat) (L : Smp) (hsz : 0 < sz) (h2 : L.length < 2) : post (az KSp 4 52) [.ptr 0 0] (mkH [(0, .cells (chk sz L) true)]) 1 (fun u H' _ => u = .tup [.nil, .int .i64 5] ∧ PM.get H' 0 = some (.cells (chk sz L) true)) := by
  have hz : (0 : Int) < (sz : Int) := by omega
  show az KSp 4 52 _ _ _ _
  conv => whnf
  refine ak.dF (fun h => absurd hz h) (fun _ => ?_)
  conv => whnf
  refine ak.dec (fun _ => ?_) (fun q => absurd (show (L.length : Int) < 2 by omega) q)
  conv => whnf
  exact ⟨_, _, _, .refl _, .refl _ _, rfl, rfl⟩
theorem vN (sz : Nat) (L : Smp) (hsz : 0 < sz) (hF : bK L) (h2 : 2 ≤ L.length) : post (az KSp 4 52) [.ptr 0 0] (mkH [(0, .cells (chk sz L) true)]) 1 (SpQ sz L (bt L)) := by
  have hz : (0 : Int) < (sz : Int) := by omega
  have hL := hF.2.2
  have h64 := hF.fJ
  have hL1 : L.length ≤ 100000 := by omega
  have leaf : ∀ {H' : AH} {n' k : Nat} {l m : List AV}, k = bt L → PM.get H' 0 = some (.cells l true) → l.map mk = chk sz (L.take k) → PM.get H' 1 = some (.cells m true) → m.map mk = chk sz (L.drop k) → ∃ v2 H2 n2, VTo (.tup [.ptr 1 0, .int .i64 0]) v2 ∧ cI H' n' H2 n2 ∧ SpQ sz L (bt L) v2 H2 n2 := fun hk g1 g2 g3 g4 => by
    rw [← hk]
    exact ⟨_, _, _, .refl _, (cI.vG (l' := chk sz (L.drop _)) g3 rfl g4).trans (cI.vG (l' := chk sz (L.take _)) (oZ.trans g1) rfl g2), rfl, PM.oX, o0.trans o8⟩
  have hlw : IntKind.i64.wrap ((L.length : Int) - 1) = ((L.length - 1 : Nat) : Int) := (b5 ⟨by omega, by omega⟩).trans (by omega)
  show az KSp 4 52 _ _ _ _
  conv => whnf
  refine ak.dF (fun h => absurd hz h) (fun _ => ?_)
  conv => whnf
  refine ak.dec (fun q => absurd q (by omega)) (fun _ => ?_)
  conv => whnf
  refine ⟨0, sz, _, L, rfl, rfl, rfl, hsz, hL1, h64, ?_⟩
  conv => whnf
  refine bz.mk { k : Nat // 1 ≤ k ∧ k ≤ L.length - 1 ∧ nq L (L.length - k) k = bt L } 1 (fun k => spt sz L k.val) (fun k => L.length - k.val) ⟨1, Nat.le_refl _, by omega, rfl⟩ ?_ ?_
  · exact xk (Nat.le_refl 1) rfl rfl rfl ⟨_, rfl, A6⟩
  · intro ⟨k, hk1, hk2, hk3⟩
    have hkl : k ≤ L.length := by omega
    have hFt := hF.sub (List.take_sublist k L)
    have hFd := hF.sub (List.drop_sublist k L)
    have hit : (L.take k).length ≤ 100000 := by rw [List.length_take]; omega
    have hid : (L.drop k).length ≤ 100000 := by rw [List.length_drop]; omega
    have hnt : (L.take k).length ≠ 0 := by rw [List.length_take]; omega
    have hnd : (L.drop k).length ≠ 0 := by rw [List.length_drop]; omega
    have hlt := tV (L.take k)
    have hlt2 : (aK (L.take k)).length ≤ 13600000 := by omega
    have hk : IntKind.i64.wrap ((k : Int) + 1) = ((k + 1 : Nat) : Int) := b5 ⟨by omega, by omega⟩
    have h2w : IntKind.i64.wrap (2 * ((aK (L.take k)).length : Int)) = ((2 * (aK (L.take k)).length : Nat) : Int) := (b5 ⟨by omega, by omega⟩).trans (by omega)
    have hqt : [AV.si .i64 (sz : Int), .ss (pack (aK (L.take k))), .si .i64 ((aK (L.take k)).length : Int), .si .i64 (k : Int)].map mk = chk sz (L.take k) := by unfold chk; rw [List.length_take, Nat.min_eq_left hkl]; rfl
    have hqd : [AV.si .i64 (sz : Int), .ss (pack (aK (L.drop k))), .si .i64 ((aK (L.drop k)).length : Int), .si .i64 ((L.length - k : Nat) : Int)].map mk = chk sz (L.drop k) := by unfold chk; rw [List.length_drop]; rfl
    conv => whnf
    refine ak.dec (fun h => ?_) (fun h => ?_)
    · have hc1 : k < L.length - 1 := by rw [hlw] at h; exact Int.ofNat_lt.1 h
      conv => whnf
      refine RSl.mk 0 k rfl rfl (.inl rfl) (Nat.zero_le _) hkl ?_
      conv => whnf
      refine ⟨L.take k, rL L hkl, hit, hFt.fJ, hnt, ?_⟩
      conv => whnf
      refine ak.dec (fun h3 => ?_) (fun h3 => ?_)
      · have hcut : lq L k = true := by rw [h2w] at h3; unfold lq; rw [decide_eq_true hc1, Bool.true_and]; exact decide_eq_true (Int.ofNat_lt.1 h3)
        conv => whnf
        exact ⟨⟨k + 1, by omega, by omega, (CH hcut).symm.trans hk3⟩, (show L.length - (k + 1) < L.length - k by omega), xk (Nat.le_refl 1) rfl rfl (congrArg (AV.si .i64) hk) ⟨_, rfl, A6⟩⟩
      · have hsk : k = bt L := by rw [← hk3, qq (by rw [h2w] at h3; unfold lq; rw [decide_eq_true hc1, Bool.true_and]; exact decide_eq_false (fun q => h3 (Int.ofNat_lt.2 q)))]
        conv => whnf
        refine RSl.mk k _ rfl rfl (.inl rfl) hkl (Nat.le_refl _) ?_
        conv => whnf
        refine ⟨L.drop k, .inr (.inl (.inr ⟨_, xh L k, ba _, hnd⟩)), hid, hFd.fJ, ?_⟩
        conv => whnf
        refine RSl.mk 0 k rfl rfl (.inl rfl) (Nat.zero_le _) hkl ?_
        conv => whnf
        refine ⟨L.take k, .inr (.inl (.inr ⟨_, rL L hkl, ba _, hnt⟩)), hit, hFt.fJ, ?_⟩
        conv => whnf
        exact leaf hsk rfl hqt rfl hqd
    · have hsk : k = bt L := by rw [← hk3, qq (by rw [hlw] at h; unfold lq; rw [decide_eq_false (fun q => h (Int.ofNat_lt.2 q))]; rfl)]
      conv => whnf
      refine RSl.mk k _ rfl rfl (.inl rfl) hkl (Nat.le_refl _) ?_
      conv => whnf
      refine ⟨L.drop k, .inr (.inl (.inr ⟨_, xh L k, ba _, hnd⟩)), hid, hFd.fJ, ?_⟩
      conv => whnf
      refine RSl.mk 0 k rfl rfl (.inl rfl) (Nat.zero_le _) hkl ?_
      conv => whnf
      refine ⟨L.take k, .inr (.inl (.inr ⟨_, rL L hkl, ba _, hnt⟩)), hit, hFt.fJ, ?_⟩
      conv => whnf
      exact leaf hsk rfl hqt rfl hqd
def ur (args : List AV) (H : AH) (n : Nat) (κ : PK) : Prop := match args with
  | [x] => ∃ (c sz : Nat) (L : Smp), x = .ptr c 0 ∧ c < n ∧ H.get c = some (.cells (chk sz L) true) ∧ 0 < sz ∧ bK L ∧ (L.length < 2 → κ (.tup [.nil, .int .i64 5]) H n) ∧
      (2 ≤ L.length → κ (.tup [.ptr n 0, .int .i64 0]) ((H.set (some (.cells (chk sz (L.drop (bt L))) true)) aa n).set (some (.cells (chk sz (L.take (bt L))) true)) aa c) (n + 1))
  | _ => False
theorem D6 {c n : Nat} {H H' : AH} {sz : Nat} {L : Smp} (hc : H.get c = some (.cells (chk sz L) true)) (h2 : PM.get H' 0 = some (.cells (chk sz L) true)) : cU [c] n ([c] : List Nat).length H H' H := cU.same fun i s o h3 h4 _ => by
  cases i with
  | zero =>
    injection h3 with h3; subst h3
    rw [hc] at h4; injection h4 with h4; subst h4
    exact ⟨_, h2, rfl, rfl, rfl⟩
  | succ i => simp at h3
theorem CK : aM 52 ur := fun args H n κ hs φ h0' hp vs K hr hargs hk => by
  unfold ur at hs
  split at hs
  · obtain ⟨x, rfl, e1⟩ := vs1 hargs
    obtain ⟨c, sz, L, rfl, hcn, hc, hsz, hF, ha, hb⟩ := hs
    rcases Nat.lt_or_ge L.length 2 with h2 | h2
    · refine cG (S := [c]) (O := [.cells (chk sz L) true]) (args0 := [.ptr 0 0]) (aM.post (aG A5 4 _)) (by kernel_rfl) hr
        (jj hcn hc (.inr rfl)) (.cons e1 .nil) hk (vM sz L hsz h2) fun u H' n' ⟨g1, g2⟩ => ?_
      subst g1
      exact ⟨1, H, Nat.le_refl _, D6 hc g2, rfl, ha h2⟩
    · refine cG (S := [c]) (O := [.cells (chk sz L) true]) (args0 := [.ptr 0 0]) (aM.post (aG A5 4 _)) (by kernel_rfl) hr
        (jj hcn hc (.inr rfl)) (.cons e1 .nil) hk (vN sz L hsz hF h2) fun u H' n' ⟨g1, g2, g3⟩ => ?_
      subst g1
      refine ⟨2, gQ [c] n H [(0, some (.cells (chk sz (L.take (bt L))) true)), (1, some (.cells (chk sz (L.drop (bt L))) true))], Nat.le_succ 1, cU.put (Nat.le_succ 1) rfl (fun x hx o ho => ?_), rfl, hb h2⟩
      simp only [List.mem_cons, List.not_mem_nil, or_false] at hx
      rcases hx with rfl | rfl
      · injection ho with ho; subst ho; exact ⟨g2, rfl, rfl⟩
      · injection ho with ho; subst ho; exact ⟨g3, rfl, rfl⟩
  · exact hs.elim
end Go.Proofs.Ytapjijhjnloimaa
namespace Go.Proofs.Ytapjijhjnloimaa
open Go Go.RowKit
theorem VTo.A7 {a b c : AV} {x y : Int} {q : Bool} (h1 : mk a = .si .i64 x) (h2 : mk b = .si .i64 y) (h3 : mk c = .sb q) : VTo (.tup [.agg [a, b], c]) (.tup [.agg [.si .i64 x, .si .i64 y], .sb q]) := fun φ w h => by
  obtain ⟨cs, rfl, hv⟩ := h.dL
  obtain ⟨v1, v2, rfl, e1, e2⟩ := vs2 hv
  obtain ⟨ds, rfl, hw⟩ := e1.eH
  obtain ⟨w1, w2, rfl, f1, f2⟩ := vs2 hw
  have k1 := f1.mk; have k2 := f2.mk; have k3 := e2.mk
  rw [h1] at k1; rw [h2] at k2; rw [h3] at k3
  exact .tup (.cons (.agg (.cons k1 (.cons k2 .nil))) (.cons k3 .nil))
def FLv (i : Nat) (L : Smp) : AV := .tup [.agg [.si .i64 (tAt L i), .si .i64 (vAt L i)], .sb (decide ((0 : Int) < (L.length : Int)))]
def FLQ (i sz : Nat) (L : Smp) : PK := fun u H' _ => u = FLv i L ∧ PM.get H' 0 = some (.cells (chk sz L) true)
theorem nH {i sz n' : Nat} {L : Smp} {a b c : AV} {H' : AH} (h1 : mk a = .si .i64 (tAt L i)) (h2 : mk b = .si .i64 (vAt L i)) (h3 : mk c = .sb (decide ((0 : Int) < (L.length : Int)))) (hc : PM.get H' 0 = some (.cells (chk sz L) true)) : ∃ v H2 n2, VTo (.tup [.agg [a, b], c]) v ∧ cI H' n' H2 n2 ∧ FLQ i sz L v H2 n2 := ⟨_, H', n', VTo.A7 h1 h2 h3, .refl _ _, rfl, hc⟩
noncomputable def KFL : FuncId → EP := a9 43 lp evP
theorem EY : bI KFL := au a8 uk
theorem yO (sz : Nat) (L : Smp) (hs : 0 < sz) (hF : bK L) : post (az KFL 4 57) [.ptr 0 0] (mkH [(0, .cells (chk sz L) true)]) 1 (FLQ (0) sz L) := by
  have hL := hF.2.2
  have h64 := hF.fJ
  have hL1 : L.length ≤ 100000 := by omega
  have hnt : ∀ i, ¬ (0 : Int) < (L.length : Int) → AV.si .i64 0 = .si .i64 (tAt L i) := fun i h => by rw [List.eq_nil_of_length_eq_zero (show L.length = 0 by omega)]; rfl
  have hnv : ∀ i, ¬ (0 : Int) < (L.length : Int) → AV.si .i64 0 = .si .i64 (vAt L i) := fun i h => by rw [List.eq_nil_of_length_eq_zero (show L.length = 0 by omega)]; rfl
  show az KFL 4 57 _ _ _ _
  conv => whnf
  refine ⟨0, sz, _, L, rfl, rfl, rfl, hs, hL1, h64, ?_⟩
  conv => whnf
  refine ak.dec (fun h => ?_) (fun h => ?_)
  · have hz : ¬ (0 : Int) < (L.length : Int) := by omega
    have hq : AV.sb false = .sb (decide ((0 : Int) < (L.length : Int))) := by rw [decide_eq_false hz]
    conv => whnf
    exact nH (hnt _ hz) (hnv _ hz) hq rfl
  · have hz : (0 : Int) < (L.length : Int) := by omega
    have hp : 0 < L.length := by omega
    have hq : AV.sb true = .sb (decide ((0 : Int) < (L.length : Int))) := by rw [decide_eq_true hz]
    have hw : (0 : Int) = ((0 : Nat) : Int) := rfl
    have ht : AV.si .i64 L[0].1 = .si .i64 (tAt L (0)) := by rw [c6 hp]
    have hv : AV.si .i64 L[0].2 = .si .i64 (vAt L (0)) := by rw [jV hp]
    conv => whnf
    refine Idx.mk (0) hw hp ?_
    conv => whnf
    refine aD (du hp rfl) ?_
    conv => whnf
    exact nH ht hv hq rfl
theorem A8 (sz : Nat) (L : Smp) (hs : 0 < sz) (hF : bK L) : post (az KFL 4 58) [.ptr 0 0] (mkH [(0, .cells (chk sz L) true)]) 1 (FLQ (L.length - 1) sz L) := by
  have hL := hF.2.2
  have h64 := hF.fJ
  have hL1 : L.length ≤ 100000 := by omega
  have hnt : ∀ i, ¬ (0 : Int) < (L.length : Int) → AV.si .i64 0 = .si .i64 (tAt L i) := fun i h => by rw [List.eq_nil_of_length_eq_zero (show L.length = 0 by omega)]; rfl
  have hnv : ∀ i, ¬ (0 : Int) < (L.length : Int) → AV.si .i64 0 = .si .i64 (vAt L i) := fun i h => by rw [List.eq_nil_of_length_eq_zero (show L.length = 0 by omega)]; rfl
  show az KFL 4 58 _ _ _ _
  conv => whnf
  refine ⟨0, sz, _, L, rfl, rfl, rfl, hs, hL1, h64, ?_⟩
  conv => whnf
  refine ak.dec (fun h => ?_) (fun h => ?_)
  · have hz : ¬ (0 : Int) < (L.length : Int) := by omega
    have hq : AV.sb false = .sb (decide ((0 : Int) < (L.length : Int))) := by rw [decide_eq_false hz]
    conv => whnf
    exact nH (hnt _ hz) (hnv _ hz) hq rfl
  · have hz : (0 : Int) < (L.length : Int) := by omega
    have hp : L.length - 1 < L.length := by omega
    have hq : AV.sb true = .sb (decide ((0 : Int) < (L.length : Int))) := by rw [decide_eq_true hz]
    have hw : IntKind.i64.wrap ((L.length : Int) - 1) = ((L.length - 1 : Nat) : Int) := (b5 ⟨by omega, by omega⟩).trans (by omega)
    have ht : AV.si .i64 L[L.length - 1].1 = .si .i64 (tAt L (L.length - 1)) := by rw [c6 hp]
    have hv : AV.si .i64 L[L.length - 1].2 = .si .i64 (vAt L (L.length - 1)) := by rw [jV hp]
    conv => whnf
    refine Idx.mk (L.length - 1) hw hp ?_
    conv => whnf
    refine aD (du hp rfl) ?_
    conv => whnf
    exact nH ht hv hq rfl
def uu (i : Smp → Nat) (args : List AV) (H : AH) (n : Nat) (κ : PK) : Prop := match args with
  | [x] => ∃ (c sz : Nat) (L : Smp), x = .ptr c 0 ∧ c < n ∧ H.get c = some (.cells (chk sz L) true) ∧ 0 < sz ∧ bK L ∧ κ (FLv (i L) L) H n
  | _ => False
theorem uv {f : FuncId} {i : Smp → Nat} (hic : ah Try.prog f = true) (hrun : ∀ (sz : Nat) (L : Smp), 0 < sz → bK L → post (az KFL 4 f) [.ptr 0 0] (mkH [(0, .cells (chk sz L) true)]) 1 (FLQ (i L) sz L)) : aM f (uu i) := fun args H n κ hs φ h0' hp vs K hr hargs hk => by
  unfold uu at hs
  split at hs
  · obtain ⟨x, rfl, e1⟩ := vs1 hargs
    obtain ⟨c, sz, L, rfl, hcn, hc, hsz, hF, hs⟩ := hs
    refine cG (S := [c]) (O := [.cells (chk sz L) true]) (args0 := [.ptr 0 0]) (aM.post (aG EY 4 _)) hic hr
      (jj hcn hc (.inr rfl)) (.cons e1 .nil) hk (hrun sz L hsz hF) fun u H' n' ⟨h1, h2⟩ => ?_
    subst h1
    exact ⟨1, H, Nat.le_refl _, D6 hc h2, rfl, hs⟩
  · exact hs.elim
theorem CL : aM 57 (uu fun _ => 0) := uv (by kernel_rfl) yO
theorem EZ : aM 58 (uu fun L => L.length - 1) := uv (by kernel_rfl) A8
end Go.Proofs.Ytapjijhjnloimaa
