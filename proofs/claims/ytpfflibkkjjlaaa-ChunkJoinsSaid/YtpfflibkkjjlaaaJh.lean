/- Texts of our own, joined: the engine, the machine that runs code, and what is known of the functions. -/
import Derived.Test.YtpfflibkkjjlaaaJg
import Derived.Laws.BitsAllLaws
set_option linter.unusedSimpArgs false
set_option linter.unusedVariables false
namespace Go.Proofs.Ytpfflibkkjjlaaa
open Go Go.RowKit
set_option maxRecDepth 20000
/-! ### names changed -/
mutual
def ren (r : Nat → Nat) : AV → AV
  | .int k n => .int k n
  | .str s => .str s
  | .bool b => .bool b
  | .nil => .nil
  | .ptr b o => .ptr (r b) o
  | .nsl => .nsl
  | .sl b o n c k => .sl (r b) o n c k
  | .esl b => .esl (r b)
  | .agg l => .agg (renL r l)
  | .tup l => .tup (renL r l)
  | .fn f a c => .fn f (renL r a) (renL r c)
  | .map b => .map (r b)
  | .any v => .any v
  | .bad => .bad
  | .si k n => .si k n
  | .sb b => .sb b
  | .ss s => .ss s
  | .sy b o n c k => .sy (r b) o n c k
  | .rw b o n k x => .rw (r b) o n k x
  | .fr n k l => .fr n k l
  | .fa l o => .fa l o
def renL (r : Nat → Nat) : List AV → List AV
  | [] => []
  | a :: l => ren r a :: renL r l
end
mutual
def ltV (m : Nat) : AV → Bool
  | .int _ _ => true
  | .str _ => true
  | .bool _ => true
  | .nil => true
  | .ptr b _ => Nat.blt b m
  | .nsl => true
  | .sl b _ _ _ _ => Nat.blt b m
  | .esl b => Nat.blt b m
  | .agg l => ltL_ m l
  | .tup l => ltL_ m l
  | .fn _ a c => ltL_ m a && ltL_ m c
  | .map b => Nat.blt b m
  | .any _ => true
  | .bad => true
  | .si _ _ => true
  | .sb _ => true
  | .ss _ => true
  | .sy b _ _ _ _ => Nat.blt b m
  | .rw b _ _ _ _ => Nat.blt b m
  | .fr _ _ _ => true
  | .fa _ _ => true
def ltL_ (m : Nat) : List AV → Bool
  | [] => true
  | a :: l => ltV m a && ltL_ m l
end
def Ph.pull (χ : Ph) (r : Nat → Nat) : Ph := ⟨fun b => χ (r b), χ.z, χ.y⟩
section
variable {χ ψ : Ph} {r : Nat → Nat} {m : Nat}
mutual
theorem VR.pull : ∀ (a : AV) (v : Value), VR χ (ren r a) v ↔ VR (χ.pull r) a v
  | .int k n, v => by simp only [ren, VR]
  | .str s, v => by simp only [ren, VR]
  | .bool b, v => by simp only [ren, VR]
  | .nil, v => by simp only [ren, VR]
  | .ptr b o, v => by simp only [ren, VR, Ph.pull]
  | .nsl, v => by simp only [ren, VR]
  | .sl b o n c k, v => by simp only [ren, VR, Ph.pull]
  | .esl b, v => by simp only [ren, VR, Ph.pull]
  | .agg l, v => by simp only [ren, VR, VRs.pull l]
  | .tup l, v => by simp only [ren, VR, VRs.pull l]
  | .fn f a c, v => by simp only [ren, VR, VRs.pull a, VRs.pull c]
  | .map b, v => by simp only [ren, VR, Ph.pull]
  | .any u, v => by simp only [ren, VR]
  | .bad, v => by simp only [ren, VR]
  | .si k n, v => by simp only [ren, VR]
  | .sb b, v => by simp only [ren, VR]
  | .ss s, v => by simp only [ren, VR]
  | .sy b o n c k, v => by simp only [ren, VR, Ph.pull]
  | .rw b o n k x, v => by simp only [ren, VR, Ph.pull]
  | .fr n k l, v => by simp only [ren, VR, Ph.pull]
  | .fa l o, v => by simp only [ren, VR, Ph.pull]
theorem VRs.pull : ∀ (l : List AV) (vs : List Value), VRs χ (renL r l) vs ↔ VRs (χ.pull r) l vs
  | [], vs => by simp only [renL, VRs]
  | a :: l, vs => by simp only [renL, VRs, VR.pull a, VRs.pull l]
end
mutual
theorem VR.below (he : ∀ b p, b < m → ψ b = some p → χ b = some p) (hz : ∀ q, ψ.z q → χ.z q) : ∀ (a : AV) (v : Value), ltV m a = true → VR ψ a v → VR χ a v
  | .int k n, v, _, h => by simp only [VR] at h ⊢; exact h
  | .str s, v, _, h => by simp only [VR] at h ⊢; exact h
  | .bool b, v, _, h => by simp only [VR] at h ⊢; exact h
  | .nil, v, _, h => by simp only [VR] at h ⊢; exact h
  | .ptr b o, v, hl, h => by
    simp only [ltV, Nat.blt_eq] at hl
    simp only [VR] at h ⊢
    obtain ⟨p, h1, h2⟩ := h
    exact ⟨p, he _ _ hl h1, h2⟩
  | .nsl, v, _, h => by simp only [VR] at h ⊢; exact h
  | .sl b o n c k, v, hl, h => by
    simp only [ltV, Nat.blt_eq] at hl
    simp only [VR] at h ⊢
    obtain ⟨p, C, h1, h2⟩ := h
    exact ⟨p, C, he _ _ hl h1, h2⟩
  | .esl b, v, hl, h => by
    simp only [ltV, Nat.blt_eq] at hl
    simp only [VR] at h ⊢
    obtain ⟨p, x, C, h1, h2⟩ := h
    exact ⟨p, x, C, he _ _ hl h1, h2⟩
  | .agg l, v, hl, h => by
    simp only [ltV] at hl
    simp only [VR] at h ⊢
    obtain ⟨cs, h1, h2⟩ := h
    exact ⟨cs, h1, VRs.below he hz l _ hl h2⟩
  | .tup l, v, hl, h => by
    simp only [ltV] at hl
    simp only [VR] at h ⊢
    obtain ⟨cs, h1, h2⟩ := h
    exact ⟨cs, h1, VRs.below he hz l _ hl h2⟩
  | .fn f a c, v, hl, h => by
    simp only [ltV, Bool.and_eq_true] at hl
    simp only [VR] at h ⊢
    obtain ⟨xs, cs, h1, h2, h3⟩ := h
    exact ⟨xs, cs, h1, VRs.below he hz a _ hl.1 h2, VRs.below he hz c _ hl.2 h3⟩
  | .map b, v, hl, h => by
    simp only [ltV, Nat.blt_eq] at hl
    simp only [VR] at h ⊢
    obtain ⟨p, h1, h2⟩ := h
    exact ⟨p, he _ _ hl h1, h2⟩
  | .any u, v, _, h => by simp only [VR] at h ⊢; exact h
  | .bad, v, _, h => by simp only [VR]
  | .si k n, v, _, h => by simp only [VR] at h ⊢; exact h
  | .sb b, v, _, h => by simp only [VR] at h ⊢; exact h
  | .ss s, v, _, h => by simp only [VR] at h ⊢; exact h
  | .sy b o n c k, v, hl, h => by
    simp only [ltV, Nat.blt_eq] at hl
    simp only [VR] at h ⊢
    obtain ⟨p, C, h1, h2⟩ := h
    exact ⟨p, C, he _ _ hl h1, h2⟩
  | .rw b o n k x, v, hl, h => by
    simp only [ltV, Nat.blt_eq] at hl
    simp only [VR] at h ⊢
    rcases h with h | ⟨p, a, C, h1, h2⟩
    · exact .inl h
    · exact .inr ⟨p, a, C, he _ _ hl h1, h2⟩
  | .fr n k l, v, _, h => by
    simp only [VR] at h ⊢
    rcases h with h | ⟨q, o, C, h1, h2⟩
    · exact .inl h
    · exact .inr ⟨q, o, C, hz _ h1, h2⟩
  | .fa l o, v, _, h => by
    simp only [VR] at h ⊢
    obtain ⟨q, x, h1, h2⟩ := h
    exact ⟨q, x, hz _ h1, h2⟩
theorem VRs.below (he : ∀ b p, b < m → ψ b = some p → χ b = some p) (hz : ∀ q, ψ.z q → χ.z q) : ∀ (l : List AV) (vs : List Value), ltL_ m l = true → VRs ψ l vs → VRs χ l vs
  | [], vs, _, h => by simp only [VRs] at h ⊢; exact h
  | a :: l, vs, hl, h => by
    simp only [ltL_, Bool.and_eq_true] at hl
    simp only [VRs] at h ⊢
    obtain ⟨v, us, h1, h2, h3⟩ := h
    exact ⟨v, us, h1, VR.below he hz a v hl.1 h2, VRs.below he hz l us hl.2 h3⟩
end
end
def renE (r : Nat → Nat) : List (AV × AV) → List (AV × AV)
  | [] => []
  | e :: es => (ren r e.1, ren r e.2) :: renE r es
def renO (r : Nat → Nat) : AO → AO
  | .cells l z => .cells (renL r l) z
  | .map es => .map (renE r es)
  | .ro l => .ro (renL r l)
  | .iter b m seen => .iter (r b) m seen
def ltE (m : Nat) : List (AV × AV) → Bool
  | [] => true
  | e :: es => ltV m e.1 && (ltV m e.2 && ltE m es)
def ltO (m : Nat) : AO → Bool
  | .cells l _ => ltL_ m l
  | .map es => ltE m es
  | .ro l => ltL_ m l
  | .iter b _ _ => Nat.blt b m
section
variable {χ ψ : Ph} {r : Nat → Nat} {m : Nat}
theorem renL_length : ∀ l : List AV, (renL r l).length = l.length
  | [] => rfl
  | a :: l => by simp [renL, renL_length l]
theorem renL_at : ∀ (l : List AV) (i : Nat), (renL r l)[i]? = (l[i]?).map (ren r)
  | [], i => by simp [renL]
  | a :: l, 0 => by simp [renL]
  | a :: l, i + 1 => by simp [renL, renL_at l i]
theorem ltL_at : ∀ {l : List AV}, ltL_ m l = true → ∀ {i : Nat} {a : AV}, l[i]? = some a → ltV m a = true
  | [], _, i, a, h => by simp at h
  | b :: l, hl, i, a, h => by
    simp only [ltL_, Bool.and_eq_true] at hl
    cases i with
    | zero => simp only [List.getElem?_cons_zero, Option.some.injEq] at h; subst h; exact hl.1
    | succ i => exact ltL_at hl.2 (by simpa using h)
theorem CR.pull {c : Array Value} {s : Nat} {l : List AV} : CR χ c s (renL r l) ↔ CR (χ.pull r) c s l := by
  constructor
  · intro h i a e
    obtain ⟨v, h1, h2⟩ := h i (ren r a) (by rw [renL_at, e]; rfl)
    exact ⟨v, h1, (VR.pull _ _).1 h2⟩
  · intro h i a e
    rw [renL_at, Option.map_eq_some_iff] at e
    obtain ⟨a', e1, rfl⟩ := e
    obtain ⟨v, h1, h2⟩ := h i a' e1
    exact ⟨v, h1, (VR.pull _ _).2 h2⟩
theorem CR.below (he : ∀ b p, b < m → ψ b = some p → χ b = some p) (hz : ∀ q, ψ.z q → χ.z q) {c : Array Value} {s : Nat} {l : List AV} (hl : ltL_ m l = true) (h : CR ψ c s l) : CR χ c s l := fun i a e => by
  obtain ⟨v, h1, h2⟩ := h i a e
  exact ⟨v, h1, VR.below he hz a v (ltL_at hl e) h2⟩
theorem MR.pull : ∀ {es : List (AV × AV)} {ms : List MapEntry}, MR χ (renE r es) ms ↔ MR (χ.pull r) es ms
  | [], ms => Iff.rfl
  | e :: es, ms => by
    show (∃ m us, _ ∧ _ ∧ _ ∧ MR χ (renE r es) us) ↔ ∃ m us, _ ∧ _ ∧ _ ∧ MR (χ.pull r) es us
    simp only [MR.pull (es := es), VR.pull]
theorem MR.below (he : ∀ b p, b < m → ψ b = some p → χ b = some p) (hz : ∀ q, ψ.z q → χ.z q) : ∀ {es : List (AV × AV)} {ms : List MapEntry}, ltE m es = true → MR ψ es ms → MR χ es ms
  | [], ms, _, h => h
  | e :: es, ms, hl, ⟨x, us, h1, h2, h3, h4⟩ => by
    simp only [ltE, Bool.and_eq_true] at hl
    exact ⟨x, us, h1, VR.below he hz _ _ hl.1 h2, VR.below he hz _ _ hl.2.1 h3, MR.below he hz hl.2.2 h4⟩
theorem OR.pull {p : Pl} {o : AO} {ob : Obj} : OR χ p (renO r o) ob ↔ OR (χ.pull r) p o ob := by
  cases o with
  | cells l z => simp only [renO, OR, renL_length, CR.pull]
  | map es => simp only [renO, OR, MR.pull]
  | iter b k seen => exact Iff.rfl
  | ro l => simp only [renO, OR, renL_length, CR.pull]
theorem OR.below (he : ∀ b p, b < m → ψ b = some p → χ b = some p) (hz : ∀ q, ψ.z q → χ.z q) {p : Pl} {o : AO} {ob : Obj} (hl : ltO m o = true) (h : OR ψ p o ob) : OR χ p o ob := by
  cases o with
  | cells l z => obtain ⟨c, t, fz, h1, h2, h3, h4, h5, h6⟩ := h; exact ⟨c, t, fz, h1, h2, h3, h4, h5, h6.below he hz hl⟩
  | map es => obtain ⟨ms, cl, h1, h2, h3⟩ := h; exact ⟨ms, cl, h1, MR.below he hz hl h2, h3⟩
  | iter b k seen =>
    obtain ⟨h0, q, h1, h2⟩ := h
    simp only [ltO, Nat.blt_eq] at hl
    exact ⟨h0, q, he _ _ hl h1, h2⟩
  | ro l => obtain ⟨c, t, fz, h1, h2, h3, h4⟩ := h; exact ⟨c, t, fz, h1, h2, h3, h4.below he hz hl⟩
theorem renO_own (o : AO) : (renO r o).own = o.own := by cases o <;> rfl
theorem renO_void (o : AO) : (renO r o).void = o.void := by
  cases o with
  | cells l z => cases l <;> rfl
  | map es => rfl
  | iter b k seen => rfl
  | ro l => cases l <;> rfl
theorem renO_under (o : AO) (ob : Obj) : (renO r o).under ob = o.under ob := by cases o <;> rfl
end
/-! ### the run and its caller -/
/-- A callee's names as its caller's: those that it was given, and new ones. -/
def nmOf (S : List Nat) (n b : Nat) : Nat := match S[b]? with
  | some s => s
  | none => n + (b - S.length)
def memO (O : List AO) : Nat → List (Nat × AO)
  | k => match O with
    | [] => []
    | o :: O => (k, o) :: memO O (k + 1)
theorem memO_mem : ∀ {O : List AO} {k b : Nat} {o : AO}, (b, o) ∈ memO O k → ∃ i, b = k + i ∧ O[i]? = some o
  | [], k, b, o, h => by cases h
  | x :: O, k, b, o, h => by
    rcases List.mem_cons.1 (show (b, o) ∈ (k, x) :: memO O (k + 1) from h) with h | h
    · injection h with h1 h2; subst h1 h2; exact ⟨0, rfl, rfl⟩
    · obtain ⟨i, h1, h2⟩ := memO_mem h
      exact ⟨i + 1, by omega, h2⟩
theorem nodup_at : ∀ {S : List Nat}, S.Nodup → ∀ {i j a : Nat}, S[i]? = some a → S[j]? = some a → i = j
  | [], _, i, j, a, h, _ => by simp at h
  | x :: S, hn, i, j, a, h, k => by
    obtain ⟨h1, h2⟩ := List.nodup_cons.1 hn
    cases i with
    | zero =>
      cases j with
      | zero => rfl
      | succ j =>
        simp only [List.getElem?_cons_zero, Option.some.injEq, List.getElem?_cons_succ] at h k
        subst h
        exact absurd (List.mem_of_getElem? k) h1
    | succ i =>
      cases j with
      | zero =>
        simp only [List.getElem?_cons_zero, Option.some.injEq, List.getElem?_cons_succ] at h k
        subst k
        exact absurd (List.mem_of_getElem? h) h1
      | succ j =>
        simp only [List.getElem?_cons_succ] at h k
        rw [nodup_at h2 h k]
section
variable {φ ψ : Ph} {H H' H2 : AH} {n n' m : Nat} {h0 hp g : Hp} {S : List Nat} {O : List AO}
/-- The caller's blocks that are handed on: they are there, and no row that may be without a place. -/
def Hands (H : AH) (n : Nat) (S : List Nat) (O : List AO) : Prop := S.Nodup ∧ S.length = O.length ∧ ∀ (i : Nat) s o, S[i]? = some s → O[i]? = some o → s < n ∧ H.get s = some (renO (nmOf S n) o) ∧ (o.void = false ∨ o.own = true)
theorem nmOf_lt {i s : Nat} (h : S[i]? = some s) : nmOf S n i = s := by unfold nmOf; rw [h]
theorem nmOf_ge {b : Nat} (h : S.length ≤ b) : nmOf S n b = n + (b - S.length) := by unfold nmOf; rw [List.getElem?_eq_none h]
/-- The blocks that are written by the callee. -/
def Gone (φ : Ph) (S : List Nat) (O : List AO) (B : Nat) : Prop := ∃ (i : Nat) (s : Nat) (o : AO) (p : Pl), S[i]? = some s ∧ O[i]? = some o ∧ o.own = true ∧ φ s = some p ∧ p.B = B
open Classical in
noncomputable def cutHp (φ : Ph) (S : List Nat) (O : List AO) (hp : Hp) : Hp := ⟨fun B => if Gone φ S O B then none else hp.f B, hp.n⟩
theorem less_some {B : Nat} {o : Obj} (h : (cutHp φ S O hp).f B = some o) : hp.f B = some o ∧ ¬ Gone φ S O B := by
  unfold cutHp at h
  dsimp only at h
  split at h
  · cases h
  · rename_i q; exact ⟨h, q⟩
theorem less_of {B : Nat} (h : ¬ Gone φ S O B) : (cutHp φ S O hp).f B = hp.f B := by
  unfold cutHp
  dsimp only
  rw [if_neg h]
theorem less_none {B : Nat} (h : (cutHp φ S O hp).f B = none) : Gone φ S O B ∨ hp.f B = none := by
  unfold cutHp at h
  dsimp only at h
  split at h
  · rename_i q; exact .inl q
  · exact .inr h
theorem Hands.at (hh : Hands H n S O) {i s : Nat} (hs : S[i]? = some s) : ∃ o, O[i]? = some o ∧ s < n ∧ H.get s = some (renO (nmOf S n) o) ∧ (o.void = false ∨ o.own = true) := by
  have hlt : i < O.length := by rw [← hh.2.1]; exact (List.getElem?_eq_some_iff.1 hs).1
  exact ⟨O[i], List.getElem?_eq_getElem hlt, hh.2.2 i s O[i] hs (List.getElem?_eq_getElem hlt)⟩
theorem Gone.base (hr : HR φ H n h0 hp) (hh : Hands H n S O) {B : Nat} (h : Gone φ S O B) : h0.f B = none := by
  obtain ⟨i, s, o, p, h1, h2, h3, h4, rfl⟩ := h
  obtain ⟨_, h5, _⟩ := hh.2.2 i s o h1 h2
  obtain ⟨ob, h6, _⟩ := hr.of h5 h4
  rw [renO_under, AO.under_own h3] at h6
  exact h6
theorem HR.small (hr : HR φ H n h0 hp) (hh : Hands H n S O) (hw : Wf hp) : HR ⟨fun b => φ (nmOf S n b), φ.z, φ.z⟩ (mkH (memO O 0)) S.length (cutHp φ S O hp) hp := by
  have nlt : ∀ b p, φ (nmOf S n b) = some p → ∃ s, S[b]? = some s ∧ φ s = some p := fun b p e => by
    cases hb : S[b]? with
    | some s => rw [nmOf_lt hb] at e; exact ⟨s, rfl, e⟩
    | none =>
      have hl := List.getElem?_eq_none_iff.1 hb
      rw [nmOf_ge hl] at e
      have := (hr.dom _ _ e).1; omega
  have get : ∀ {b o}, (mkH (memO O 0)).get b = some o → O[b]? = some o := fun {b o} e => by
    obtain ⟨i, h1, h2⟩ := memO_mem (mkH_get e)
    rw [show b = i by omega]; exact h2
  have ofO : ∀ {b o}, O[b]? = some o → ∃ s, S[b]? = some s := fun {b o} e => by
    have := (List.getElem?_eq_some_iff.1 e).1
    rw [← hh.2.1] at this
    exact ⟨S[b], List.getElem?_eq_getElem this⟩
  refine ⟨fun b p e => ?_, fun b o e => ?_, fun b b' o o' p p' e e' ho ho' hp1 hp2 hB => ?_, fun b o e => ?_, Nat.le_refl _, fun q hq => ⟨⟨FzR.mono (φ := φ) (ψ := ⟨fun b => φ (nmOf S n b), φ.z, φ.z⟩) (fun _ h => h) (hr.frz q hq).1.1, .inl hq⟩, fun b o p e ho hp1 => ?_⟩⟩
  · obtain ⟨s, h1, h2⟩ := nlt b p e
    exact ⟨(List.getElem?_eq_some_iff.1 h1).1, (hr.dom s p h2).2⟩
  · have h1 := get e
    obtain ⟨s, h2⟩ := ofO h1
    obtain ⟨_, h4, h5⟩ := hh.2.2 b s o h2 h1
    rcases hr.live s _ h4 with ⟨hφ, hv⟩ | ⟨p, ob, h6, h7, h8, h9⟩
    · exact .inl ⟨by show φ (nmOf S n b) = _; rw [nmOf_lt h2]; exact hφ, by rw [renO_void] at hv; exact hv⟩
    · refine .inr ⟨p, ob, by show φ (nmOf S n b) = _; rw [nmOf_lt h2]; exact h6, ?_, h8, ?_⟩
      · rw [renO_under] at h7
        by_cases ho : o.own = true
        · rw [AO.under_own ho]
          unfold cutHp
          dsimp only
          rw [if_pos ⟨b, s, o, p, h2, h1, ho, h6, rfl⟩]
        · rw [less_of (fun hg => ?_), h8]
          · cases o <;> first | (exact absurd rfl ho; done) | rfl
          · have := hg.base hr hh
            rw [this] at h7
            cases o <;> first | (exact absurd rfl ho; done) | cases h7
      · have := (OR.pull (χ := φ) (r := nmOf S n)).1 h9
        exact OR.smono (φ := φ.pull (nmOf S n)) (ψ := ⟨fun b => φ (nmOf S n b), φ.z, φ.z⟩) ⟨fun _ _ h => h, fun _ h => h⟩ this
  · have h1 := get e
    have h1' := get e'
    obtain ⟨s, h2⟩ := ofO h1
    obtain ⟨s', h2'⟩ := ofO h1'
    have hp1 : φ (nmOf S n b) = some p := hp1
    have hp2 : φ (nmOf S n b') = some p' := hp2
    rw [nmOf_lt h2] at hp1
    rw [nmOf_lt h2'] at hp2
    have := hr.inj s s' _ _ p p' (hh.2.2 b s o h2 h1).2.1 (hh.2.2 b' s' o' h2' h1').2.1 (by rw [renO_own]; exact ho) (by rw [renO_own]; exact ho') hp1 hp2 hB
    subst this
    exact nodup_at hh.1 h2 h2'
  · obtain ⟨h1, _⟩ := less_some e
    exact ⟨hw _ _ h1, h1⟩
  · have h1 := get e
    obtain ⟨s, h2⟩ := ofO h1
    have hp1 : φ (nmOf S n b) = some p := hp1
    rw [nmOf_lt h2] at hp1
    exact (hr.frz q hq).2 s _ p (hh.2.2 b s o h2 h1).2.1 (by rw [renO_own]; exact ho) hp1
/-- The caller's memory behind the call: what the callee left of the blocks it was given, and of its own. -/
def After (S : List Nat) (n m : Nat) (H H' H2 : AH) : Prop := ∀ b o, H2.get b = some o → (∃ c o', c < m ∧ b = nmOf S n c ∧ H'.get c = some o' ∧ o'.own = true ∧ ltO m o' = true ∧ o = renO (nmOf S n) o') ∨ ((b < n ∨ n + (m - S.length) ≤ b) ∧ H.get b = some o ∧ (b ∈ S → o.own = false))
open Classical in
/-- Where the caller's blocks lie then. -/
noncomputable def phA (φ ψ : Ph) (S : List Nat) (n m : Nat) : Ph := ⟨fun b => if h : ∃ c, c < m ∧ nmOf S n c = b then ψ h.choose else if b < n then φ b else none, fun q => φ.z q ∨ ψ.z q, φ.y⟩
theorem nmOf_inj (hh : Hands H n S O) {c d : Nat} (h : nmOf S n c = nmOf S n d) : c = d := by
  have lt : ∀ {i s}, S[i]? = some s → s < n := fun {i s} hs => by
    obtain ⟨_, _, h, _⟩ := hh.at hs; exact h
  cases hc : S[c]? with
  | some s =>
    cases hd : S[d]? with
    | some t =>
      rw [nmOf_lt hc, nmOf_lt hd] at h
      subst h
      exact nodup_at hh.1 hc hd
    | none =>
      rw [nmOf_lt hc, nmOf_ge (List.getElem?_eq_none_iff.1 hd)] at h
      have := lt hc; omega
  | none =>
    have l1 := List.getElem?_eq_none_iff.1 hc
    cases hd : S[d]? with
    | some t =>
      rw [nmOf_lt hd, nmOf_ge l1] at h
      have := lt hd; omega
    | none =>
      have l2 := List.getElem?_eq_none_iff.1 hd
      rw [nmOf_ge l1, nmOf_ge l2] at h
      omega
theorem phA_of (hh : Hands H n S O) {c : Nat} (hc : c < m) : phA φ ψ S n m (nmOf S n c) = ψ c := by
  have h : ∃ d, d < m ∧ nmOf S n d = nmOf S n c := ⟨c, hc, rfl⟩
  show (if h : ∃ d, d < m ∧ nmOf S n d = nmOf S n c then ψ h.choose else _) = _
  rw [dif_pos h, nmOf_inj hh h.choose_spec.2]
theorem phA_old {b : Nat} (hb : b < n) (hS : b ∉ S) : phA φ ψ S n m b = φ b := by
  have h : ¬ ∃ d, d < m ∧ nmOf S n d = b := fun ⟨d, _, e⟩ => by
    cases hd : S[d]? with
    | some s => rw [nmOf_lt hd] at e; subst e; exact hS (List.mem_of_getElem? hd)
    | none => rw [nmOf_ge (List.getElem?_eq_none_iff.1 hd)] at e; omega
  show (if h : ∃ d, d < m ∧ nmOf S n d = b then ψ h.choose else _) = _
  rw [dif_neg h, if_pos hb]
theorem phA_past (hr : HR φ H n h0 hp) (hh : Hands H n S O) {b : Nat} (hb : b < n ∨ n + (m - S.length) ≤ b) (hS : b ∉ S) : phA φ ψ S n m b = φ b := by
  rcases hb with hb | hb
  · exact phA_old hb hS
  · have h : ¬ ∃ d, d < m ∧ nmOf S n d = b := fun ⟨d, h1, e⟩ => by
      cases hd : S[d]? with
      | some s => rw [nmOf_lt hd] at e; subst e; exact hS (List.mem_of_getElem? hd)
      | none =>
        have := List.getElem?_eq_none_iff.1 hd
        rw [nmOf_ge this] at e; omega
    show (if h : ∃ d, d < m ∧ nmOf S n d = b then ψ h.choose else if b < n then φ b else none) = _
    rw [dif_neg h, if_neg (by omega)]
    cases e : φ b with
    | none => rfl
    | some p => have := (hr.dom b p e).1; omega
theorem phA_le (hr : HR φ H n h0 hp) (hh : Hands H n S O) (hm : S.length ≤ m) (hle : PLe ⟨fun b => φ (nmOf S n b), φ.z, φ.z⟩ ψ) : PLe φ (phA φ ψ S n m) := by
  refine ⟨fun b p e => ?_, fun _ h => .inl h, fun _ h => h⟩
  have hb := (hr.dom b p e).1
  by_cases hS : b ∈ S
  · obtain ⟨i, hi, rfl⟩ := List.mem_iff_getElem.1 hS
    have hi2 : S[i]? = some S[i] := List.getElem?_eq_getElem hi
    have := phA_of (φ := φ) (ψ := ψ) (m := m) hh (c := i) (by omega)
    rw [nmOf_lt hi2] at this
    rw [this]
    exact hle.b i p (by show φ (nmOf S n i) = _; rw [nmOf_lt hi2]; exact e)
  · rw [phA_old hb hS]; exact e
theorem HR.after (hr : HR φ H n h0 hp) (hh : Hands H n S O) (hm : S.length ≤ m) (hle : PLe ⟨fun b => φ (nmOf S n b), φ.z, φ.z⟩ ψ) (hg : HR ψ H' n' (cutHp φ S O hp) g) (ha : After S n m H H' H2) : HR (phA φ ψ S n m) H2 (n + (m - S.length)) h0 g := by
  have hple := phA_le (m := m) hr hh hm hle
  have pull : ∀ b p, b < m → ψ b = some p → (phA φ ψ S n m).pull (nmOf S n) b = some p := fun b p hb e => by
    show phA φ ψ S n m (nmOf S n b) = _
    rw [phA_of hh hb]; exact e
  have hn0 : ∀ B, (cutHp φ S O hp).f B = none → h0.f B = none := fun B e => by
    rcases less_none e with h | h
    · exact h.base hr hh
    · cases q : h0.f B with
      | none => rfl
      | some o => have := (hr.base B o q).2; rw [h] at this; cases this
  -- what an old block's place holds
  have old : ∀ {b o p}, (b < n ∨ n + (m - S.length) ≤ b) → H.get b = some o → (b ∈ S → o.own = false) → φ b = some p → ∃ ob, h0.f p.B = o.under ob ∧ hp.f p.B = some ob ∧ ¬ Gone φ S O p.B ∧ OR φ p o ob := fun {b o p} hb e hS hp1 => by
    obtain ⟨ob, h1, h2, h3⟩ := hr.of e hp1
    refine ⟨ob, h1, h2, fun hgn => ?_, h3⟩
    by_cases ho : o.own = true
    · obtain ⟨i, s, o', p', g1, g2, g3, g4, g5⟩ := hgn
      have := hr.inj s b _ o p' p (hh.2.2 i s o' g1 g2).2.1 e (by rw [renO_own]; exact g3) ho g4 hp1 g5
      subst this
      have := hS (List.mem_of_getElem? g1)
      rw [this] at ho; cases ho
    · have := hgn.base hr hh
      rw [this] at h1
      cases o <;> first | (exact absurd rfl ho; done) | cases h1
  have oldP : ∀ {b o}, (b < n ∨ n + (m - S.length) ≤ b) → H.get b = some o → (b ∈ S → o.own = false) → ∀ p, phA φ ψ S n m b = some p → o.own = true ∨ φ b ≠ none → φ b = some p := fun {b o} hb e hS p hp1 hq => by
    by_cases hbS : b ∈ S
    · have hf := hS hbS
      rcases hq with hq | hq
      · rw [hf] at hq; cases hq
      · cases hφ : φ b with
        | none => exact absurd hφ hq
        | some q =>
          have := hple.b b q hφ
          rw [hp1] at this; rw [this]
    · rw [phA_past hr hh hb hbS] at hp1; exact hp1
  refine ⟨fun b p e => ?_, fun b o e => ?_, fun b b' o o' p p' e e' ho ho' hp1 hp2 hB => ?_, fun b o e => ?_, Nat.le_trans hr.size hg.size, fun q hq => ?_⟩
  · have e : (if h : ∃ c, c < m ∧ nmOf S n c = b then ψ h.choose else if b < n then φ b else none) = some p := e
    split at e
    · rename_i h
      obtain ⟨h1, h2⟩ := h.choose_spec
      refine ⟨?_, (hg.dom _ _ e).2⟩
      generalize h.choose = c at h1 h2
      cases hc : S[c]? with
      | some s => rw [nmOf_lt hc] at h2; obtain ⟨_, _, h3, _⟩ := hh.at hc; omega
      | none =>
        have := List.getElem?_eq_none_iff.1 hc
        rw [nmOf_ge this] at h2; omega
    · split at e
      · have := hr.dom b p e
        have hsz : hp.n ≤ g.n := hg.size
        omega
      · cases e
  · rcases ha b o e with ⟨c, o', hc, rfl, h1, h2, h3, rfl⟩ | ⟨hb, h1, h2⟩
    · rcases hg.live c o' h1 with ⟨h4, h5⟩ | ⟨p, ob, h4, h5, h6, h7⟩
      · exact .inl ⟨by rw [phA_of hh hc]; exact h4, by rw [renO_void]; exact h5⟩
      · refine .inr ⟨p, ob, by rw [phA_of hh hc]; exact h4, ?_, h6, ?_⟩
        · rw [renO_under, AO.under_own h2]
          rw [AO.under_own h2] at h5
          exact hn0 _ h5
        · exact (OR.pull (χ := phA φ ψ S n m)).2 (h7.below (m := m) pull (fun _ h => .inr h) h3)
    · rcases hr.live b o h1 with ⟨h3, h4⟩ | ⟨p, ob, h3, _⟩
      · by_cases hbS : b ∈ S
        · obtain ⟨i, hi, rfl⟩ := List.mem_iff_getElem.1 hbS
          obtain ⟨o', g1, _, g2, g3⟩ := hh.at (List.getElem?_eq_getElem hi)
          rw [h1] at g2; injection g2 with g2
          rcases g3 with g3 | g3
          · rw [g2, renO_void, g3] at h4; cases h4
          · have := h2 hbS
            rw [g2, renO_own, g3] at this; cases this
        · exact .inl ⟨by rw [phA_past hr hh hb hbS]; exact h3, h4⟩
      · obtain ⟨ob, h4, h5, h6, h7⟩ := old hb h1 h2 h3
        exact .inr ⟨p, ob, hple.b b p h3, h4, (hg.base _ _ (by rw [less_of h6]; exact h5)).2, h7.mono hple⟩
  · rcases ha b o e with ⟨c, x, hc, rfl, h1, h2, h3, rfl⟩ | ⟨hb, h1, h2⟩ <;> rcases ha b' o' e' with ⟨d, y, hd, rfl, k1, k2, k3, rfl⟩ | ⟨hb', k1, k2⟩
    · rw [phA_of hh hc] at hp1
      rw [phA_of hh hd] at hp2
      rw [hg.inj c d x y p p' h1 k1 h2 k2 hp1 hp2 hB]
    · exfalso
      rw [phA_of hh hc] at hp1
      have hp2' := oldP hb' k1 k2 p' hp2 (.inl ho')
      obtain ⟨ob, g1, g2, g3, _⟩ := old hb' k1 k2 hp2'
      obtain ⟨ob', g4, _⟩ := hg.of h1 hp1
      rw [AO.under_own h2, hB, less_of g3, g2] at g4; cases g4
    · exfalso
      rw [phA_of hh hd] at hp2
      have hp1' := oldP hb h1 h2 p hp1 (.inl ho)
      obtain ⟨ob, g1, g2, g3, _⟩ := old hb h1 h2 hp1'
      obtain ⟨ob', g4, _⟩ := hg.of k1 hp2
      rw [AO.under_own k2, ← hB, less_of g3, g2] at g4; cases g4
    · exact hr.inj b b' o o' p p' h1 k1 ho ho' (oldP hb h1 h2 p hp1 (.inl ho)) (oldP hb' k1 k2 p' hp2 (.inl ho')) hB
  · obtain ⟨_, h1⟩ := hr.base b o e
    have h2 : ¬ Gone φ S O b := fun hgn => by rw [hgn.base hr hh] at e; cases e
    exact hg.base b o (by rw [less_of h2]; exact h1)
  · rcases hq with hq | hq
    · obtain ⟨⟨h1, h2⟩, h3⟩ := hr.frz q hq
      have hψ : ψ.z q := hle.z q hq
      obtain ⟨⟨k1, k2⟩, k3⟩ := hg.frz q hψ
      refine ⟨⟨FzR.mono (φ := ψ) (ψ := phA φ ψ S n m) (fun _ h => Or.inr h) k1, h2⟩, fun b o p e ho hp1 => ?_⟩
      rcases ha b o e with ⟨c, x, hc, rfl, g1, g2, g3, rfl⟩ | ⟨hb, g1, g2⟩
      · rw [phA_of hh hc] at hp1
        exact k3 c x p g1 g2 hp1
      · exact h3 b o p g1 ho (oldP hb g1 g2 p hp1 (.inl ho))
    · obtain ⟨⟨k1, k2⟩, k3⟩ := hg.frz q hq
      refine ⟨⟨FzR.mono (φ := ψ) (ψ := phA φ ψ S n m) (fun _ h => Or.inr h) k1, ?_⟩, fun b o p e ho hp1 => ?_⟩
      · rcases k2 with k2 | k2
        · exact (hr.frz q (hle.y q k2)).1.2
        · exact .inr (hn0 _ k2)
      · rcases ha b o e with ⟨c, x, hc, rfl, g1, g2, g3, rfl⟩ | ⟨hb, g1, g2⟩
        · rw [phA_of hh hc] at hp1
          exact k3 c x p g1 g2 hp1
        · have hp1' := oldP hb g1 g2 p hp1 (.inl ho)
          obtain ⟨ob, j1, j2, j3, _⟩ := old hb g1 g2 hp1'
          rcases k2 with k2 | k2
          · exact (hr.frz q (hle.y q k2)).2 b o p g1 ho hp1'
          · intro hB
            rw [← hB, less_of j3, j2] at k2; cases k2
end
/-- The caller's memory, the callee's blocks put into it (none: it is gone). -/
noncomputable def putH (S : List Nat) (n : Nat) (H : AH) : List (Nat × Option AO) → AH
  | [] => H
  | x :: l => (putH S n H l).set (x.2.map (renO (nmOf S n))) depthH (nmOf S n x.1)
theorem putH_get {S : List Nat} {n : Nat} {H : AH} : ∀ {l : List (Nat × Option AO)} {b : Nat} {o : AO}, (putH S n H l).get b = some o → (∃ x ∈ l, ∃ o', b = nmOf S n x.1 ∧ x.2 = some o' ∧ o = renO (nmOf S n) o') ∨ (H.get b = some o ∧ ∀ x ∈ l, b ≠ nmOf S n x.1)
  | [], b, o, h => .inr ⟨h, fun x hx => by cases hx⟩
  | x :: l, b, o, h => by
    rcases PM.get_set depthH _ _ b o (show ((putH S n H l).set (x.2.map (renO (nmOf S n))) depthH (nmOf S n x.1)).get b = some o from h) with ⟨h1, h2⟩ | ⟨h1, h2⟩
    · rw [Option.map_eq_some_iff] at h2
      obtain ⟨o', h3, h4⟩ := h2
      exact .inl ⟨x, List.mem_cons_self, o', h1, h3, h4.symm⟩
    · rcases putH_get h2 with ⟨y, h3, h4⟩ | ⟨h3, h4⟩
      · exact .inl ⟨y, List.mem_cons_of_mem _ h3, h4⟩
      · refine .inr ⟨h3, fun y hy => ?_⟩
        rcases List.mem_cons.1 hy with rfl | hy
        · exact h1
        · exact h4 y hy
theorem After.put {S : List Nat} {n m : Nat} {H H' : AH} {l : List (Nat × Option AO)} (hm : S.length ≤ m) (hl : l.map (·.1) = List.range m) (h : ∀ x ∈ l, ∀ o, x.2 = some o → H'.get x.1 = some o ∧ o.own = true ∧ ltO m o = true) : After S n m H H' (putH S n H l) := fun b o e => by
  rcases putH_get e with ⟨x, h1, o', h2, h3, h4⟩ | ⟨h1, h2⟩
  · obtain ⟨k1, k2, k3⟩ := h x h1 o' h3
    have : x.1 ∈ List.range m := hl ▸ List.mem_map.2 ⟨x, h1, rfl⟩
    exact .inl ⟨x.1, o', List.mem_range.1 this, h2, k1, k2, k3, h4⟩
  · have key : ∀ c, c < m → b ≠ nmOf S n c := fun c hc => by
      have : c ∈ l.map (·.1) := hl ▸ List.mem_range.2 hc
      obtain ⟨x, h3, rfl⟩ := List.mem_map.1 this
      exact h2 x h3
    refine .inr ⟨?_, h1, fun hS => ?_⟩
    · by_cases q : b < n
      · exact .inl q
      · refine .inr ?_
        rcases Nat.lt_or_ge b (n + (m - S.length)) with q2 | q2
        · exfalso
          refine key (S.length + (b - n)) (by omega) ?_
          rw [nmOf_ge (by omega)]; omega
        · exact q2
    · obtain ⟨i, hi, rfl⟩ := List.mem_iff_getElem.1 hS
      exact absurd (nmOf_lt (n := n) (List.getElem?_eq_getElem hi)).symm (key i (by omega))
/-- Nothing but what was there, if it is as it was. -/
theorem After.same {S : List Nat} {n : Nat} {H H' : AH} (h : ∀ (i s : Nat) o, S[i]? = some s → H.get s = some o → o.own = true → ∃ o', H'.get i = some o' ∧ o'.own = true ∧ ltO S.length o' = true ∧ o = renO (nmOf S n) o') : After S n S.length H H' H := fun b o e => by
  by_cases hb : b ∈ S
  · obtain ⟨i, hi, rfl⟩ := List.mem_iff_getElem.1 hb
    by_cases ho : o.own = true
    · obtain ⟨o', h1, h2, h3, h4⟩ := h i S[i] o (List.getElem?_eq_getElem hi) e ho
      exact .inl ⟨i, o', hi, (nmOf_lt (List.getElem?_eq_getElem hi)).symm, h1, h2, h3, h4⟩
    · exact .inr ⟨by omega, e, fun _ => by simpa using ho⟩
  · exact .inr ⟨by omega, e, fun h => absurd h hb⟩
/-- A function that is known by a run on the blocks it is given. -/
theorem framed {f : FuncId} {run : List AV → AH → Nat → PK → Prop} (hrun : NatP f run) {φ : Ph} {H : AH} {n : Nat} {h0 hp : Hp} {S : List Nat} {O : List AO} {args0 : List AV} {κ : PK} {K : KH} {vs : Array Value} (hic : isCall Try.prog f = true)
    (hr : HR φ H n h0 hp) (hh : Hands H n S O) (hargs : VRs φ (renL (nmOf S n) args0) vs.toList) (hk : ThenP φ h0 κ K)
    {Q : PK} (h : run args0 (mkH (memO O 0)) S.length Q) (hQ : ∀ u H' n', Q u H' n' → ∃ m H2, S.length ≤ m ∧ After S n m H H' H2 ∧ ltV m u = true ∧ κ (ren (nmOf S n) u) H2 (n + (m - S.length))) : CallF Try.prog f vs hp K := by
  have key : Wf hp → CallF Try.prog f vs hp K := fun hw => hrun args0 _ _ _ h ⟨fun b => φ (nmOf S n b), φ.z, φ.z⟩ (cutHp φ S O hp) hp vs K (hr.small hh hw) (VRs.smono (φ := φ.pull (nmOf S n)) (ψ := ⟨fun b => φ (nmOf S n b), φ.z, φ.z⟩) ⟨fun _ _ h => h, fun _ h => h⟩ _ _ ((VRs.pull (χ := φ) (r := nmOf S n) args0 vs.toList).1 hargs)) fun ψ u H' n' w g hle hg hu hq => by
    obtain ⟨m, H2, hm, ha, hl, hκ⟩ := hQ u H' n' hq
    exact hk _ _ _ _ w g (phA_le hr hh hm hle) (hr.after hh hm hle hg ha) ((VR.pull (χ := phA φ ψ S n m) u w).2 (VR.below (ψ := ψ) (m := m) (fun b p hb e => by
      show phA φ ψ S n m (nmOf S n b) = _
      rw [phA_of hh hb]; exact e) (fun _ h => Or.inr h) u w hl hu)) hκ
  exact ⟨hic, fun w hi => (key hi.wf).2 w hi⟩
/-- A block told in another way. -/
theorem HR.reobj {φ : Ph} {H : AH} {n : Nat} {h0 h : Hp} (hr : HR φ H n h0 h) {b : Nat} {o o' : AO} (hb : H.get b = some o) (hown : o.own = true) (hown' : o'.own = true) (hv : o.void = true → o'.void = true) (ho : ∀ p ob, φ b = some p → h.f p.B = some ob → OR φ p o ob → OR φ p o' ob) : HR φ (H.set (some o') depthH b) n h0 h := by
  have back : ∀ z r, (H.set (some o') depthH b).get z = some r → r.own = true → ∃ r', H.get z = some r' ∧ r'.own = true := fun z r hz hw2 => by
    rcases PM.get_set depthH H b z r hz with ⟨rfl, _⟩ | ⟨_, h2⟩
    · exact ⟨o, hb, hown⟩
    · exact ⟨r, h2, hw2⟩
  refine ⟨hr.dom, fun x q hx => ?_, fun x y q q' px py hx hy hwx hwy hpx hpy e => ?_, hr.base, hr.size, fun q hq => ⟨(hr.frz q hq).1, fun y oy py hy hwy hpy => ?_⟩⟩
  · rcases PM.get_set depthH H b x q hx with ⟨rfl, h2⟩ | ⟨h1, h2⟩
    · injection h2 with h2
      subst h2
      rcases hr.live x o hb with ⟨h3, h4⟩ | ⟨p, ob, h3, h4, h5, h6⟩
      · exact .inl ⟨h3, hv h4⟩
      · exact .inr ⟨p, ob, h3, by rw [AO.under_own hown']; rw [AO.under_own hown] at h4; exact h4, h5, ho p ob h3 h5 h6⟩
    · exact hr.live x q h2
  · obtain ⟨r, hr1, hr3⟩ := back x q hx hwx
    obtain ⟨r', hr2, hr4⟩ := back y q' hy hwy
    exact hr.inj x y r r' px py hr1 hr2 hr3 hr4 hpx hpy e
  · obtain ⟨r, hr1, hr3⟩ := back y oy hy hwy
    exact (hr.frz q hq).2 y r py hr1 hr3 hpy
/-- Cells told in another way. -/
theorem HR.recell {φ : Ph} {H : AH} {n : Nat} {h0 h : Hp} (hr : HR φ H n h0 h) {b : Nat} {l l' : List AV} {z : Bool} (hb : H.get b = some (.cells l z)) (hl : l'.length = l.length) (hc : ∀ (i : Nat) (a' : AV), l'[i]? = some a' → ∃ a, l[i]? = some a ∧ ∀ v, VR φ a v → VR φ a' v) : HR φ (H.set (some (.cells l' z)) depthH b) n h0 h :=
  hr.reobj hb rfl rfl (fun q => by cases l with
    | nil => cases l' with
      | nil => rfl
      | cons _ _ => simp at hl
    | cons _ _ => cases q) fun p ob _ _ ⟨c, t, fz, h1, h2, h3, h4, h5, h6⟩ => ⟨c, t, fz, h1, by rw [hl]; exact h2, h3, h4, h5, fun i a' hi => by
      obtain ⟨a, h7, h8⟩ := hc i a' hi
      obtain ⟨v, h9, h10⟩ := h6 i a h7
      exact ⟨v, h9, h8 v h10⟩⟩
end Go.Proofs.Ytpfflibkkjjlaaa
namespace Go.Proofs.Ytpfflibkkjjlaaa
open Go Go.RowKit
/-! ### numbers as bits, the highest first -/
def bitsOf (u : Nat) : Nat → List Nat
  | 0 => []
  | m + 1 => (u / 2 ^ m) % 2 :: bitsOf u m
def Bits (B : List Nat) : Prop := ∀ b ∈ B, b < 2
theorem bitsOf_length (u : Nat) : ∀ m, (bitsOf u m).length = m
  | 0 => rfl
  | m + 1 => by simp [bitsOf, bitsOf_length u m]
theorem bitsOf_bits (u : Nat) : ∀ m, Bits (bitsOf u m)
  | 0 => fun b h => by cases h
  | m + 1 => fun b h => by
    rcases List.mem_cons.1 h with rfl | h
    · exact Nat.mod_lt _ (by decide)
    · exact bitsOf_bits u m b h
theorem Bits.nil : Bits [] := fun b h => by cases h
theorem Bits.app {A B : List Nat} (h : Bits A) (k : Bits B) : Bits (A ++ B) := fun b hb => (List.mem_append.1 hb).elim (h b) (k b)
theorem Bits.one {b : Nat} (h : b < 2) : Bits [b] := fun c hc => by simp at hc; omega
def numB (a : Nat) (B : List Nat) : Nat := B.foldl (fun u b => 2 * u + b) a
theorem numB_bits (a u : Nat) : ∀ m, numB a (bitsOf u m) = a * 2 ^ m + u % 2 ^ m
  | 0 => by simp [numB, bitsOf, Nat.mod_one]
  | m + 1 => by
    show numB (2 * a + u / 2 ^ m % 2) (bitsOf u m) = _
    rw [numB_bits _ u m, Nat.mod_pow_succ, Nat.pow_succ, Nat.add_mul]
    have e1 : 2 * a * 2 ^ m = a * (2 ^ m * 2) := by rw [Nat.mul_comm 2 a, Nat.mul_assoc, Nat.mul_comm 2]
    have e2 : u / 2 ^ m % 2 * 2 ^ m = 2 ^ m * (u / 2 ^ m % 2) := Nat.mul_comm _ _
    omega
theorem numB_acc : ∀ (B : List Nat) (a : Nat), numB a B = a * 2 ^ B.length + numB 0 B
  | [], a => by simp [numB]
  | b :: B, a => by
    show numB (2 * a + b) B = a * 2 ^ (B.length + 1) + numB (2 * 0 + b) B
    rw [numB_acc B (2 * a + b), numB_acc B (2 * 0 + b), Nat.pow_succ, Nat.add_mul]
    have e1 : 2 * a * 2 ^ B.length = a * (2 ^ B.length * 2) := by rw [Nat.mul_comm 2 a, Nat.mul_assoc, Nat.mul_comm 2]
    simp only [Nat.mul_zero, Nat.zero_add]
    omega
theorem numB_lt : ∀ (B : List Nat), Bits B → numB 0 B < 2 ^ B.length
  | [], _ => by simp [numB]
  | b :: B, h => by
    have ih := numB_lt B fun c hc => h c (List.mem_cons_of_mem _ hc)
    have hb := h b List.mem_cons_self
    show numB (2 * 0 + b) B < _
    rw [numB_acc, List.length_cons, Nat.pow_succ]
    have : (2 * 0 + b) * 2 ^ B.length ≤ 1 * 2 ^ B.length := Nat.mul_le_mul_right _ (by omega)
    omega
theorem numB_app (A B : List Nat) (a : Nat) : numB a (A ++ B) = numB (numB a A) B := by simp [numB, List.foldl_append]
/-- A bit out of the number. -/
theorem numB_at : ∀ (B : List Nat) (a j : Nat), Bits B → ∀ h : j < B.length, numB a B / 2 ^ (B.length - 1 - j) % 2 = B[j]
  | b :: B, a, 0, hb, _ => by
    show numB (2 * a + b) B / 2 ^ (B.length + 1 - 1 - 0) % 2 = b
    have hlt := numB_lt B fun c hc => hb c (List.mem_cons_of_mem _ hc)
    have := hb b List.mem_cons_self
    rw [numB_acc, Nat.add_sub_cancel, Nat.sub_zero, Nat.mul_comm, Nat.mul_add_div (Nat.two_pow_pos _), Nat.div_eq_of_lt hlt]
    omega
  | b :: B, a, j + 1, hb, h => by
    have h' : j < B.length := by simpa using h
    have := numB_at B (2 * a + b) j (fun c hc => hb c (List.mem_cons_of_mem _ hc)) h'
    show numB (2 * a + b) B / 2 ^ (B.length + 1 - 1 - (j + 1)) % 2 = B[j]
    rw [show B.length + 1 - 1 - (j + 1) = B.length - 1 - j from by omega]
    exact this
/-! ### bits as bytes -/
def pad8 (C : List Nat) : List Nat := C ++ List.replicate (8 - C.length) 0
def byteN (C : List Nat) : Nat := numB 0 (pad8 C)
def pack (B : List Nat) : List Nat := (List.range ((B.length + 7) / 8)).map fun i => byteN ((B.drop (8 * i)).take 8)
def rdBit (s : List Nat) (i : Nat) : Nat := (s[i / 8]?).getD 0 / 2 ^ (7 - i % 8) % 2
theorem pad8_length {C : List Nat} (h : C.length ≤ 8) : (pad8 C).length = 8 := by simp [pad8]; omega
theorem pad8_bits {C : List Nat} (h : Bits C) : Bits (pad8 C) := h.app fun b hb => by
  have := List.eq_of_mem_replicate hb; omega
theorem byteN_lt {C : List Nat} (h : Bits C) (hl : C.length ≤ 8) : byteN C < 256 := by
  have := numB_lt _ (pad8_bits h)
  rw [pad8_length hl] at this
  exact this
theorem byteN_eq {C : List Nat} : byteN C = numB 0 C * 2 ^ (8 - C.length) := by
  unfold byteN pad8
  rw [numB_app]
  have : ∀ m a, numB a (List.replicate m 0) = a * 2 ^ m := fun m => by
    induction m with
    | zero => intro a; simp [numB]
    | succ m ih =>
      intro a
      show numB (2 * a + 0) (List.replicate m 0) = _
      rw [ih, Nat.pow_succ, Nat.add_zero, Nat.mul_comm 2 a, Nat.mul_assoc, Nat.mul_comm 2]
  exact this _ _
theorem byteN_at {C : List Nat} (h : Bits C) (hl : C.length ≤ 8) {j : Nat} (hj : j < C.length) : byteN C / 2 ^ (7 - j) % 2 = C[j] := by
  have hp := pad8_length hl
  have := numB_at (pad8 C) 0 j (pad8_bits h) (by omega)
  unfold byteN
  rw [show 7 - j = (pad8 C).length - 1 - j from by omega, this]
  simp [pad8, hj]
theorem pack_length (B : List Nat) : (pack B).length = (B.length + 7) / 8 := by simp [pack]
theorem pack_at (B : List Nat) (i : Nat) (h : i < (B.length + 7) / 8) : (pack B)[i]? = some (byteN ((B.drop (8 * i)).take 8)) := by
  simp [pack, h]
theorem sub_bits {B : List Nat} (h : Bits B) (i m : Nat) : Bits ((B.drop i).take m) := fun b hb => h b (List.mem_of_mem_drop (List.mem_of_mem_take hb))
theorem pack_lt {B : List Nat} (h : Bits B) : ∀ x ∈ pack B, x < 256 := fun x hx => by
  simp only [pack, List.mem_map, List.mem_range] at hx
  obtain ⟨i, _, rfl⟩ := hx
  exact byteN_lt (sub_bits h _ _) (by rw [List.length_take]; omega)
theorem rdBit_pack {B : List Nat} (h : Bits B) {i : Nat} (hi : i < B.length) : rdBit (pack B) i = B[i] := by
  unfold rdBit
  rw [pack_at B (i / 8) (by omega)]
  have hl : i % 8 < ((B.drop (8 * (i / 8))).take 8).length := by rw [List.length_take, List.length_drop]; omega
  rw [Option.getD_some, byteN_at (sub_bits h _ _) (by rw [List.length_take]; omega) hl]
  rw [List.getElem_take, List.getElem_drop]
  congr 1; omega
/-- A bit more, in a byte more. -/
theorem pack_new {B : List Nat} {b : Nat} (h : B.length % 8 = 0) : pack (B ++ [b]) = pack B ++ [b * 2 ^ 7] := by
  apply List.ext_getElem?
  intro i
  have hl : (pack B).length = B.length / 8 := by rw [pack_length]; omega
  rcases Nat.lt_trichotomy i (B.length / 8) with hi | hi | hi
  · rw [List.getElem?_append_left (by omega), pack_at _ _ (by simp; omega), pack_at _ _ (by omega)]
    rw [List.drop_append_of_le_length (by omega), List.take_append_of_le_length (by rw [List.length_drop]; omega)]
  · subst hi
    rw [List.getElem?_append_right (by omega), hl, Nat.sub_self, pack_at _ _ (by simp; omega)]
    have : (B ++ [b]).drop (8 * (B.length / 8)) = [b] := by
      rw [show 8 * (B.length / 8) = B.length from by omega]; simp
    rw [this]
    simp [byteN_eq, numB]
  · rw [List.getElem?_eq_none (by rw [pack_length]; simp; omega), List.getElem?_eq_none (by simp; omega)]
/-- A bit more, in the last byte. -/
theorem pack_or {B : List Nat} {b : Nat} (h : B.length % 8 ≠ 0) : pack (B ++ [b]) = (pack B).set (B.length / 8) (byteN (B.drop (8 * (B.length / 8))) + b * 2 ^ (7 - B.length % 8)) := by
  apply List.ext_getElem?
  intro i
  have hl : (pack B).length = B.length / 8 + 1 := by rw [pack_length]; omega
  rcases Nat.lt_trichotomy i (B.length / 8) with hi | hi | hi
  · rw [List.getElem?_set_ne (by omega), pack_at _ _ (by simp; omega), pack_at _ _ (by omega)]
    rw [List.drop_append_of_le_length (by omega), List.take_append_of_le_length (by rw [List.length_drop]; omega)]
  · subst hi
    rw [List.getElem?_set_self (by omega), pack_at _ _ (by simp; omega)]
    have hC : (B.drop (8 * (B.length / 8))).length = B.length % 8 := by rw [List.length_drop]; omega
    rw [List.drop_append_of_le_length (by omega), List.take_of_length_le (by rw [List.length_append, hC]; simp; omega)]
    generalize B.drop (8 * (B.length / 8)) = C at hC
    have hr8 := Nat.mod_lt B.length (show 8 > 0 by decide)
    generalize B.length % 8 = r at hC h hr8
    rw [byteN_eq, byteN_eq, numB_app, List.length_append, hC]
    have hr : r < 8 ∨ 8 ≤ r := by omega
    show some ((2 * numB 0 C + b) * 2 ^ (8 - (r + 1))) = _
    congr 1
    rcases hr with hr | hr
    · rw [show 8 - (r + 1) = 7 - r from by omega, show 8 - r = 7 - r + 1 from by omega, Nat.pow_succ, Nat.add_mul, Nat.mul_comm 2 (numB 0 C), Nat.mul_assoc, Nat.mul_comm 2]
    · exfalso; omega
  · rw [List.getElem?_eq_none (by rw [pack_length]; simp; omega), List.getElem?_eq_none (by simp; omega)]
end Go.Proofs.Ytpfflibkkjjlaaa
namespace Go.Proofs.Ytpfflibkkjjlaaa
open Go Go.RowKit
/-! ### numbers that are not below 0, and back -/
theorem bitsV_eq (op : BinOp) (k : IntKind) (x y : Int) (h : op = .and ∨ op = .or ∨ op = .xor) : bitsV op k x y = bits op k x y := by
  rcases h with rfl | rfl | rfl <;> rfl
theorem wrap_u64 (n : Int) : IntKind.u64.wrap n = n % 18446744073709551616 := by simp [IntKind.wrap, IntKind.bits, IntKind.signed]
def zigN (n : Int) : Nat := if 0 ≤ n then (2 * n).toNat else (-2 * n - 1).toNat
def zagI (u : Nat) : Int := if u % 2 = 0 then ((u / 2 : Nat) : Int) else -((u / 2 : Nat) : Int) - 1
theorem zig_lt {n : Int} (h : In64 n) : zigN n < 18446744073709551616 := by
  unfold zigN; have := h.1; have := h.2; split <;> omega
theorem zag_zig (n : Int) : zagI (zigN n) = n := by
  unfold zagI zigN
  split
  · rename_i h
    rw [if_pos (by omega)]; omega
  · rename_i h
    rw [if_neg (by omega)]; omega
theorem zag_in {u : Nat} (h : u < 18446744073709551616) : In64 (zagI u) := by
  unfold zagI In64; split <;> omega
theorem xor_ones (a : Nat) (h : a < 18446744073709551616) : a ^^^ 18446744073709551615 = 18446744073709551615 - a := by
  have e : (BitVec.ofNat 64 a ^^^ BitVec.allOnes 64).toNat = 18446744073709551615 - a := by
    rw [BitVec.xor_allOnes, BitVec.toNat_not, BitVec.toNat_ofNat, Nat.mod_eq_of_lt h]
  rw [← e, BitVec.toNat_xor, BitVec.toNat_ofNat, Nat.mod_eq_of_lt h]
  rfl
theorem fdiv63 {n : Int} (h : In64 n) : n.fdiv 9223372036854775808 = if 0 ≤ n then 0 else -1 := by
  have := h.1; have := h.2
  rw [Int.fdiv_eq_ediv_of_nonneg _ (by decide)]
  split <;> omega
theorem zig_eq {n : Int} (h : In64 n) : bitsV .xor .u64 (IntKind.u64.wrap (IntKind.u64.wrap n * 2)) (IntKind.u64.wrap (n.fdiv 9223372036854775808)) = ((zigN n : Nat) : Int) := by
  have h1 := h.1; have h2 := h.2
  rw [bitsV_eq _ _ _ _ (.inr (.inr rfl)), fdiv63 h]
  unfold zigN
  by_cases h0 : 0 ≤ n
  · rw [if_pos h0, if_pos h0]
    have e1 : IntKind.u64.wrap (IntKind.u64.wrap n * 2) = (((2 * n).toNat : Nat) : Int) := by rw [wrap_u64, wrap_u64]; omega
    have e2 : IntKind.u64.wrap 0 = ((0 : Nat) : Int) := by rw [wrap_u64]; rfl
    rw [e1, e2, u64_xor_nat _ _ (by omega) (by omega), Nat.xor_zero]
  · rw [if_neg h0, if_neg h0]
    have e1 : IntKind.u64.wrap (IntKind.u64.wrap n * 2) = (((2 * n + 18446744073709551616).toNat : Nat) : Int) := by rw [wrap_u64, wrap_u64]; omega
    have e2 : IntKind.u64.wrap (-1) = ((18446744073709551615 : Nat) : Int) := by rw [wrap_u64]; rfl
    rw [e1, e2, u64_xor_nat _ _ (by omega) (by omega), xor_ones _ (by omega)]
    omega
theorem i64_xor_ones {a : Int} (h0 : 0 ≤ a) (h1 : a ≤ 9223372036854775807) : bitsV .xor .i64 a (-1) = -a - 1 := by
  have e : bitsV .xor .i64 a (-1) = IntKind.i64.wrap (((BitVec.ofInt 64 a ^^^ BitVec.ofInt 64 (-1)).toNat : Nat) : Int) := rfl
  obtain ⟨m, rfl⟩ := Int.eq_ofNat_of_zero_le h0
  have e2 : (BitVec.ofInt 64 (m : Int) ^^^ BitVec.ofInt 64 (-1)).toNat = 18446744073709551615 - m := by
    have e3 : BitVec.ofInt 64 (-1) = BitVec.allOnes 64 := by decide
    rw [e3, BitVec.xor_allOnes, BitVec.toNat_not, BitVec.ofInt_natCast, BitVec.toNat_ofNat, Nat.mod_eq_of_lt (by omega)]
  rw [e, e2, IntKind.wrap_i64]
  omega
theorem i64_xor_zero {a : Int} (h0 : 0 ≤ a) (h1 : a ≤ 9223372036854775807) : bitsV .xor .i64 a 0 = a := by
  have e : bitsV .xor .i64 a 0 = IntKind.i64.wrap (((BitVec.ofInt 64 a ^^^ BitVec.ofInt 64 0).toNat : Nat) : Int) := rfl
  obtain ⟨m, rfl⟩ := Int.eq_ofNat_of_zero_le h0
  have e2 : (BitVec.ofInt 64 (m : Int) ^^^ BitVec.ofInt 64 0).toNat = m := by
    have e3 : BitVec.ofInt 64 0 = 0#64 := by decide
    rw [e3, BitVec.xor_zero, BitVec.ofInt_natCast, BitVec.toNat_ofNat, Nat.mod_eq_of_lt (by omega)]
  rw [e, e2, IntKind.wrap_i64]
  omega
theorem fdiv_nat (a b : Nat) : (a : Int).fdiv (b : Int) = ((a / b : Nat) : Int) := by
  rw [Int.fdiv_eq_ediv_of_nonneg _ (Int.natCast_nonneg _)]; exact (Int.natCast_ediv a b).symm
theorem and1 {u : Nat} (h : u < 18446744073709551616) : bitsV .and .u64 (u : Int) 1 = ((u % 2 : Nat) : Int) := by
  rw [bitsV_eq _ _ _ _ (.inl rfl), show (1 : Int) = ((1 : Nat) : Int) from rfl, u64_and_nat _ _ h (by decide), nat_mask1]
theorem zag_eq {u : Nat} (h : u < 18446744073709551616) : bitsV .xor .i64 (IntKind.i64.wrap ((u : Int).fdiv 2)) (IntKind.i64.wrap (0 - IntKind.i64.wrap (bitsV .and .u64 (u : Int) 1))) = zagI u := by
  rw [show (2 : Int) = ((2 : Nat) : Int) from rfl, fdiv_nat, and1 h]
  have e1 : IntKind.i64.wrap ((u / 2 : Nat) : Int) = ((u / 2 : Nat) : Int) := by rw [IntKind.wrap_i64]; omega
  rw [e1]
  unfold zagI
  by_cases q : u % 2 = 0
  · rw [if_pos q, q]
    have e2 : IntKind.i64.wrap (0 - IntKind.i64.wrap ((0 : Nat) : Int)) = 0 := by rw [IntKind.wrap_i64, IntKind.wrap_i64]; rfl
    rw [e2, i64_xor_zero (by omega) (by omega)]
  · have q1 : u % 2 = 1 := by omega
    rw [if_neg q, q1]
    have e2 : IntKind.i64.wrap (0 - IntKind.i64.wrap ((1 : Nat) : Int)) = -1 := by rw [IntKind.wrap_i64, IntKind.wrap_i64]; rfl
    rw [e2, i64_xor_ones (by omega) (by omega)]
/-! ### a number's code -/
def clsN (u : Nat) : Nat := if u = 0 then 0 else if u < 128 then 1 else if u < 4096 then 2 else if u < 16777216 then 3 else 4
def codeB (u : Nat) : List Nat := if u = 0 then [0] else if u < 128 then [1, 0] ++ bitsOf u 7 else if u < 4096 then [1, 1, 0] ++ bitsOf u 12 else if u < 16777216 then [1, 1, 1, 0] ++ bitsOf u 24 else [1, 1, 1, 1] ++ bitsOf u 64
theorem Bits.lit {l : List Nat} (h : l.all (fun b => decide (b < 2)) = true) : Bits l := fun b hb => by
  have := List.all_eq_true.1 h b hb
  exact of_decide_eq_true this
theorem codeB_bits (u : Nat) : Bits (codeB u) := by
  unfold codeB
  repeat' split
  · exact .lit rfl
  all_goals exact (Bits.lit rfl).app (bitsOf_bits _ _)
theorem codeB_len (u : Nat) : (codeB u).length ≤ 68 ∧ 1 ≤ (codeB u).length := by
  unfold codeB
  repeat' split
  all_goals simp [bitsOf_length]
/-! ### samples -/
abbrev W64 (x : Int) : Int := IntKind.i64.wrap x
theorem W64_in (x : Int) : In64 (W64 x) := by
  unfold In64 W64
  rw [IntKind.wrap_i64]; omega
theorem W64_of {x : Int} (h : In64 x) : W64 x = x := by
  have := h.1; have := h.2
  show IntKind.i64.wrap x = x
  rw [IntKind.wrap_i64]; omega
def u64N (x : Int) : Nat := (x % 18446744073709551616).toNat
theorem u64_eq (x : Int) : IntKind.u64.wrap x = ((u64N x : Nat) : Int) := by rw [wrap_u64]; unfold u64N; omega
theorem u64_lt (x : Int) : u64N x < 18446744073709551616 := by unfold u64N; omega
theorem u64_back {x : Int} (h : In64 x) : W64 ((u64N x : Nat) : Int) = x := by
  have := h.1; have := h.2
  show IntKind.i64.wrap _ = x
  unfold u64N
  rw [IntKind.wrap_i64]; omega
def tAt (X : Smp) (i : Nat) : Int := ((X[i]?).getD (0, 0)).1
def vAt (X : Smp) (i : Nat) : Int := ((X[i]?).getD (0, 0)).2
/-- How far the last two times are apart, ahead of the sample i. -/
def stepAt (X : Smp) (i : Nat) : Int := if i < 2 then 0 else W64 (tAt X (i - 1) - tAt X (i - 2))
def dT (X : Smp) (i : Nat) : Nat := zigN (W64 (W64 (tAt X i - tAt X (i - 1)) - stepAt X i))
def dV (X : Smp) (i : Nat) : Nat := zigN (W64 (vAt X i - vAt X (i - 1)))
def sampB (X : Smp) (i : Nat) : List Nat := if i = 0 then bitsOf (u64N (tAt X 0)) 64 ++ bitsOf (u64N (vAt X 0)) 64 else codeB (dT X i) ++ codeB (dV X i)
def encTo (X : Smp) : Nat → List Nat
  | 0 => []
  | i + 1 => encTo X i ++ sampB X i
def encB (X : Smp) : List Nat := encTo X X.length
theorem sampB_bits (X : Smp) (i : Nat) : Bits (sampB X i) := by
  unfold sampB; split
  · exact (bitsOf_bits _ _).app (bitsOf_bits _ _)
  · exact (codeB_bits _).app (codeB_bits _)
theorem encTo_bits (X : Smp) : ∀ i, Bits (encTo X i)
  | 0 => .nil
  | i + 1 => (encTo_bits X i).app (sampB_bits X i)
theorem encB_bits (X : Smp) : Bits (encB X) := encTo_bits X _
theorem encTo_nil (X : Smp) : encTo X 0 = [] := rfl
theorem encTo_len (X : Smp) : ∀ i, (encTo X i).length ≤ 136 * i
  | 0 => by simp [encTo]
  | i + 1 => by
    have h1 := encTo_len X i
    have h2 : (sampB X i).length ≤ 136 := by
      unfold sampB
      split
      · simp [bitsOf_length]
      · rw [List.length_append]
        have := (codeB_len (dT X i)).1
        have := (codeB_len (dV X i)).1
        omega
    simp only [encTo, List.length_append]
    omega
theorem encB_len (X : Smp) : (encB X).length ≤ 136 * X.length := encTo_len X _
theorem encTo_pre (X : Smp) (i : Nat) : ∀ k, ∃ D, encTo X (i + k) = encTo X i ++ D
  | 0 => ⟨[], by simp⟩
  | k + 1 => by
    obtain ⟨D, h⟩ := encTo_pre X i k
    exact ⟨D ++ sampB X (i + k), by show encTo X (i + k) ++ sampB X (i + k) = _; rw [h, List.append_assoc]⟩
/-- What is behind the first i samples' bits. -/
theorem encB_split {X : Smp} {i : Nat} (h : i < X.length) : ∃ D, encB X = encTo X i ++ (sampB X i ++ D) := by
  obtain ⟨D, hD⟩ := encTo_pre X (i + 1) (X.length - (i + 1))
  refine ⟨D, ?_⟩
  unfold encB
  rw [show X.length = i + 1 + (X.length - (i + 1)) from by omega, hD]
  simp [encTo]
theorem tAt_take {X : Smp} {k i : Nat} (h : i < k) : tAt (X.take k) i = tAt X i := by simp [tAt, h]
theorem vAt_take {X : Smp} {k i : Nat} (h : i < k) : vAt (X.take k) i = vAt X i := by simp [vAt, h]
theorem sampB_take {X : Smp} {k i : Nat} (h : i < k) : sampB (X.take k) i = sampB X i := by
  have e : ∀ j, j ≤ i → tAt (X.take k) j = tAt X j := fun j hj => tAt_take (by omega)
  have e2 : ∀ j, j ≤ i → vAt (X.take k) j = vAt X j := fun j hj => vAt_take (by omega)
  unfold sampB dT dV stepAt
  rw [e 0 (Nat.zero_le _), e2 0 (Nat.zero_le _), e i (Nat.le_refl _), e (i - 1) (Nat.sub_le _ _), e (i - 2) (Nat.sub_le _ _), e2 i (Nat.le_refl _), e2 (i - 1) (Nat.sub_le _ _)]
theorem encTo_take (X : Smp) (k : Nat) : ∀ i, i ≤ k → encTo (X.take k) i = encTo X i
  | 0, _ => rfl
  | i + 1, h => by
    show encTo (X.take k) i ++ sampB (X.take k) i = encTo X i ++ sampB X i
    rw [encTo_take X k i (by omega), sampB_take (by omega)]
theorem encB_take {X : Smp} {k : Nat} (h : k ≤ X.length) : encB (X.take k) = encTo X k := by
  unfold encB
  rw [List.length_take, Nat.min_eq_left h, encTo_take X k k (Nat.le_refl _)]
theorem encB_nil : encB [] = [] := rfl
/-! ### bits read -/
def rdBits (s : List Nat) (at' m : Nat) : List Nat := (List.range m).map fun j => rdBit s (at' + j)
theorem rdBits_pack {B A C D : List Nat} (hB : Bits B) (h : B = A ++ (C ++ D)) : rdBits (pack B) A.length C.length = C := by
  apply List.ext_getElem?
  intro j
  by_cases hj : j < C.length
  · have hl : A.length + j < B.length := by rw [h]; simp; omega
    simp only [rdBits, List.getElem?_map, List.getElem?_range hj, Option.map_some]
    rw [rdBit_pack hB hl, List.getElem?_eq_getElem hj]
    congr 1
    simp only [h]
    rw [List.getElem_append_right (by omega), List.getElem_append_left (by omega)]
    congr 1; omega
  · rw [List.getElem?_eq_none (by simp [rdBits]; omega), List.getElem?_eq_none (by omega)]
theorem rdBits_at {B A C D : List Nat} {a m : Nat} (hB : Bits B) (h : B = A ++ (C ++ D)) (ha : a = A.length) (hm : m = C.length) : rdBits (pack B) a m = C := by
  subst ha hm; exact rdBits_pack hB h
theorem rdBits_snoc (s : List Nat) (a j : Nat) : rdBits s a (j + 1) = rdBits s a j ++ [rdBit s (a + j)] := by
  simp [rdBits, List.range_succ]
theorem rdBits_bits (s : List Nat) (a j : Nat) : Bits (rdBits s a j) := fun b hb => by
  simp only [rdBits, List.mem_map] at hb
  obtain ⟨_, _, rfl⟩ := hb
  exact Nat.mod_lt _ (by decide)
theorem rdBits_length (s : List Nat) (a j : Nat) : (rdBits s a j).length = j := by simp [rdBits]
theorem numB_snoc (a : Nat) (B : List Nat) (b : Nat) : numB a (B ++ [b]) = 2 * numB a B + b := by rw [numB_app]; rfl
/-- A bit more of a number that is read. -/
theorem rd_or {u b : Nat} (hu : u < 9223372036854775808) (hb : b < 2) : bitsV .or .u64 (IntKind.u64.wrap ((u : Int) * 2)) (IntKind.u64.wrap (b : Int)) = ((2 * u + b : Nat) : Int) := by
  have e1 : IntKind.u64.wrap ((u : Int) * 2) = ((2 * u : Nat) : Int) := by rw [wrap_u64]; omega
  have e2 : IntKind.u64.wrap (b : Int) = ((b : Nat) : Int) := by rw [wrap_u64]; omega
  rw [e1, e2, bitsV_eq _ _ _ _ (.inr (.inl rfl)), u64_or_nat _ _ (by omega) (by omega), nat_join 1 _ _ (by omega) (by omega)]
theorem rd_and {c q : Nat} (hc : c < 256) : bitsV .and .u8 (((c / q : Nat)) : Int) 1 = ((c / q % 2 : Nat) : Int) := by
  rw [bitsV_eq _ _ _ _ (.inl rfl), show (1 : Int) = ((1 : Nat) : Int) from rfl, u8_and_nat _ _ (Nat.lt_of_le_of_lt (Nat.div_le_self _ _) hc) (by decide), nat_mask1]
/-- A bit of a number that is written. -/
theorem wr_and (c : Nat) : bitsV .and .u8 (IntKind.u8.wrap (c : Int)) 1 = ((c % 2 : Nat) : Int) := by
  have e1 : IntKind.u8.wrap (c : Int) = ((c % 256 : Nat) : Int) := by rw [IntKind.wrap_u8]; omega
  rw [e1, bitsV_eq _ _ _ _ (.inl rfl), show (1 : Int) = ((1 : Nat) : Int) from rfl, u8_and_nat _ _ (by omega) (by decide), nat_mask1]
  congr 1; omega
theorem wr_shl {b r : Nat} (hb : b < 2) (hr : r < 8) : IntKind.u8.wrap ((b : Int) * (2 : Int) ^ r) = ((b * 2 ^ r : Nat) : Int) := by
  have hp : (2 : Nat) ^ r ≤ 2 ^ 7 := Nat.pow_le_pow_right (by decide) (by omega)
  have h2 : b * 2 ^ r ≤ 1 * 2 ^ r := Nat.mul_le_mul_right _ (by omega)
  have e : ((b : Int) * (2 : Int) ^ r) = ((b * 2 ^ r : Nat) : Int) := by
    rw [Int.natCast_mul, Int.natCast_pow]; rfl
  rw [e, IntKind.wrap_u8]
  omega
theorem wr_or {a b r : Nat} (ha : a < 256) (hm : a % 2 ^ (r + 1) = 0) (hb : b < 2) (hr : r < 8) : bitsV .or .u8 (a : Int) ((b * 2 ^ r : Nat) : Int) = ((a + b * 2 ^ r : Nat) : Int) := by
  have hp : (2 : Nat) ^ r ≤ 2 ^ 7 := Nat.pow_le_pow_right (by decide) (by omega)
  have h2 : b * 2 ^ r ≤ 1 * 2 ^ r := Nat.mul_le_mul_right _ (by omega)
  have h3 : 0 < 2 ^ r := Nat.two_pow_pos r
  rw [bitsV_eq _ _ _ _ (.inr (.inl rfl)), u8_or_nat _ _ ha (by omega), nat_join (r + 1) _ _ hm (by rw [Nat.pow_succ]; omega)]
/-- A byte that has room for more. -/
theorem byteN_room {C : List Nat} (h : C.length < 8) : byteN C % 2 ^ (7 - C.length + 1) = 0 := by
  rw [byteN_eq, show 7 - C.length + 1 = 8 - C.length from by omega]
  exact Nat.mul_mod_left _ _
def bytA (s : List Nat) : List AV := s.map fun c => .si .u8 (Int.ofNat c)
theorem bytA_length (s : List Nat) : (bytA s).length = s.length := by simp [bytA]
theorem bytA_flat (s : List Nat) : (bytA s).all flat.flat1 = true := by
  rw [List.all_eq_true]; intro x hx
  simp only [bytA, List.mem_map] at hx
  obtain ⟨c, _, rfl⟩ := hx; rfl
theorem bytA_map (s : List Nat) : (bytA s).map mk = bytA s := by simp [bytA, mk]
end Go.Proofs.Ytpfflibkkjjlaaa
namespace Go.Proofs.Ytpfflibkkjjlaaa
open Go Go.RowKit Go.ChangeShapes Go.WideShapes
set_option maxRecDepth 20000
section
variable {H : Type} {enc : TypeId × Value → H} {P : Program} {W : World} {held : Bool}
/-- A row's cells, as they lie. -/
theorem open_cells {t e : TypeId} {ks : List Kd} {d c fuel : Nat} {v : Value} {D : DataW H} {ps : List MemPlace} (ht : P.underlying t = some (.slice e)) (hk : kdsT P d e = some ks) (hc : ks.length = c) (hc2 : P.cellsOf e = c) (hc0 : c ≠ 0)
    (hf : DataW.trod enc P W 0 (fun _ => true) held fuel t [v] = some (D, ps)) : ∃ (rows : List (List Value)), (∀ r ∈ rows, Prims (TrS enc P W 0 (fun _ => true) held) ks r ∧ r.length = c) ∧ (rows = [] ∨ ∃ E F, D = .slice ((List.range rows.length).map F) E) ∧ rows.length ≤ maxLen ∧
      ((rows = [] ∧ ∃ a C, v = .slice a 0 C ∧ (a = none → C = 0)) ∨ ∃ b off cap cc u fz, v = .slice (some ⟨b, off, none⟩) rows.length cap ∧ rows.length ≤ cap ∧ W.heap[b]? = some (.cells cc u fz) ∧ off + rows.length * c ≤ cc.size ∧ ∀ i a, rows.flatten[i]? = some a → cc[off + i]? = some a) := by
  rcases Go.Deep.open_slice ht hf with ⟨h0, h1⟩ | ⟨a, len, cap, m, n, Df, Pf, h1, _, hl, hm, hmm, hx, hel⟩
  · injection h0 with h0
    subst h0
    exact ⟨[], (fun r h => by cases h), .inl rfl, Nat.zero_le _, .inl ⟨rfl, none, 0, rfl, fun _ => rfl⟩⟩
  · injection h1 with h1
    subst h1
    have hmc : m = cap := hmm
    subst hmc
    by_cases hcap : len = 0
    · subst hcap
      exact ⟨[], (fun r h => by cases h), .inl rfl, Nat.zero_le _, .inl ⟨rfl, some a, m, rfl, fun q => by cases q⟩⟩
    · have hcells : ∀ i, i < m → ∃ cs', cs'.length = c ∧ Prims (TrS enc P W 0 (fun _ => true) held) ks cs' ∧ ∀ q, q < c → W.cell? ((a.add (i * c)).add q) = cs'[q]? := fun i hi => by
        obtain ⟨cs', g1, g2⟩ := hel i hi
        rw [hc2] at g1
        obtain ⟨_, g3, g4⟩ := World.cells?_some g1
        exact ⟨cs', g3, kds_trod d e ks n cs' _ hk g2, fun q hq => g4 q hq⟩
      obtain ⟨R, hR⟩ := Go.Deep.choose_lt hcells
      have hspot : a.spot = none ∧ ∃ cc u fz, W.heap[a.block]? = some (.cells cc u fz) := by
        obtain ⟨g1, _, g3⟩ := hR 0 (by omega)
        have g4 := g3 0 (by omega)
        rw [List.getElem?_eq_getElem (by omega)] at g4
        obtain ⟨cc, u, fz, g5, g6, _⟩ := cell_inv g4
        have e0 : (a.add (0 * c)).add 0 = a := by simp [Addr.add]
        rw [e0] at g5 g6
        exact ⟨g6, cc, u, fz, g5⟩
      obtain ⟨hs, cc, u, fz, hb⟩ := hspot
      obtain ⟨b, off, sp⟩ := a
      simp only at hs hb
      subst hs
      have hget : ∀ i q, i < m → q < c → cc[off + i * c + q]? = (R i)[q]? := fun i q hi hq => by
        have g := (hR i hi).2.2 q hq
        have e0 : ((⟨b, off, none⟩ : Addr).add (i * c)).add q = (⟨b, off, none⟩ : Addr).add (i * c + q) := Go.Deep.add_add _ _ _
        rw [e0, List.getElem?_eq_getElem (by rw [(hR i hi).1]; exact hq)] at g
        have := cell_at hb g
        rw [Nat.add_assoc, this, List.getElem?_eq_getElem (by rw [(hR i hi).1]; exact hq)]
      have hrl : ((List.range len).map R).length = len := by simp
      have hmem : ∀ r ∈ (List.range len).map R, ∃ i, i < len ∧ r = R i := fun r hr => by
        simp only [List.mem_map, List.mem_range] at hr
        obtain ⟨i, hi, rfl⟩ := hr
        exact ⟨i, hi, rfl⟩
      have hrc : ∀ r ∈ (List.range len).map R, r.length = c := fun r hr => by
        obtain ⟨i, hi, rfl⟩ := hmem r hr
        exact (hR i (by omega)).1
      have hfl := flat_len _ hrc
      rw [hrl] at hfl
      refine ⟨(List.range len).map R, fun r hr => ⟨?_, hrc r hr⟩, .inr ?_, ?_, .inr ⟨b, off, m, cc, u, fz, by rw [hrl], by rw [hrl]; exact hl, hb, ?_, fun i a hi => ?_⟩⟩
      · obtain ⟨i, hi, rfl⟩ := hmem r hr
        exact (hR i (by omega)).2.1
      · injection hx with hx _
        exact ⟨_, Df, by rw [hrl]; exact hx⟩
      · rw [hrl]; omega
      · rw [hrl]
        have g := hget (len - 1) (c - 1) (by omega) (by omega)
        rw [List.getElem?_eq_getElem (by rw [(hR _ (by omega)).1]; omega)] at g
        have := (Array.getElem?_eq_some_iff.1 g).1
        have e1 : (len - 1) * c + c = len * c := by rw [← Nat.succ_mul]; congr 1; omega
        omega
      · have hi2 := (List.getElem?_eq_some_iff.1 hi).1
        rw [hfl] at hi2
        have h0 := Nat.div_add_mod i c
        have hq := Nat.mod_lt i (Nat.pos_of_ne_zero hc0)
        have hj : i / c < len := (Nat.div_lt_iff_lt_mul (Nat.pos_of_ne_zero hc0)).2 hi2
        have ei : i = i / c * c + i % c := by rw [Nat.mul_comm]; omega
        rw [ei, flat_at _ hrc _ _ hq] at hi
        have e2 : ((List.range len).map R)[i / c]? = some (R (i / c)) := by simp [hj]
        rw [e2, Option.bind_some] at hi
        have := hget (i / c) (i % c) (by omega) hq
        rw [hi, Nat.add_assoc, ← ei] at this
        exact this
def phF (z : Fz → Prop) : Ph := ⟨fun _ => none, z, z⟩
/-- What is frozen when a law is called. -/
def Frozen (W : World) (z : Fz → Prop) : Prop := ∀ q, z q → FzR (phF z) (wholeHp W) q
theorem Frozen.none : Frozen W fun _ => False := fun _ h => h.elim
theorem Frozen.or {z y : Fz → Prop} (h : Frozen W z) (k : Frozen W y) : Frozen W fun q => z q ∨ y q := fun q hq => hq.elim (fun hq => FzR.mono (φ := phF z) (ψ := phF _) (fun _ h => Or.inl h) (h q hq)) fun hq => FzR.mono (φ := phF y) (ψ := phF _) (fun _ h => Or.inr h) (k q hq)
theorem HR.frs {z : Fz → Prop} (h : Frozen W z) : HR (phF z) .nil 0 (wholeHp W) (wholeHp W) :=
  ⟨fun _ _ h => (by cases h), fun _ _ h => (by cases h), fun _ _ _ _ _ _ h => (by cases h), fun b o h => ⟨(Array.getElem?_eq_some_iff.1 h).1, h⟩, Nat.le_refl _, fun q hq => ⟨⟨h q hq, .inl hq⟩, fun _ _ _ h => by cases h⟩⟩
/-- A row of flat cells, frozen. -/
theorem frz_row {b off cap m k : Nat} {cc : Array Value} {u : TypeId} {fz : Nat × Nat} {L : List AV} {vs : List Value} (hb : W.heap[b]? = some (.cells cc u fz)) (hcap : m ≤ cap) (hL : L.length = m * k) (hsz : off + m * k ≤ cc.size) (hst : L.all stab = true) {z : Fz → Prop} (hfz : z ⟨b, off, L⟩) (hv : VRs (phF z) L vs) (hcell : ∀ i a, vs[i]? = some a → cc[off + i]? = some a) :
    FzR (phF z) (wholeHp W) ⟨b, off, L⟩ ∧ ∀ χ : Ph, (∀ q, z q → χ.z q) → VR χ (.fr m k L) (.slice (some ⟨b, off, none⟩) m cap) := by
  refine ⟨⟨⟨(Array.getElem?_eq_some_iff.1 hb).1, hst⟩, cc, u, fz, hb, (show off + L.length ≤ cc.size by omega), fun i a e => ?_⟩, fun χ hχ => ?_⟩
  · obtain ⟨v, h1, h2⟩ := hv.at e
    exact ⟨v, hcell i v h1, h2⟩
  · have : VR χ (.fr m k L) (.slice (some ⟨(⟨b, off, L⟩ : Fz).B, (⟨b, off, L⟩ : Fz).s + 0, .none⟩) m cap) := .fr (q := ⟨b, off, L⟩) (o := 0) (hχ _ hfz) hcap (subL_all hL)
    exact this
theorem smp_vals {Tr : TypeId → Value → Prop} : ∀ {rows : List (List Value)}, (∀ r ∈ rows, Prims Tr [.int .i64, .int .i64] r) → ∀ φ : Ph, VRs φ (smp (rows.map pairOf)) rows.flatten
  | [], _, φ => .nil
  | r :: rows, h, φ => by
    obtain ⟨g1, g2⟩ := h r List.mem_cons_self
    match r, g1, g2 with
    | [v, w], _, g2 =>
      obtain ⟨a, rfl, ha⟩ := g2 0 _ v rfl rfl
      obtain ⟨b, rfl, hb⟩ := g2 1 _ w rfl rfl
      exact .cons (.si _ _) (.cons (.si _ _) (smp_vals (fun x hx => h x (List.mem_cons_of_mem _ hx)) φ))
/-- Samples, frozen. -/
theorem fr_samples {t e : TypeId} {d fuel : Nat} {v : Value} {D : DataW H} {ps : List MemPlace} (ht : P.underlying t = some (.slice e)) (hk : kdsT P d e = some [.int .i64, .int .i64]) (hc2 : P.cellsOf e = 2) (hf : DataW.trod enc P W 0 (fun _ => true) held fuel t [v] = some (D, ps)) :
    ∃ (L : Smp) (z : Fz → Prop), (∀ x ∈ L, In64 x.1 ∧ In64 x.2) ∧ Frozen W z ∧ (∀ χ : Ph, (∀ q, z q → χ.z q) → VR χ (.fr L.length 2 (smp L)) v) ∧ (L = [] ∨ ∃ E F, D = .slice ((List.range L.length).map F) E) ∧ L.length ≤ maxLen := by
  obtain ⟨rows, h1, h2, h3, h4⟩ := open_cells ht hk rfl hc2 (by decide) hf
  obtain ⟨_, g2⟩ := smp_rows fun r hr => (h1 r hr).1
  rcases h4 with ⟨rfl, a, C, rfl, hC⟩ | ⟨b, off, cap, cc, u, fz, rfl, hcap, hb, hsz, hcell⟩
  · exact ⟨[], fun _ => False, (fun x h => by cases h), .none, fun χ _ => .fre hC, .inl rfl, Nat.zero_le _⟩
  · have hst : (smp (rows.map pairOf)).all stab = true := by
      rw [List.all_eq_true]
      intro y hy
      have := List.all_eq_true.1 (smp_flat (rows.map pairOf)) y hy
      cases y <;> first | rfl | cases this
    obtain ⟨k1, k2⟩ := frz_row (m := rows.length) (k := 2) (L := smp (rows.map pairOf)) (z := fun q => q = ⟨b, off, smp (rows.map pairOf)⟩) hb hcap (by rw [smp_length, List.length_map]) hsz hst rfl (smp_vals (fun r hr => (h1 r hr).1) _) hcell
    exact ⟨rows.map pairOf, fun q => q = ⟨b, off, smp (rows.map pairOf)⟩, g2, fun q hq => by subst hq; exact k1, fun χ hχ => by rw [List.length_map]; exact k2 χ hχ, by rw [List.length_map]; exact h2.imp (fun q => by rw [q]; rfl) id, by rw [List.length_map]; exact h3⟩
/-- Rows of samples, frozen. -/
theorem arg_rows2 {t e e2 : TypeId} {d d2 : Nat} {v : Value} {D : DataW H} {ps : List MemPlace} (ht : P.underlying t = some (.slice e)) (hk : kdsT P d e = some [.sl e]) (hc2 : P.cellsOf e = 1) (ht2 : P.underlying e = some (.slice e2)) (hk2 : kdsT P d2 e2 = some [.int .i64, .int .i64]) (hc3 : P.cellsOf e2 = 2) (hcell : v.cells.toList = [v]) (hd : DataW.Trod enc P W 0 (fun _ => true) held t v D ps) :
    ∃ (X : List Smp) (z : Fz → Prop), (∀ L ∈ X, ∀ x ∈ L, In64 x.1 ∧ In64 x.2) ∧ Frozen W z ∧ (∀ χ : Ph, (∀ q, z q → χ.z q) → VR χ (.fr X.length 1 (X.map fun L => .fr L.length 2 (smp L))) v) ∧ (X = [] ∨ ∃ E F, D = .slice ((List.range X.length).map F) E) ∧ X.length ≤ maxLen := by
  obtain ⟨fuel, hf⟩ := hd
  rw [hcell] at hf
  obtain ⟨rows, h1, h2, h3, h4⟩ := open_cells ht hk rfl hc2 (Nat.one_ne_zero) hf
  rcases h4 with ⟨rfl, a, C, rfl, hC⟩ | ⟨b, off, cap, cc, u, fz, rfl, hcap, hb, hsz, hcel⟩
  · exact ⟨[], fun _ => False, (fun x h => by cases h), .none, fun χ _ => .fre hC, .inl rfl, Nat.zero_le _⟩
  · have inner : ∀ (R : List (List Value)), (∀ r ∈ R, Prims (TrS enc P W 0 (fun _ => true) held) [.sl e] r ∧ r.length = 1) → ∃ (X : List Smp) (z : Fz → Prop), X.length = R.length ∧ (∀ L ∈ X, ∀ x ∈ L, In64 x.1 ∧ In64 x.2) ∧ Frozen W z ∧ ∀ χ : Ph, (∀ q, z q → χ.z q) → VRs χ (X.map fun L => .fr L.length 2 (smp L)) R.flatten := fun R => by
      induction R with
      | nil => intro _; exact ⟨[], fun _ => False, rfl, (fun x h => by cases h), .none, fun χ _ => .nil⟩
      | cons r R ih =>
        intro hR
        obtain ⟨X, z, k1, k2, k3, k4⟩ := ih fun x hx => hR x (List.mem_cons_of_mem _ hx)
        obtain ⟨⟨_, g1⟩, g2⟩ := hR r List.mem_cons_self
        match r, g2, g1 with
        | [w], _, g1 =>
          obtain ⟨fuel2, ⟨D2, ps2⟩, hf2⟩ := g1 0 _ w rfl rfl
          obtain ⟨L, y, j1, j2, j3, _⟩ := fr_samples ht2 hk2 hc3 hf2
          refine ⟨L :: X, fun q => y q ∨ z q, by simp [k1], fun M hM => ?_, j2.or k3, fun χ hχ => .cons (j3 χ fun q hq => hχ q (.inl hq)) (k4 χ fun q hq => hχ q (.inr hq))⟩
          rcases List.mem_cons.1 hM with rfl | hM
          · exact j1
          · exact k2 M hM
    obtain ⟨X, z, k1, k2, k3, k4⟩ := inner rows h1
    have hX : (X.map fun L => (AV.fr L.length 2 (smp L))).length = rows.length * 1 := by simp [k1]
    obtain ⟨j1, j2⟩ := frz_row (m := rows.length) (k := 1) (L := X.map fun L => .fr L.length 2 (smp L)) (z := fun q => z q ∨ q = ⟨b, off, X.map fun L => .fr L.length 2 (smp L)⟩) hb hcap hX hsz (by simp [stab]) (.inr rfl) (k4 _ fun q hq => Or.inl hq) hcel
    refine ⟨X, fun q => z q ∨ q = ⟨b, off, X.map fun L => .fr L.length 2 (smp L)⟩, k2, fun q hq => ?_, fun χ hχ => by rw [k1]; exact j2 χ hχ, by rw [k1]; exact h2.imp (fun q => by rw [q] at k1; exact List.eq_nil_of_length_eq_zero k1) id, by rw [k1]; exact h3⟩
    rcases hq with hq | rfl
    · exact FzR.mono (φ := phF z) (ψ := phF _) (fun _ h => Or.inl h) (k3 q hq)
    · exact j1
/-- Texts, frozen. -/
theorem arg_texts {t e : TypeId} {d : Nat} {v : Value} {D : DataW H} {ps : List MemPlace} (ht : P.underlying t = some (.slice e)) (hk : kdsT P d e = some [.str]) (hc2 : P.cellsOf e = 1) (hcell : v.cells.toList = [v]) (hd : DataW.Trod enc P W 0 (fun _ => true) held t v D ps) :
    ∃ (V : List (List Nat)) (z : Fz → Prop), (∀ s ∈ V, (∀ x ∈ s, x < 256) ∧ s.length ≤ maxLen) ∧ Frozen W z ∧ (∀ χ : Ph, (∀ q, z q → χ.z q) → VR χ (.fr V.length 1 (V.map fun s => .ss s)) v) ∧ (V = [] ∨ ∃ E F, D = .slice ((List.range V.length).map F) E) ∧ V.length ≤ maxLen := by
  obtain ⟨fuel, hf⟩ := hd
  rw [hcell] at hf
  obtain ⟨rows, h1, h2, h3, h4⟩ := open_cells ht hk rfl hc2 (by decide) hf
  rcases h4 with ⟨rfl, a, C, rfl, hC⟩ | ⟨b, off, cap, cc, u, fz, rfl, hcap, hb, hsz, hcel⟩
  · exact ⟨[], fun _ => False, (fun x h => by cases h), .none, fun χ _ => .fre hC, .inl rfl, Nat.zero_le _⟩
  · have inner : ∀ (R : List (List Value)), (∀ r ∈ R, Prims (TrS enc P W 0 (fun _ => true) held) [.str] r ∧ r.length = 1) → ∃ (V : List (List Nat)), V.length = R.length ∧ (∀ s ∈ V, (∀ x ∈ s, x < 256) ∧ s.length ≤ maxLen) ∧ ∀ χ : Ph, VRs χ (V.map fun s => .ss s) R.flatten := fun R => by
      induction R with
      | nil => intro _; exact ⟨[], rfl, (fun x h => by cases h), fun χ => .nil⟩
      | cons r R ih =>
        intro hR
        obtain ⟨V, k1, k2, k3⟩ := ih fun x hx => hR x (List.mem_cons_of_mem _ hx)
        obtain ⟨⟨_, g1⟩, g2⟩ := hR r List.mem_cons_self
        match r, g2, g1 with
        | [w], _, g1 =>
          obtain ⟨s, rfl, hs⟩ := g1 0 _ w rfl rfl
          refine ⟨s.data.toList.map UInt8.toNat :: V, by simp [k1], fun x hx => ?_, fun χ => .cons (vr_string s) (k3 χ)⟩
          rcases List.mem_cons.1 hx with rfl | hx
          · refine ⟨fun y hy => ?_, by simp only [List.length_map, Array.length_toList]; exact hs⟩
            simp only [List.mem_map] at hy
            obtain ⟨c, _, rfl⟩ := hy
            exact c.toNat_lt
          · exact k2 x hx
    obtain ⟨V, k1, k2, k3⟩ := inner rows h1
    obtain ⟨j1, j2⟩ := frz_row (m := rows.length) (k := 1) (L := V.map fun s => .ss s) (z := fun q => q = ⟨b, off, V.map fun s => .ss s⟩) hb hcap (by simp [k1]) hsz (by simp [stab]) rfl (k3 _) hcel
    exact ⟨V, fun q => q = ⟨b, off, V.map fun s => .ss s⟩, k2, fun q hq => by subst hq; exact j1, fun χ hχ => by rw [k1]; exact j2 χ hχ, by rw [k1]; exact h2.imp (fun q => by rw [q] at k1; exact List.eq_nil_of_length_eq_zero k1) id, by rw [k1]; exact h3⟩
theorem slice_cells {b0 : Nat} {t e : TypeId} {v : Value} (ht : P.underlying t = some (.slice e)) (hval : Value.okWide P W .any b0 t v) : v.cells.toList = [v] := by
  rcases okWide_slice_at ht hval with rfl | ⟨b, off, len, cap, cc, u, fz, rfl, _⟩ <;> rfl
theorem sized_len2 {ts : List TypeId} {ds : List (DataW H)} (h : (DataW.weightsEach P ts ds).all (· ≤ reachBytes) = true) {j n : Nat} {t e : TypeId} {D : DataW H} (ht : ts[j]? = some t) (hd : ds[j]? = some D) (hD : n = 0 ∨ ∃ E F, D = .slice ((List.range n).map F) E) (hu : P.underlying t = some (.slice e)) (hb : 16 ≤ P.bytesOf e) : n ≤ 8796093022208 := by
  rcases hD with rfl | ⟨E, F, rfl⟩
  · omega
  · have := sized_slice h ht hd hu
    rw [List.length_map, List.length_range] at this
    unfold reachBytes at this
    have h2 : n * 16 ≤ n * P.bytesOf e := Nat.mul_le_mul_left n hb
    have h3 : n * P.bytesOf e ≤ (n + E.length) * P.bytesOf e := Nat.mul_le_mul_right _ (Nat.le_add_right _ _)
    omega
end
end Go.Proofs.Ytpfflibkkjjlaaa
namespace Go.Proofs.Ytpfflibkkjjlaaa
open Go Go.RowKit
inductive SubL (H : AH) (m : Nat) (r : Nat → Nat) : List AV → List AV → Prop where
  | nil : SubL H m r [] []
  | cons {a a' : AV} {l l' : List AV} (h : SubV H m r a a') (k : SubL H m r l l') : SubL H m r (a :: l) (a' :: l')
section
variable {H : AH} {m : Nat} {r : Nat → Nat}
theorem SubL.length : ∀ {l l' : List AV}, SubL H m r l l' → l.length = l'.length
  | _, _, .nil => rfl
  | _, _, .cons _ k => congrArg (· + 1) k.length
theorem SubL.at : ∀ {l l' : List AV}, SubL H m r l l' → ∀ (i : Nat) (a' : AV), l'[i]? = some a' → ∃ a, l[i]? = some a ∧ SubV H m r a a'
  | _, _, .nil, i, a', h => by simp at h
  | _, _, .cons (a := a) q k, 0, a', h => by
    simp only [List.getElem?_cons_zero, Option.some.injEq] at h
    subst h
    exact ⟨a, rfl, q⟩
  | _, _, .cons q k, i + 1, a', h => by
    obtain ⟨b, h1, h2⟩ := k.at i a' (by simpa using h)
    exact ⟨b, by simpa using h1, h2⟩
theorem SubO.st {l l' : List AV} {z : Bool} (h : SubL H m r l l') : SubO H m r (.cells l z) (.cells l' z) :=
  SubO.cells (by rw [h.length]; exact Nat.le_refl _) (fun q => q) h.at
end
mutual
theorem ren_flat1 (r : Nat → Nat) : ∀ a : AV, flat.flat1 a = true → ren r a = a
  | .int _ _, _ => rfl
  | .str _, _ => rfl
  | .bool _, _ => rfl
  | .nil, _ => rfl
  | .nsl, _ => rfl
  | .si _ _, _ => rfl
  | .sb _, _ => rfl
  | .ss _, _ => rfl
  | .any _, _ => rfl
  | .bad, h => rfl
  | .ptr _ _, h => by cases h
  | .sl _ _ _ _ _, h => by cases h
  | .esl _, h => by cases h
  | .agg _, h => by cases h
  | .tup _, h => by cases h
  | .fn _ _ _, h => by cases h
  | .map _, h => by cases h
  | .sy _ _ _ _ _, h => by cases h
  | .rw _ _ _ _ _, h => by cases h
  | .fr _ _ _, h => by rfl
  | .fa _ _, h => by rfl
end
theorem renL_flat (r : Nat → Nat) : ∀ l : List AV, l.all flat.flat1 = true → renL r l = l
  | [], _ => rfl
  | a :: l, h => by
    simp only [List.all_cons, Bool.and_eq_true] at h
    rw [renL, ren_flat1 r a h.1, renL_flat r l h.2]
theorem ltV_flat1 (m : Nat) : ∀ a : AV, flat.flat1 a = true → ltV m a = true
  | .int _ _, _ => rfl
  | .str _, _ => rfl
  | .bool _, _ => rfl
  | .nil, _ => rfl
  | .nsl, _ => rfl
  | .si _ _, _ => rfl
  | .sb _, _ => rfl
  | .ss _, _ => rfl
  | .any _, _ => rfl
  | .bad, h => rfl
  | .ptr _ _, h => by cases h
  | .sl _ _ _ _ _, h => by cases h
  | .esl _, h => by cases h
  | .agg _, h => by cases h
  | .tup _, h => by cases h
  | .fn _ _ _, h => by cases h
  | .map _, h => by cases h
  | .sy _ _ _ _ _, h => by cases h
  | .rw _ _ _ _ _, h => by cases h
  | .fr _ _ _, h => by rfl
  | .fa _ _, h => by rfl
theorem ltL_flat (m : Nat) : ∀ l : List AV, l.all flat.flat1 = true → ltL_ m l = true
  | [], _ => rfl
  | a :: l, h => by
    simp only [List.all_cons, Bool.and_eq_true] at h
    rw [ltL_, ltV_flat1 m a h.1, ltL_flat m l h.2]; rfl
theorem VR.mk_to {φ : Ph} {a a' : AV} {v : Value} (hf : Go.Proofs.Ytpfflibkkjjlaaa.flat.flat1 a' = true) (e : Go.Proofs.Ytpfflibkkjjlaaa.mk a = Go.Proofs.Ytpfflibkkjjlaaa.mk a') (h : VR φ a v) : VR φ a' v := by
  have h1 : VR φ (Go.Proofs.Ytpfflibkkjjlaaa.mk a') v := e ▸ h.mk
  have h2 : VR φ a' v := by cases a' <;> exact h1
  exact h2
/-- Flat cells in the form that is asked for. -/
theorem HR.remk {φ : Ph} {H : AH} {n : Nat} {h0 h : Hp} (hr : HR φ H n h0 h) {b : Nat} {l l' : List AV} {z : Bool} (hb : H.get b = some (.cells l z)) (hf : l'.all Go.Proofs.Ytpfflibkkjjlaaa.flat.flat1 = true) (e : l.map Go.Proofs.Ytpfflibkkjjlaaa.mk = l'.map Go.Proofs.Ytpfflibkkjjlaaa.mk) : HR φ (H.set (some (.cells l' z)) depthH b) n h0 h :=
  hr.recell hb (by have := congrArg List.length e; simp only [List.length_map] at this; omega) fun i a' hi => by
    have e := congrArg (fun x : List AV => x[i]?) e
    simp only [List.getElem?_map, hi, Option.map_some] at e
    rw [Option.map_eq_some_iff] at e
    obtain ⟨a, h1, h2⟩ := e
    exact ⟨a, h1, fun v hv => hv.mk_to (List.all_eq_true.1 hf a' (List.mem_of_getElem? hi)) h2⟩
end Go.Proofs.Ytpfflibkkjjlaaa
namespace Go.Proofs.Ytpfflibkkjjlaaa
open Go Go.RowKit
def Up (L : Smp) : Prop := L.Pairwise fun x y => x.1 < y.1
def plc : Smp → Int → Nat
  | [], _ => 0
  | x :: L, t => if x.1 < t then plc L t + 1 else 0
def has (L : Smp) (t : Int) : Bool := decide (plc L t < L.length ∧ tAt L (plc L t) = t)
def insF (L : Smp) (t v : Int) : Smp := L.take (plc L t) ++ (t, v) :: L.drop (plc L t)
def setF (L : Smp) (t v : Int) : Smp := L.set (plc L t) (t, v)
def mergeF (p old now : Int) : Int × Int :=
  if p = 1 then (0, 8) else if p = 2 then (old, 0) else if p = 3 then (now, 0) else if p = 4 then (min old now, 0) else if p = 5 then (max old now, 0)
  else if p = 6 then (if (0 ≤ now ∧ W64 (old + now) < old) ∨ (now < 0 ∧ old < W64 (old + now)) then (0, 9) else (W64 (old + now), 0)) else (0, 1)
def layF (size : Nat) (L M : Smp) : Smp × Int := if (encB M).length ≤ 8 * size then (M, 0) else (L, 2)
def putF (size : Nat) (L : Smp) (t v p : Int) : Smp × Int :=
  if t < 0 ∨ 1099511627776 ≤ t then (L, 1)
  else if has L t then (if (mergeF p (vAt L (plc L t)) v).2 ≠ 0 then (L, (mergeF p (vAt L (plc L t)) v).2) else layF size L (setF L t (mergeF p (vAt L (plc L t)) v).1))
  else layF size L (insF L t v)
def dropF (L : Smp) (a b : Int) : Smp := L.filter fun x => decide (x.1 < a) || decide (b < x.1)
def getF (L : Smp) (t : Int) : Int × Int := if has L t then (vAt L (plc L t), 0) else (0, 5)
/-! ### a time's place -/
theorem plc_le : ∀ (L : Smp) (t : Int), plc L t ≤ L.length
  | [], _ => Nat.le_refl _
  | x :: L, t => by
    unfold plc
    split
    · have := plc_le L t; simp only [List.length_cons]; omega
    · exact Nat.zero_le _
theorem plc_lt : ∀ {L : Smp} {t : Int} {j : Nat} (h : j < plc L t), tAt L j < t
  | [], t, j, h => by simp [plc] at h
  | x :: L, t, j, h => by
    unfold plc at h
    split at h
    · rename_i hx
      cases j with
      | zero => exact hx
      | succ j =>
        have := plc_lt (L := L) (t := t) (j := j) (by omega)
        simpa [tAt] using this
    · omega
theorem plc_at : ∀ {L : Smp} {t : Int} (_ : plc L t < L.length), t ≤ tAt L (plc L t)
  | [], t, h => by simp at h
  | x :: L, t, h => by
    unfold plc at h ⊢
    split
    · rename_i hx
      rw [if_pos hx] at h
      have := plc_at (L := L) (t := t) (by simpa using h)
      simpa [tAt] using this
    · rename_i hx
      show t ≤ x.1
      omega
theorem tAt_of {L : Smp} {i : Nat} (h : i < L.length) : tAt L i = L[i].1 := by simp [tAt, h]
theorem vAt_of {L : Smp} {i : Nat} (h : i < L.length) : vAt L i = L[i].2 := by simp [vAt, h]
theorem Up.lt {L : Smp} (h : Up L) {i j : Nat} (hi : i < j) (hj : j < L.length) : tAt L i < tAt L j := by
  rw [tAt_of hj, tAt_of (by omega)]
  exact List.pairwise_iff_getElem.1 h i j (by omega) hj hi
theorem Up.of {L : Smp} (h : ∀ i, i + 1 < L.length → tAt L i < tAt L (i + 1)) : Up L := by
  refine List.pairwise_iff_getElem.2 fun i j hi hj hij => ?_
  obtain ⟨k, rfl⟩ : ∃ k, j = i + 1 + k := ⟨j - (i + 1), by omega⟩
  clear hij
  rw [← tAt_of hi, ← tAt_of hj]
  induction k with
  | zero => exact h i hj
  | succ k ih => exact Int.lt_trans (ih (by omega)) (h (i + 1 + k) hj)
theorem has_iff {L : Smp} (h : Up L) (t : Int) : has L t = true ↔ ∃ x ∈ L, x.1 = t := by
  unfold has
  rw [decide_eq_true_eq]
  constructor
  · intro ⟨h1, h2⟩
    exact ⟨L[plc L t], List.getElem_mem h1, by rw [← tAt_of h1]; exact h2⟩
  · intro ⟨x, hx, hxt⟩
    obtain ⟨i, hi, rfl⟩ := List.mem_iff_getElem.1 hx
    rw [← tAt_of hi] at hxt
    have h1 : ¬ i < plc L t := fun q => by have := plc_lt q; omega
    have h2 : plc L t < L.length := by omega
    refine ⟨h2, ?_⟩
    have h3 := plc_at h2
    rcases Nat.lt_or_ge (plc L t) i with q | q
    · have := h.lt q hi; omega
    · have : i = plc L t := by omega
      rw [this] at hxt; exact hxt
theorem mem_val {L : Smp} (h : Up L) {t v w : Int} (h1 : (t, v) ∈ L) (h2 : (t, w) ∈ L) : v = w := by
  obtain ⟨i, hi, e1⟩ := List.mem_iff_getElem.1 h1
  obtain ⟨j, hj, e2⟩ := List.mem_iff_getElem.1 h2
  have a1 : tAt L i = t := by rw [tAt_of hi, e1]
  have a2 : tAt L j = t := by rw [tAt_of hj, e2]
  rcases Nat.lt_trichotomy i j with q | q | q
  · have := h.lt q hj; omega
  · subst q; rw [e1] at e2; exact congrArg (·.2) e2
  · have := h.lt q hi; omega
theorem has_mem {L : Smp} {t : Int} (h : has L t = true) : (t, vAt L (plc L t)) ∈ L := by
  unfold has at h
  rw [decide_eq_true_eq] at h
  have := List.getElem_mem h.1
  have e : L[plc L t] = (t, vAt L (plc L t)) := by
    rw [vAt_of h.1]
    refine Prod.ext ?_ rfl
    rw [← tAt_of h.1]; exact h.2
  rw [← e]; exact this
theorem no_has {L : Smp} (h : Up L) {t : Int} (hn : has L t = false) : ∀ x ∈ L, x.1 ≠ t := fun x hx e => by
  have := (has_iff h t).2 ⟨x, hx, e⟩
  rw [hn] at this; cases this
/-! ### what is put -/
theorem insF_len (L : Smp) (t v : Int) : (insF L t v).length = L.length + 1 := by
  have := plc_le L t
  simp [insF]; omega
theorem setF_len (L : Smp) (t v : Int) : (setF L t v).length = L.length := by simp [setF]
theorem insF_mem {L : Smp} {t v : Int} {x : Int × Int} : x ∈ insF L t v ↔ x = (t, v) ∨ x ∈ L := by
  unfold insF
  rw [List.mem_append, List.mem_cons]
  have := List.take_append_drop (plc L t) L
  constructor
  · rintro (h | h | h)
    · exact .inr (List.mem_of_mem_take h)
    · exact .inl h
    · exact .inr (List.mem_of_mem_drop h)
  · rintro (h | h)
    · exact .inr (.inl h)
    · rw [← this, List.mem_append] at h
      rcases h with h | h
      · exact .inl h
      · exact .inr (.inr h)
theorem insF_up {L : Smp} (h : Up L) {t : Int} (hn : has L t = false) (v : Int) : Up (insF L t v) := by
  have hle := plc_le L t
  refine .of fun i hi => ?_
  rw [insF_len] at hi
  have key : ∀ j, j < L.length + 1 → tAt (insF L t v) j = if j < plc L t then tAt L j else if j = plc L t then t else tAt L (j - 1) := fun j hj => by
    unfold tAt insF
    have hl : (L.take (plc L t)).length = plc L t := by simp; omega
    split
    · rename_i q
      rw [List.getElem?_append_left (by omega), List.getElem?_take, if_pos q]
    · rename_i q
      rw [List.getElem?_append_right (by omega), hl]
      split
      · rename_i q2; subst q2; simp
      · rename_i q2
        obtain ⟨m, rfl⟩ : ∃ m, j = plc L t + 1 + m := ⟨j - (plc L t + 1), by omega⟩
        rw [show plc L t + 1 + m - plc L t = m + 1 from by omega, List.getElem?_cons_succ, List.getElem?_drop, show plc L t + 1 + m - 1 = plc L t + m from by omega]
  rw [key i (by omega), key (i + 1) hi]
  have hp : plc L t < L.length → t < tAt L (plc L t) := fun q => by
    have h1 := plc_at q
    have h2 : tAt L (plc L t) ≠ t := fun e => by
      unfold has at hn
      rw [decide_eq_false_iff_not] at hn
      exact hn ⟨q, e⟩
    omega
  by_cases h1 : i + 1 < plc L t
  · rw [if_pos (by omega), if_pos h1]; exact h.lt (Nat.lt_succ_self i) (by omega)
  · rw [if_neg h1]
    by_cases h2 : i + 1 = plc L t
    · rw [if_pos h2, if_pos (by omega)]; exact plc_lt (by omega)
    · rw [if_neg h2]
      by_cases h3 : i = plc L t
      · rw [if_neg (by omega), if_pos h3, show i + 1 - 1 = plc L t from by omega]; exact hp (by omega)
      · rw [if_neg (by omega), if_neg h3]; exact h.lt (by omega) (by omega)
theorem setF_mem {L : Smp} (h : Up L) {t v : Int} (hh : has L t = true) {x : Int × Int} : x ∈ setF L t v ↔ x = (t, v) ∨ (x ∈ L ∧ x.1 ≠ t) := by
  have hh2 := hh
  unfold has at hh2
  rw [decide_eq_true_eq] at hh2
  obtain ⟨h1, h2⟩ := hh2
  unfold setF
  constructor
  · intro hx
    obtain ⟨i, hi, e⟩ := List.mem_iff_getElem.1 hx
    rw [List.length_set] at hi
    rw [List.getElem_set] at e
    split at e
    · exact .inl e.symm
    · rename_i q
      refine .inr ⟨by rw [← e]; exact List.getElem_mem hi, fun e2 => ?_⟩
      rw [← e, ← tAt_of hi] at e2
      rcases Nat.lt_or_gt_of_ne q with q | q
      · have := h.lt q hi; omega
      · have := h.lt q h1; omega
  · rintro (rfl | ⟨hx, hne⟩)
    · exact List.mem_iff_getElem.2 ⟨plc L t, by simpa using h1, by simp⟩
    · obtain ⟨i, hi, e⟩ := List.mem_iff_getElem.1 hx
      have : plc L t ≠ i := fun q => hne (by subst q; rw [← e, ← tAt_of hi]; exact h2)
      exact List.mem_iff_getElem.2 ⟨i, by simpa using hi, by rw [List.getElem_set_ne this]; exact e⟩
theorem setF_up {L : Smp} (h : Up L) {t v : Int} (hh : has L t = true) : Up (setF L t v) := by
  have hh2 := hh
  unfold has at hh2
  rw [decide_eq_true_eq] at hh2
  have key : ∀ j, tAt (setF L t v) j = tAt L j := fun j => by
    unfold setF tAt
    rw [List.getElem?_set]
    split
    · rename_i q
      subst q
      rw [if_pos hh2.1]
      have := hh2.2
      unfold tAt at this
      rw [this]; rfl
    · rfl
  refine .of fun i hi => ?_
  rw [setF_len] at hi
  rw [key, key]
  exact h.lt (Nat.lt_succ_self i) hi
/-! ### bounds -/
def Fine (L : Smp) : Prop := Up L ∧ (∀ x ∈ L, (0 ≤ x.1 ∧ x.1 < 1099511627776) ∧ In64 x.2) ∧ L.length ≤ 20000
theorem Fine.nil : Fine [] := ⟨List.Pairwise.nil, (fun x h => by cases h), Nat.zero_le _⟩
theorem Fine.in64 {L : Smp} (h : Fine L) : ∀ x ∈ L, In64 x.1 ∧ In64 x.2 := fun x hx => by
  obtain ⟨⟨h1, h2⟩, h3⟩ := h.2.1 x hx
  exact ⟨⟨by omega, by omega⟩, h3⟩
theorem Fine.sub {L M : Smp} (h : Fine L) (hs : M.Sublist L) : Fine M := ⟨h.1.sublist hs, fun x hx => h.2.1 x (hs.subset hx), Nat.le_trans hs.length_le h.2.2⟩
theorem encTo_ge (X : Smp) : ∀ i, 2 * i ≤ (encTo X i).length
  | 0 => Nat.zero_le _
  | i + 1 => by
    have h1 := encTo_ge X i
    have h2 : 2 ≤ (sampB X i).length := by
      unfold sampB
      split
      · simp [bitsOf_length]
      · rw [List.length_append]
        have := (codeB_len (dT X i)).2
        have := (codeB_len (dV X i)).2
        omega
    simp only [encTo, List.length_append]
    omega
theorem encB_ge (X : Smp) : 2 * X.length ≤ (encB X).length := encTo_ge X _
theorem W64_min {a b : Int} (h : In64 a) (k : In64 b) : In64 (min a b) := by
  rcases Int.le_total a b with q | q
  · rw [Int.min_eq_left q]; exact h
  · rw [Int.min_eq_right q]; exact k
theorem W64_max {a b : Int} (h : In64 a) (k : In64 b) : In64 (max a b) := by
  rcases Int.le_total a b with q | q
  · rw [Int.max_eq_right q]; exact k
  · rw [Int.max_eq_left q]; exact h
theorem mergeF_in {p a b : Int} (h : In64 a) (k : In64 b) : In64 (mergeF p a b).1 := by
  have z : In64 0 := ⟨by omega, by omega⟩
  unfold mergeF
  split; exact z
  split; exact h
  split; exact k
  split; exact W64_min h k
  split; exact W64_max h k
  split
  · split
    · exact z
    · exact W64_in _
  · exact z
theorem layF_fine {size : Nat} (hs : size ≤ 4096) {L M : Smp} (h : Fine L) (hu : Up M) (hm : ∀ x ∈ M, (0 ≤ x.1 ∧ x.1 < 1099511627776) ∧ In64 x.2) : Fine (layF size L M).1 := by
  unfold layF
  split
  · rename_i q
    have := encB_ge M
    exact ⟨hu, hm, by show M.length ≤ 20000; omega⟩
  · exact h
theorem putF_fine {size : Nat} (hs : size ≤ 4096) {L : Smp} (h : Fine L) {t v p : Int} (hv : In64 v) : Fine (putF size L t v p).1 := by
  unfold putF
  split
  · exact h
  · rename_i ht
    have ht : 0 ≤ t ∧ t < 1099511627776 := by omega
    split
    · rename_i hh
      have ho : In64 (vAt L (plc L t)) := (h.2.1 _ (has_mem hh)).2
      split
      · exact h
      · refine layF_fine hs h (setF_up h.1 hh) fun x hx => ?_
        rcases (setF_mem h.1 hh).1 hx with rfl | ⟨hx, _⟩
        · exact ⟨ht, mergeF_in ho hv⟩
        · exact h.2.1 x hx
    · rename_i hh
      have hh : has L t = false := by simpa using hh
      refine layF_fine hs h (insF_up h.1 hh v) fun x hx => ?_
      rcases insF_mem.1 hx with rfl | hx
      · exact ⟨ht, hv⟩
      · exact h.2.1 x hx
theorem dropF_fine {L : Smp} (h : Fine L) (a b : Int) : Fine (dropF L a b) := h.sub List.filter_sublist
/-! ### what was put last is there -/
def Held (L : Smp) (t v : Int) (is : Bool) : Prop := match is with
  | true => (t, v) ∈ L
  | false => ∀ x ∈ L, x.1 ≠ t
theorem put_held {size : Nat} {L : Smp} (h : Fine L) {t v s w : Int} {is : Bool} (hk : Held L t v is) : ((putF size L s w 3).2 = 0 → s = t → Held (putF size L s w 3).1 t w true) ∧ (¬ ((putF size L s w 3).2 = 0 ∧ s = t) → Held (putF size L s w 3).1 t v is) := by
  have m3 : ∀ a, mergeF 3 a w = (w, 0) := fun a => rfl
  have other : ∀ M : Smp, (∀ x, x.1 ≠ s → (x ∈ M ↔ x ∈ L)) → s ≠ t → Held M t v is := fun M hM hst => by
    cases is with
    | true => exact (hM (t, v) (fun e => hst e.symm)).2 hk
    | false => exact fun x hx e => hk x ((hM x (by rw [e]; exact fun q => hst q.symm)).1 hx) e
  unfold putF
  by_cases ht : s < 0 ∨ 1099511627776 ≤ s
  · rw [if_pos ht]
    exact ⟨fun q => absurd q (by simp), fun _ => hk⟩
  · rw [if_neg ht]
    by_cases hh : has L s = true
    · rw [if_pos hh, m3, if_neg (by simp)]
      unfold layF
      split
      · refine ⟨fun _ e => ?_, fun q => ?_⟩
        · subst e; exact (setF_mem h.1 hh).2 (.inl rfl)
        · have hst : s ≠ t := fun e => q ⟨rfl, e⟩
          refine other _ (fun x hx => ?_) hst
          rw [setF_mem h.1 hh]
          exact ⟨fun q => q.elim (fun e => absurd (by rw [e]) hx) (·.1), fun q => .inr ⟨q, hx⟩⟩
      · exact ⟨fun q => absurd q (by simp), fun _ => hk⟩
    · rw [if_neg hh]
      unfold layF
      split
      · refine ⟨fun _ e => ?_, fun q => ?_⟩
        · subst e; exact insF_mem.2 (.inl rfl)
        · have hst : s ≠ t := fun e => q ⟨rfl, e⟩
          refine other _ (fun x hx => ?_) hst
          rw [insF_mem]
          exact ⟨fun q => q.elim (fun e => absurd (by rw [e]) hx) id, fun q => .inr q⟩
      · exact ⟨fun q => absurd q (by simp), fun _ => hk⟩
theorem drop_held {L : Smp} {t v a b : Int} {is : Bool} (hk : Held L t v is) : Held (dropF L a b) t v (is && (decide (t < a) || decide (b < t))) := by
  cases is with
  | false => exact fun x hx => hk x (List.mem_filter.1 hx).1
  | true =>
    cases hd : (decide (t < a) || decide (b < t)) with
    | true => exact List.mem_filter.2 ⟨hk, hd⟩
    | false =>
      intro x hx e
      have := (List.mem_filter.1 hx).2
      rw [e, hd] at this; cases this
theorem get_held {L : Smp} (h : Fine L) {t v : Int} {is : Bool} (hk : Held L t v is) : ((getF L t).2 = 0 ↔ is = true) ∧ (is = true → (getF L t).1 = v) := by
  unfold getF
  cases is with
  | true =>
    have hh : has L t = true := (has_iff h.1 t).2 ⟨(t, v), hk, rfl⟩
    rw [if_pos hh]
    exact ⟨by simp, fun _ => mem_val h.1 (has_mem hh) hk⟩
  | false =>
    have hh : ¬ has L t = true := fun q => by
      obtain ⟨x, hx, e⟩ := (has_iff h.1 t).1 q
      exact hk x hx e
    rw [if_neg hh]
    exact ⟨by simp, fun q => by cases q⟩
/-! ### room for seven -/
theorem encB_len7 {L : Smp} (h : L.length ≤ 7) : (encB L).length ≤ 944 := by
  have key : ∀ i, (encTo L (i + 1)).length ≤ 128 + 136 * i := fun i => by
    induction i with
    | zero => simp [encTo, sampB, bitsOf_length]
    | succ i ih =>
      show (encTo L (i + 1) ++ sampB L (i + 1)).length ≤ _
      rw [List.length_append]
      have h2 : (sampB L (i + 1)).length ≤ 136 := by
        unfold sampB
        rw [if_neg (by omega), List.length_append]
        have := (codeB_len (dT L (i + 1))).1
        have := (codeB_len (dV L (i + 1))).1
        omega
      omega
  unfold encB
  cases hl : L.length with
  | zero => simp [encTo]
  | succ k => have := key k; omega
/-- What comes of a sample that may not be there yet. -/
theorem hold_law {size : Nat} {L : Smp} (h : Fine L) (hs : 128 ≤ size) (hu : (encB L).length ≤ 8 * size) (t v : Int) :
    ¬ ((putF size L t v 1).2 = 2 ∧ (L.length < 7 ∨ (getF L t).2 = 0)) ∧ ((putF size L t v 1).2 ≠ 0 → (putF size L t v 1).1 = L) ∧ ((putF size L t v 1).2 = 0 → (putF size L t v 1).1.length = L.length + 1) ∧
    ((putF size L t v 1).2 = 8 ↔ ((getF L t).2 = 0 ∧ 0 ≤ t ∧ t < 1099511627776)) ∧ ((putF size L t v 1).2 = 1 ↔ (t < 0 ∨ 1099511627776 ≤ t)) ∧ (encB (putF size L t v 1).1).length ≤ 8 * size := by
  have m1 : ∀ a, mergeF 1 a v = (0, 8) := fun a => rfl
  unfold putF getF
  by_cases ht : t < 0 ∨ 1099511627776 ≤ t
  · rw [if_pos ht]
    exact ⟨fun q => absurd q.1 (by simp), fun _ => rfl, fun q => absurd q (by simp), ⟨fun q => absurd q (by simp), fun q => by omega⟩, ⟨fun _ => ht, fun _ => rfl⟩, hu⟩
  · rw [if_neg ht]
    by_cases hh : has L t = true
    · rw [if_pos hh, m1, if_pos (by decide), if_pos hh]
      exact ⟨fun q => absurd q.1 (by simp), fun _ => rfl, fun q => absurd q (by simp), ⟨fun _ => ⟨rfl, by omega⟩, fun _ => rfl⟩, ⟨fun q => absurd q (by simp), fun q => absurd q ht⟩, hu⟩
    · rw [if_neg hh, if_neg hh]
      unfold layF
      split
      · rename_i q
        exact ⟨fun q => absurd q.1 (by simp), fun q => absurd rfl q, fun _ => insF_len L t v, ⟨fun q => absurd q (by simp), fun q => absurd q.1 (by simp)⟩, ⟨fun q => absurd q (by simp), fun q => absurd q ht⟩, q⟩
      · rename_i q
        refine ⟨fun q2 => ?_, fun _ => rfl, fun q => absurd q (by simp), ⟨fun q => absurd q (by simp), fun q => absurd q.1 (by simp)⟩, ⟨fun q => absurd q (by simp), fun q => absurd q ht⟩, hu⟩
        rcases q2.2 with q3 | q3
        · have := encB_len7 (L := insF L t v) (by rw [insF_len]; omega)
          omega
        · exact absurd q3 (by simp)
/-! ### two chunks -/
def lastT (L : Smp) : Int := tAt L (L.length - 1)
def meetF (L M : Smp) : Bool := decide (L ≠ []) && decide (M ≠ []) && decide (tAt M 0 ≤ lastT L)
def joinF (size : Nat) (L M : Smp) : (Smp × Smp) × Int := if meetF L M then ((L, M), 1) else if (encB (L ++ M)).length ≤ 8 * size then ((L ++ M, []), 0) else ((L, M), 2)
theorem join_fine {size : Nat} (hs : size ≤ 4096) {L M : Smp} (h : Fine L) (k : Fine M) : Fine (joinF size L M).1.1 ∧ Fine (joinF size L M).1.2 := by
  unfold joinF
  split
  · exact ⟨h, k⟩
  · rename_i hm
    split
    · rename_i hq
      refine ⟨⟨.of fun i hi => ?_, fun x hx => ?_, ?_⟩, .nil⟩
      · rw [List.length_append] at hi
        have a1 : ∀ j, j < L.length → tAt (L ++ M) j = tAt L j := fun j hj => by simp [tAt, List.getElem?_append_left hj]
        have a2 : ∀ j, L.length ≤ j → tAt (L ++ M) j = tAt M (j - L.length) := fun j hj => by simp [tAt, List.getElem?_append_right hj]
        by_cases h1 : i + 1 < L.length
        · rw [a1 i (by omega), a1 _ h1]; exact h.1.lt (Nat.lt_succ_self i) h1
        · rw [a2 (i + 1) (by omega)]
          by_cases h2 : i + 1 = L.length
          · rw [a1 i (by omega), show i + 1 - L.length = 0 from by omega]
            have hL : L ≠ [] := fun q => by subst q; simp at h2
            have hM : M ≠ [] := fun q => by subst q; simp at hi; omega
            have : ¬ tAt M 0 ≤ lastT L := fun q => hm (by simp [meetF, hL, hM, q])
            unfold lastT at this
            rw [show L.length - 1 = i from by omega] at this
            omega
          · rw [a2 i (by omega), show i + 1 - L.length = i - L.length + 1 from by omega]
            exact k.1.lt (Nat.lt_succ_self _) (by omega)
      · rcases List.mem_append.1 hx with hx | hx
        · exact h.2.1 x hx
        · exact k.2.1 x hx
      · have := encB_ge (L ++ M); show (L ++ M).length ≤ 20000; omega
    · exact ⟨h, k⟩
end Go.Proofs.Ytpfflibkkjjlaaa
namespace Go.Proofs.Ytpfflibkkjjlaaa
open Go Go.RowKit
def Recast (H : AH) (n : Nat) (H' : AH) (n' : Nat) : Prop := ∀ (φ : Ph) (h0 h : Hp), HR φ H n h0 h → HR φ H' n' h0 h
def VTo (u v : AV) : Prop := ∀ (φ : Ph) (w : Value), VR φ u w → VR φ v w
theorem Recast.refl (H : AH) (n : Nat) : Recast H n H n := fun _ _ _ h => h
theorem Recast.trans {H1 H2 H3 : AH} {n1 n2 n3 : Nat} (h : Recast H1 n1 H2 n2) (k : Recast H2 n2 H3 n3) : Recast H1 n1 H3 n3 := fun φ h0 hp q => k φ h0 hp (h φ h0 hp q)
theorem Recast.remk {H : AH} {n b : Nat} {l l' : List AV} {z : Bool} (hb : H.get b = some (.cells l z)) (hf : l'.all flat.flat1 = true) (e : l.map Go.Proofs.Ytpfflibkkjjlaaa.mk = l'.map Go.Proofs.Ytpfflibkkjjlaaa.mk) : Recast H n (H.set (some (.cells l' z)) depthH b) n := fun _ _ _ hr => hr.remk hb hf e
theorem Recast.kill (H : AH) (n b : Nat) : Recast H n (H.set none depthH b) n := fun _ _ _ hr => hr.kill depthH b
theorem VTo.refl (u : AV) : VTo u u := fun _ _ h => h
theorem VTo.flat {u v : AV} (hv : Go.Proofs.Ytpfflibkkjjlaaa.flat v = true) (e : mkT u = mkT v) : VTo u (mkT v) := fun φ w h => flat_VR (φ := φ) (flat_mkT hv) (e ▸ h.mkT)
def post (g : List AV → AH → Nat → PK → Prop) (args : List AV) (H : AH) (n : Nat) (κ : PK) : Prop := g args H n fun u H' n' => ∃ v H2 n2, VTo u v ∧ Recast H' n' H2 n2 ∧ κ v H2 n2
theorem NatP.post {f : FuncId} {g : List AV → AH → Nat → PK → Prop} (hg : NatP f g) : NatP f (post g) := fun args H n κ hs φ h0 h vs K hr ha hk => hg args H n _ hs φ h0 h vs K hr ha fun ψ u H' n' w g' hle hg' hu ⟨v, H2, n2, h1, h2, h3⟩ => hk ψ v H2 n2 w g' hle (h2 _ _ _ hg') (h1 _ _ hu) h3
/-! ### bytes -/
theorem bytA_at {s : List Nat} {i : Nat} (h : i < s.length) : (bytA s)[i]? = some (.si .u8 (Int.ofNat s[i])) := by
  unfold bytA
  rw [List.getElem?_map, List.getElem?_eq_getElem h]; rfl
theorem setL_one : ∀ (l : List AV) (o : Nat) (x : AV), o < l.length → setL l o [x] = some (l.set o x)
  | [], o, x, h => by simp at h
  | y :: l, 0, x, _ => by cases l <;> simp [setL]
  | y :: l, o + 1, x, h => by simp [setL, setL_one l o x (by simpa using h)]
theorem bytA_set (s : List Nat) (o : Nat) (c : Nat) : (bytA s).set o (.si .u8 (Int.ofNat c)) = bytA (s.set o c) := by simp [bytA, List.map_set]
theorem bytA_app (s t : List Nat) : bytA (s ++ t) = bytA s ++ bytA t := by simp [bytA]
theorem ebytes_bytA {s : List Nat} (h : ∀ x ∈ s, x < 256) : ebytes (bytA s) = some s := ebytes_map h
/-- Bytes' cells, told in any way. -/
theorem ebytes_mk : ∀ {l : List AV} {s : List Nat}, l.map mk = bytA s → (∀ x ∈ s, x < 256) → bytA s = l → ebytes l = some s := fun e h q => q ▸ ebytes_bytA h
/-- How far a bit is moved. -/
def shN (N : Nat) : Nat := 7 - N % 8
theorem sh_eq (N : Nat) : IntKind.i64.wrap (7 - ((N : Nat) : Int).tmod 8) = ((shN N : Nat) : Int) := by
  have h : ((N : Nat) : Int).tmod 8 = ((N % 8 : Nat) : Int) := by
    rw [Int.tmod_eq_emod_of_nonneg (Int.natCast_nonneg _)]; rfl
  rw [h]
  have := Nat.mod_lt N (show 8 > 0 by decide)
  unfold shN
  rw [IntKind.wrap_i64]; omega
theorem sh_pow (N : Nat) : min (IntKind.i64.wrap (7 - ((N : Nat) : Int).tmod 8)).toNat 8 = shN N := by
  rw [sh_eq]; unfold shN; simp; omega
theorem div_eq (N : Nat) (h : N ≤ 9223372036854775807) : IntKind.i64.wrap (((N : Nat) : Int).tdiv 8) = ((N / 8 : Nat) : Int) := by
  have e : ((N : Nat) : Int).tdiv 8 = ((N / 8 : Nat) : Int) := by
    rw [Int.tdiv_eq_ediv_of_nonneg (Int.natCast_nonneg _)]; rfl
  rw [e, IntKind.wrap_i64]; omega
theorem tmod0 (N : Nat) : (((N : Nat) : Int).tmod 8 = 0) ↔ N % 8 = 0 := by
  have h : ((N : Nat) : Int).tmod 8 = ((N % 8 : Nat) : Int) := by
    rw [Int.tmod_eq_emod_of_nonneg (Int.natCast_nonneg _)]; rfl
  rw [h]; omega
theorem fdiv_pow (U m : Nat) : ((U : Nat) : Int).fdiv ((2 : Int) ^ m) = ((U / 2 ^ m : Nat) : Int) := by
  have : ((2 : Int) ^ m) = ((2 ^ m : Nat) : Int) := by rw [Int.natCast_pow]; rfl
  rw [this, fdiv_nat]
/-- A bit of the number. -/
theorem bit_eq {U m : Nat} {i : Int} (hi : i = (m : Int)) (hm : m < 64) : bitsV .and .u8 (IntKind.u8.wrap (((U : Nat) : Int).fdiv ((2 : Int) ^ min i.toNat 64))) 1 = ((U / 2 ^ m % 2 : Nat) : Int) := by
  subst hi
  rw [show min (Int.toNat (m : Int)) 64 = m from by simp; omega, fdiv_pow, wr_and]
theorem wrU (x : Int) (b : Nat) (hb : b < 2) (hx : x = (b : Int)) (N : Nat) : IntKind.u8.wrap (x * (2 : Int) ^ min (IntKind.i64.wrap (7 - ((N : Nat) : Int).tmod 8)).toNat 8) = ((b * 2 ^ shN N : Nat) : Int) := by
  subst hx
  rw [sh_pow]
  exact wr_shl hb (by unfold shN; omega)
/-- A bit more, in a new byte. -/
theorem one_new {B : List Nat} {x : Int} {b : Nat} (hb : b < 2) (hx : x = (b : Int)) (h8 : B.length % 8 = 0) {o : Nat} (ho : o = B.length / 8) :
    setL (bytA (pack B) ++ [.int .u8 0]) o [.si .u8 (bitsV .or .u8 0 (IntKind.u8.wrap (x * (2 : Int) ^ min (IntKind.i64.wrap (7 - ((B.length : Nat) : Int).tmod 8)).toNat 8)))] = some (bytA (pack (B ++ [b]))) := by
  have hl : (bytA (pack B)).length = B.length / 8 := by rw [bytA_length, pack_length]; omega
  have hs : shN B.length = 7 := by unfold shN; omega
  rw [setL_one _ _ _ (by simp [hl, ho]), wrU x b hb hx, hs, pack_new h8, bytA_app]
  have e : bitsV .or .u8 0 ((b * 2 ^ 7 : Nat) : Int) = Int.ofNat (b * 2 ^ 7) := by
    have := wr_or (a := 0) (b := b) (r := 7) (by decide) (by decide) hb (by decide)
    rw [Nat.zero_add] at this
    exact this
  rw [e, List.set_append_right _ _ (by omega), hl, ho, Nat.sub_self]
  rfl
theorem new_at {B : List Nat} (h8 : B.length % 8 = 0) {o : Nat} (ho : o = B.length / 8) : nth (bytA (pack B) ++ [.int .u8 0]) o = some (.int .u8 0) := by
  have hl : (bytA (pack B)).length = B.length / 8 := by rw [bytA_length, pack_length]; omega
  rw [nth_eq, List.getElem?_append_right (by omega), hl, ho, Nat.sub_self]; rfl
/-- .. in the last byte. -/
theorem old_at {B : List Nat} (h8 : B.length % 8 ≠ 0) {o : Nat} (ho : o = B.length / 8) : nth (bytA (pack B)) o = some (.si .u8 (Int.ofNat (byteN (B.drop (8 * (B.length / 8)))))) := by
  have hp := pack_at B (B.length / 8) (by omega)
  have hl : B.length / 8 < (pack B).length := by rw [pack_length]; omega
  rw [nth_eq, ho, bytA_at hl]
  rw [List.getElem?_eq_getElem hl] at hp
  injection hp with hp
  rw [hp, List.take_of_length_le (by rw [List.length_drop]; omega)]
theorem one_old {B : List Nat} {x : Int} {b : Nat} (hB : Bits B) (hb : b < 2) (hx : x = (b : Int)) (h8 : B.length % 8 ≠ 0) {o : Nat} (ho : o = B.length / 8) :
    setL (bytA (pack B)) o [.si .u8 (bitsV .or .u8 (Int.ofNat (byteN (B.drop (8 * (B.length / 8))))) (IntKind.u8.wrap (x * (2 : Int) ^ min (IntKind.i64.wrap (7 - ((B.length : Nat) : Int).tmod 8)).toNat 8)))] = some (bytA (pack (B ++ [b]))) := by
  have hl : B.length / 8 < (bytA (pack B)).length := by rw [bytA_length, pack_length]; omega
  have hd : (B.drop (8 * (B.length / 8))).length = B.length % 8 := by rw [List.length_drop]; omega
  have hd8 : (B.drop (8 * (B.length / 8))).length < 8 := by rw [hd]; exact Nat.mod_lt _ (by decide)
  have hc := byteN_lt (C := B.drop (8 * (B.length / 8))) (fun c hc => hB c (List.mem_of_mem_drop hc)) (by omega)
  have hr := byteN_room hd8
  have hs : shN B.length = 7 - (B.drop (8 * (B.length / 8))).length := by rw [hd]; rfl
  rw [setL_one _ _ _ (by omega), wrU x b hb hx, pack_or h8, hs, ← bytA_set, ho]
  have e := wr_or (a := byteN (B.drop (8 * (B.length / 8)))) (b := b) (r := 7 - (B.drop (8 * (B.length / 8))).length) hc hr hb (by omega)
  rw [show (Int.ofNat (byteN (B.drop (8 * (B.length / 8))))) = ((byteN (B.drop (8 * (B.length / 8))) : Nat) : Int) from rfl, e, hd]
  rfl
/-! ### a bit read -/
theorem rd_bit {s : List Nat} (hs : ∀ x ∈ s, x < 256) {a c : Nat} (hc : nth s (a / 8) = some c) : bitsV .and .u8 ((Int.ofNat c).fdiv ((2 : Int) ^ min (IntKind.i64.wrap (7 - ((a : Nat) : Int).tmod 8)).toNat 8)) 1 = ((rdBit s a : Nat) : Int) := by
  rw [nth_eq] at hc
  have hc2 : c < 256 := hs c (List.mem_of_getElem? hc)
  rw [sh_pow, show (Int.ofNat c) = ((c : Nat) : Int) from rfl, fdiv_pow, rd_and hc2]
  unfold rdBit shN
  rw [hc]; rfl
theorem rd_step {s : List Nat} (hs : ∀ x ∈ s, x < 256) {a c u : Nat} (hc : nth s (a / 8) = some c) (hu : u < 9223372036854775808) :
    bitsV .or .u64 (IntKind.u64.wrap (((u : Nat) : Int) * 2)) (IntKind.u64.wrap (bitsV .and .u8 ((Int.ofNat c).fdiv ((2 : Int) ^ min (IntKind.i64.wrap (7 - ((a : Nat) : Int).tmod 8)).toNat 8)) 1)) = ((2 * u + rdBit s a : Nat) : Int) := by
  rw [rd_bit hs hc]
  exact rd_or hu (Nat.mod_lt _ (by decide))
theorem rdBits_app (s : List Nat) (a i j : Nat) : rdBits s a (i + j) = rdBits s a i ++ rdBits s (a + i) j := by
  unfold rdBits
  rw [List.range_add, List.map_append, List.map_map]
  congr 1
  exact List.map_congr_left fun k _ => by simp [Nat.add_assoc]
theorem rdBits_lt (s : List Nat) (a : Nat) {j : Nat} (h : j ≤ 63) : numB 0 (rdBits s a j) < 9223372036854775808 := by
  have := numB_lt _ (rdBits_bits s a j)
  rw [rdBits_length] at this
  have h2 : 2 ^ j ≤ 2 ^ 63 := Nat.pow_le_pow_right (by decide) h
  omega
/-! ### a sample told again -/
theorem w64_eq (x : Int) : W64 x = (x + 9223372036854775808) % 18446744073709551616 - 9223372036854775808 := by
  show IntKind.i64.wrap x = _
  rw [IntKind.wrap_i64]
theorem W64_add_sub (a d : Int) : W64 (a + W64 (W64 d - a)) = W64 d := by
  simp only [w64_eq]; omega
theorem W64_back {a b : Int} (h : In64 b) : W64 (a + W64 (b - a)) = b := by
  have := h.1; have := h.2
  simp only [w64_eq]; omega
theorem dec_step (X : Smp) {i : Nat} (h : i ≠ 0) : W64 (stepAt X i + zagI (dT X i)) = stepAt X (i + 1) := by
  unfold dT
  rw [zag_zig, W64_add_sub]
  unfold stepAt
  rw [if_neg (by omega)]
  congr 2
theorem dec_T {X : Smp} {i : Nat} (h : i ≠ 0) (hx : In64 (tAt X i)) : W64 (tAt X (i - 1) + stepAt X (i + 1)) = tAt X i := by
  unfold stepAt
  rw [if_neg (by omega), show i + 1 - 1 = i from rfl, show i + 1 - 2 = i - 1 from by omega]
  exact W64_back hx
theorem dec_V {X : Smp} {i : Nat} (hx : In64 (vAt X i)) : W64 (vAt X (i - 1) + zagI (dV X i)) = vAt X i := by
  unfold dV
  rw [zag_zig]
  exact W64_back hx
theorem dT_lt (X : Smp) (i : Nat) : dT X i < 18446744073709551616 := zig_lt (W64_in _)
theorem dV_lt (X : Smp) (i : Nat) : dV X i < 18446744073709551616 := zig_lt (W64_in _)
theorem tAt_in {X : Smp} (h : ∀ x ∈ X, In64 x.1 ∧ In64 x.2) (i : Nat) : In64 (tAt X i) ∧ In64 (vAt X i) := by
  unfold tAt vAt
  cases e : X[i]? with
  | none => exact ⟨⟨by decide, by decide⟩, ⟨by decide, by decide⟩⟩
  | some x => exact h x (List.mem_of_getElem? e)
end Go.Proofs.Ytpfflibkkjjlaaa
namespace Go.Proofs.Ytpfflibkkjjlaaa
open Go Go.RowKit
set_option maxRecDepth 20000
theorem SubV.fnp {H : AH} {m : Nat} {r : Nat → Nat} {a : AV} {f b o : Nat} (hb : b < m) (e : a = .fn f [.ptr (r b) o] []) : SubV H m r a (.fn f [.ptr b o] []) := fun φ ψ v hr _ hv => by
  subst e
  obtain ⟨xs, cs, rfl, h1, h2⟩ := hv.fn_inv
  obtain ⟨x, l, e1, h3, h4⟩ := h1.cons_inv
  obtain ⟨p, h5, rfl⟩ := h3.ptr_inv
  refine .fn ?_ (by rw [h2.nil_inv]; exact .nil)
  rw [e1, h4.nil_inv]
  exact .cons (.ptr (by rw [hr.1 b hb]; exact h5)) .nil
def wStr (c : Nat) (B : List Nat) : List AV := [.rw c 0 (pack B).length 1 0, .si .i64 ((B.length : Nat) : Int)]
noncomputable def wSet (H : AH) (n b c : Nat) (B : List Nat) : AH := ((H.set (some (.cells (bytA (pack B)) true)) depthH n).set none depthH c).set (some (.cells (wStr n B) true)) depthH b
/-- A number's bits, written. -/
def natWPut (args : List AV) (H : AH) (n : Nat) (κ : PK) : Prop := match args with
  | [x, u, m] => ∃ (b c U k : Nat) (B : List Nat), x = .ptr b 0 ∧ b ≠ c ∧ b < n ∧ c < n ∧ H.get b = some (.cells (wStr c B) true) ∧ H.get c = some (.cells (bytA (pack B)) true) ∧ Bits B ∧ mk u = .si .u64 (U : Int) ∧ mk m = .si .i64 (k : Int) ∧ k ≤ 64 ∧ U < 2 ^ k ∧ B.length ≤ 100000000 ∧
      κ (.int .i64 0) (wSet H n b c (B ++ bitsOf U k)) (n + 1)
  | _ => False
theorem bitsOf_cons (U k : Nat) : bitsOf U (k + 1) = [U / 2 ^ k % 2] ++ bitsOf U k := rfl
noncomputable def wc (U : Nat) (D : List Nat) (k : Nat) : AE × AH := (mkE [(0, .si .u64 ((U : Nat) : Int)), (2, .fn 61 [.ptr 0 0] []), (6, .si .i64 (((k : Nat) : Int) - 1))], mkH [(0, .cells (wStr 2 D) true), (2, .cells (bytA ((pack D))) true)])
theorem wc_cov {U : Nat} {D : List Nat} {k : Nat} {p n : Nat} {σ : AE} {H : AH} (j2 : Nat) (hj : j2 ≠ 0) (hp : p ≤ 2) (e0 : SubV H 3 (fun b => if b = 2 then j2 else b) (getq (pa 0) σ) (.si .u64 ((U : Nat) : Int))) (e2 : SubV H 3 (fun b => if b = 2 then j2 else b) (getq (pa 2) σ) (.fn 61 [.ptr 0 0] [])) (e6 : mk (getq (pa 6) σ) = .si .i64 (((k : Nat) : Int) - 1)) (h0 : ∃ l, H.get 0 = some (.cells l true) ∧ SubL H 3 (fun b => if b = 2 then j2 else b) l (wStr 2 D)) (h2 : (∃ l, H.get j2 = some (.cells l true) ∧ l.map mk = bytA ((pack D))) ∨ (((pack D)) = [] ∧ n ≤ j2)) : Cov p σ H n ((wc U D k).1, (wc U D k).2, 3) := by
  refine Cov.ofR (fun b => if b = 2 then j2 else b) (by omega) (fun b hb => by repeat' rw [if_neg (by omega)]) ?_ ?_ ?_
  · intro x hx
    simp only [List.mem_cons, List.not_mem_nil, or_false] at hx
    rcases hx with rfl | rfl | rfl
    · exact e0
    · exact e2
    · exact .int e6
  · intro x hx
    simp only [List.mem_cons, List.not_mem_nil, or_false] at hx
    rcases hx with rfl | rfl
    · exact ⟨by simp, .inl (h0.elim fun l h => ⟨_, h.1, SubO.st h.2⟩)⟩
    · exact ⟨by simp, h2.elim (fun ⟨l, h, g⟩ => .inl ⟨_, h, SubO.cells_mk (bytA_flat _) (by rw [g, bytA_map]) (fun q => q)⟩) (fun h => .inr ⟨by rw [h.1]; rfl, h.2⟩)⟩
  · intro x hx y hy
    simp only [List.mem_cons, List.not_mem_nil, or_false] at hx hy
    rcases hx with rfl | rfl <;> rcases hy with rfl | rfl <;> simp <;> omega
noncomputable def KW : FuncId → EP := withD 61 [] evP
theorem KW_ok : TabP KW := withD_ok evP_ok (by kernel_rfl) (by kernel_rfl)
theorem shr_zero {U k : Nat} (hk : k ≤ 64) (hd : U / 2 ^ k = 0) : ¬ 0 < ((U : Nat) : Int).fdiv ((2 : Int) ^ min (Int.toNat (k : Int)) IntKind.u64.bits) := by
  rw [show min (Int.toNat (k : Int)) IntKind.u64.bits = k from by show min k 64 = k; omega, fdiv_pow, hd]; decide
theorem tyB : RTy 86 86 1 1 := ⟨_, _, _, rfl, rfl, (fun q h => by cases h), rfl, rfl, rfl, rfl, by decide, by decide⟩
set_option maxHeartbeats 4000000 in
set_option maxRecDepth 100000 in
theorem wput_run (B : List Nat) (U k : Nat) (hB : Bits B) (hk : k ≤ 64) (hU : U < 2 ^ k) (hl : B.length ≤ 100000000) : callT KW 5 49 [.ptr 0 0, .si .u64 (U : Int), .si .i64 (k : Int)] (mkH [(0, .cells (wStr 1 B) true), (1, .cells (bytA (pack B)) true)]) 2
    fun u H' _ => u = .int .i64 0 ∧ H'.get 0 = some (.cells (wStr 2 (B ++ bitsOf U k)) true) ∧ H'.get 2 = some (.cells (bytA (pack (B ++ bitsOf U k))) true) := by
  have hdiv : U / 2 ^ k = 0 := Nat.div_eq_of_lt hU
  have hkw : IntKind.i64.wrap ((k : Int) - 1) = (k : Int) - 1 := W64_of ⟨by omega, by omega⟩
  conv => whnf
  refine Fork.dec (fun h => absurd h (by omega)) (fun _ => ?_)
  conv => whnf
  refine Fork.dec (fun h => absurd h (by omega)) (fun _ => ?_)
  conv => whnf
  refine Fork.dec (fun h64 => ?_) (fun h64 => ?_)
  · conv => whnf
    refine ⟨by omega, ?_⟩
    conv => whnf
    refine Fork.dec (fun h => absurd h (shr_zero hk hdiv)) (fun _ => ?_)
    conv => whnf
    refine LoopP.mk { t : List Nat × Nat // t.1 ++ bitsOf U t.2 = B ++ bitsOf U k ∧ Bits t.1 ∧ t.2 ≤ k ∧ t.1.length + t.2 = B.length + k } 3 (fun t => wc U t.val.1 t.val.2) (fun t => t.val.2) ⟨(B, k), rfl, hB, Nat.le_refl _, rfl⟩ ?_ ?_
    · exact wc_cov (j2 := 1) (by decide) (Nat.le_refl 2) (.int rfl) (.fnp (by decide) rfl) (congrArg (AV.si .i64) hkw) ⟨_, rfl, .cons (SubV.rw (by decide) rfl) (.cons (.int rfl) .nil)⟩ (.inl ⟨_, rfl, bytA_map _⟩)
    · intro ⟨(D, m), he, hD, hm, hlen⟩
      dsimp only at he hD hm hlen
      have hDl : D.length ≤ 100000064 := by omega
      have hDp : (pack D).length ≤ 100000000 := by rw [pack_length]; omega
      cases m with
      | zero =>
        conv => whnf
        refine Fork.dec (fun h1 => absurd h1 (by show ¬ (0 : Int) ≤ ((0 : Nat) : Int) - 1; omega)) (fun _ => ?_)
        conv => whnf
        have e : D = B ++ bitsOf U k := by simpa [bitsOf] using he
        subst e
        exact ⟨rfl, rfl, rfl⟩
      | succ m =>
        have hb2 : U / 2 ^ m % 2 < 2 := Nat.mod_lt _ (by decide)
        have hi0 : 0 ≤ ((m + 1 : Nat) : Int) - 1 := by omega
        have hi : ((m + 1 : Nat) : Int) - 1 = (m : Int) := by omega
        have hbit := bit_eq (U := U) hi (by omega)
        have hiw : IntKind.i64.wrap (((m + 1 : Nat) : Int) - 1 - 1) = ((m : Nat) : Int) - 1 := (congrArg IntKind.i64.wrap (congrArg (· - 1) hi)).trans (W64_of ⟨by omega, by omega⟩)
        have hnw : IntKind.i64.wrap ((D.length : Int) + 1) = (((D ++ [U / 2 ^ m % 2]).length : Nat) : Int) := by rw [List.length_append, List.length_singleton]; exact W64_of ⟨by omega, by omega⟩
        have hq := div_eq D.length (by omega)
        have hsh0 : 0 ≤ IntKind.i64.wrap (7 - (D.length : Int).tmod 8) := by rw [sh_eq]; omega
        have hrow : subL (bytA (pack D)) 0 ((pack D).length * 1) = some (bytA (pack D)) := subL_all (by rw [bytA_length, Nat.mul_one])
        have hnext : (D ++ [U / 2 ^ m % 2]) ++ bitsOf U m = B ++ bitsOf U k := by rw [List.append_assoc, ← bitsOf_cons]; exact he
        have hbig : ((pack D).length + 1) * 1 ≤ 140737488355328 := by omega
        have hDn : Bits (D ++ [U / 2 ^ m % 2]) := hD.app (.one hb2)
        conv => whnf
        refine Fork.dec (fun _ => ?_) (fun h1 => absurd hi0 h1)
        conv => whnf
        refine ⟨hi0, ?_⟩
        conv => whnf
        refine Fork.dec (fun h8 => ?_) (fun h8 => ?_)
        · have h8 := (tmod0 _).1 h8
          have hpl : (pack (D ++ [U / 2 ^ m % 2])).length = (pack D).length + 1 := by rw [pack_new h8]; simp
          have ho : 0 + D.length / 8 * 1 = D.length / 8 := by omega
          have hix : D.length / 8 < (pack D).length + 1 := by rw [pack_length]; omega
          conv => whnf
          refine RApp.grow 1 1 _ _ _ _ _ _ tyB (.old rfl) rfl rfl (.rw rfl hrow) hbig ?_
          conv => whnf
          refine Idx.mk (D.length / 8) hq hix ?_
          conv => whnf
          refine optP_of (new_at h8 ho) ?_
          conv => whnf
          refine ⟨hsh0, ?_⟩
          conv => whnf
          refine Idx.mk (D.length / 8) hq hix ?_
          conv => whnf
          refine optP_of (one_new hb2 hbit h8 ho) ?_
          conv => whnf
          refine ⟨⟨(D ++ [U / 2 ^ m % 2], m), hnext, hDn, by omega, by simp; omega⟩, Nat.lt_succ_self m, wc_cov (j2 := 4) (by decide) (Nat.le_refl 2) (.int rfl) (.fnp (by decide) rfl) (congrArg (AV.si .i64) hiw) ⟨_, rfl, .cons (SubV.rw (by decide) rfl (hn := hpl.symm)) (.cons (.int (congrArg (AV.si .i64) hnw)) .nil)⟩ (.inl ⟨_, rfl, bytA_map _⟩)⟩
        · have h8 : D.length % 8 ≠ 0 := fun q => h8 ((tmod0 _).2 q)
          have hpl : (pack (D ++ [U / 2 ^ m % 2])).length = (pack D).length := by rw [pack_length, pack_length]; simp; omega
          have ho : 0 + D.length / 8 * 1 = D.length / 8 := by omega
          have hix : D.length / 8 < (pack D).length := by rw [pack_length]; omega
          conv => whnf
          refine Idx.mk (D.length / 8) hq hix ?_
          conv => whnf
          refine optP_of (old_at h8 ho) ?_
          conv => whnf
          refine ⟨hsh0, ?_⟩
          conv => whnf
          refine Idx.mk (D.length / 8) hq hix ?_
          conv => whnf
          refine optP_of (one_old hD hb2 hbit h8 ho) ?_
          conv => whnf
          refine ⟨⟨(D ++ [U / 2 ^ m % 2], m), hnext, hDn, by omega, by simp; omega⟩, Nat.lt_succ_self m, wc_cov (j2 := 2) (by decide) (Nat.le_refl 2) (.int rfl) (.fnp (by decide) rfl) (congrArg (AV.si .i64) hiw) ⟨_, rfl, .cons (SubV.rw (by decide) rfl (hn := hpl.symm)) (.cons (.int (congrArg (AV.si .i64) hnw)) .nil)⟩ (.inl ⟨_, rfl, bytA_map _⟩)⟩
  · conv => whnf
    refine LoopP.mk { t : List Nat × Nat // t.1 ++ bitsOf U t.2 = B ++ bitsOf U k ∧ Bits t.1 ∧ t.2 ≤ k ∧ t.1.length + t.2 = B.length + k } 3 (fun t => wc U t.val.1 t.val.2) (fun t => t.val.2) ⟨(B, k), rfl, hB, Nat.le_refl _, rfl⟩ ?_ ?_
    · exact wc_cov (j2 := 1) (by decide) (Nat.le_refl 2) (.int rfl) (.fnp (by decide) rfl) (congrArg (AV.si .i64) hkw) ⟨_, rfl, .cons (SubV.rw (by decide) rfl) (.cons (.int rfl) .nil)⟩ (.inl ⟨_, rfl, bytA_map _⟩)
    · intro ⟨(D, m), he, hD, hm, hlen⟩
      dsimp only at he hD hm hlen
      have hDl : D.length ≤ 100000064 := by omega
      have hDp : (pack D).length ≤ 100000000 := by rw [pack_length]; omega
      cases m with
      | zero =>
        conv => whnf
        refine Fork.dec (fun h1 => absurd h1 (by show ¬ (0 : Int) ≤ ((0 : Nat) : Int) - 1; omega)) (fun _ => ?_)
        conv => whnf
        have e : D = B ++ bitsOf U k := by simpa [bitsOf] using he
        subst e
        exact ⟨rfl, rfl, rfl⟩
      | succ m =>
        have hb2 : U / 2 ^ m % 2 < 2 := Nat.mod_lt _ (by decide)
        have hi0 : 0 ≤ ((m + 1 : Nat) : Int) - 1 := by omega
        have hi : ((m + 1 : Nat) : Int) - 1 = (m : Int) := by omega
        have hbit := bit_eq (U := U) hi (by omega)
        have hiw : IntKind.i64.wrap (((m + 1 : Nat) : Int) - 1 - 1) = ((m : Nat) : Int) - 1 := (congrArg IntKind.i64.wrap (congrArg (· - 1) hi)).trans (W64_of ⟨by omega, by omega⟩)
        have hnw : IntKind.i64.wrap ((D.length : Int) + 1) = (((D ++ [U / 2 ^ m % 2]).length : Nat) : Int) := by rw [List.length_append, List.length_singleton]; exact W64_of ⟨by omega, by omega⟩
        have hq := div_eq D.length (by omega)
        have hsh0 : 0 ≤ IntKind.i64.wrap (7 - (D.length : Int).tmod 8) := by rw [sh_eq]; omega
        have hrow : subL (bytA (pack D)) 0 ((pack D).length * 1) = some (bytA (pack D)) := subL_all (by rw [bytA_length, Nat.mul_one])
        have hnext : (D ++ [U / 2 ^ m % 2]) ++ bitsOf U m = B ++ bitsOf U k := by rw [List.append_assoc, ← bitsOf_cons]; exact he
        have hbig : ((pack D).length + 1) * 1 ≤ 140737488355328 := by omega
        have hDn : Bits (D ++ [U / 2 ^ m % 2]) := hD.app (.one hb2)
        conv => whnf
        refine Fork.dec (fun _ => ?_) (fun h1 => absurd hi0 h1)
        conv => whnf
        refine ⟨hi0, ?_⟩
        conv => whnf
        refine Fork.dec (fun h8 => ?_) (fun h8 => ?_)
        · have h8 := (tmod0 _).1 h8
          have hpl : (pack (D ++ [U / 2 ^ m % 2])).length = (pack D).length + 1 := by rw [pack_new h8]; simp
          have ho : 0 + D.length / 8 * 1 = D.length / 8 := by omega
          have hix : D.length / 8 < (pack D).length + 1 := by rw [pack_length]; omega
          conv => whnf
          refine RApp.grow 1 1 _ _ _ _ _ _ tyB (.old rfl) rfl rfl (.rw rfl hrow) hbig ?_
          conv => whnf
          refine Idx.mk (D.length / 8) hq hix ?_
          conv => whnf
          refine optP_of (new_at h8 ho) ?_
          conv => whnf
          refine ⟨hsh0, ?_⟩
          conv => whnf
          refine Idx.mk (D.length / 8) hq hix ?_
          conv => whnf
          refine optP_of (one_new hb2 hbit h8 ho) ?_
          conv => whnf
          refine ⟨⟨(D ++ [U / 2 ^ m % 2], m), hnext, hDn, by omega, by simp; omega⟩, Nat.lt_succ_self m, wc_cov (j2 := 4) (by decide) (Nat.le_refl 2) (.int rfl) (.fnp (by decide) rfl) (congrArg (AV.si .i64) hiw) ⟨_, rfl, .cons (SubV.rw (by decide) rfl (hn := hpl.symm)) (.cons (.int (congrArg (AV.si .i64) hnw)) .nil)⟩ (.inl ⟨_, rfl, bytA_map _⟩)⟩
        · have h8 : D.length % 8 ≠ 0 := fun q => h8 ((tmod0 _).2 q)
          have hpl : (pack (D ++ [U / 2 ^ m % 2])).length = (pack D).length := by rw [pack_length, pack_length]; simp; omega
          have ho : 0 + D.length / 8 * 1 = D.length / 8 := by omega
          have hix : D.length / 8 < (pack D).length := by rw [pack_length]; omega
          conv => whnf
          refine Idx.mk (D.length / 8) hq hix ?_
          conv => whnf
          refine optP_of (old_at h8 ho) ?_
          conv => whnf
          refine ⟨hsh0, ?_⟩
          conv => whnf
          refine Idx.mk (D.length / 8) hq hix ?_
          conv => whnf
          refine optP_of (one_old hD hb2 hbit h8 ho) ?_
          conv => whnf
          refine ⟨⟨(D ++ [U / 2 ^ m % 2], m), hnext, hDn, by omega, by simp; omega⟩, Nat.lt_succ_self m, wc_cov (j2 := 2) (by decide) (Nat.le_refl 2) (.int rfl) (.fnp (by decide) rfl) (congrArg (AV.si .i64) hiw) ⟨_, rfl, .cons (SubV.rw (by decide) rfl (hn := hpl.symm)) (.cons (.int (congrArg (AV.si .i64) hnw)) .nil)⟩ (.inl ⟨_, rfl, bytA_map _⟩)⟩
end Go.Proofs.Ytpfflibkkjjlaaa
namespace Go.Proofs.Ytpfflibkkjjlaaa
open Go Go.RowKit
set_option maxRecDepth 20000
theorem hands1 {H : AH} {n b : Nat} {o : AO} (hb : b < n) (h : H.get b = some (renO (nmOf [b] n) o)) (hv : o.void = false ∨ o.own = true) : Hands H n [b] [o] := ⟨by simp, rfl, fun i s q h1 h2 => by
  match i, h1, h2 with
  | 0, h1, h2 => injection h1 with h1; injection h2 with h2; subst h1 h2; exact ⟨hb, h, hv⟩⟩
theorem hands2 {H : AH} {n b c : Nat} {o q : AO} (hbc : b ≠ c) (hb : b < n) (hc : c < n) (h : H.get b = some (renO (nmOf [b, c] n) o)) (k : H.get c = some (renO (nmOf [b, c] n) q)) (hv : o.void = false ∨ o.own = true) (kv : q.void = false ∨ q.own = true) : Hands H n [b, c] [o, q] :=
  ⟨by simp [hbc], rfl, fun i s r h1 h2 => by
    match i, h1, h2 with
    | 0, h1, h2 => injection h1 with h1; injection h2 with h2; subst h1 h2; exact ⟨hb, h, hv⟩
    | 1, h1, h2 => injection h1 with h1; injection h2 with h2; subst h1 h2; exact ⟨hc, k, kv⟩⟩
theorem wStr_ren (r : Nat → Nat) (c : Nat) (B : List Nat) : renL r (wStr c B) = wStr (r c) B := rfl
theorem bytA_ren (r : Nat → Nat) (s : List Nat) : renL r (bytA s) = bytA s := renL_flat r _ (bytA_flat s)
theorem put3 (H : AH) (n b c : Nat) (B : List Nat) : putH [b, c] n H [(0, some (.cells (wStr 2 B) true)), (1, none), (2, some (.cells (bytA (pack B)) true))] = wSet H n b c B := by
  simp only [putH, Option.map_some, Option.map_none, renO, wStr_ren, bytA_ren]
  rfl
theorem n_wput : NatP 49 natWPut := fun args H n κ hs φ h0' hp vs K hr hargs hk => by
  unfold natWPut at hs
  split at hs
  · obtain ⟨x, y, z, rfl, e1, e2, e3⟩ := vs3 hargs
    obtain ⟨b, c, U, k, B, rfl, hbc, hbn, hcn, hb, hc, hB, hu, hm, hk64, hU, hl, hs⟩ := hs
    refine framed (S := [b, c]) (O := [.cells (wStr 1 B) true, .cells (bytA (pack B)) true]) (args0 := [.ptr 0 0, .si .u64 (U : Int), .si .i64 (k : Int)]) (callT_nat KW_ok 5 _) (by kernel_rfl) hr
      (hands2 hbc hbn hcn (by rw [renO, wStr_ren]; exact hb) (by rw [renO, bytA_ren]; exact hc) (.inr rfl) (.inr rfl)) ?_ hk (wput_run B U k hB hk64 hU hl) fun u H' n' ⟨h1, h2, h3⟩ => ?_
    · exact .cons e1 (.cons (by have := e2.mk; rw [hu] at this; exact this) (.cons (by have := e3.mk; rw [hm] at this; exact this) .nil))
    · subst h1
      refine ⟨3, putH [b, c] n H [(0, some (.cells (wStr 2 (B ++ bitsOf U k)) true)), (1, none), (2, some (.cells (bytA (pack (B ++ bitsOf U k))) true))], Nat.le_succ 2, After.put (Nat.le_succ 2) rfl (fun x hx o ho => ?_), rfl, ?_⟩
      · simp only [List.mem_cons, List.not_mem_nil, or_false] at hx
        rcases hx with rfl | rfl | rfl
        · injection ho with ho; subst ho; exact ⟨h2, rfl, rfl⟩
        · cases ho
        · injection ho with ho; subst ho; exact ⟨h3, rfl, ltL_flat _ _ (bytA_flat _)⟩
      · rw [put3]; exact hs
  · exact hs.elim
/-! ### a number's code -/
noncomputable def KP1 : FuncId → EP := withN 49 natWPut evP
theorem KP1_ok : TabP KP1 := withN_ok evP_ok n_wput
theorem shr_no {U : Nat} {w : Int} {m : Nat} (hw : min w.toNat IntKind.u64.bits = m) (h : U / 2 ^ m = 0) : ¬ 0 < ((U : Nat) : Int).fdiv ((2 : Int) ^ min w.toNat IntKind.u64.bits) := by
  rw [hw, fdiv_pow, h]; decide
theorem shr_yes {U : Nat} {w : Int} {m : Nat} (hw : min w.toNat IntKind.u64.bits = m) (h : U / 2 ^ m ≠ 0) : ¬ ¬ 0 < ((U : Nat) : Int).fdiv ((2 : Int) ^ min w.toNat IntKind.u64.bits) := by
  rw [hw, fdiv_pow]; exact not_not_intro (Int.natCast_pos.2 (Nat.pos_of_ne_zero h))
set_option maxHeartbeats 4000000 in
set_option maxRecDepth 100000 in
theorem dput_run (B : List Nat) (U : Nat) (hB : Bits B) (hU : U < 18446744073709551616) (hl : B.length ≤ 99999000) : callT KP1 3 50 [.ptr 0 0, .si .u64 (U : Int)] (mkH [(0, .cells (wStr 1 B) true), (1, .cells (bytA (pack B)) true)]) 2
    fun u H' _ => u = .int .i64 0 ∧ ∃ B', B' = B ++ codeB U ∧ H'.get 0 = some (.cells (wStr 6 B') true) ∧ H'.get 6 = some (.cells (bytA (pack B')) true) := by
  have d0 : U ≠ 0 → U / 2 ^ 0 ≠ 0 := fun h => by simpa using h
  have d1 : ¬ U < 128 → U / 2 ^ 7 ≠ 0 := fun h => Nat.ne_of_gt (Nat.div_pos (by show 128 ≤ U; omega) (by decide))
  have d2 : ¬ U < 4096 → U / 2 ^ 12 ≠ 0 := fun h => Nat.ne_of_gt (Nat.div_pos (by show 4096 ≤ U; omega) (by decide))
  have d3 : ¬ U < 16777216 → U / 2 ^ 24 ≠ 0 := fun h => Nat.ne_of_gt (Nat.div_pos (by show 16777216 ≤ U; omega) (by decide))
  have z0 : U = 0 → U / 2 ^ 0 = 0 := fun h => by simp [h]
  have z1 : U < 128 → U / 2 ^ 7 = 0 := fun h => Nat.div_eq_of_lt h
  have z2 : U < 4096 → U / 2 ^ 12 = 0 := fun h => Nat.div_eq_of_lt h
  have z3 : U < 16777216 → U / 2 ^ 24 = 0 := fun h => Nat.div_eq_of_lt h
  by_cases c0 : U = 0
  · have hc : (B ++ bitsOf 0 1) ++ bitsOf U 0 = B ++ codeB U := by
      rw [List.append_assoc]; congr 1; unfold codeB
      rw [if_pos c0]; rfl
    have hb1 : Bits (B ++ bitsOf 0 1) := hB.app (bitsOf_bits _ _)
    have hl1 : (B ++ bitsOf 0 1).length ≤ 100000000 := by rw [List.length_append, bitsOf_length]; omega
    have hl0 : B.length ≤ 100000000 := by omega
    have hu1 : U < 2 ^ 0 := by subst c0; decide
    conv => whnf
    refine LoopP.roll 6 ?_
    conv => whnf
    refine Fork.dec (fun h => absurd h (shr_no (m := 0) rfl (z0 c0))) (fun _ => ?_)
    conv => whnf
    refine ⟨0, 1, 0, 1, B, rfl, by decide, by decide, by decide, rfl, rfl, hB, rfl, rfl, by decide, by decide, hl0, ?_⟩
    conv => whnf
    refine ⟨0, _, U, 0, B ++ bitsOf 0 1, rfl, ?_, by decide, ?_, rfl, rfl, hb1, rfl, rfl, by decide, hu1, hl1, ?_⟩
    · decide
    · decide
    conv => whnf
    exact ⟨rfl, _, hc, rfl, rfl⟩
  · skip
    by_cases c1 : U < 128
    · have hc : (B ++ bitsOf 2 2) ++ bitsOf U 7 = B ++ codeB U := by
        rw [List.append_assoc]; congr 1; unfold codeB
        rw [if_neg c0, if_pos c1]; rfl
      have hb1 : Bits (B ++ bitsOf 2 2) := hB.app (bitsOf_bits _ _)
      have hl1 : (B ++ bitsOf 2 2).length ≤ 100000000 := by rw [List.length_append, bitsOf_length]; omega
      have hl0 : B.length ≤ 100000000 := by omega
      have hu1 : U < 2 ^ 7 := by omega
      conv => whnf
      refine LoopP.roll 6 ?_
      conv => whnf
      refine Fork.dec (fun _ => ?_) (fun h => absurd h (shr_yes (m := 0) rfl (d0 c0)))
      conv => whnf
      refine Fork.dec (fun h => absurd h (shr_no (m := 7) rfl (z1 c1))) (fun _ => ?_)
      conv => whnf
      refine ⟨0, 1, 2, 2, B, rfl, by decide, by decide, by decide, rfl, rfl, hB, rfl, rfl, by decide, by decide, hl0, ?_⟩
      conv => whnf
      refine ⟨0, _, U, 7, B ++ bitsOf 2 2, rfl, ?_, by decide, ?_, rfl, rfl, hb1, rfl, rfl, by decide, hu1, hl1, ?_⟩
      · decide
      · decide
      conv => whnf
      exact ⟨rfl, _, hc, rfl, rfl⟩
    · skip
      by_cases c2 : U < 4096
      · have hc : (B ++ bitsOf 6 3) ++ bitsOf U 12 = B ++ codeB U := by
          rw [List.append_assoc]; congr 1; unfold codeB
          rw [if_neg c0, if_neg c1, if_pos c2]; rfl
        have hb1 : Bits (B ++ bitsOf 6 3) := hB.app (bitsOf_bits _ _)
        have hl1 : (B ++ bitsOf 6 3).length ≤ 100000000 := by rw [List.length_append, bitsOf_length]; omega
        have hl0 : B.length ≤ 100000000 := by omega
        have hu1 : U < 2 ^ 12 := by omega
        conv => whnf
        refine LoopP.roll 6 ?_
        conv => whnf
        refine Fork.dec (fun _ => ?_) (fun h => absurd h (shr_yes (m := 0) rfl (d0 c0)))
        conv => whnf
        refine Fork.dec (fun _ => ?_) (fun h => absurd h (shr_yes (m := 7) rfl (d1 c1)))
        conv => whnf
        refine Fork.dec (fun h => absurd h (shr_no (m := 12) rfl (z2 c2))) (fun _ => ?_)
        conv => whnf
        refine ⟨0, 1, 6, 3, B, rfl, by decide, by decide, by decide, rfl, rfl, hB, rfl, rfl, by decide, by decide, hl0, ?_⟩
        conv => whnf
        refine ⟨0, _, U, 12, B ++ bitsOf 6 3, rfl, ?_, by decide, ?_, rfl, rfl, hb1, rfl, rfl, by decide, hu1, hl1, ?_⟩
        · decide
        · decide
        conv => whnf
        exact ⟨rfl, _, hc, rfl, rfl⟩
      · skip
        by_cases c3 : U < 16777216
        · have hc : (B ++ bitsOf 14 4) ++ bitsOf U 24 = B ++ codeB U := by
            rw [List.append_assoc]; congr 1; unfold codeB
            rw [if_neg c0, if_neg c1, if_neg c2, if_pos c3]; rfl
          have hb1 : Bits (B ++ bitsOf 14 4) := hB.app (bitsOf_bits _ _)
          have hl1 : (B ++ bitsOf 14 4).length ≤ 100000000 := by rw [List.length_append, bitsOf_length]; omega
          have hl0 : B.length ≤ 100000000 := by omega
          have hu1 : U < 2 ^ 24 := by omega
          conv => whnf
          refine LoopP.roll 6 ?_
          conv => whnf
          refine Fork.dec (fun _ => ?_) (fun h => absurd h (shr_yes (m := 0) rfl (d0 c0)))
          conv => whnf
          refine Fork.dec (fun _ => ?_) (fun h => absurd h (shr_yes (m := 7) rfl (d1 c1)))
          conv => whnf
          refine Fork.dec (fun _ => ?_) (fun h => absurd h (shr_yes (m := 12) rfl (d2 c2)))
          conv => whnf
          refine Fork.dec (fun h => absurd h (shr_no (m := 24) rfl (z3 c3))) (fun _ => ?_)
          conv => whnf
          refine ⟨0, 1, 14, 4, B, rfl, by decide, by decide, by decide, rfl, rfl, hB, rfl, rfl, by decide, by decide, hl0, ?_⟩
          conv => whnf
          refine ⟨0, _, U, 24, B ++ bitsOf 14 4, rfl, ?_, by decide, ?_, rfl, rfl, hb1, rfl, rfl, by decide, hu1, hl1, ?_⟩
          · decide
          · decide
          conv => whnf
          exact ⟨rfl, _, hc, rfl, rfl⟩
        · skip
          have hc : (B ++ bitsOf 15 4) ++ bitsOf U 64 = B ++ codeB U := by
            rw [List.append_assoc]; congr 1; unfold codeB
            rw [if_neg c0, if_neg c1, if_neg c2, if_neg c3]; rfl
          have hb1 : Bits (B ++ bitsOf 15 4) := hB.app (bitsOf_bits _ _)
          have hl1 : (B ++ bitsOf 15 4).length ≤ 100000000 := by rw [List.length_append, bitsOf_length]; omega
          have hl0 : B.length ≤ 100000000 := by omega
          have hu1 : U < 2 ^ 64 := by omega
          conv => whnf
          refine LoopP.roll 6 ?_
          conv => whnf
          refine Fork.dec (fun _ => ?_) (fun h => absurd h (shr_yes (m := 0) rfl (d0 c0)))
          conv => whnf
          refine Fork.dec (fun _ => ?_) (fun h => absurd h (shr_yes (m := 7) rfl (d1 c1)))
          conv => whnf
          refine Fork.dec (fun _ => ?_) (fun h => absurd h (shr_yes (m := 12) rfl (d2 c2)))
          conv => whnf
          refine Fork.dec (fun _ => ?_) (fun h => absurd h (shr_yes (m := 24) rfl (d3 c3)))
          conv => whnf
          refine ⟨0, 1, 15, 4, B, rfl, by decide, by decide, by decide, rfl, rfl, hB, rfl, rfl, by decide, by decide, hl0, ?_⟩
          conv => whnf
          refine ⟨0, _, U, 64, B ++ bitsOf 15 4, rfl, ?_, by decide, ?_, rfl, rfl, hb1, rfl, rfl, by decide, hu1, hl1, ?_⟩
          · decide
          · decide
          conv => whnf
          exact ⟨rfl, _, hc, rfl, rfl⟩
end Go.Proofs.Ytpfflibkkjjlaaa
namespace Go.Proofs.Ytpfflibkkjjlaaa
open Go Go.RowKit
set_option maxRecDepth 20000
noncomputable def wSet4 (H : AH) (n b c : Nat) (B : List Nat) : AH := ((((((H.set (some (.cells (bytA (pack B)) true)) depthH (n + 4)).set none depthH (n + 3)).set none depthH (n + 2)).set none depthH (n + 1)).set none depthH n).set none depthH c).set (some (.cells (wStr (n + 4) B) true)) depthH b
def natDPut (args : List AV) (H : AH) (n : Nat) (κ : PK) : Prop := match args with
  | [x, u] => ∃ (b c U : Nat) (B : List Nat), x = .ptr b 0 ∧ b ≠ c ∧ b < n ∧ c < n ∧ H.get b = some (.cells (wStr c B) true) ∧ H.get c = some (.cells (bytA (pack B)) true) ∧ Bits B ∧ mk u = .si .u64 (U : Int) ∧ U < 18446744073709551616 ∧ B.length ≤ 99999000 ∧
      κ (.int .i64 0) (wSet4 H n b c (B ++ codeB U)) (n + 5)
  | _ => False
def put7L (B : List Nat) : List (Nat × Option AO) := [(0, some (.cells (wStr 6 B) true)), (1, none), (2, none), (3, none), (4, none), (5, none), (6, some (.cells (bytA (pack B)) true))]
theorem put7 (H : AH) (n b c : Nat) (B : List Nat) : putH [b, c] n H (put7L B) = wSet4 H n b c B := by
  simp only [putH, put7L, Option.map_some, Option.map_none, renO, wStr_ren, bytA_ren]
  rfl
theorem n_dput : NatP 50 natDPut := fun args H n κ hs φ h0' hp vs K hr hargs hk => by
  unfold natDPut at hs
  split at hs
  · obtain ⟨x, y, rfl, e1, e2⟩ := vs2 hargs
    obtain ⟨b, c, U, B, rfl, hbc, hbn, hcn, hb, hc, hB, hu, hU, hl, hs⟩ := hs
    refine framed (S := [b, c]) (O := [.cells (wStr 1 B) true, .cells (bytA (pack B)) true]) (args0 := [.ptr 0 0, .si .u64 (U : Int)]) (callT_nat KP1_ok 3 _) (by kernel_rfl) hr
      (hands2 hbc hbn hcn (by rw [renO, wStr_ren]; exact hb) (by rw [renO, bytA_ren]; exact hc) (.inr rfl) (.inr rfl)) ?_ hk (dput_run B U hB hU hl) fun u H' n' ⟨h1, B', hB', h2, h3⟩ => ?_
    · exact .cons e1 (.cons (by have := e2.mk; rw [hu] at this; exact this) .nil)
    · subst h1 hB'
      refine ⟨7, putH [b, c] n H (put7L (B ++ codeB U)), Nat.le_of_ble_eq_true rfl, After.put (Nat.le_of_ble_eq_true rfl) rfl (fun x hx o ho => ?_), rfl, ?_⟩
      · simp only [put7L, List.mem_cons, List.not_mem_nil, or_false] at hx
        rcases hx with rfl | rfl | rfl | rfl | rfl | rfl | rfl
        · injection ho with ho; subst ho; exact ⟨h2, rfl, rfl⟩
        · cases ho
        · cases ho
        · cases ho
        · cases ho
        · cases ho
        · injection ho with ho; subst ho; exact ⟨h3, rfl, ltL_flat _ _ (bytA_flat _)⟩
      · rw [put7]; exact hs
  · exact hs.elim
/-! ### samples as bits -/
noncomputable def KE : FuncId → EP := withD 41 [] (withN 50 natDPut (withN 49 natWPut evP))
theorem KE_ok : TabP KE := withD_ok (withN_ok (withN_ok evP_ok n_wput) n_dput) (by kernel_rfl) (by kernel_rfl)
theorem zig_raw {n : Int} (h : In64 n) : bitsV .xor .u64 (IntKind.u64.wrap (IntKind.u64.wrap n * (2 : Int) ^ min (Int.toNat 1) IntKind.u64.bits)) (IntKind.u64.wrap (n.fdiv ((2 : Int) ^ min (Int.toNat 63) IntKind.i64.bits))) = ((zigN n : Nat) : Int) := zig_eq h
theorem encTo_succ (X : Smp) (i : Nat) : encTo X (i + 1) = encTo X i ++ sampB X i := rfl
theorem samp0 (X : Smp) : encTo X 0 ++ bitsOf (u64N (tAt X 0)) 64 ++ bitsOf (u64N (vAt X 0)) 64 = encTo X (0 + 1) := by
  rw [encTo_succ, List.append_assoc]; rfl
theorem sampS (X : Smp) {i : Nat} (h : i ≠ 0) : encTo X i ++ codeB (dT X i) ++ codeB (dV X i) = encTo X (i + 1) := by
  rw [encTo_succ, List.append_assoc]; unfold sampB; rw [if_neg h]
theorem pack_nil : pack [] = [] := by simp [pack]
noncomputable def ec (L : Smp) (cap : Nat) (i : Nat) : AE × AH := (mkE [(0, .sy 0 0 L.length cap 0), (4, .ptr 1 (0)), (5, .si .i64 (stepAt L i)), (11, .sy 0 0 L.length cap 0), (12, .si .i64 (((L.length : Nat) : Int))), (13, .si .i64 (((i : Nat) : Int)))], mkH [(0, .ro (smp (L))), (1, .cells (wStr 2 (encTo L i)) true), (2, .cells (bytA ((pack (encTo L i)))) true)])
theorem ec_cov {L : Smp} {cap : Nat} {i : Nat} {p n : Nat} {σ : AE} {H : AH} (j2 : Nat) (hj : j2 ≠ 0 ∧ j2 ≠ 1) (hp : p ≤ 1) (e0 : mk (getq (pa 0) σ) = .sy 0 0 L.length cap 0) (e4 : getq (pa 4) σ = .ptr 1 (0)) (e5 : mk (getq (pa 5) σ) = .si .i64 (stepAt L i)) (e11 : mk (getq (pa 11) σ) = .sy 0 0 L.length cap 0) (e12 : mk (getq (pa 12) σ) = .si .i64 (((L.length : Nat) : Int))) (e13 : mk (getq (pa 13) σ) = .si .i64 (((i : Nat) : Int))) (h0 : H.get 0 = some (.ro (smp (L)))) (h1 : ∃ l, H.get 1 = some (.cells l true) ∧ SubL H 3 (fun b => if b = 2 then j2 else b) l (wStr 2 (encTo L i))) (h2 : (∃ l, H.get j2 = some (.cells l true) ∧ l.map mk = bytA ((pack (encTo L i)))) ∨ (((pack (encTo L i))) = [] ∧ n ≤ j2)) : Cov p σ H n ((ec L cap i).1, (ec L cap i).2, 3) := by
  refine Cov.ofR (fun b => if b = 2 then j2 else b) (by omega) (fun b hb => by repeat' rw [if_neg (by omega)]) ?_ ?_ ?_
  · intro x hx
    simp only [List.mem_cons, List.not_mem_nil, or_false] at hx
    rcases hx with rfl | rfl | rfl | rfl | rfl | rfl
    · exact .sy (by decide) e0
    · exact .ptr (by decide) e4
    · exact .int e5
    · exact .sy (by decide) e11
    · exact .int e12
    · exact .int e13
  · intro x hx
    simp only [List.mem_cons, List.not_mem_nil, or_false] at hx
    rcases hx with rfl | rfl | rfl
    · exact ⟨by simp, .inl ⟨_, h0, SubO.ro_mk (smp_flat _) rfl⟩⟩
    · exact ⟨by simp, .inl (h1.elim fun l h => ⟨_, h.1, SubO.st h.2⟩)⟩
    · exact ⟨by simp, h2.elim (fun ⟨l, h, g⟩ => .inl ⟨_, h, SubO.cells_mk (bytA_flat _) (by rw [g, bytA_map]) (fun q => q)⟩) (fun h => .inr ⟨by rw [h.1]; rfl, h.2⟩)⟩
  · intro x hx y hy
    simp only [List.mem_cons, List.not_mem_nil, or_false] at hx hy
    rcases hx with rfl | rfl | rfl <;> rcases hy with rfl | rfl | rfl <;> simp <;> omega
set_option maxHeartbeats 4000000 in
set_option maxRecDepth 100000 in
theorem enc_run (L : Smp) (cap : Nat) (hL : L.length ≤ 100000) (h64 : ∀ x ∈ L, In64 x.1 ∧ In64 x.2) : callT KE 3 41 [.sy 0 0 L.length cap 0] (mkH [(0, .ro (smp L))]) 1
    fun u _ _ => mkT u = mkT (.tup [.ss (pack (encB L)), .si .i64 ((encB L).length : Int)]) := by
  conv => whnf
  refine LoopP.mk { i : Nat // i ≤ L.length } 3 (fun i => ec L cap i.val) (fun i => L.length - i.val) ⟨0, Nat.zero_le _⟩ ?_ ?_
  · exact ec_cov (j2 := 2) (by decide) (Nat.le_refl 1) rfl rfl rfl rfl rfl rfl rfl ⟨_, rfl, .cons (.nslRw rfl (hn := congrArg List.length pack_nil)) (.cons (.int rfl) .nil)⟩ (.inr ⟨pack_nil, Nat.le_refl _⟩)
  · intro ⟨i, hi⟩
    have hlt0 : ((encTo L i).length) ≤ 13600000 := Nat.le_trans (encTo_len L i) (by omega)
    have hsub : subL (bytA (pack (encTo L i))) 0 (pack (encTo L i)).length = some (bytA (pack (encTo L i))) := subL_all (bytA_length _)
    have hbyt : ebytes (bytA (pack (encTo L i))) = some (pack (encTo L i)) := ebytes_bytA (pack_lt (encTo_bits L i))
    have hnx : i < L.length → IntKind.i64.wrap ((i : Int) + 1) = (((i + 1 : Nat)) : Int) := fun q => W64_of ⟨by omega, by omega⟩
    conv => whnf
    refine Fork.dec (fun h => ?_) (fun h => ?_)
    · have hi2 : i < L.length := by exact Int.ofNat_lt.1 h
      have ht : L[i].1 = tAt L i := (tAt_of hi2).symm
      have hv : L[i].2 = vAt L i := (vAt_of hi2).symm
      conv => whnf
      refine Idx.mk i rfl hi2 ?_
      conv => whnf
      refine optP_of (smp_sub hi2 (Nat.zero_add _)) ?_
      conv => whnf
      refine Fork.dec (fun h0 => ?_) (fun h0 => ?_)
      · have h0 : i = 0 := by exact Int.ofNat_inj.1 h0
        subst h0
        have hu0 : AV.si .u64 (IntKind.u64.wrap L[0].1) = .si .u64 ((u64N (tAt L 0) : Nat) : Int) := congrArg (AV.si .u64) ((u64_eq _).trans (by rw [ht]))
        have hu1 : AV.si .u64 (IntKind.u64.wrap L[0].2) = .si .u64 ((u64N (vAt L 0) : Nat) : Int) := congrArg (AV.si .u64) ((u64_eq _).trans (by rw [hv]))
        have hB1 : Bits (encTo L 0 ++ bitsOf (u64N (tAt L 0)) 64) := (encTo_bits L 0).app (bitsOf_bits _ _)
        have hl1 : (encTo L 0 ++ bitsOf (u64N (tAt L 0)) 64).length ≤ 100000000 := by rw [List.length_append, bitsOf_length]; omega
        conv => whnf
        refine ⟨1, 2, u64N (tAt L 0), 64, encTo L 0, rfl, by decide, by decide, by decide, rfl, rfl, encTo_bits _ _, hu0, rfl, Nat.le_refl _, u64_lt _, Nat.le_trans hlt0 (by decide), ?_⟩
        conv => whnf
        refine ⟨1, 4, u64N (vAt L 0), 64, encTo L 0 ++ bitsOf (u64N (tAt L 0)) 64, rfl, by decide, by decide, by decide, rfl, rfl, hB1, hu1, rfl, Nat.le_refl _, u64_lt _, hl1, ?_⟩
        conv => whnf
        refine ⟨⟨1, by omega⟩, (show L.length - 1 < L.length - 0 by omega), ec_cov (j2 := 5) (by decide) (Nat.le_refl 1) rfl rfl (congrArg (AV.si .i64) rfl) rfl rfl (congrArg (AV.si .i64) (hnx hi2)) rfl ⟨_, rfl, .cons (SubV.rw (by decide) rfl (hn := congrArg (fun x => (pack x).length) (samp0 L))) (.cons (.int (congrArg (fun x : List Nat => AV.si .i64 (x.length : Int)) (samp0 L))) .nil)⟩ (.inl ⟨_, rfl, (bytA_map _).trans (congrArg (fun x => bytA (pack x)) (samp0 L))⟩)⟩
      · have h0 : i ≠ 0 := fun q => h0 (by exact Int.ofNat_inj.2 q)
        have hp : i - 1 < L.length := by omega
        have hpw : IntKind.i64.wrap ((i : Int) - 1) = ((i - 1 : Nat) : Int) := (W64_of ⟨by omega, by omega⟩).trans (by omega)
        have ht1 : L[i - 1].1 = tAt L (i - 1) := (tAt_of hp).symm
        have hv1 : L[i - 1].2 = vAt L (i - 1) := (vAt_of hp).symm
        have ho0 : 0 + (i - 1) * 2 + 0 = (i - 1) * 2 := by omega
        have ho1 : 0 + (i - 1) * 2 + 1 = (i - 1) * 2 + 1 := by omega
        have hst : IntKind.i64.wrap (L[i].1 - L[i - 1].1) = stepAt L (i + 1) := by
          unfold stepAt; rw [if_neg (by omega), ht, ht1]; rfl
        have hu0 : AV.si .u64 (bitsV .xor .u64 (IntKind.u64.wrap (IntKind.u64.wrap (IntKind.i64.wrap (IntKind.i64.wrap (L[i].1 - L[i - 1].1) - stepAt L i)) * (2 : Int) ^ min (Int.toNat 1) IntKind.u64.bits)) (IntKind.u64.wrap ((IntKind.i64.wrap (IntKind.i64.wrap (L[i].1 - L[i - 1].1) - stepAt L i)).fdiv ((2 : Int) ^ min (Int.toNat 63) IntKind.i64.bits)))) = .si .u64 ((dT L i : Nat) : Int) := congrArg (AV.si .u64) ((zig_raw (W64_in _)).trans (by unfold dT; rw [ht, ht1]))
        have hu1 : AV.si .u64 (bitsV .xor .u64 (IntKind.u64.wrap (IntKind.u64.wrap (IntKind.i64.wrap (L[i].2 - L[i - 1].2)) * (2 : Int) ^ min (Int.toNat 1) IntKind.u64.bits)) (IntKind.u64.wrap ((IntKind.i64.wrap (L[i].2 - L[i - 1].2)).fdiv ((2 : Int) ^ min (Int.toNat 63) IntKind.i64.bits)))) = .si .u64 ((dV L i : Nat) : Int) := congrArg (AV.si .u64) ((zig_raw (W64_in _)).trans (by unfold dV; rw [hv, hv1]))
        have hB1 : Bits (encTo L i ++ codeB (dT L i)) := (encTo_bits L i).app (codeB_bits _)
        have hl1 : (encTo L i ++ codeB (dT L i)).length ≤ 99999000 := by have := (codeB_len (dT L i)).1; rw [List.length_append]; omega
        conv => whnf
        refine Idx.mk (i - 1) hpw hp ?_
        conv => whnf
        refine optP_of (smp_nth0 hp ho0) ?_
        conv => whnf
        refine ⟨1, 2, dT L i, encTo L i, rfl, by decide, by decide, by decide, rfl, rfl, encTo_bits _ _, hu0, dT_lt _ _, Nat.le_trans hlt0 (by decide), ?_⟩
        conv => whnf
        refine Idx.mk (i - 1) hpw hp ?_
        conv => whnf
        refine optP_of (smp_nth1 hp ho1) ?_
        conv => whnf
        refine ⟨1, 8, dV L i, encTo L i ++ codeB (dT L i), rfl, by decide, by decide, by decide, rfl, rfl, hB1, hu1, dV_lt _ _, hl1, ?_⟩
        conv => whnf
        refine ⟨⟨i + 1, by omega⟩, (show L.length - (i + 1) < L.length - i by omega), ec_cov (j2 := 13) (by decide) (Nat.le_refl 1) rfl rfl (congrArg (AV.si .i64) hst) rfl rfl (congrArg (AV.si .i64) (hnx hi2)) rfl ⟨_, rfl, .cons (SubV.rw (by decide) rfl (hn := congrArg (fun x => (pack x).length) (sampS L h0))) (.cons (.int (congrArg (fun x : List Nat => AV.si .i64 (x.length : Int)) (sampS L h0))) .nil)⟩ (.inl ⟨_, rfl, (bytA_map _).trans (congrArg (fun x => bytA (pack x)) (sampS L h0))⟩)⟩
    · have hi3 : i = L.length := by have : ¬ i < L.length := fun q => h (Int.ofNat_lt.2 q); omega
      conv => whnf
      refine RStr.mk _ _ _ _ _ _ _ _ rfl (by decide) ⟨_, rfl, rfl, rfl⟩ (.inr ⟨_, rfl⟩) hsub hbyt ?_
      conv => whnf
      subst hi3
      rfl
set_option maxHeartbeats 4000000 in
set_option maxRecDepth 100000 in
theorem enc_run0 : callT KE 3 41 [.nsl] .nil 0 fun u _ _ => mkT u = mkT (.tup [.ss (pack (encB [])), .si .i64 ((encB []).length : Int)]) := by
  conv => whnf
  refine LoopP.roll 1 ?_
  conv => whnf
  exact (show _ = AV.tup [.ss [], .si .i64 0] from rfl).trans (by rw [encB_nil, pack_nil]; rfl)
/-- Samples as bits. -/
def natEnc (args : List AV) (H : AH) (n : Nat) (κ : PK) : Prop := match args with
  | [l] => ∃ L, SmpAt H l L ∧ L.length ≤ 100000 ∧ (∀ x ∈ L, In64 x.1 ∧ In64 x.2) ∧ κ (.tup [.ss (pack (encB L)), .si .i64 ((encB L).length : Int)]) H n
  | _ => False
theorem n_enc : NatP 41 natEnc := fun args H n κ hs φ h0' hp vs K hr hargs hk => by
  unfold natEnc at hs
  split at hs
  · obtain ⟨x, rfl, e1⟩ := vs1 hargs
    obtain ⟨L, hS, hL, h64, hs⟩ := hs
    rcases hS.open hr e1 with ⟨rfl, hv⟩ | ⟨p, C, _, hro, hv⟩
    · exact smallN KE_ok (v := .tup [.ss (pack (encB [])), .si .i64 ((encB []).length : Int)]) rfl enc_run0 hs hr hk (by kernel_rfl) HR.ro0 (.cons (hv _) .nil)
    · exact smallN KE_ok (v := .tup [.ss (pack (encB L)), .si .i64 ((encB L).length : Int)]) rfl (enc_run L C hL h64) hs hr hk (by kernel_rfl) (fun hw => HR.ro1 hw hro) (.cons (hv _ 0 rfl) .nil)
  · exact hs.elim
theorem singEnc : SingG natEnc := .pure fun args H n κ hs => by
  unfold natEnc at *
  split at hs
  · obtain ⟨L, h1, h2, h3, h4⟩ := hs
    exact ⟨_, h4, fun κ' h => ⟨L, h1, h2, h3, h⟩⟩
  · exact hs.elim
end Go.Proofs.Ytpfflibkkjjlaaa
