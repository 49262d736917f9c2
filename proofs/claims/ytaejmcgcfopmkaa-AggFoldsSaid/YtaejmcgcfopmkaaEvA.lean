/- The machine of our own: what its values and its memory stand for. -/
import Derived.Test.YtaejmcgcfopmkaaEv
import Derived.Test.YtaejmcgcfopmkaaEngMore
namespace Go.Proofs.Ytaejmcgcfopmkaa
open Go Go.RowKit

/-! ### tries -/
section
variable {α : Type} (v : Option α) (f n : Nat) (l r : PM α) (u : Option α)
theorem PM.get_nil : (PM.nil : PM α).get n = none := id rfl
theorem PM.get_zero : (PM.node l u r).get 0 = u := id rfl
theorem PM.get_succ : (PM.node l u r).get (n + 1) = if n % 2 = 0 then l.get (n / 2) else r.get (n / 2) := by
  show (Nat.rec (l.get (n / 2)) (fun _ _ => r.get (n / 2)) (n % 2) : Option α) = _
  rcases Nat.mod_two_eq_zero_or_one n with e | e <;> rw [e] <;> rfl
theorem PM.set_zero (t : PM α) : PM.set v 0 t n = .nil := id rfl
theorem PM.set_nil0 : PM.set v (f + 1) .nil 0 = .node .nil v .nil := id rfl
theorem PM.set_nilS : PM.set v (f + 1) .nil (n + 1) = if n % 2 = 0 then .node (PM.set v f .nil (n / 2)) none .nil else .node .nil none (PM.set v f .nil (n / 2)) := by
  show (Nat.rec (.node (PM.set v f .nil (n / 2)) none .nil) (fun _ _ => .node .nil none (PM.set v f .nil (n / 2))) (n % 2) : PM α) = _
  rcases Nat.mod_two_eq_zero_or_one n with e | e <;> rw [e] <;> rfl
theorem PM.set_node0 : PM.set v (f + 1) (.node l u r) 0 = .node l v r := id rfl
theorem PM.set_nodeS : PM.set v (f + 1) (.node l u r) (n + 1) = if n % 2 = 0 then .node (PM.set v f l (n / 2)) u r else .node l u (PM.set v f r (n / 2)) := by
  show (Nat.rec (.node (PM.set v f l (n / 2)) u r) (fun _ _ => .node l u (PM.set v f r (n / 2))) (n % 2) : PM α) = _
  rcases Nat.mod_two_eq_zero_or_one n with e | e <;> rw [e] <;> rfl
end
theorem PM.get_set {α : Type} {v : Option α} : ∀ (f : Nat) (t : PM α) (n m : Nat) (x : α), (PM.set v f t n).get m = some x → (m = n ∧ v = some x) ∨ (m ≠ n ∧ t.get m = some x)
  | 0, t, n, m, x, h => by rw [PM.set_zero, PM.get_nil] at h; cases h
  | f + 1, .nil, 0, m, x, h => by
    rw [PM.set_nil0] at h
    cases m with
    | zero => exact .inl ⟨rfl, h⟩
    | succ m => rw [PM.get_succ] at h; split at h <;> cases h
  | f + 1, .nil, n + 1, m, x, h => by
    rw [PM.set_nilS] at h
    cases m with
    | zero => split at h <;> cases h
    | succ m =>
      split at h
      · rw [PM.get_succ] at h
        split at h
        · rcases PM.get_set f .nil (n / 2) (m / 2) x h with ⟨h1, h2⟩ | ⟨_, h2⟩
          · exact .inl ⟨by omega, h2⟩
          · cases h2
        · cases h
      · rw [PM.get_succ] at h
        split at h
        · cases h
        · rcases PM.get_set f .nil (n / 2) (m / 2) x h with ⟨h1, h2⟩ | ⟨_, h2⟩
          · exact .inl ⟨by omega, h2⟩
          · cases h2
  | f + 1, .node l u r, 0, m, x, h => by
    rw [PM.set_node0] at h
    cases m with
    | zero => exact .inl ⟨rfl, h⟩
    | succ m => rw [PM.get_succ] at h; exact .inr ⟨by omega, by rw [PM.get_succ]; exact h⟩
  | f + 1, .node l u r, n + 1, m, x, h => by
    rw [PM.set_nodeS] at h
    cases m with
    | zero => split at h <;> exact .inr ⟨by omega, h⟩
    | succ m =>
      split at h
      · rename_i hn
        rw [PM.get_succ] at h
        split at h
        · rename_i hm
          rcases PM.get_set f l (n / 2) (m / 2) x h with ⟨h1, h2⟩ | ⟨h1, h2⟩
          · exact .inl ⟨by omega, h2⟩
          · exact .inr ⟨by omega, by rw [PM.get_succ, if_pos hm]; exact h2⟩
        · rename_i hm
          exact .inr ⟨by omega, by rw [PM.get_succ, if_neg hm]; exact h⟩
      · rename_i hn
        rw [PM.get_succ] at h
        split at h
        · rename_i hm
          exact .inr ⟨by omega, by rw [PM.get_succ, if_pos hm]; exact h⟩
        · rename_i hm
          rcases PM.get_set f r (n / 2) (m / 2) x h with ⟨h1, h2⟩ | ⟨h1, h2⟩
          · exact .inl ⟨by omega, h2⟩
          · exact .inr ⟨by omega, by rw [PM.get_succ, if_neg hm]; exact h2⟩

theorem getq_some : ∀ (f n : Nat) (t : AE) (a : AV), getq (pathOf f n) t = a → a = .bad ∨ t.get n = some a
  | 0, n, t, a, h => .inl h.symm
  | f + 1, 0, t, a, h => by
    cases t with
    | nil => exact .inl h.symm
    | node l u r =>
      cases u with
      | none => exact .inl h.symm
      | some v => exact .inr (congrArg some h)
  | f + 1, n + 1, t, a, h => by
    have hp : pathOf (f + 1) (n + 1) = (Nat.rec (.lo (pathOf f (n / 2))) (fun _ _ => .hi (pathOf f (n / 2))) (n % 2) : Pa) := rfl
    rw [hp] at h
    cases t with
    | nil =>
      left
      rcases Nat.mod_two_eq_zero_or_one n with e | e <;> (rw [e] at h; exact h.symm)
    | node l u r =>
      rw [PM.get_succ]
      rcases Nat.mod_two_eq_zero_or_one n with e | e
      · rw [e] at h
        rw [if_pos e]
        exact getq_some f (n / 2) l a h
      · rw [e] at h
        rw [if_neg (by omega)]
        exact getq_some f (n / 2) r a h
theorem setq_get {v : AV} : ∀ (f : Nat) (t : AE) (n m : Nat) (x : AV), (setq v (pathOf f n) t).get m = some x → (m = n ∧ v = x) ∨ (m ≠ n ∧ t.get m = some x)
  | 0, t, n, m, x, h => by cases h
  | f + 1, t, 0, m, x, h => by
    cases t with
    | nil =>
      cases m with
      | zero => exact .inl ⟨rfl, by injection h⟩
      | succ m =>
        have h : (PM.node PM.nil (some v) PM.nil).get (m + 1) = some x := h
        rw [PM.get_succ] at h; split at h <;> cases h
    | node l u r =>
      cases m with
      | zero => exact .inl ⟨rfl, by injection h⟩
      | succ m =>
        have h : (PM.node l (some v) r).get (m + 1) = some x := h
        rw [PM.get_succ] at h; exact .inr ⟨by omega, by rw [PM.get_succ]; exact h⟩
  | f + 1, t, n + 1, m, x, h => by
    have hp : pathOf (f + 1) (n + 1) = (Nat.rec (.lo (pathOf f (n / 2))) (fun _ _ => .hi (pathOf f (n / 2))) (n % 2) : Pa) := rfl
    rw [hp] at h
    have ih := setq_get (v := v) f
    rcases Nat.mod_two_eq_zero_or_one n with e | e <;> rw [e] at h
    · have h : (PM.rec (.node (setq v (pathOf f (n / 2)) .nil) none .nil) (fun l u r _ _ => .node (setq v (pathOf f (n / 2)) l) u r) t : AE).get m = some x := h
      cases t with
      | nil =>
        have h : (PM.node (setq v (pathOf f (n / 2)) .nil) none .nil).get m = some x := h
        cases m with
        | zero => cases h
        | succ m =>
          rw [PM.get_succ] at h
          split at h
          · rcases ih _ _ _ _ h with ⟨h1, h2⟩ | ⟨_, h2⟩
            · exact .inl ⟨by omega, h2⟩
            · cases h2
          · cases h
      | node l u r =>
        have h : (PM.node (setq v (pathOf f (n / 2)) l) u r).get m = some x := h
        cases m with
        | zero => exact .inr ⟨by omega, h⟩
        | succ m =>
          rw [PM.get_succ] at h
          split at h
          · rename_i hm
            rcases ih _ _ _ _ h with ⟨h1, h2⟩ | ⟨h1, h2⟩
            · exact .inl ⟨by omega, h2⟩
            · exact .inr ⟨by omega, by rw [PM.get_succ, if_pos hm]; exact h2⟩
          · rename_i hm
            exact .inr ⟨by omega, by rw [PM.get_succ, if_neg hm]; exact h⟩
    · have h : (PM.rec (.node .nil none (setq v (pathOf f (n / 2)) .nil)) (fun l u r _ _ => .node l u (setq v (pathOf f (n / 2)) r)) t : AE).get m = some x := h
      cases t with
      | nil =>
        have h : (PM.node .nil none (setq v (pathOf f (n / 2)) .nil)).get m = some x := h
        cases m with
        | zero => cases h
        | succ m =>
          rw [PM.get_succ] at h
          split at h
          · cases h
          · rcases ih _ _ _ _ h with ⟨h1, h2⟩ | ⟨_, h2⟩
            · exact .inl ⟨by omega, h2⟩
            · cases h2
      | node l u r =>
        have h : (PM.node l u (setq v (pathOf f (n / 2)) r)).get m = some x := h
        cases m with
        | zero => exact .inr ⟨by omega, h⟩
        | succ m =>
          rw [PM.get_succ] at h
          split at h
          · rename_i hm
            exact .inr ⟨by omega, by rw [PM.get_succ, if_pos hm]; exact h⟩
          · rename_i hm
            rcases ih _ _ _ _ h with ⟨h1, h2⟩ | ⟨h1, h2⟩
            · exact .inl ⟨by omega, h2⟩
            · exact .inr ⟨by omega, by rw [PM.get_succ, if_neg hm]; exact h2⟩

/-! ### values -/
structure Pl where
  B : Nat
  s : Nat
  T : Nat
abbrev Ph := Nat → Option Pl
def PLe (φ ψ : Ph) : Prop := ∀ b p, φ b = some p → ψ b = some p
theorem PLe.refl (φ : Ph) : PLe φ φ := fun _ _ h => h
theorem PLe.trans {a b c : Ph} (h : PLe a b) (k : PLe b c) : PLe a c := fun x p e => k x p (h x p e)
def vstr (s : List Nat) : ByteArray := ⟨(s.map UInt8.ofNat).toArray⟩
mutual
def VR (φ : Ph) : AV → Value → Prop
  | .int k n, v => v = .int k n
  | .str s, v => v = .string (vstr s) ∧ ∀ x ∈ s, x < 256
  | .bool b, v => v = .bool b
  | .nil, v => v = .pointer none
  | .ptr b o, v => ∃ p, φ b = some p ∧ v = .pointer (some ⟨p.B, p.s + o, none⟩)
  | .nsl, v => v = .slice none 0 0
  | .sl b o n c k, v => ∃ p C, φ b = some p ∧ v = .slice (some ⟨p.B, p.s + o, none⟩) n C ∧ (k = 0 → C = c) ∧ (k ≠ 0 → c ≤ C ∧ o + C * k = p.T)
  | .esl b, v => ∃ p x C, φ b = some p ∧ v = .slice (some ⟨p.B, x, none⟩) 0 C ∧ p.s ≤ x ∧ x ≤ p.s + p.T
  | .agg l, v => ∃ cs, v = .agg cs ∧ VRs φ l cs.toList
  | .tup l, v => ∃ cs, v = .tuple cs ∧ VRs φ l cs.toList
  | .fn f a c, v => ∃ xs cs, v = .func (.func f) xs cs ∧ VRs φ a xs.toList ∧ VRs φ c cs.toList
  | .map b, v => ∃ p, φ b = some p ∧ v = .map (some p.B)
  | .any u, v => v = u
  | .bad, _ => True
  | .si k n, v => v = .int k n
  | .sb b, v => v = .bool b
  | .ss s, v => v = .string (vstr s) ∧ ∀ x ∈ s, x < 256
  | .sy b o n c k, v => ∃ p C, φ b = some p ∧ v = .slice (some ⟨p.B, p.s + o, none⟩) n C ∧ (k = 0 → C = c) ∧ (k ≠ 0 → c ≤ C ∧ o + C * k = p.T)
def VRs (φ : Ph) : List AV → List Value → Prop
  | [], vs => vs = []
  | a :: l, vs => ∃ v us, vs = v :: us ∧ VR φ a v ∧ VRs φ l us
end
mutual
theorem VR.mono {φ ψ : Ph} (he : PLe φ ψ) : ∀ (a : AV) (v : Value), VR φ a v → VR ψ a v
  | .int k n, v, h => by simp only [VR] at h ⊢; exact h
  | .str s, v, h => by simp only [VR] at h ⊢; exact h
  | .bool b, v, h => by simp only [VR] at h ⊢; exact h
  | .nil, v, h => by simp only [VR] at h ⊢; exact h
  | .ptr b o, v, h => by
    simp only [VR] at h ⊢
    obtain ⟨p, h1, h2⟩ := h
    exact ⟨p, he _ _ h1, h2⟩
  | .nsl, v, h => by simp only [VR] at h ⊢; exact h
  | .sl b o n c k, v, h => by
    simp only [VR] at h ⊢
    obtain ⟨p, C, h1, h2⟩ := h
    exact ⟨p, C, he _ _ h1, h2⟩
  | .esl b, v, h => by
    simp only [VR] at h ⊢
    obtain ⟨p, x, C, h1, h2⟩ := h
    exact ⟨p, x, C, he _ _ h1, h2⟩
  | .agg l, v, h => by
    simp only [VR] at h ⊢
    obtain ⟨cs, h1, h2⟩ := h
    exact ⟨cs, h1, VRs.mono he l _ h2⟩
  | .tup l, v, h => by
    simp only [VR] at h ⊢
    obtain ⟨cs, h1, h2⟩ := h
    exact ⟨cs, h1, VRs.mono he l _ h2⟩
  | .fn f a c, v, h => by
    simp only [VR] at h ⊢
    obtain ⟨xs, cs, h1, h2, h3⟩ := h
    exact ⟨xs, cs, h1, VRs.mono he a _ h2, VRs.mono he c _ h3⟩
  | .map b, v, h => by
    simp only [VR] at h ⊢
    obtain ⟨p, h1, h2⟩ := h
    exact ⟨p, he _ _ h1, h2⟩
  | .any u, v, h => by simp only [VR] at h ⊢; exact h
  | .bad, v, h => by simp only [VR]
  | .si k n, v, h => by simp only [VR] at h ⊢; exact h
  | .sb b, v, h => by simp only [VR] at h ⊢; exact h
  | .ss s, v, h => by simp only [VR] at h ⊢; exact h
  | .sy b o n c k, v, h => by
    simp only [VR] at h ⊢
    obtain ⟨p, C, h1, h2⟩ := h
    exact ⟨p, C, he _ _ h1, h2⟩
theorem VRs.mono {φ ψ : Ph} (he : PLe φ ψ) : ∀ (l : List AV) (vs : List Value), VRs φ l vs → VRs ψ l vs
  | [], vs, h => by simp only [VRs] at h ⊢; exact h
  | a :: l, vs, h => by
    simp only [VRs] at h ⊢
    obtain ⟨v, us, h1, h2, h3⟩ := h
    exact ⟨v, us, h1, VR.mono he a v h2, VRs.mono he l us h3⟩
end
section
variable {φ : Ph}
theorem VRs.nil : VRs φ [] [] := by simp only [VRs]
theorem VRs.cons {a : AV} {v : Value} {l : List AV} {vs : List Value} (h : VR φ a v) (k : VRs φ l vs) : VRs φ (a :: l) (v :: vs) := by
  simp only [VRs]; exact ⟨v, vs, rfl, h, k⟩
theorem VRs.nil_inv {vs : List Value} (h : VRs φ [] vs) : vs = [] := by simpa only [VRs] using h
theorem VRs.cons_inv {a : AV} {l : List AV} {vs : List Value} (h : VRs φ (a :: l) vs) : ∃ v us, vs = v :: us ∧ VR φ a v ∧ VRs φ l us := by simpa only [VRs] using h
theorem VRs.length : ∀ {l : List AV} {vs : List Value}, VRs φ l vs → l.length = vs.length
  | [], vs, h => by rw [h.nil_inv]; rfl
  | a :: l, vs, h => by
    obtain ⟨v, us, rfl, _, h2⟩ := h.cons_inv
    simp [h2.length]
theorem VRs.append : ∀ {l m : List AV} {vs us : List Value}, VRs φ l vs → VRs φ m us → VRs φ (l ++ m) (vs ++ us)
  | [], m, vs, us, h, k => by rw [h.nil_inv]; exact k
  | a :: l, m, vs, us, h, k => by
    obtain ⟨v, ws, rfl, h1, h2⟩ := h.cons_inv
    exact .cons h1 (h2.append k)
theorem VRs.at : ∀ {l : List AV} {vs : List Value}, VRs φ l vs → ∀ {i : Nat} {a : AV}, l[i]? = some a → ∃ v, vs[i]? = some v ∧ VR φ a v
  | [], vs, h, i, a, e => by simp at e
  | b :: l, vs, h, 0, a, e => by
    obtain ⟨v, us, rfl, h1, _⟩ := h.cons_inv
    simp only [List.getElem?_cons_zero, Option.some.injEq] at e
    subst e
    exact ⟨v, rfl, h1⟩
  | b :: l, vs, h, i + 1, a, e => by
    obtain ⟨v, us, rfl, _, h2⟩ := h.cons_inv
    simp only [List.getElem?_cons_succ] at e
    simpa using h2.at e
theorem VRs.take : ∀ {l : List AV} {vs : List Value}, VRs φ l vs → ∀ (n : Nat), VRs φ (l.take n) (vs.take n)
  | _, _, _, 0 => by simp [VRs]
  | [], vs, h, n + 1 => by rw [h.nil_inv]; simp [VRs]
  | a :: l, vs, h, n + 1 => by
    obtain ⟨v, us, rfl, h1, h2⟩ := h.cons_inv
    simpa using VRs.cons h1 (h2.take n)
theorem VRs.drop : ∀ {l : List AV} {vs : List Value}, VRs φ l vs → ∀ (n : Nat), VRs φ (l.drop n) (vs.drop n)
  | _, _, h, 0 => by simpa using h
  | [], vs, h, n + 1 => by rw [h.nil_inv]; simp [VRs]
  | a :: l, vs, h, n + 1 => by
    obtain ⟨v, us, rfl, h1, h2⟩ := h.cons_inv
    simpa using h2.drop n
theorem VRs.map {β : Type} {f : β → AV} {g : β → Value} (h : ∀ x, VR φ (f x) (g x)) : ∀ l : List β, VRs φ (l.map f) (l.map g)
  | [] => .nil
  | x :: l => .cons (h x) (VRs.map h l)
theorem VR.int_inv {k : IntKind} {n : Int} {v : Value} (h : VR φ (.int k n) v) : v = .int k n := by simpa only [VR] using h
theorem VR.bool_inv {b : Bool} {v : Value} (h : VR φ (.bool b) v) : v = .bool b := by simpa only [VR] using h
theorem VR.nil_inv {v : Value} (h : VR φ .nil v) : v = .pointer none := by simpa only [VR] using h
theorem VR.nsl_inv {v : Value} (h : VR φ .nsl v) : v = .slice none 0 0 := by simpa only [VR] using h
theorem VR.str_inv {s : List Nat} {v : Value} (h : VR φ (.str s) v) : v = .string (vstr s) ∧ ∀ x ∈ s, x < 256 := by simpa only [VR] using h
theorem VR.ptr_inv {b o : Nat} {v : Value} (h : VR φ (.ptr b o) v) : ∃ p, φ b = some p ∧ v = .pointer (some ⟨p.B, p.s + o, none⟩) := by simpa only [VR] using h
theorem VR.sl_inv {b o n c k : Nat} {v : Value} (h : VR φ (.sl b o n c k) v) : ∃ p C, φ b = some p ∧ v = .slice (some ⟨p.B, p.s + o, none⟩) n C ∧ (k = 0 → C = c) ∧ (k ≠ 0 → c ≤ C ∧ o + C * k = p.T) := by simpa only [VR] using h
theorem VR.esl_inv {b : Nat} {v : Value} (h : VR φ (.esl b) v) : ∃ p x C, φ b = some p ∧ v = .slice (some ⟨p.B, x, none⟩) 0 C ∧ p.s ≤ x ∧ x ≤ p.s + p.T := by simpa only [VR] using h
theorem VR.agg_inv {l : List AV} {v : Value} (h : VR φ (.agg l) v) : ∃ cs, v = .agg cs ∧ VRs φ l cs.toList := by simpa only [VR] using h
theorem VR.tup_inv {l : List AV} {v : Value} (h : VR φ (.tup l) v) : ∃ cs, v = .tuple cs ∧ VRs φ l cs.toList := by simpa only [VR] using h
theorem VR.fn_inv {f : Nat} {a c : List AV} {v : Value} (h : VR φ (.fn f a c) v) : ∃ xs cs, v = .func (.func f) xs cs ∧ VRs φ a xs.toList ∧ VRs φ c cs.toList := by simpa only [VR] using h
theorem VR.map_inv {b : Nat} {v : Value} (h : VR φ (.map b) v) : ∃ p, φ b = some p ∧ v = .map (some p.B) := by simpa only [VR] using h
theorem VR.any_inv {u v : Value} (h : VR φ (.any u) v) : v = u := by simpa only [VR] using h
theorem VR.si_inv {k : IntKind} {n : Int} {v : Value} (h : VR φ (.si k n) v) : v = .int k n := by simpa only [VR] using h
theorem VR.sb_inv {b : Bool} {v : Value} (h : VR φ (.sb b) v) : v = .bool b := by simpa only [VR] using h
theorem VR.ss_inv {s : List Nat} {v : Value} (h : VR φ (.ss s) v) : v = .string (vstr s) ∧ ∀ x ∈ s, x < 256 := by simpa only [VR] using h
theorem VR.sy_inv {b o n c k : Nat} {v : Value} (h : VR φ (.sy b o n c k) v) : ∃ p C, φ b = some p ∧ v = .slice (some ⟨p.B, p.s + o, none⟩) n C ∧ (k = 0 → C = c) ∧ (k ≠ 0 → c ≤ C ∧ o + C * k = p.T) := by simpa only [VR] using h
theorem VR.si (k : IntKind) (n : Int) : VR φ (.si k n) (.int k n) := by simp only [VR]
theorem VR.sb (b : Bool) : VR φ (.sb b) (.bool b) := by simp only [VR]
theorem VR.ss {s : List Nat} (h : ∀ x ∈ s, x < 256) : VR φ (.ss s) (.string (vstr s)) := by simp only [VR]; exact ⟨trivial, h⟩
theorem VR.sy {b o n c k C : Nat} {p : Pl} (h : φ b = some p) (h0 : k = 0 → C = c) (h1 : k ≠ 0 → c ≤ C ∧ o + C * k = p.T) : VR φ (.sy b o n c k) (.slice (some ⟨p.B, p.s + o, none⟩) n C) := by simp only [VR]; exact ⟨p, C, h, rfl, h0, h1⟩
theorem VR.int (k : IntKind) (n : Int) : VR φ (.int k n) (.int k n) := by simp only [VR]
theorem VR.bool (b : Bool) : VR φ (.bool b) (.bool b) := by simp only [VR]
theorem VR.nil : VR φ .nil (.pointer none) := by simp only [VR]
theorem VR.nsl : VR φ .nsl (.slice none 0 0) := by simp only [VR]
theorem VR.str {s : List Nat} (h : ∀ x ∈ s, x < 256) : VR φ (.str s) (.string (vstr s)) := by simp only [VR]; exact ⟨trivial, h⟩
theorem VR.ptr {b o : Nat} {p : Pl} (h : φ b = some p) : VR φ (.ptr b o) (.pointer (some ⟨p.B, p.s + o, none⟩)) := by simp only [VR]; exact ⟨p, h, rfl⟩
theorem VR.sl {b o n c k C : Nat} {p : Pl} (h : φ b = some p) (h0 : k = 0 → C = c) (h1 : k ≠ 0 → c ≤ C ∧ o + C * k = p.T) : VR φ (.sl b o n c k) (.slice (some ⟨p.B, p.s + o, none⟩) n C) := by simp only [VR]; exact ⟨p, C, h, rfl, h0, h1⟩
theorem VR.esl {b x C : Nat} {p : Pl} (h : φ b = some p) (h1 : p.s ≤ x) (h2 : x ≤ p.s + p.T) : VR φ (.esl b) (.slice (some ⟨p.B, x, none⟩) 0 C) := by simp only [VR]; exact ⟨p, x, C, h, rfl, h1, h2⟩
theorem VR.agg {l : List AV} {cs : Array Value} (h : VRs φ l cs.toList) : VR φ (.agg l) (.agg cs) := by simp only [VR]; exact ⟨cs, rfl, h⟩
theorem VR.tup {l : List AV} {cs : Array Value} (h : VRs φ l cs.toList) : VR φ (.tup l) (.tuple cs) := by simp only [VR]; exact ⟨cs, rfl, h⟩
theorem VR.fn {f : Nat} {a c : List AV} {xs cs : Array Value} (h : VRs φ a xs.toList) (k : VRs φ c cs.toList) : VR φ (.fn f a c) (.func (.func f) xs cs) := by simp only [VR]; exact ⟨xs, cs, rfl, h, k⟩
theorem VR.map {b : Nat} {p : Pl} (h : φ b = some p) : VR φ (.map b) (.map (some p.B)) := by simp only [VR]; exact ⟨p, h, rfl⟩
theorem VR.any (v : Value) : VR φ (.any v) v := by simp only [VR]
theorem VR.bad (v : Value) : VR φ .bad v := by simp only [VR]
theorem VR.undef : VR φ undefA Go.undef := VR.tup (cs := #[]) VRs.nil
theorem vstr_data (s : ByteArray) : vstr (s.data.toList.map UInt8.toNat) = s := by
  obtain ⟨⟨l⟩⟩ := s
  simp [vstr, List.map_map, Function.comp_def]
theorem ofV1_sound (v : Value) : VR φ (ofV1 v) v := by
  unfold ofV1
  split
  · exact .int _ _
  · rename_i s
    have := VR.str (φ := φ) (s := s.data.toList.map UInt8.toNat) (by
      intro x hx
      simp only [List.mem_map] at hx
      obtain ⟨y, _, rfl⟩ := hx
      exact y.toNat_lt)
    rwa [vstr_data] at this
  · exact .bool _
  · exact .nil
  · exact .nsl
  · exact .any _
theorem ofV_sound (v : Value) : VR φ (ofV v) v := by
  unfold ofV
  split
  · rename_i cs
    refine .agg ?_
    have := VRs.map (φ := φ) (f := ofV1) (g := id) ofV1_sound cs.toList
    simpa using this
  · rename_i cs
    refine .tup ?_
    have := VRs.map (φ := φ) (f := ofV1) (g := id) ofV1_sound cs.toList
    simpa using this
  · exact ofV1_sound _
theorem VR.cells {a : AV} {v : Value} (h : VR φ a v) (hc : okC a = true) : VRs φ a.cells v.cells.toList := by
  cases a <;> simp only [AV.cells]
  case agg l => obtain ⟨cs, rfl, h1⟩ := h.agg_inv; exact h1
  case bad => cases hc
  case any u => have := h.any_inv; subst this; simp only [okC] at hc; cases v <;> first | exact .cons h .nil | cases hc
  case si => have := h.si_inv; subst this; exact .cons h .nil
  case sb => have := h.sb_inv; subst this; exact .cons h .nil
  case ss => obtain ⟨rfl, _⟩ := h.ss_inv; exact .cons h .nil
  case sy => obtain ⟨p, C, _, rfl, _⟩ := h.sy_inv; exact .cons h .nil
  case int => have := h.int_inv; subst this; exact .cons h .nil
  case str => obtain ⟨rfl, _⟩ := h.str_inv; exact .cons h .nil
  case bool => have := h.bool_inv; subst this; exact .cons h .nil
  case nil => have := h.nil_inv; subst this; exact .cons h .nil
  case ptr => obtain ⟨p, _, rfl⟩ := h.ptr_inv; exact .cons h .nil
  case nsl => have := h.nsl_inv; subst this; exact .cons h .nil
  case sl => obtain ⟨p, C, _, rfl, _⟩ := h.sl_inv; exact .cons h .nil
  case esl => obtain ⟨p, x, C, _, rfl, _⟩ := h.esl_inv; exact .cons h .nil
  case tup => obtain ⟨p, rfl, _⟩ := h.tup_inv; exact .cons h .nil
  case fn => obtain ⟨p, q, rfl, _⟩ := h.fn_inv; exact .cons h .nil
  case map => obtain ⟨p, _, rfl⟩ := h.map_inv; exact .cons h .nil
end
end Go.Proofs.Ytaejmcgcfopmkaa
