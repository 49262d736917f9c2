/- A name is read alike in small and in great letters. -/
import Derived.Test.YtaejmcgcfopmkaaAggG
namespace Go.Proofs.Ytaejmcgcfopmkaa
open Go Go.RowKit
theorem letter {a b : Nat} (h1 : 97 ≤ a) (h2 : a ≤ 122) : Nat.beq a (lowC b) = Nat.beq (upC a) (upC b) := by
  have key : a = lowC b ↔ upC a = upC b := by
    have e : upC a = a - 32 := by unfold upC; rw [if_pos ⟨h1, h2⟩]
    rw [e]
    unfold lowC upC
    split <;> split <;> omega
  rw [Bool.eq_iff_iff, Nat.beq_eq, Nat.beq_eq]
  exact key
theorem alike : ∀ (l s : List Nat), (∀ x ∈ l, 97 ≤ x ∧ x ≤ 122) → beqL l (sLow s) = beqL (sUp l) (sUp s)
  | [], [], _ => rfl
  | [], _ :: _, _ => rfl
  | _ :: _, [], _ => rfl
  | a :: l, b :: s, h => by
    have h1 := h a List.mem_cons_self
    have ih := alike l s fun x hx => h x (List.mem_cons_of_mem _ hx)
    have e := letter (b := b) h1.1 h1.2
    simp only [sLow, sUp, List.map_cons, beqL] at ih ⊢
    rw [e, ih]
theorem sName_letters (k : Int) : ∀ x ∈ sName k, 97 ≤ x ∧ x ≤ 122 := by
  unfold sName
  repeat' split
  all_goals simp
theorem is_same (s : List Nat) : aIs s = rIs s := funext fun k => alike _ _ (sName_letters k)
end Go.Proofs.Ytaejmcgcfopmkaa
