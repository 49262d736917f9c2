/- Names of kinds, as known functions. -/
import Derived.Test.YtaejmcgcfopmkaaAggA
namespace Go.Proofs.Ytaejmcgcfopmkaa
open Go Go.RowKit
def sName (k : Int) : List Nat :=
  if k = 1 then [115, 117, 109] else if k = 2 then [109, 105, 110] else if k = 3 then [109, 97, 120] else if k = 4 then [99, 111, 117, 110, 116] else if k = 5 then [102, 105, 114, 115, 116]
  else if k = 6 then [108, 97, 115, 116] else if k = 7 then [114, 97, 110, 103, 101] else []
theorem kinds {k : Int} (h1 : ¬ k < 1) (h2 : ¬ 7 < k) : k = 1 ∨ k = 2 ∨ k = 3 ∨ k = 4 ∨ k = 5 ∨ k = 6 ∨ k = 7 := by omega
set_option maxRecDepth 100000 in
theorem n_rname : NatP 15 (nat1s sName) := nat1s_ok (d := 1) evP_ok fun k => by
  conv => whnf
  refine Fork.dec (fun h1 => ?_) (fun h1 => ?_)
  · conv => whnf
    have : sName k = [] := by unfold sName; repeat' rw [if_neg (by omega)]
    rw [this]; rfl
  · conv => whnf
    refine Fork.dec (fun h2 => ?_) (fun h2 => ?_)
    · conv => whnf
      have : sName k = [] := by unfold sName; repeat' rw [if_neg (by omega)]
      rw [this]; rfl
    · rcases kinds h1 h2 with rfl | rfl | rfl | rfl | rfl | rfl | rfl
      · conv => whnf
        exact Idx.mk 0 rfl (by decide) rfl
      · conv => whnf
        exact Idx.mk 1 rfl (by decide) rfl
      · conv => whnf
        exact Idx.mk 2 rfl (by decide) rfl
      · conv => whnf
        exact Idx.mk 3 rfl (by decide) rfl
      · conv => whnf
        exact Idx.mk 4 rfl (by decide) rfl
      · conv => whnf
        exact Idx.mk 5 rfl (by decide) rfl
      · conv => whnf
        exact Idx.mk 6 rfl (by decide) rfl
set_option maxRecDepth 100000 in
theorem n_name : NatP 16 (nat1s sName) := nat1s_ok (d := 2) FA_ok fun k => by
  conv => whnf
  refine Fork.nsb (fun h1 => ?_) (fun h1 => ?_)
  · conv => whnf
    have : sName k = [] := by
      simp only [sRight, decide_eq_false_iff_not] at h1
      unfold sName; repeat' rw [if_neg (by omega)]
    rw [this]; rfl
  · simp only [sRight, decide_eq_true_eq] at h1
    rcases kinds (k := k) (by omega) (by omega) with rfl | rfl | rfl | rfl | rfl | rfl | rfl
    · conv => whnf
      exact Idx.mk 1 rfl (by decide) rfl
    · conv => whnf
      exact Idx.mk 2 rfl (by decide) rfl
    · conv => whnf
      exact Idx.mk 3 rfl (by decide) rfl
    · conv => whnf
      exact Idx.mk 4 rfl (by decide) rfl
    · conv => whnf
      exact Idx.mk 5 rfl (by decide) rfl
    · conv => whnf
      exact Idx.mk 6 rfl (by decide) rfl
    · conv => whnf
      exact Idx.mk 7 rfl (by decide) rfl
end Go.Proofs.Ytaejmcgcfopmkaa
