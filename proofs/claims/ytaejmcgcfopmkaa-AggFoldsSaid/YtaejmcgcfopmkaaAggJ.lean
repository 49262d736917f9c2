/- Numbers added up to an end, and a state's value, as known functions. -/
import Derived.Test.YtaejmcgcfopmkaaAggI
import Derived.Test.YtaejmcgcfopmkaaEvI
namespace Go.Proofs.Ytaejmcgcfopmkaa
open Go Go.RowKit
def pCap (a b : Int) : Int := sCap a b
def rOver (a b : Int) : Bool := decide (0 < b ∧ IntKind.i64.wrap (9223372036854775807 - b) < a ∨ b < 0 ∧ a < IntKind.i64.wrap (-9223372036854775808 - b))
def rCap (a b : Int) : Int := if rOver a b = true then (if 0 < b then 9223372036854775807 else -9223372036854775808) else IntKind.i64.wrap (a + b)
set_option maxRecDepth 100000 in
theorem n_pcap : NatP 39 (nat2i pCap) := nat2i_ok (d := 2) evP_ok fun a b H n κ hk => by
  repeat' (conv => whnf
           first | refine Fork.dec (fun _ => ?_) (fun _ => ?_) | refine Fork.ndec (fun _ => ?_) (fun _ => ?_) | refine Fork.sb (fun _ => ?_) (fun _ => ?_) | refine Fork.nsb (fun _ => ?_) (fun _ => ?_) | refine leafI hk ?_)
  all_goals
    simp only [pCap, sCap, sOver, decide_eq_true_eq]
    split
    · first | (split <;> omega) | omega
    · omega
set_option maxRecDepth 100000 in
theorem n_rcap : NatP 47 (nat2i rCap) := nat2i_ok (d := 2) evP_ok fun a b H n κ hk => by
  repeat' (conv => whnf
           first | refine Fork.dec (fun _ => ?_) (fun _ => ?_) | refine Fork.ndec (fun _ => ?_) (fun _ => ?_) | refine Fork.sb (fun _ => ?_) (fun _ => ?_) | refine Fork.nsb (fun _ => ?_) (fun _ => ?_) | refine leafI hk ?_)
  all_goals
    simp only [rCap, rOver, decide_eq_true_eq]
    split
    · first | (split <;> omega) | omega
    · omega
structure SS where
  n : Int
  sum : Int
  least : Int
  great : Int
  first : Int
  last : Int
def stateCells (k : Int) (s : SS) : List AV := [.si .i64 k, .si .i64 s.n, .si .i64 s.sum, .si .i64 s.least, .si .i64 s.great, .si .i64 s.first, .si .i64 s.last, .si .i64 0]
def stateCellsK (k : Int) (s : SS) : List AV := [.int .i64 k, .si .i64 s.n, .si .i64 s.sum, .si .i64 s.least, .si .i64 s.great, .si .i64 s.first, .si .i64 s.last, .si .i64 0]
def aWide (s : SS) : Int := if IntKind.i64.wrap (s.great - s.least) < 0 then 9223372036854775807 else IntKind.i64.wrap (s.great - s.least)
def aVal (k : Int) (s : SS) : Int := if k = 1 then s.sum else if k = 2 then s.least else if k = 3 then s.great else if k = 4 then s.n else if k = 5 then s.first else if k = 6 then s.last else aWide s
def aTold (k : Int) (s : SS) : AV := .tup [.int .i64 (if s.n = 0 then 0 else aVal k s), .bool (!decide (s.n = 0))]
noncomputable def FJ : FuncId → EP := withD 24 [] (withD 46 [] (withS 39 (nat2i pCap) (withS 47 (nat2i rCap) FH)))
theorem FJ_ok : TabP FJ := withD_ok (withD_ok (withS_ok (withS_ok FH_ok n_rcap sing2i) n_pcap sing2i) (by kernel_rfl) (by kernel_rfl)) (by kernel_rfl) (by kernel_rfl)
theorem told0 {k : Int} {s : SS} (h : s.n = 0) : AV.tup [.si .i64 0, .sb false] = mkT (aTold k s) := by simp [aTold, mkT, mk, h]
theorem told1 {k : Int} {s : SS} (h : ¬ s.n = 0) {w : Int} (hw : aVal k s = w) : AV.tup [.si .i64 w, .sb true] = mkT (aTold k s) := by simp [aTold, mkT, mk, h, hw]
set_option maxHeartbeats 4000000 in
set_option maxRecDepth 100000 in
theorem value_run (k : Int) (h1 : 1 ≤ k) (h2 : k ≤ 7) (s : SS) : callT FJ 3 25 [.ptr 0 0] (mkH [(0, .ro (stateCellsK k s))]) 1 fun u _ _ => mkT u = mkT (aTold k s) := by
  obtain ⟨sn, ssum, sl, sg, sf, sla⟩ := s
  rcases kinds (k := k) (by omega) (by omega) with rfl | rfl | rfl | rfl | rfl | rfl | rfl
  all_goals
    repeat' (conv => whnf
             first | refine Fork.dec (fun _ => ?_) (fun _ => ?_) | (refine told0 ?_; assumption) | (refine told1 ?_ rfl; assumption) | (refine told1 ?_ (w := _) ?_))
    all_goals first
      | assumption
      | (show aWide _ = _
         unfold aWide
         first | rw [if_pos (by assumption)] | rw [if_neg (by assumption)])
end Go.Proofs.Ytaejmcgcfopmkaa
