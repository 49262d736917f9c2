/- The walk of AggTells. -/
import Derived.Test.YtaejmcgcfopmkaaAggH
namespace Go.Proofs.Ytaejmcgcfopmkaa
open Go Go.RowKit
def d_tachographlaw06AggTells : DT := [(5, [(some 0, [0]), (none, [25]), (some 1, [0]), (none, [27]), (some 0, [28]), (some 0, [26, 29]), (some 0, [30]), (some 0, [0, 31]), (none, [32, 31]), (some 1, [0, 31]), (none, [34, 31]), (some 0, [33, 35, 31]), (some 0, [31, 36]), (some 0, [37]), (some 0, [7, 38]), (some 0, [9, 38]), (some 0, [39, 40, 38]), (some 0, [38, 41]), (some 0, [42]), (some 0, [8, 43]), (some 0, [10, 43]), (some 0, [44, 45, 43]), (some 0, [43, 46]), (some 0, [47]), (some 0, [5, 48]), (some 0, [49, 48]), (some 0, [5, 48]), (some 0, [51, 48]), (some 0, [5, 48]), (some 0, [53, 48]), (none, [50, 52, 54, 48]), (some 1, [5, 48]), (some 2, [56, 48]), (some 3, [5, 48]), (some 4, [58, 48]), (some 5, [5, 48]), (some 6, [60, 48]), (none, [57, 59, 61, 48]), (some 0, [55, 62, 48]), (some 0, [48, 63]), (some 0, [64]), (some 0, [5, 65]), (some 0, [66, 65]), (some 0, [5, 65]), (some 0, [68, 65]), (some 0, [5, 65]), (some 0, [70, 65]), (none, [67, 69, 71, 65]), (some 1, [5, 65]), (some 2, [73, 65]), (some 3, [5, 65]), (some 4, [75, 65]), (some 5, [5, 65]), (some 6, [77, 65]), (none, [74, 76, 78, 65]), (some 0, [72, 79, 65]), (some 0, [65, 80]), (some 0, [81]), (none, [82]), (some 0, [82, 83]), (some 0, [84])])]
noncomputable def FH : FuncId → EP := withD 3 d_tachographlaw06AggTells (withS 20 (nat3 sEnd) (withS 13 (natS fun s => .tup [.int .i64 (pk (rIs s)), .int .i64 (pkE (rIs s))]) (withS 12 (natS fun s => .tup [.int .i64 (pk (aIs s)), .int .i64 (pkE (aIs s))]) FG)))
theorem FH_ok : TabP FH := withD_ok (withS_ok (withS_ok (withS_ok FG_ok n_parse singS) n_rparse singS) n_rend sing3) (by kernel_rfl) (by kernel_rfl)
theorem beqL_refl : ∀ l : List Nat, beqL l l = true
  | [] => rfl
  | a :: l => by
    unfold beqL
    rw [show Nat.beq a a = true from Nat.beq_refl a]
    exact beqL_refl l
theorem right_name (k : Int) : sRight k = !beqL (sName k) [] := by
  unfold sRight sName
  repeat' split
  all_goals first | (subst_vars; rfl) | (rw [decide_eq_false (by omega)]; rfl)
set_option maxHeartbeats 4000000 in
set_option maxRecDepth 100000 in
theorem w_aggTells (k : Int) (s : List Nat) (x y z : Int) : callT FH 3 3 [.si .i64 k, .ss s, .agg [.si .i64 x, .si .i64 y, .si .i64 z]] .nil 0 fun v _ _ => v = .bool true ∨ v = .sb true := by
  conv => whnf
  refine Fork.dec (fun h1 => ?_) (fun h1 => ?_)
  · conv => whnf
    exact .inl rfl
  · have hl : s.length ≤ 1000000 := by omega
    repeat' (conv => whnf
             first | refine Fork.dec (fun _ => ?_) (fun _ => ?_) | refine Fork.ndec (fun _ => ?_) (fun _ => ?_) | refine Fork.sb (fun _ => ?_) (fun _ => ?_) | refine Fork.nsb (fun _ => ?_) (fun _ => ?_) | refine And.intro hl ?_ | exact .inl rfl)
    all_goals
      exfalso
      have e1 := right_name k
      have e2 := beqL_refl (sName k)
      have e3 := is_same s
      first
        | (rename_i q; exact q rfl)
        | (rename_i q; exact q (by rw [e3]))
        | (rename_i q; rw [e2] at q; cases q)
        | (rename_i q; exact q e1)
end Go.Proofs.Ytaejmcgcfopmkaa
