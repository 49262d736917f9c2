/- The walk of AggTimes: a bucket has its own beginning and ends behind it. -/
import Derived.Test.YtaejmcgcfopmkaaAggA
namespace Go.Proofs.Ytaejmcgcfopmkaa
open Go Go.RowKit
set_option maxRecDepth 100000 in
theorem w_aggTimes (t s a : Int) : callT FC 3 6 [.si .i64 t, .si .i64 s, .si .i64 a] .nil 0 fun v _ _ => v = .bool true ∨ v = .sb true := by
  repeat' (conv => whnf
           first | refine Fork.dec (fun _ => ?_) (fun _ => ?_) | refine Fork.ndec (fun _ => ?_) (fun _ => ?_) | exact .inl rfl)
  all_goals
    exfalso
    obtain ⟨L1, L2, L3, L4, L5, L6, L7⟩ := times_law (t := t) (s := s) (a := a) ⟨by omega, by omega, by omega, by omega, by omega, by omega⟩
    have hb := sStart_bounds (t := t) (s := s) (a := a)
    have e1 : IntKind.i64.wrap (sEnd (sStart t s a) s a - sStart t s a) = sEnd (sStart t s a) s a - sStart t s a := wrap_i64_of (by omega) (by omega)
    have e2 : IntKind.i64.wrap (sStart t s a - 1) = sStart t s a - 1 := wrap_i64_of (by omega) (by omega)
    rw [← e2] at L7
    omega
end Go.Proofs.Ytaejmcgcfopmkaa
