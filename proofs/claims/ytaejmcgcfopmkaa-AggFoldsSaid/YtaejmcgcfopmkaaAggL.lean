/- What numbers make, of the reference, as a known function. -/
import Derived.Test.YtaejmcgcfopmkaaAggK
namespace Go.Proofs.Ytaejmcgcfopmkaa
open Go Go.RowKit
noncomputable def FL : FuncId → EP := withD 37 [] (withS 22 (natKS 9223372036854775807 aFold) FK)
theorem FL_ok : TabP FL := withD_ok (withS_ok FK_ok n_fold singKS) (by kernel_rfl) (by kernel_rfl)
/-! ### what numbers make -/
def rWide (least most : Int) : Int := if 0 ≤ least ∨ most < 0 ∨ most ≤ IntKind.i64.wrap (9223372036854775807 + least) then IntKind.i64.wrap (most - least) else 9223372036854775807
def rVal (k x : Int) (r : List Int) : Int := if k = 1 then r.foldl rCap x else if k = 2 then r.foldl min x else if k = 3 then r.foldl max x else if k = 4 then (r.length + 1 : Nat) else if k = 5 then x else if k = 6 then (x :: r)[r.length]'(by simp) else rWide (r.foldl min x) (r.foldl max x)
def rNum (k : Int) (V : List Int) : Int := if sRight k = true then (match V with
  | [] => 0
  | x :: r => rVal k x r) else 0
def rHas (k : Int) (V : List Int) : Bool := sRight k && !V.isEmpty
def rTold (k : Int) (V : List Int) : AV := .tup [.int .i64 (rNum k V), .bool (rHas k V)]
theorem name_empty {k : Int} (h : beqL (sName k) [] = true) : sRight k = false := by rw [right_name, h]; rfl
theorem name_full {k : Int} (h : beqL (sName k) [] = false) : sRight k = true := by rw [right_name, h]; rfl
theorem rTold_neg {k : Int} {V : List Int} (h : sRight k = false) : rTold k V = .tup [.int .i64 0, .bool false] := by simp [rTold, rNum, rHas, h]
theorem rTold_nil {k : Int} : rTold k [] = .tup [.int .i64 0, .bool false] := by simp [rTold, rNum, rHas]
theorem rTold_pos {k x : Int} {r : List Int} (h : sRight k = true) : rTold k (x :: r) = .tup [.int .i64 (rVal k x r), .bool true] := by simp [rTold, rNum, rHas, h]
theorem leafR {k x w : Int} {r : List Int} (hr : sRight k = true) (h : rVal k x r = w) : AV.tup [.si .i64 w, .sb true] = mkT (rTold k (x :: r)) := by rw [rTold_pos hr, ← h]; rfl
/-! ### the walk -/
noncomputable def valSt (k x : Int) (r : List Int) (cap i : Nat) : AE × AH := (mkE [(0, .si .i64 k), (1, .sl 0 0 (r.length + 1) cap 0), (6, .si .i64 ((r.take i).foldl rCap x)), (7, .si .i64 ((r.take i).foldl min x)), (8, .si .i64 ((r.take i).foldl max x)), (9, .si .i64 (i + 1 : Nat))], mkH [(0, .ro (ints (x :: r)))])
theorem val_cov {k x : Int} {r : List Int} {cap i p n : Nat} {σ : AE} {H : AH} (hp : p ≤ 1) (e0 : mk (getq (pa 0) σ) = .si .i64 k) (e1 : mk (getq (pa 1) σ) = .sy 0 0 (r.length + 1) cap 0) (e6 : mk (getq (pa 6) σ) = .si .i64 ((r.take i).foldl rCap x))
    (e7 : mk (getq (pa 7) σ) = .si .i64 ((r.take i).foldl min x)) (e8 : mk (getq (pa 8) σ) = .si .i64 ((r.take i).foldl max x)) (e9 : mk (getq (pa 9) σ) = .si .i64 (i + 1 : Nat)) (h0 : H.get 0 = some (.ro (ints (x :: r)))) : Cov p σ H n ((valSt k x r cap i).1, (valSt k x r cap i).2, 1) := by
  refine Cov.of (fun b => b) hp (fun b hb => rfl) ?_ ?_ ?_
  · intro x hx
    simp only [List.mem_cons, List.not_mem_nil, or_false] at hx
    rcases hx with rfl | rfl | rfl | rfl | rfl | rfl
    · exact .int e0
    · exact .sl (by decide) e1
    · exact .int e6
    · exact .int e7
    · exact .int e8
    · exact .int e9
  · intro x hx
    simp only [List.mem_cons, List.not_mem_nil, or_false] at hx
    subst hx
    exact ⟨by simp, _, h0, SubO.ro_mk (ints_flat _) rfl⟩
  · intro x hx y hy
    simp only [List.mem_cons, List.not_mem_nil, or_false] at hx hy
    subst hx hy
    exact fun q => q
set_option maxRecDepth 100000 in
theorem values_nil (k : Int) : callT FL 3 37 [.si .i64 k, .nsl] .nil 0 fun u _ _ => mkT u = mkT (rTold k []) := by
  rw [rTold_nil]
  conv => whnf
  refine Fork.sb (fun h1 => ?_) (fun h1 => ?_)
  · conv => whnf
    rfl
  · conv => whnf
    rfl
set_option maxHeartbeats 4000000 in
set_option maxRecDepth 100000 in
theorem values_run (k : Int) (V : List Int) (cap : Nat) (hV : V.length ≤ 9223372036854775807) : callT FL 3 37 [.si .i64 k, .sl 0 0 V.length cap 0] (mkH [(0, .ro (ints V))]) 1 fun u _ _ => mkT u = mkT (rTold k V) := by
  rcases V with _ | ⟨x, r⟩
  · rw [rTold_nil]
    conv => whnf
    refine Fork.sb (fun h1 => ?_) (fun h1 => ?_)
    · conv => whnf
      rfl
    · conv => whnf
      rfl
  · conv => whnf
    refine Fork.sb (fun h1 => ?_) (fun h1 => ?_)
    · rw [rTold_neg (name_empty h1)]
      conv => whnf
      rfl
    · have hr := name_full h1
      have hk := right_pos hr
      simp only [List.length_cons] at hV
      conv => whnf
      refine LoopP.mk (_root_.Fin (r.length + 1)) 1 (fun a => valSt k x r cap a.val) (fun a => r.length - a.val) 0 ?_ ?_
      · exact val_cov (i := 0) (Nat.le_refl 1) rfl rfl rfl rfl rfl rfl rfl
      · intro ⟨i, hi⟩
        conv => whnf
        refine Fork.dec (fun h2 => ?_) (fun h2 => ?_)
        · have h2 : ((i + 1 : Nat) : Int) < ((r.length + 1 : Nat) : Int) := h2
          have h3 : i < r.length := by omega
          have hlt : r.length - (i + 1) < r.length - i := by omega
          have hw : IntKind.i64.wrap (((i + 1 : Nat) : Int) + 1) = ((i + 1 + 1 : Nat) : Int) := by rw [wrap_i64_of (x := ((i + 1 : Nat) : Int) + 1) (by omega) (by omega)]; omega
          have hat : nth (ints (x :: r)) (0 + (i + 1) * 1) = some (.si .i64 r[i]) := ints_nth (V := x :: r) (i := i + 1) (by simp; omega) (by omega)
          conv => whnf
          refine Idx.mk (i + 1) rfl (by omega) ?_
          conv => whnf
          refine optP_of hat ?_
          conv => whnf
          refine Idx.mk (i + 1) rfl (by omega) ?_
          conv => whnf
          refine optP_of hat ?_
          conv => whnf
          refine Idx.mk (i + 1) rfl (by omega) ?_
          conv => whnf
          refine optP_of hat ?_
          conv => whnf
          exact ⟨⟨i + 1, by omega⟩, hlt, val_cov (Nat.le_refl 1) rfl rfl (congrArg (AV.si .i64) (foldl_take (f := rCap) (b := x) h3).symm) (congrArg (AV.si .i64) (foldl_take (f := min) (b := x) h3).symm) (congrArg (AV.si .i64) (foldl_take (f := max) (b := x) h3).symm) (congrArg (AV.si .i64) hw) rfl⟩
        · have h2 : ¬ ((i + 1 : Nat) : Int) < ((r.length + 1 : Nat) : Int) := h2
          have h3 : i = r.length := by omega
          subst h3
          obtain ⟨j, hj⟩ : ∃ j : Nat, k = (j : Int) + 1 := ⟨(k - 1).toNat, by omega⟩
          have hkw : IntKind.i64.wrap (k - 1) = (j : Int) := by rw [wrap_i64_of (by omega) (by omega)]; omega
          have hlw : IntKind.i64.wrap (((r.length + 1 : Nat) : Int) - 1) = (r.length : Int) := by rw [wrap_i64_of (by omega) (by omega)]; omega
          have htk : r.take r.length = r := List.take_length
          repeat' (conv => whnf
                   first | refine Fork.dec (fun _ => ?_) (fun _ => ?_) | refine optP_of (eix_of rfl hlw (Nat.lt_succ_self _)) ?_ | refine optP_of (ints_nth (V := x :: r) (i := r.length) (by simp) (by show 0 + r.length * 1 = r.length; omega)) ?_ | refine Idx.mk j hkw (by show j < 7; omega) ?_)
          all_goals
            have hj7 : j = 0 ∨ j = 1 ∨ j = 2 ∨ j = 3 ∨ j = 4 ∨ j = 5 ∨ j = 6 := by omega
            rcases hj7 with rfl | rfl | rfl | rfl | rfl | rfl | rfl
            all_goals (conv => whnf)
            all_goals refine (show mkT _ = AV.tup [.si .i64 _, .sb true] from rfl).trans (leafR hr ?_)
          all_goals
            subst hj
            simp only [List.take_length] at *
            first
              | rfl
              | (show rWide _ _ = _
                 unfold rWide
                 first | (rw [if_pos]; omega) | (rw [if_neg]; omega))
theorem n_rvalues : NatP 37 (natKI rTold) := natKI_ok FL_ok (by kernel_rfl) (fun k V => rfl) values_nil values_run
end Go.Proofs.Ytaejmcgcfopmkaa
