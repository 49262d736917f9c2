/- What samples make, of the reference, as a known function. -/
import Derived.Test.YtaejmcgcfopmkaaAggL
namespace Go.Proofs.Ytaejmcgcfopmkaa
open Go Go.RowKit
noncomputable def FM : FuncId → EP := withS 37 (natKI rTold) FL
theorem FM_ok : TabP FM := withS_ok FL_ok n_rvalues singKI
noncomputable abbrev rfoldSt (k : Int) (L : Smp) (cap : Nat) : Nat → AE × AH
  | 0 => (mkE [(0, .si .i64 k), (1, .sl 0 0 L.length cap 0), (6, .nsl), (7, .si .i64 0)], mkH [(0, .ro (smp L))])
  | i + 1 => (mkE [(0, .si .i64 k), (1, .sl 0 0 L.length cap 0), (6, .sl 1 0 (i + 1) (i + 1) 1), (7, .si .i64 (i + 1 : Nat))], mkH [(0, .ro (smp L)), (1, .cells (ints (vals (L.take (i + 1)))) true)])
theorem rfold_cov {k : Int} {L : Smp} {cap i n p : Nat} {σ : AE} {H : AH} {l : List AV} (hp : p ≤ 1) (e0 : mk (getq (pa 0) σ) = .si .i64 k) (e1 : mk (getq (pa 1) σ) = .sy 0 0 L.length cap 0) (e6 : mk (getq (pa 6) σ) = .sy 3 0 (i + 1) (i + 1) 1) (e7 : mk (getq (pa 7) σ) = .si .i64 (i + 1 : Nat))
    (h0 : H.get 0 = some (.ro (smp L))) (h1 : H.get 3 = some (.cells l true)) (h2 : l.map mk = ints (vals (L.take (i + 1)))) : Cov p σ H n ((rfoldSt k L cap (i + 1)).1, (rfoldSt k L cap (i + 1)).2, 2) := by
  refine Cov.of (fun b => if b = 0 then 0 else 3) (by omega) (fun b hb => by rw [if_pos (by omega)]; omega) ?_ ?_ ?_
  · intro x hx
    simp only [List.mem_cons, List.not_mem_nil, or_false] at hx
    rcases hx with rfl | rfl | rfl | rfl
    · exact .int e0
    · exact .sl (by decide) e1
    · exact .sl (by decide) e6
    · exact .int e7
  · intro x hx
    simp only [List.mem_cons, List.not_mem_nil, or_false] at hx
    rcases hx with rfl | rfl
    · exact ⟨by simp, _, h0, SubO.ro_mk (smp_flat L) rfl⟩
    · exact ⟨by simp, _, h1, SubO.cells_mk (ints_flat _) (by rw [h2, ints_map]) (fun q => q)⟩
  · intro x hx y hy
    simp only [List.mem_cons, List.not_mem_nil, or_false] at hx hy
    rcases hx with rfl | rfl <;> rcases hy with rfl | rfl <;> simp
theorem rfold_cov0 {k : Int} {L : Smp} {cap n p : Nat} {σ : AE} {H : AH} (hp : p ≤ 1) (e0 : mk (getq (pa 0) σ) = .si .i64 k) (e1 : mk (getq (pa 1) σ) = .sy 0 0 L.length cap 0) (e6 : mk (getq (pa 6) σ) = .nsl) (e7 : mk (getq (pa 7) σ) = .si .i64 0)
    (h0 : H.get 0 = some (.ro (smp L))) : Cov p σ H n ((rfoldSt k L cap 0).1, (rfoldSt k L cap 0).2, 2) := by
  refine Cov.of (fun b => b) (by omega) (fun b hb => rfl) ?_ ?_ ?_
  · intro x hx
    simp only [List.mem_cons, List.not_mem_nil, or_false] at hx
    rcases hx with rfl | rfl | rfl | rfl
    · exact .int e0
    · exact .sl (by decide) e1
    · exact .flat rfl e6
    · exact .int e7
  · intro x hx
    simp only [List.mem_cons, List.not_mem_nil, or_false] at hx
    subst hx
    exact ⟨by simp, _, h0, SubO.ro_mk (smp_flat L) rfl⟩
  · intro x hx y hy
    simp only [List.mem_cons, List.not_mem_nil, or_false] at hx hy
    subst hx hy
    exact fun q => q
def rFold (k : Int) (L : Smp) : AV := rTold k (vals L)
set_option maxRecDepth 100000 in
theorem rfold_nil (k : Int) : callT FM 3 23 [.si .i64 k, .nsl] .nil 0 fun u _ _ => mkT u = mkT (rFold k []) := by
  conv => whnf
  refine LoopP.roll 1 ?_
  conv => whnf
  refine ⟨[], .inl ⟨rfl, rfl⟩, by decide, ?_⟩
  conv => whnf
  rfl
set_option maxHeartbeats 4000000 in
set_option maxRecDepth 100000 in
theorem rfold_run (k : Int) (L : Smp) (cap : Nat) (hL : L.length ≤ 8796093022208) : callT FM 3 23 [.si .i64 k, .sl 0 0 L.length cap 0] (mkH [(0, .ro (smp L))]) 1 fun u _ _ => mkT u = mkT (rFold k L) := by
  conv => whnf
  refine LoopP.mk (_root_.Fin (L.length + 1)) 2 (fun a => rfoldSt k L cap a.val) (fun a => L.length - a.val) 0 ?_ ?_
  · exact rfold_cov0 (Nat.le_refl 1) rfl rfl rfl rfl rfl
  · intro ⟨i, hi⟩
    cases i with
    | zero =>
      conv => whnf
      refine Fork.dec (fun h1 => ?_) (fun h1 => ?_)
      · have h2 : 0 < L.length := Int.ofNat_lt.1 h1
        have hlt : L.length - 1 < L.length - 0 := by omega
        conv => whnf
        refine Idx.mk 0 rfl h2 ?_
        conv => whnf
        refine optP_of (smp_nth1 h2 rfl) ?_
        conv => whnf
        refine ⟨⟨1, by omega⟩, hlt, rfold_cov (i := 0) (Nat.le_refl 1) rfl rfl rfl rfl rfl rfl ?_⟩
        exact Eq.trans rfl (congrArg ints (vals_take h2).symm)
      · have h2 : L = [] := List.eq_nil_of_length_eq_zero (by have : ¬ (0 : Int) < (L.length : Int) := h1; omega)
        subst h2
        conv => whnf
        refine ⟨[], .inl ⟨rfl, rfl⟩, by decide, ?_⟩
        conv => whnf
        rfl
    | succ i =>
      conv => whnf
      refine Fork.dec (fun h1 => ?_) (fun h1 => ?_)
      · have h2 : i + 1 < L.length := Int.ofNat_lt.1 h1
        have hlt : L.length - (i + 2) < L.length - (i + 1) := by omega
        have hw : IntKind.i64.wrap (((i + 1 : Nat) : Int) + 1) = ((i + 1 + 1 : Nat) : Int) := by rw [wrap_i64_of (x := ((i + 1 : Nat) : Int) + 1) (by omega) (by omega)]; omega
        conv => whnf
        refine Idx.mk (i + 1) rfl h2 ?_
        conv => whnf
        refine optP_of (smp_nth1 h2 (by show 0 + (i + 1) * 2 + 1 = (i + 1) * 2 + 1; omega)) ?_
        conv => whnf
        refine optP_of (app_grow (k := 0) (by' := 8) (m := 1) (sn := i + 1) (c := i + 1) rfl rfl rfl rfl rfl rfl rfl rfl (by decide) rfl rfl rfl (by omega) (by omega) (subL_all (by rw [ints_length, vals_len (by omega)]; omega))) ?_
        conv => whnf
        refine ⟨⟨i + 2, by omega⟩, hlt, rfold_cov (i := i + 1) (Nat.le_refl 1) rfl rfl rfl (congrArg (AV.si .i64) hw) rfl rfl ?_⟩
        refine Eq.trans ?_ (congrArg ints (vals_take h2).symm)
        exact ints_snoc _ _
      · have h2 : i + 1 = L.length := by have : ¬ ((i + 1 : Nat) : Int) < (L.length : Int) := h1; omega
        have hv : (vals (L.take (i + 1))).length = i + 1 := vals_len (by omega)
        have hL' : L.take (i + 1) = L := by rw [h2, List.take_length]
        conv => whnf
        refine ⟨vals (L.take (i + 1)), .inr ⟨1, 0, i + 1, 1, _, _, (show _ = AV.sl 1 0 (i + 1) (i + 1) 1 from rfl).trans (by rw [hv]), .inr ⟨_, rfl⟩, subL_all (ints_length _), ints_map _⟩, by omega, ?_⟩
        conv => whnf
        exact (show mkT _ = mkT (rTold k (vals (L.take (i + 1)))) from rfl).trans (by rw [hL']; rfl)
theorem n_rfold : NatP 23 (natKS 8796093022208 rFold) := natKS_ok FM_ok (by kernel_rfl) (fun k V => rfl) rfold_nil rfold_run
end Go.Proofs.Ytaejmcgcfopmkaa
