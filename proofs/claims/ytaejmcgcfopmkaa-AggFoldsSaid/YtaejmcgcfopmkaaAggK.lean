/- What samples make, of package agg, as a known function. -/
import Derived.Test.YtaejmcgcfopmkaaAggJ
namespace Go.Proofs.Ytaejmcgcfopmkaa
open Go Go.RowKit
/-! ### a state's value, known -/
def StateAt (H : AH) (b : Nat) (k : Int) (s : SS) : Prop := ∃ l, (H.get b = some (.ro l) ∨ ∃ z, H.get b = some (.cells l z)) ∧ l.map mk = stateCells k s
def natVal (args : List AV) (H : AH) (n : Nat) (κ : PK) : Prop := match args with
  | [a] => (a = .nil ∧ κ (.tup [.si .i64 0, .sb false]) H n) ∨ ∃ k s b, a = .ptr b 0 ∧ StateAt H b k s ∧ 1 ≤ k ∧ k ≤ 7 ∧ κ (mkT (aTold k s)) H n
  | _ => False
theorem singVal : SingG natVal := .pure fun args H n κ hs => by
  unfold natVal at *
  split at hs
  · rcases hs with ⟨h1, h2⟩ | ⟨k, s, b, h1, h2, h3, h4, h5⟩
    · exact ⟨_, h2, fun κ' h => .inl ⟨h1, h⟩⟩
    · exact ⟨_, h5, fun κ' h => .inr ⟨k, s, b, h1, h2, h3, h4, h⟩⟩
  · exact hs.elim
set_option maxRecDepth 100000 in
theorem value_nil : callT FJ 3 25 [.nil] .nil 0 fun u _ _ => mkT u = mkT (.tup [.int .i64 0, .bool false]) := by
  conv => whnf
  rfl
theorem n_value : NatP 25 natVal := fun args H n κ hs φ h0 hp vs K hr hargs hk => by
  unfold natVal at hs
  split at hs
  · obtain ⟨x, rfl, h1⟩ := vs1 hargs
    rcases hs with ⟨rfl, h2⟩ | ⟨k, s, b, rfl, ⟨l, hb, hl⟩, h3, h4, h5⟩
    · exact smallN (v := .tup [.int .i64 0, .bool false]) FJ_ok rfl value_nil h2 hr hk (by kernel_rfl) HR.ro0 (.cons (by rw [h1.nil_inv]; exact .nil) .nil)
    · obtain ⟨p, hpb, rfl⟩ := h1.ptr_inv
      have hlen : l.length = 8 := by simpa [stateCells] using congrArg List.length hl
      have hro := RoAt.of (s := stateCellsK k s) hr hb hpb (subL_all hlen) (by rw [hl]; rfl) rfl
      exact smallN FJ_ok (v := aTold k s) rfl (value_run k h3 h4 s) h5 hr hk (by kernel_rfl) (fun hw => HR.ro1 hw hro) (.cons (.ptr (p := ⟨p.B, p.s + 0, 8⟩) (b := 0) (o := 0) rfl) .nil)
  · exact hs.elim
noncomputable def FK : FuncId → EP := withS 25 natVal FJ
theorem FK_ok : TabP FK := withS_ok FJ_ok n_value singVal
/-! ### numbers added -/
def aAdd (s : SS) (v : Int) : SS := if s.n = 0 then ⟨IntKind.i64.wrap (s.n + 1), pCap s.sum v, min v v, max v v, v, v⟩ else ⟨IntKind.i64.wrap (s.n + 1), pCap s.sum v, min s.least v, max s.great v, s.first, v⟩
def ss0 : SS := ⟨0, 0, 0, 0, 0, 0⟩
def aAll (L : Smp) : SS := L.foldl (fun s x => aAdd s x.2) ss0
theorem aAll_take {L : Smp} {i : Nat} (h : i < L.length) : aAll (L.take (i + 1)) = aAdd (aAll (L.take i)) L[i].2 := by
  unfold aAll
  rw [List.take_succ_eq_append_getElem h, List.foldl_append]; rfl
def aNum (k : Int) (L : Smp) : Int := if sRight k = true then (if (aAll L).n = 0 then 0 else aVal k (aAll L)) else 0
def aHas (k : Int) (L : Smp) : Bool := sRight k && !decide ((aAll L).n = 0)
def aFold (k : Int) (L : Smp) : AV := .tup [.int .i64 (aNum k L), .bool (aHas k L)]
theorem aFold_pos {k : Int} {L : Smp} (h : sRight k = true) : aFold k L = aTold k (aAll L) := by simp [aFold, aNum, aHas, aTold, h]
theorem aFold_neg {k : Int} {L : Smp} (h : sRight k = false) : aFold k L = .tup [.int .i64 0, .bool false] := by simp [aFold, aNum, aHas, h]
/-! ### the walk -/
noncomputable def foldSt (k : Int) (L : Smp) (cap i : Nat) : AE × AH := (mkE [(6, .ptr 1 0), (15, .sl 0 0 L.length cap 0), (16, .si .i64 L.length), (17, .si .i64 i)], mkH [(0, .ro (smp L)), (1, .cells (stateCells k (aAll (L.take i))) true)])
theorem fold_cov {k : Int} {L : Smp} {cap i p n : Nat} {σ : AE} {H : AH} {l : List AV} (hp : p ≤ 2) (e6 : getq (pa 6) σ = .ptr 1 0) (e15 : mk (getq (pa 15) σ) = .sy 0 0 L.length cap 0) (e16 : mk (getq (pa 16) σ) = .si .i64 L.length) (e17 : mk (getq (pa 17) σ) = .si .i64 i)
    (h0 : H.get 0 = some (.ro (smp L))) (h1 : H.get 1 = some (.cells l true)) (h2 : l.map mk = stateCells k (aAll (L.take i))) : Cov p σ H n ((foldSt k L cap i).1, (foldSt k L cap i).2, 2) := by
  refine Cov.of (fun b => b) hp (fun b hb => rfl) ?_ ?_ ?_
  · intro x hx
    simp only [List.mem_cons, List.not_mem_nil, or_false] at hx
    rcases hx with rfl | rfl | rfl | rfl
    · exact .ptr (by decide) e6
    · exact .sl (by decide) e15
    · exact .int e16
    · exact .int e17
  · intro x hx
    simp only [List.mem_cons, List.not_mem_nil, or_false] at hx
    rcases hx with rfl | rfl
    · exact ⟨by simp, _, h0, SubO.ro_mk (smp_flat L) rfl⟩
    · exact ⟨by simp, _, h1, SubO.cells_mk rfl h2 (fun q => q)⟩
  · intro x hx y hy
    simp only [List.mem_cons, List.not_mem_nil, or_false] at hx hy
    rcases hx with rfl | rfl <;> rcases hy with rfl | rfl <;> exact fun q => q
noncomputable def foldSt0 (L : Smp) (cap i : Nat) : AE × AH := (mkE [(6, .nil), (15, .sl 0 0 L.length cap 0), (16, .si .i64 L.length), (17, .si .i64 i)], mkH [(0, .ro (smp L))])
theorem fold_cov0 {L : Smp} {cap i p n : Nat} {σ : AE} {H : AH} (hp : p ≤ 1) (e6 : getq (pa 6) σ = .nil) (e15 : mk (getq (pa 15) σ) = .sy 0 0 L.length cap 0) (e16 : mk (getq (pa 16) σ) = .si .i64 L.length) (e17 : mk (getq (pa 17) σ) = .si .i64 i)
    (h0 : H.get 0 = some (.ro (smp L))) : Cov p σ H n ((foldSt0 L cap i).1, (foldSt0 L cap i).2, 1) := by
  refine Cov.of (fun b => b) hp (fun b hb => rfl) ?_ ?_ ?_
  · intro x hx
    simp only [List.mem_cons, List.not_mem_nil, or_false] at hx
    rcases hx with rfl | rfl | rfl | rfl
    · exact .flat rfl (congrArg mk e6)
    · exact .sl (by decide) e15
    · exact .int e16
    · exact .int e17
  · intro x hx
    simp only [List.mem_cons, List.not_mem_nil, or_false] at hx
    subst hx
    exact ⟨by simp, _, h0, SubO.ro_mk (smp_flat L) rfl⟩
  · intro x hx y hy
    simp only [List.mem_cons, List.not_mem_nil, or_false] at hx hy
    subst hx hy
    exact fun q => q
theorem eight {a1 a2 a3 a4 a5 a6 a7 a8 b1 b2 b3 b4 b5 b6 b7 b8 : AV} (h1 : mk a1 = b1) (h2 : mk a2 = b2) (h3 : mk a3 = b3) (h4 : mk a4 = b4) (h5 : mk a5 = b5) (h6 : mk a6 = b6) (h7 : mk a7 = b7) (h8 : mk a8 = b8) :
    List.map mk [a1, a2, a3, a4, a5, a6, a7, a8] = [b1, b2, b3, b4, b5, b6, b7, b8] := by subst h1 h2 h3 h4 h5 h6 h7 h8; rfl
theorem right_pos {k : Int} (h : sRight k = true) : 1 ≤ k ∧ k ≤ 7 := by simpa only [sRight, decide_eq_true_eq] using h
set_option maxHeartbeats 4000000 in
set_option maxRecDepth 100000 in
theorem fold_run (k : Int) (L : Smp) (cap : Nat) (hL : L.length ≤ 9223372036854775807) : callT FK 3 22 [.si .i64 k, .sl 0 0 L.length cap 0] (mkH [(0, .ro (smp L))]) 1 fun u _ _ => mkT u = mkT (aFold k L) := by
  conv => whnf
  refine Fork.nsb (fun hr => ?_) (fun hr => ?_)
  · conv => whnf
    refine LoopP.mk (_root_.Fin (L.length + 1)) 1 (fun a => foldSt0 L cap a.val) (fun a => L.length - a.val) 0 ?_ ?_
    · exact fold_cov0 (i := 0) (by decide) rfl rfl rfl rfl rfl
    · intro ⟨i, hi⟩
      conv => whnf
      refine Fork.dec (fun h1 => ?_) (fun h1 => ?_)
      · have h2 : i < L.length := Int.ofNat_lt.1 h1
        have hw : IntKind.i64.wrap ((i : Int) + 1) = ((i + 1 : Nat) : Int) := by rw [wrap_i64_of (by omega) (by omega)]; omega
        conv => whnf
        refine Idx.mk i rfl h2 ?_
        conv => whnf
        refine optP_of (smp_sub h2 (by show 0 + i * 2 = i * 2; omega)) ?_
        have hlt : L.length - (i + 1) < L.length - i := by omega
        conv => whnf
        exact ⟨⟨i + 1, by omega⟩, hlt, fold_cov0 (Nat.le_refl 1) rfl rfl rfl (congrArg (AV.si IntKind.i64) hw) rfl⟩
      · conv => whnf
        refine .inl ⟨rfl, ?_⟩
        conv => whnf
        exact (show mkT _ = AV.tup [.si .i64 0, .sb false] from rfl).trans (by rw [aFold_neg hr]; rfl)
  · have hk := right_pos hr
    conv => whnf
    refine LoopP.mk (_root_.Fin (L.length + 1)) 2 (fun a => foldSt k L cap a.val) (fun a => L.length - a.val) 0 ?_ ?_
    · exact fold_cov (i := 0) (by decide) rfl rfl rfl rfl rfl rfl rfl
    · intro ⟨i, hi⟩
      conv => whnf
      refine Fork.dec (fun h1 => ?_) (fun h1 => ?_)
      · have h2 : i < L.length := Int.ofNat_lt.1 h1
        have hw : IntKind.i64.wrap ((i : Int) + 1) = ((i + 1 : Nat) : Int) := by rw [wrap_i64_of (by omega) (by omega)]; omega
        conv => whnf
        refine Idx.mk i rfl h2 ?_
        conv => whnf
        refine optP_of (smp_sub h2 (by show 0 + i * 2 = i * 2; omega)) ?_
        have hlt : L.length - (i + 1) < L.length - i := by omega
        conv => whnf
        refine Fork.ndec (fun h3 => absurd (show (0 : Int) < k by omega) h3) (fun h3 => ?_)
        conv => whnf
        refine Fork.dec (fun h4 => ?_) (fun h4 => ?_)
        · conv => whnf
          refine ⟨⟨i + 1, by omega⟩, hlt, fold_cov (l := _) (Nat.le_succ 1) rfl rfl rfl (congrArg (AV.si IntKind.i64) hw) rfl rfl ?_⟩
          exact Eq.trans rfl (congrArg (stateCells k) ((aAll_take h2).trans (if_pos h4)).symm)
        · conv => whnf
          refine ⟨⟨i + 1, by omega⟩, hlt, fold_cov (l := _) (Nat.le_succ 1) rfl rfl rfl (congrArg (AV.si IntKind.i64) hw) rfl rfl ?_⟩
          exact Eq.trans rfl (congrArg (stateCells k) ((aAll_take h2).trans (if_neg h4)).symm)
      · conv => whnf
        have h2 : i = L.length := by have : ¬ (i : Int) < L.length := h1; omega
        subst h2
        refine .inr ⟨k, aAll (L.take L.length), 1, rfl, ⟨_, .inr ⟨_, rfl⟩, rfl⟩, hk.1, hk.2, ?_⟩
        conv => whnf
        rw [List.take_length]
        rw [aFold_pos hr]
        rfl
set_option maxHeartbeats 4000000 in
set_option maxRecDepth 100000 in
theorem fold_nil (k : Int) : callT FK 3 22 [.si .i64 k, .nsl] .nil 0 fun u _ _ => mkT u = mkT (aFold k []) := by
  conv => whnf
  refine Fork.nsb (fun hr => ?_) (fun hr => ?_)
  · conv => whnf
    refine LoopP.roll 1 ?_
    conv => whnf
    refine .inl ⟨rfl, ?_⟩
    conv => whnf
    exact (show mkT _ = AV.tup [.si .i64 0, .sb false] from rfl).trans (by rw [aFold_neg hr]; rfl)
  · have hk := right_pos hr
    conv => whnf
    refine LoopP.roll 1 ?_
    conv => whnf
    refine .inr ⟨k, ss0, 0, rfl, ⟨_, .inr ⟨_, rfl⟩, rfl⟩, hk.1, hk.2, ?_⟩
    conv => whnf
    exact (show mkT _ = mkT (aTold k ss0) from rfl).trans (congrArg mkT (aFold_pos (L := []) hr).symm)
theorem n_fold : NatP 22 (natKS 9223372036854775807 aFold) := natKS_ok FK_ok (by kernel_rfl) (fun k L => rfl) fold_nil fold_run
end Go.Proofs.Ytaejmcgcfopmkaa
