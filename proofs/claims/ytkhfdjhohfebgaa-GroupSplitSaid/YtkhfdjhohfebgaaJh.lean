/- Texts of our own, joined: the engine, the machine that runs code, and what is known of the functions. -/
import Derived.Test.YtkhfdjhohfebgaaJg
import Derived.Test.YtkhfdjhohfebgaaJf
set_option linter.unusedSimpArgs false
set_option linter.unusedVariables false
namespace Go.Proofs.Ytkhfdjhohfebgaa
open Go Go.RowKit
noncomputable def FH : FuncId → EP := withS 54 (nat3 sEnd) FG
theorem FH_ok : TabP FH := withS_ok FG_ok n_rend sing3
theorem beqL_refl : ∀ l : List Nat, beqL l l = true
  | [] => rfl
  | a :: l => by
    unfold beqL
    rw [show Nat.beq a a = true from Nat.beq_refl a]
    exact beqL_refl l
theorem right_name (k : Int) : sRight k = !beqL (sName k) [] := by
  unfold sRight sName
  repeat' split
  all_goals first | (subst_vars; rfl) | (rw [decide_eq_false (by omega)]; rfl)
end Go.Proofs.Ytkhfdjhohfebgaa
namespace Go.Proofs.Ytkhfdjhohfebgaa
open Go Go.RowKit
def pCap (a b : Int) : Int := sCap a b
def rOver (a b : Int) : Bool := decide (0 < b ∧ IntKind.i64.wrap (9223372036854775807 - b) < a ∨ b < 0 ∧ a < IntKind.i64.wrap (-9223372036854775808 - b))
def rCap (a b : Int) : Int := if rOver a b = true then (if 0 < b then 9223372036854775807 else -9223372036854775808) else IntKind.i64.wrap (a + b)
set_option maxRecDepth 100000 in
theorem n_pcap : NatP 67 (nat2i pCap) := nat2i_ok (d := 2) evP_ok fun a b H n κ hk => by
  repeat' (conv => whnf
           first | refine Fork.dec (fun _ => ?_) (fun _ => ?_) | refine Fork.ndec (fun _ => ?_) (fun _ => ?_) | refine Fork.sb (fun _ => ?_) (fun _ => ?_) | refine Fork.nsb (fun _ => ?_) (fun _ => ?_) | refine leafI hk ?_)
  all_goals
    simp only [pCap, sCap, sOver, decide_eq_true_eq]
    split
    · first | (split <;> omega) | omega
    · omega
set_option maxRecDepth 100000 in
theorem n_rcap : NatP 75 (nat2i rCap) := nat2i_ok (d := 2) evP_ok fun a b H n κ hk => by
  repeat' (conv => whnf
           first | refine Fork.dec (fun _ => ?_) (fun _ => ?_) | refine Fork.ndec (fun _ => ?_) (fun _ => ?_) | refine Fork.sb (fun _ => ?_) (fun _ => ?_) | refine Fork.nsb (fun _ => ?_) (fun _ => ?_) | refine leafI hk ?_)
  all_goals
    simp only [rCap, rOver, decide_eq_true_eq]
    split
    · first | (split <;> omega) | omega
    · omega
structure SS where
  n : Int
  sum : Int
  least : Int
  great : Int
  first : Int
  last : Int
def stateCells (k : Int) (s : SS) : List AV := [.si .i64 k, .si .i64 s.n, .si .i64 s.sum, .si .i64 s.least, .si .i64 s.great, .si .i64 s.first, .si .i64 s.last, .si .i64 0]
def stateCellsK (k : Int) (s : SS) : List AV := [.int .i64 k, .si .i64 s.n, .si .i64 s.sum, .si .i64 s.least, .si .i64 s.great, .si .i64 s.first, .si .i64 s.last, .si .i64 0]
def aWide (s : SS) : Int := if IntKind.i64.wrap (s.great - s.least) < 0 then 9223372036854775807 else IntKind.i64.wrap (s.great - s.least)
def aVal (k : Int) (s : SS) : Int := if k = 1 then s.sum else if k = 2 then s.least else if k = 3 then s.great else if k = 4 then s.n else if k = 5 then s.first else if k = 6 then s.last else aWide s
def aTold (k : Int) (s : SS) : AV := .tup [.int .i64 (if s.n = 0 then 0 else aVal k s), .bool (!decide (s.n = 0))]
noncomputable def FJ : FuncId → EP := withD 57 [] (withD 74 [] (withS 67 (nat2i pCap) (withS 75 (nat2i rCap) FH)))
theorem FJ_ok : TabP FJ := withD_ok (withD_ok (withS_ok (withS_ok FH_ok n_rcap sing2i) n_pcap sing2i) (by kernel_rfl) (by kernel_rfl)) (by kernel_rfl) (by kernel_rfl)
theorem told0 {k : Int} {s : SS} (h : s.n = 0) : AV.tup [.si .i64 0, .sb false] = mkT (aTold k s) := by simp [aTold, mkT, mk, h]
theorem told1 {k : Int} {s : SS} (h : ¬ s.n = 0) {w : Int} (hw : aVal k s = w) : AV.tup [.si .i64 w, .sb true] = mkT (aTold k s) := by simp [aTold, mkT, mk, h, hw]
set_option maxHeartbeats 4000000 in
set_option maxRecDepth 100000 in
theorem value_run (k : Int) (h1 : 1 ≤ k) (h2 : k ≤ 7) (s : SS) : callT FJ 3 58 [.ptr 0 0] (mkH [(0, .ro (stateCellsK k s))]) 1 fun u _ _ => mkT u = mkT (aTold k s) := by
  obtain ⟨sn, ssum, sl, sg, sf, sla⟩ := s
  rcases kinds (k := k) (by omega) (by omega) with rfl | rfl | rfl | rfl | rfl | rfl | rfl
  all_goals
    repeat' (conv => whnf
             first | refine Fork.dec (fun _ => ?_) (fun _ => ?_) | (refine told0 ?_; assumption) | (refine told1 ?_ rfl; assumption) | (refine told1 ?_ (w := _) ?_))
    all_goals first
      | assumption
      | (show aWide _ = _
         unfold aWide
         first | rw [if_pos (by assumption)] | rw [if_neg (by assumption)])
end Go.Proofs.Ytkhfdjhohfebgaa
namespace Go.Proofs.Ytkhfdjhohfebgaa
open Go Go.RowKit
/-! ### a state's value, known -/
def StateAt (H : AH) (b : Nat) (k : Int) (s : SS) : Prop := ∃ l, (H.get b = some (.ro l) ∨ ∃ z, H.get b = some (.cells l z)) ∧ l.map mk = stateCells k s
def natVal (args : List AV) (H : AH) (n : Nat) (κ : PK) : Prop := match args with
  | [a] => (a = .nil ∧ κ (.tup [.si .i64 0, .sb false]) H n) ∨ ∃ k s b, a = .ptr b 0 ∧ StateAt H b k s ∧ 1 ≤ k ∧ k ≤ 7 ∧ κ (mkT (aTold k s)) H n
  | _ => False
theorem singVal : SingG natVal := .pure fun args H n κ hs => by
  unfold natVal at *
  split at hs
  · rcases hs with ⟨h1, h2⟩ | ⟨k, s, b, h1, h2, h3, h4, h5⟩
    · exact ⟨_, h2, fun κ' h => .inl ⟨h1, h⟩⟩
    · exact ⟨_, h5, fun κ' h => .inr ⟨k, s, b, h1, h2, h3, h4, h⟩⟩
  · exact hs.elim
set_option maxRecDepth 100000 in
theorem value_nil : callT FJ 3 58 [.nil] .nil 0 fun u _ _ => mkT u = mkT (.tup [.int .i64 0, .bool false]) := by
  conv => whnf
  rfl
theorem n_value : NatP 58 natVal := fun args H n κ hs φ h0 hp vs K hr hargs hk => by
  unfold natVal at hs
  split at hs
  · obtain ⟨x, rfl, h1⟩ := vs1 hargs
    rcases hs with ⟨rfl, h2⟩ | ⟨k, s, b, rfl, ⟨l, hb, hl⟩, h3, h4, h5⟩
    · exact smallN (v := .tup [.int .i64 0, .bool false]) FJ_ok rfl value_nil h2 hr hk (by kernel_rfl) HR.ro0 (.cons (by rw [h1.nil_inv]; exact .nil) .nil)
    · obtain ⟨p, hpb, rfl⟩ := h1.ptr_inv
      have hlen : l.length = 8 := by simpa [stateCells] using congrArg List.length hl
      have hro := RoAt.of (s := stateCellsK k s) hr hb hpb (subL_all hlen) (by rw [hl]; rfl) rfl
      exact smallN FJ_ok (v := aTold k s) rfl (value_run k h3 h4 s) h5 hr hk (by kernel_rfl) (fun hw => HR.ro1 hw hro) (.cons (.ptr (p := ⟨p.B, p.s + 0, 8⟩) (b := 0) (o := 0) rfl) .nil)
  · exact hs.elim
noncomputable def FK : FuncId → EP := withS 58 natVal FJ
theorem FK_ok : TabP FK := withS_ok FJ_ok n_value singVal
/-! ### numbers added -/
def aAdd (s : SS) (v : Int) : SS := if s.n = 0 then ⟨IntKind.i64.wrap (s.n + 1), pCap s.sum v, min v v, max v v, v, v⟩ else ⟨IntKind.i64.wrap (s.n + 1), pCap s.sum v, min s.least v, max s.great v, s.first, v⟩
def ss0 : SS := ⟨0, 0, 0, 0, 0, 0⟩
def aAll (L : Smp) : SS := L.foldl (fun s x => aAdd s x.2) ss0
theorem aAll_take {L : Smp} {i : Nat} (h : i < L.length) : aAll (L.take (i + 1)) = aAdd (aAll (L.take i)) L[i].2 := by
  unfold aAll
  rw [List.take_succ_eq_append_getElem h, List.foldl_append]; rfl
def aNum (k : Int) (L : Smp) : Int := if sRight k = true then (if (aAll L).n = 0 then 0 else aVal k (aAll L)) else 0
def aHas (k : Int) (L : Smp) : Bool := sRight k && !decide ((aAll L).n = 0)
def aFold (k : Int) (L : Smp) : AV := .tup [.int .i64 (aNum k L), .bool (aHas k L)]
theorem aFold_pos {k : Int} {L : Smp} (h : sRight k = true) : aFold k L = aTold k (aAll L) := by simp [aFold, aNum, aHas, aTold, h]
theorem aFold_neg {k : Int} {L : Smp} (h : sRight k = false) : aFold k L = .tup [.int .i64 0, .bool false] := by simp [aFold, aNum, aHas, h]
/-! ### the walk -/
noncomputable def foldSt (k : Int) (L : Smp) (cap i : Nat) : AE × AH := (mkE [(6, .ptr 1 0), (15, .sl 0 0 L.length cap 0), (16, .si .i64 L.length), (17, .si .i64 i)], mkH [(0, .ro (smp L)), (1, .cells (stateCells k (aAll (L.take i))) true)])
theorem fold_cov {k : Int} {L : Smp} {cap i p n : Nat} {σ : AE} {H : AH} {l : List AV} (hp : p ≤ 2) (e6 : getq (pa 6) σ = .ptr 1 0) (e15 : mk (getq (pa 15) σ) = .sy 0 0 L.length cap 0) (e16 : mk (getq (pa 16) σ) = .si .i64 L.length) (e17 : mk (getq (pa 17) σ) = .si .i64 i)
    (h0 : H.get 0 = some (.ro (smp L))) (h1 : H.get 1 = some (.cells l true)) (h2 : l.map mk = stateCells k (aAll (L.take i))) : Cov p σ H n ((foldSt k L cap i).1, (foldSt k L cap i).2, 2) := by
  refine Cov.of (fun b => b) hp (fun b hb => rfl) ?_ ?_ ?_
  · intro x hx
    simp only [List.mem_cons, List.not_mem_nil, or_false] at hx
    rcases hx with rfl | rfl | rfl | rfl
    · exact .ptr (by decide) e6
    · exact .sl (by decide) e15
    · exact .int e16
    · exact .int e17
  · intro x hx
    simp only [List.mem_cons, List.not_mem_nil, or_false] at hx
    rcases hx with rfl | rfl
    · exact ⟨by simp, _, h0, SubO.ro_mk (smp_flat L) rfl⟩
    · exact ⟨by simp, _, h1, SubO.cells_mk rfl h2 (fun q => q)⟩
  · intro x hx y hy
    simp only [List.mem_cons, List.not_mem_nil, or_false] at hx hy
    rcases hx with rfl | rfl <;> rcases hy with rfl | rfl <;> exact fun q => q
noncomputable def foldSt0 (L : Smp) (cap i : Nat) : AE × AH := (mkE [(6, .nil), (15, .sl 0 0 L.length cap 0), (16, .si .i64 L.length), (17, .si .i64 i)], mkH [(0, .ro (smp L))])
theorem fold_cov0 {L : Smp} {cap i p n : Nat} {σ : AE} {H : AH} (hp : p ≤ 1) (e6 : getq (pa 6) σ = .nil) (e15 : mk (getq (pa 15) σ) = .sy 0 0 L.length cap 0) (e16 : mk (getq (pa 16) σ) = .si .i64 L.length) (e17 : mk (getq (pa 17) σ) = .si .i64 i)
    (h0 : H.get 0 = some (.ro (smp L))) : Cov p σ H n ((foldSt0 L cap i).1, (foldSt0 L cap i).2, 1) := by
  refine Cov.of (fun b => b) hp (fun b hb => rfl) ?_ ?_ ?_
  · intro x hx
    simp only [List.mem_cons, List.not_mem_nil, or_false] at hx
    rcases hx with rfl | rfl | rfl | rfl
    · exact .flat rfl (congrArg mk e6)
    · exact .sl (by decide) e15
    · exact .int e16
    · exact .int e17
  · intro x hx
    simp only [List.mem_cons, List.not_mem_nil, or_false] at hx
    subst hx
    exact ⟨by simp, _, h0, SubO.ro_mk (smp_flat L) rfl⟩
  · intro x hx y hy
    simp only [List.mem_cons, List.not_mem_nil, or_false] at hx hy
    subst hx hy
    exact fun q => q
theorem eight {a1 a2 a3 a4 a5 a6 a7 a8 b1 b2 b3 b4 b5 b6 b7 b8 : AV} (h1 : mk a1 = b1) (h2 : mk a2 = b2) (h3 : mk a3 = b3) (h4 : mk a4 = b4) (h5 : mk a5 = b5) (h6 : mk a6 = b6) (h7 : mk a7 = b7) (h8 : mk a8 = b8) :
    List.map mk [a1, a2, a3, a4, a5, a6, a7, a8] = [b1, b2, b3, b4, b5, b6, b7, b8] := by subst h1 h2 h3 h4 h5 h6 h7 h8; rfl
theorem right_pos {k : Int} (h : sRight k = true) : 1 ≤ k ∧ k ≤ 7 := by simpa only [sRight, decide_eq_true_eq] using h
set_option maxHeartbeats 4000000 in
set_option maxRecDepth 100000 in
theorem fold_run (k : Int) (L : Smp) (cap : Nat) (hL : L.length ≤ 9223372036854775807) : callT FK 3 41 [.si .i64 k, .sl 0 0 L.length cap 0] (mkH [(0, .ro (smp L))]) 1 fun u _ _ => mkT u = mkT (aFold k L) := by
  conv => whnf
  refine Fork.nsb (fun hr => ?_) (fun hr => ?_)
  · conv => whnf
    refine LoopP.mk (_root_.Fin (L.length + 1)) 1 (fun a => foldSt0 L cap a.val) (fun a => L.length - a.val) 0 ?_ ?_
    · exact fold_cov0 (i := 0) (by decide) rfl rfl rfl rfl rfl
    · intro ⟨i, hi⟩
      conv => whnf
      refine Fork.dec (fun h1 => ?_) (fun h1 => ?_)
      · have h2 : i < L.length := Int.ofNat_lt.1 h1
        have hw : IntKind.i64.wrap ((i : Int) + 1) = ((i + 1 : Nat) : Int) := by rw [wrap_i64_of (by omega) (by omega)]; omega
        conv => whnf
        refine Idx.mk i rfl h2 ?_
        conv => whnf
        refine optP_of (smp_sub h2 (by show 0 + i * 2 = i * 2; omega)) ?_
        have hlt : L.length - (i + 1) < L.length - i := by omega
        conv => whnf
        exact ⟨⟨i + 1, by omega⟩, hlt, fold_cov0 (Nat.le_refl 1) rfl rfl rfl (congrArg (AV.si IntKind.i64) hw) rfl⟩
      · conv => whnf
        refine .inl ⟨rfl, ?_⟩
        conv => whnf
        exact (show mkT _ = AV.tup [.si .i64 0, .sb false] from rfl).trans (by rw [aFold_neg hr]; rfl)
  · have hk := right_pos hr
    conv => whnf
    refine LoopP.mk (_root_.Fin (L.length + 1)) 2 (fun a => foldSt k L cap a.val) (fun a => L.length - a.val) 0 ?_ ?_
    · exact fold_cov (i := 0) (by decide) rfl rfl rfl rfl rfl rfl rfl
    · intro ⟨i, hi⟩
      conv => whnf
      refine Fork.dec (fun h1 => ?_) (fun h1 => ?_)
      · have h2 : i < L.length := Int.ofNat_lt.1 h1
        have hw : IntKind.i64.wrap ((i : Int) + 1) = ((i + 1 : Nat) : Int) := by rw [wrap_i64_of (by omega) (by omega)]; omega
        conv => whnf
        refine Idx.mk i rfl h2 ?_
        conv => whnf
        refine optP_of (smp_sub h2 (by show 0 + i * 2 = i * 2; omega)) ?_
        have hlt : L.length - (i + 1) < L.length - i := by omega
        conv => whnf
        refine Fork.ndec (fun h3 => absurd (show (0 : Int) < k by omega) h3) (fun h3 => ?_)
        conv => whnf
        refine Fork.dec (fun h4 => ?_) (fun h4 => ?_)
        · conv => whnf
          refine ⟨⟨i + 1, by omega⟩, hlt, fold_cov (l := _) (Nat.le_succ 1) rfl rfl rfl (congrArg (AV.si IntKind.i64) hw) rfl rfl ?_⟩
          exact Eq.trans rfl (congrArg (stateCells k) ((aAll_take h2).trans (if_pos h4)).symm)
        · conv => whnf
          refine ⟨⟨i + 1, by omega⟩, hlt, fold_cov (l := _) (Nat.le_succ 1) rfl rfl rfl (congrArg (AV.si IntKind.i64) hw) rfl rfl ?_⟩
          exact Eq.trans rfl (congrArg (stateCells k) ((aAll_take h2).trans (if_neg h4)).symm)
      · conv => whnf
        have h2 : i = L.length := by have : ¬ (i : Int) < L.length := h1; omega
        subst h2
        refine .inr ⟨k, aAll (L.take L.length), 1, rfl, ⟨_, .inr ⟨_, rfl⟩, rfl⟩, hk.1, hk.2, ?_⟩
        conv => whnf
        rw [List.take_length]
        rw [aFold_pos hr]
        rfl
set_option maxHeartbeats 4000000 in
set_option maxRecDepth 100000 in
theorem fold_nil (k : Int) : callT FK 3 41 [.si .i64 k, .nsl] .nil 0 fun u _ _ => mkT u = mkT (aFold k []) := by
  conv => whnf
  refine Fork.nsb (fun hr => ?_) (fun hr => ?_)
  · conv => whnf
    refine LoopP.roll 1 ?_
    conv => whnf
    refine .inl ⟨rfl, ?_⟩
    conv => whnf
    exact (show mkT _ = AV.tup [.si .i64 0, .sb false] from rfl).trans (by rw [aFold_neg hr]; rfl)
  · have hk := right_pos hr
    conv => whnf
    refine LoopP.roll 1 ?_
    conv => whnf
    refine .inr ⟨k, ss0, 0, rfl, ⟨_, .inr ⟨_, rfl⟩, rfl⟩, hk.1, hk.2, ?_⟩
    conv => whnf
    exact (show mkT _ = mkT (aTold k ss0) from rfl).trans (congrArg mkT (aFold_pos (L := []) hr).symm)
theorem n_fold : NatP 41 (natKS 9223372036854775807 aFold) := natKS_ok FK_ok (by kernel_rfl) (fun k L => rfl) fold_nil fold_run
end Go.Proofs.Ytkhfdjhohfebgaa
namespace Go.Proofs.Ytkhfdjhohfebgaa
open Go Go.RowKit
noncomputable def FL : FuncId → EP := withD 59 [] (withS 41 (natKS 9223372036854775807 aFold) FK)
theorem FL_ok : TabP FL := withD_ok (withS_ok FK_ok n_fold singKS) (by kernel_rfl) (by kernel_rfl)
/-! ### what numbers make -/
def rWide (least most : Int) : Int := if 0 ≤ least ∨ most < 0 ∨ most ≤ IntKind.i64.wrap (9223372036854775807 + least) then IntKind.i64.wrap (most - least) else 9223372036854775807
def rVal (k x : Int) (r : List Int) : Int := if k = 1 then r.foldl rCap x else if k = 2 then r.foldl min x else if k = 3 then r.foldl max x else if k = 4 then (r.length + 1 : Nat) else if k = 5 then x else if k = 6 then (x :: r)[r.length]'(by simp) else rWide (r.foldl min x) (r.foldl max x)
def rNum (k : Int) (V : List Int) : Int := if sRight k = true then (match V with
  | [] => 0
  | x :: r => rVal k x r) else 0
def rHas (k : Int) (V : List Int) : Bool := sRight k && !V.isEmpty
def rTold (k : Int) (V : List Int) : AV := .tup [.int .i64 (rNum k V), .bool (rHas k V)]
theorem name_empty {k : Int} (h : beqL (sName k) [] = true) : sRight k = false := by rw [right_name, h]; rfl
theorem name_full {k : Int} (h : beqL (sName k) [] = false) : sRight k = true := by rw [right_name, h]; rfl
theorem rTold_neg {k : Int} {V : List Int} (h : sRight k = false) : rTold k V = .tup [.int .i64 0, .bool false] := by simp [rTold, rNum, rHas, h]
theorem rTold_nil {k : Int} : rTold k [] = .tup [.int .i64 0, .bool false] := by simp [rTold, rNum, rHas]
theorem rTold_pos {k x : Int} {r : List Int} (h : sRight k = true) : rTold k (x :: r) = .tup [.int .i64 (rVal k x r), .bool true] := by simp [rTold, rNum, rHas, h]
theorem leafR {k x w : Int} {r : List Int} (hr : sRight k = true) (h : rVal k x r = w) : AV.tup [.si .i64 w, .sb true] = mkT (rTold k (x :: r)) := by rw [rTold_pos hr, ← h]; rfl
/-! ### the walk -/
noncomputable def valSt (k x : Int) (r : List Int) (cap i : Nat) : AE × AH := (mkE [(0, .si .i64 k), (1, .sl 0 0 (r.length + 1) cap 0), (6, .si .i64 ((r.take i).foldl rCap x)), (7, .si .i64 ((r.take i).foldl min x)), (8, .si .i64 ((r.take i).foldl max x)), (9, .si .i64 (i + 1 : Nat))], mkH [(0, .ro (ints (x :: r)))])
theorem val_cov {k x : Int} {r : List Int} {cap i p n : Nat} {σ : AE} {H : AH} (hp : p ≤ 1) (e0 : mk (getq (pa 0) σ) = .si .i64 k) (e1 : mk (getq (pa 1) σ) = .sy 0 0 (r.length + 1) cap 0) (e6 : mk (getq (pa 6) σ) = .si .i64 ((r.take i).foldl rCap x))
    (e7 : mk (getq (pa 7) σ) = .si .i64 ((r.take i).foldl min x)) (e8 : mk (getq (pa 8) σ) = .si .i64 ((r.take i).foldl max x)) (e9 : mk (getq (pa 9) σ) = .si .i64 (i + 1 : Nat)) (h0 : H.get 0 = some (.ro (ints (x :: r)))) : Cov p σ H n ((valSt k x r cap i).1, (valSt k x r cap i).2, 1) := by
  refine Cov.of (fun b => b) hp (fun b hb => rfl) ?_ ?_ ?_
  · intro x hx
    simp only [List.mem_cons, List.not_mem_nil, or_false] at hx
    rcases hx with rfl | rfl | rfl | rfl | rfl | rfl
    · exact .int e0
    · exact .sl (by decide) e1
    · exact .int e6
    · exact .int e7
    · exact .int e8
    · exact .int e9
  · intro x hx
    simp only [List.mem_cons, List.not_mem_nil, or_false] at hx
    subst hx
    exact ⟨by simp, _, h0, SubO.ro_mk (ints_flat _) rfl⟩
  · intro x hx y hy
    simp only [List.mem_cons, List.not_mem_nil, or_false] at hx hy
    subst hx hy
    exact fun q => q
set_option maxRecDepth 100000 in
theorem values_nil (k : Int) : callT FL 3 59 [.si .i64 k, .nsl] .nil 0 fun u _ _ => mkT u = mkT (rTold k []) := by
  rw [rTold_nil]
  conv => whnf
  refine Fork.sb (fun h1 => ?_) (fun h1 => ?_)
  · conv => whnf
    rfl
  · conv => whnf
    rfl
set_option maxHeartbeats 4000000 in
set_option maxRecDepth 100000 in
theorem values_run (k : Int) (V : List Int) (cap : Nat) (hV : V.length ≤ 9223372036854775807) : callT FL 3 59 [.si .i64 k, .sl 0 0 V.length cap 0] (mkH [(0, .ro (ints V))]) 1 fun u _ _ => mkT u = mkT (rTold k V) := by
  rcases V with _ | ⟨x, r⟩
  · rw [rTold_nil]
    conv => whnf
    refine Fork.sb (fun h1 => ?_) (fun h1 => ?_)
    · conv => whnf
      rfl
    · conv => whnf
      rfl
  · conv => whnf
    refine Fork.sb (fun h1 => ?_) (fun h1 => ?_)
    · rw [rTold_neg (name_empty h1)]
      conv => whnf
      rfl
    · have hr := name_full h1
      have hk := right_pos hr
      simp only [List.length_cons] at hV
      conv => whnf
      refine LoopP.mk (_root_.Fin (r.length + 1)) 1 (fun a => valSt k x r cap a.val) (fun a => r.length - a.val) 0 ?_ ?_
      · exact val_cov (i := 0) (Nat.le_refl 1) rfl rfl rfl rfl rfl rfl rfl
      · intro ⟨i, hi⟩
        conv => whnf
        refine Fork.dec (fun h2 => ?_) (fun h2 => ?_)
        · have h2 : ((i + 1 : Nat) : Int) < ((r.length + 1 : Nat) : Int) := h2
          have h3 : i < r.length := by omega
          have hlt : r.length - (i + 1) < r.length - i := by omega
          have hw : IntKind.i64.wrap (((i + 1 : Nat) : Int) + 1) = ((i + 1 + 1 : Nat) : Int) := by rw [wrap_i64_of (x := ((i + 1 : Nat) : Int) + 1) (by omega) (by omega)]; omega
          have hat : nth (ints (x :: r)) (0 + (i + 1) * 1) = some (.si .i64 r[i]) := ints_nth (V := x :: r) (i := i + 1) (by simp; omega) (by omega)
          conv => whnf
          refine Idx.mk (i + 1) rfl (by omega) ?_
          conv => whnf
          refine optP_of hat ?_
          conv => whnf
          refine Idx.mk (i + 1) rfl (by omega) ?_
          conv => whnf
          refine optP_of hat ?_
          conv => whnf
          refine Idx.mk (i + 1) rfl (by omega) ?_
          conv => whnf
          refine optP_of hat ?_
          conv => whnf
          exact ⟨⟨i + 1, by omega⟩, hlt, val_cov (Nat.le_refl 1) rfl rfl (congrArg (AV.si .i64) (foldl_take (f := rCap) (b := x) h3).symm) (congrArg (AV.si .i64) (foldl_take (f := min) (b := x) h3).symm) (congrArg (AV.si .i64) (foldl_take (f := max) (b := x) h3).symm) (congrArg (AV.si .i64) hw) rfl⟩
        · have h2 : ¬ ((i + 1 : Nat) : Int) < ((r.length + 1 : Nat) : Int) := h2
          have h3 : i = r.length := by omega
          subst h3
          obtain ⟨j, hj⟩ : ∃ j : Nat, k = (j : Int) + 1 := ⟨(k - 1).toNat, by omega⟩
          have hkw : IntKind.i64.wrap (k - 1) = (j : Int) := by rw [wrap_i64_of (by omega) (by omega)]; omega
          have hlw : IntKind.i64.wrap (((r.length + 1 : Nat) : Int) - 1) = (r.length : Int) := by rw [wrap_i64_of (by omega) (by omega)]; omega
          have htk : r.take r.length = r := List.take_length
          repeat' (conv => whnf
                   first | refine Fork.dec (fun _ => ?_) (fun _ => ?_) | refine optP_of (eix_of rfl hlw (Nat.lt_succ_self _)) ?_ | refine optP_of (ints_nth (V := x :: r) (i := r.length) (by simp) (by show 0 + r.length * 1 = r.length; omega)) ?_ | refine Idx.mk j hkw (by show j < 7; omega) ?_)
          all_goals
            have hj7 : j = 0 ∨ j = 1 ∨ j = 2 ∨ j = 3 ∨ j = 4 ∨ j = 5 ∨ j = 6 := by omega
            rcases hj7 with rfl | rfl | rfl | rfl | rfl | rfl | rfl
            all_goals (conv => whnf)
            all_goals refine (show mkT _ = AV.tup [.si .i64 _, .sb true] from rfl).trans (leafR hr ?_)
          all_goals
            subst hj
            simp only [List.take_length] at *
            first
              | rfl
              | (show rWide _ _ = _
                 unfold rWide
                 first | (rw [if_pos]; omega) | (rw [if_neg]; omega))
theorem n_rvalues : NatP 59 (natKI rTold) := natKI_ok FL_ok (by kernel_rfl) (fun k V => rfl) values_nil values_run
end Go.Proofs.Ytkhfdjhohfebgaa
namespace Go.Proofs.Ytkhfdjhohfebgaa
open Go Go.RowKit
noncomputable def FM : FuncId → EP := withS 59 (natKI rTold) FL
theorem FM_ok : TabP FM := withS_ok FL_ok n_rvalues singKI
noncomputable abbrev rfoldSt (k : Int) (L : Smp) (cap : Nat) : Nat → AE × AH
  | 0 => (mkE [(0, .si .i64 k), (1, .sl 0 0 L.length cap 0), (6, .nsl), (7, .si .i64 0)], mkH [(0, .ro (smp L))])
  | i + 1 => (mkE [(0, .si .i64 k), (1, .sl 0 0 L.length cap 0), (6, .sl 1 0 (i + 1) (i + 1) 1), (7, .si .i64 (i + 1 : Nat))], mkH [(0, .ro (smp L)), (1, .cells (ints (vals (L.take (i + 1)))) true)])
theorem rfold_cov {k : Int} {L : Smp} {cap i n p : Nat} {σ : AE} {H : AH} {l : List AV} (hp : p ≤ 1) (e0 : mk (getq (pa 0) σ) = .si .i64 k) (e1 : mk (getq (pa 1) σ) = .sy 0 0 L.length cap 0) (e6 : mk (getq (pa 6) σ) = .sy 3 0 (i + 1) (i + 1) 1) (e7 : mk (getq (pa 7) σ) = .si .i64 (i + 1 : Nat))
    (h0 : H.get 0 = some (.ro (smp L))) (h1 : H.get 3 = some (.cells l true)) (h2 : l.map mk = ints (vals (L.take (i + 1)))) : Cov p σ H n ((rfoldSt k L cap (i + 1)).1, (rfoldSt k L cap (i + 1)).2, 2) := by
  refine Cov.of (fun b => if b = 0 then 0 else 3) (by omega) (fun b hb => by rw [if_pos (by omega)]; omega) ?_ ?_ ?_
  · intro x hx
    simp only [List.mem_cons, List.not_mem_nil, or_false] at hx
    rcases hx with rfl | rfl | rfl | rfl
    · exact .int e0
    · exact .sl (by decide) e1
    · exact .sl (by decide) e6
    · exact .int e7
  · intro x hx
    simp only [List.mem_cons, List.not_mem_nil, or_false] at hx
    rcases hx with rfl | rfl
    · exact ⟨by simp, _, h0, SubO.ro_mk (smp_flat L) rfl⟩
    · exact ⟨by simp, _, h1, SubO.cells_mk (ints_flat _) (by rw [h2, ints_map]) (fun q => q)⟩
  · intro x hx y hy
    simp only [List.mem_cons, List.not_mem_nil, or_false] at hx hy
    rcases hx with rfl | rfl <;> rcases hy with rfl | rfl <;> simp
theorem rfold_cov0 {k : Int} {L : Smp} {cap n p : Nat} {σ : AE} {H : AH} (hp : p ≤ 1) (e0 : mk (getq (pa 0) σ) = .si .i64 k) (e1 : mk (getq (pa 1) σ) = .sy 0 0 L.length cap 0) (e6 : mk (getq (pa 6) σ) = .nsl) (e7 : mk (getq (pa 7) σ) = .si .i64 0)
    (h0 : H.get 0 = some (.ro (smp L))) : Cov p σ H n ((rfoldSt k L cap 0).1, (rfoldSt k L cap 0).2, 2) := by
  refine Cov.of (fun b => b) (by omega) (fun b hb => rfl) ?_ ?_ ?_
  · intro x hx
    simp only [List.mem_cons, List.not_mem_nil, or_false] at hx
    rcases hx with rfl | rfl | rfl | rfl
    · exact .int e0
    · exact .sl (by decide) e1
    · exact .flat rfl e6
    · exact .int e7
  · intro x hx
    simp only [List.mem_cons, List.not_mem_nil, or_false] at hx
    subst hx
    exact ⟨by simp, _, h0, SubO.ro_mk (smp_flat L) rfl⟩
  · intro x hx y hy
    simp only [List.mem_cons, List.not_mem_nil, or_false] at hx hy
    subst hx hy
    exact fun q => q
def rFold (k : Int) (L : Smp) : AV := rTold k (vals L)
set_option maxRecDepth 100000 in
theorem rfold_nil (k : Int) : callT FM 3 43 [.si .i64 k, .nsl] .nil 0 fun u _ _ => mkT u = mkT (rFold k []) := by
  conv => whnf
  refine LoopP.roll 1 ?_
  conv => whnf
  refine ⟨[], .inl ⟨rfl, rfl⟩, by decide, ?_⟩
  conv => whnf
  rfl
set_option maxHeartbeats 4000000 in
set_option maxRecDepth 100000 in
theorem rfold_run (k : Int) (L : Smp) (cap : Nat) (hL : L.length ≤ 8796093022208) : callT FM 3 43 [.si .i64 k, .sl 0 0 L.length cap 0] (mkH [(0, .ro (smp L))]) 1 fun u _ _ => mkT u = mkT (rFold k L) := by
  conv => whnf
  refine LoopP.mk (_root_.Fin (L.length + 1)) 2 (fun a => rfoldSt k L cap a.val) (fun a => L.length - a.val) 0 ?_ ?_
  · exact rfold_cov0 (Nat.le_refl 1) rfl rfl rfl rfl rfl
  · intro ⟨i, hi⟩
    cases i with
    | zero =>
      conv => whnf
      refine Fork.dec (fun h1 => ?_) (fun h1 => ?_)
      · have h2 : 0 < L.length := Int.ofNat_lt.1 h1
        have hlt : L.length - 1 < L.length - 0 := by omega
        conv => whnf
        refine Idx.mk 0 rfl h2 ?_
        conv => whnf
        refine optP_of (smp_nth1 h2 rfl) ?_
        conv => whnf
        refine ⟨⟨1, by omega⟩, hlt, rfold_cov (i := 0) (Nat.le_refl 1) rfl rfl rfl rfl rfl rfl ?_⟩
        exact Eq.trans rfl (congrArg ints (vals_take h2).symm)
      · have h2 : L = [] := List.eq_nil_of_length_eq_zero (by have : ¬ (0 : Int) < (L.length : Int) := h1; omega)
        subst h2
        conv => whnf
        refine ⟨[], .inl ⟨rfl, rfl⟩, by decide, ?_⟩
        conv => whnf
        rfl
    | succ i =>
      conv => whnf
      refine Fork.dec (fun h1 => ?_) (fun h1 => ?_)
      · have h2 : i + 1 < L.length := Int.ofNat_lt.1 h1
        have hlt : L.length - (i + 2) < L.length - (i + 1) := by omega
        have hw : IntKind.i64.wrap (((i + 1 : Nat) : Int) + 1) = ((i + 1 + 1 : Nat) : Int) := by rw [wrap_i64_of (x := ((i + 1 : Nat) : Int) + 1) (by omega) (by omega)]; omega
        conv => whnf
        refine Idx.mk (i + 1) rfl h2 ?_
        conv => whnf
        refine optP_of (smp_nth1 h2 (by show 0 + (i + 1) * 2 + 1 = (i + 1) * 2 + 1; omega)) ?_
        conv => whnf
        refine optP_of (app_grow (k := 0) (by' := 8) (m := 1) (sn := i + 1) (c := i + 1) rfl rfl rfl rfl rfl rfl rfl rfl (by decide) rfl rfl rfl (by omega) (by omega) (subL_all (by rw [ints_length, vals_len (by omega)]; omega))) ?_
        conv => whnf
        refine ⟨⟨i + 2, by omega⟩, hlt, rfold_cov (i := i + 1) (Nat.le_refl 1) rfl rfl rfl (congrArg (AV.si .i64) hw) rfl rfl ?_⟩
        refine Eq.trans ?_ (congrArg ints (vals_take h2).symm)
        exact ints_snoc _ _
      · have h2 : i + 1 = L.length := by have : ¬ ((i + 1 : Nat) : Int) < (L.length : Int) := h1; omega
        have hv : (vals (L.take (i + 1))).length = i + 1 := vals_len (by omega)
        have hL' : L.take (i + 1) = L := by rw [h2, List.take_length]
        conv => whnf
        refine ⟨vals (L.take (i + 1)), .inr (.inr ⟨1, 0, i + 1, 1, _, _, (show _ = AV.sl 1 0 (i + 1) (i + 1) 1 from rfl).trans (by rw [hv]), .inr ⟨_, rfl⟩, subL_all (ints_length _), ints_map _, Nat.le_of_eq hv⟩), by omega, ?_⟩
        conv => whnf
        exact (show mkT _ = mkT (rTold k (vals (L.take (i + 1)))) from rfl).trans (by rw [hL']; rfl)
theorem n_rfold : NatP 43 (natKS 8796093022208 rFold) := natKS_ok FM_ok (by kernel_rfl) (fun k V => rfl) rfold_nil rfold_run
end Go.Proofs.Ytkhfdjhohfebgaa
namespace Go.Proofs.Ytkhfdjhohfebgaa
open Go Go.RowKit
noncomputable def GU : FuncId → EP := withD 17 [] (withD 40 [] (withN 55 natRw (withN 39 natGa FM)))
theorem GU_ok (hG : NatP 39 natGa) : TabP GU := withD_ok (withD_ok (withN_ok (withN_ok FM_ok hG) n_riseW) (by kernel_rfl) (by kernel_rfl)) (by kernel_rfl) (by kernel_rfl)
theorem tyS2 : RTy 26 26 2 16 := ⟨_, _, _, rfl, rfl, (fun q h => by cases h), rfl, rfl, rfl, rfl, by decide, by decide⟩
/-- What one time's samples make. -/
def oneF (k : Int) (X : List Smp) (t : Int) : Int × Int := (t, aNum k (X.flatten.filter fun x => x.1 == t))
def reduceF (k : Int) (X : List Smp) : Smp := if sRight k = true then (timesF X).map (oneF k X) else []
theorem elook {P : Program} {t kt et : TypeId} {kd : TypeDesc} {m k v : AV} {b i : Nat} {H : AH} {es : List (AV × AV)} (hm : m = .map b) (hk : mapKind P t = some (kt, kd, et)) (hb : H.get b = some (.map es)) (hf : efind kd k es 0 = some (some (i, v))) : elookup P t m k false H = some v := by
  subst hm
  simp only [elookup, hk, hb, hf]
  rfl
theorem efind_ent {t : Int} {xs : Smp} : ∀ (G : Grp) (i : Nat), (keysG G).Nodup → (t, xs) ∈ G → ∃ j, efind (.int .i64) (.int .i64 t) (entG G) i = some (some (j, .fr xs.length 2 (smp xs)))
  | [], i, _, h => by cases h
  | (u, us) :: G, i, hn, h => by
    obtain ⟨hn1, hn2⟩ := List.nodup_cons.1 (show (u :: keysG G).Nodup from hn)
    show ∃ j, efind (.int .i64) (.int .i64 t) ((.int .i64 u, .fr us.length 2 (smp us)) :: entG G) i = _
    unfold efind
    by_cases q : t = u
    · subst q
      rcases List.mem_cons.1 h with h | h
      · injection h with _ h2
        subst h2
        exact ⟨i, by simp [esame]⟩
      · exact absurd (List.mem_map.2 ⟨_, h, rfl⟩) hn1
    · rcases List.mem_cons.1 h with h | h
      · injection h with h1 _; exact absurd h1 q
      · obtain ⟨j, hj⟩ := efind_ent G (i + 1) hn2 h
        exact ⟨j, by simp [esame, q, hj]⟩
theorem smpG_snoc (R : Smp) (x : Int × Int) : (smp R ++ [AV.si .i64 x.1, AV.si .i64 x.2]).map mk = smp (R ++ [x]) := by
  rw [List.map_append, smp_map]; simp [smp, mk]
noncomputable def rd0 (k : Int) (G : Grp) (R : Smp) (T : List Int) (i : Nat) : AE × AH := (mkE [(0, .si .i64 (k)), (5, .map 1), (6, .rw 2 0 R.length 2 0), (17, .fr T.length 1 (ints T)), (18, .si .i64 (T.length)), (19, .si .i64 (i))], mkH [(1, AO.map (entG G)), (2, .cells (smp (R)) true)])
theorem rd0_cov {k : Int} {G : Grp} {R : Smp} {T : List Int} {i : Nat} {p n : Nat} {σ : AE} {H : AH} (j2 : Nat) (hj : j2 ≠ 1) (hp : p ≤ 1) (e0 : mk (getq (pa 0) σ) = .si .i64 (k)) (e5 : getq (pa 5) σ = .map (1)) (e6 : SubV H 3 (fun b => if b = 2 then j2 else b) (getq (pa 6) σ) (.rw 2 0 R.length 2 0)) (e17 : getq (pa 17) σ = .fr T.length 1 (ints T)) (e18 : mk (getq (pa 18) σ) = .si .i64 (T.length)) (e19 : mk (getq (pa 19) σ) = .si .i64 (i)) (h1 : H.get 1 = some (AO.map (entG G))) (h2 : (∃ l, H.get j2 = some (.cells l true) ∧ l.map mk = smp (R)) ∨ ((R) = [] ∧ n ≤ j2)) : Cov p σ H n ((rd0 k G R T i).1, (rd0 k G R T i).2, 3) := by
  refine Cov.ofR (fun b => if b = 2 then j2 else b) (by omega) (fun b hb => by repeat' rw [if_neg (by omega)]) ?_ ?_ ?_
  · intro x hx
    simp only [List.mem_cons, List.not_mem_nil, or_false] at hx
    rcases hx with rfl | rfl | rfl | rfl | rfl | rfl
    · exact .int e0
    · exact SubV.map (by decide) e5
    · exact e6
    · exact SubV.frE e17
    · exact .int e18
    · exact .int e19
  · intro x hx
    simp only [List.mem_cons, List.not_mem_nil, or_false] at hx
    rcases hx with rfl | rfl
    · exact ⟨by simp, .inl ⟨_, h1, SubO.mapS (entG_stab G)⟩⟩
    · exact ⟨by simp, h2.elim (fun ⟨l, h, g⟩ => .inl ⟨_, h, SubO.cells_mk (smp_flat _) (by rw [g, smp_map]) (fun q => q)⟩) (fun h => .inr ⟨by rw [h.1]; rfl, h.2⟩)⟩
  · intro x hx y hy
    simp only [List.mem_cons, List.not_mem_nil, or_false] at hx hy
    rcases hx with rfl | rfl <;> rcases hy with rfl | rfl <;> simp <;> omega
theorem timesF_mem {X : List Smp} {t : Int} (h : t ∈ timesF X) : ∃ xs, (t, xs) ∈ gatherF X ∧ xs = X.flatten.filter (fun x => x.1 == t) ∧ xs ≠ [] := by
  have hk := (riseI_perm (keysG (gatherF X))).mem_iff.1 h
  obtain ⟨⟨u, xs⟩, hm, rfl⟩ := List.mem_map.1 hk
  exact ⟨xs, hm, (gather_is X).all _ _ hm, (gather_is X).ne hm⟩
set_option maxHeartbeats 4000000 in
set_option maxRecDepth 100000 in
theorem reduce_run (k : Int) (X : List Smp) (hL : X.length + X.flatten.length ≤ 1000000) (hK : (gatherF X).length ≤ 1000000) : callT GU 4 17 [.si .i64 k, .rw 0 0 X.length 1 2] (mkH [(0, .ro (rowsC X))]) 1 fun u H' _ => FrG (reduceF k X).length 2 (smp (reduceF k X)) u H' := by
  conv => whnf
  first | refine Fork.nsb (fun hr => ?_) (fun hr => ?_) | refine Fork.sb (fun hr => ?_) (fun hr => ?_)
  · have hR : reduceF k X = [] := if_neg (by rw [hr]; decide)
    conv => whnf
    exact .inl ⟨rfl, by rw [hR]; rfl, by rw [hR]; rfl⟩
  · have hR : reduceF k X = (timesF X).map (oneF k X) := if_pos hr
    have hTl : (timesF X).length ≤ 1000000 := by show (riseI _).length ≤ _; rw [riseI_len]; simpa [keysG] using hK
    conv => whnf
    refine ⟨X, RowsAt.ro rfl rfl, hL, ?_⟩
    conv => whnf
    refine LoopP.mk { seen : List Nat // seen.Nodup ∧ ∀ i ∈ seen, i < (gatherF X).length } 4 (fun s => tm0 X (gatherF X) (s.val.map (keyAt (gatherF X))) s.val) (fun s => (gatherF X).length - s.val.length) ⟨[], by simp, by simp⟩ ?_ ?_
    · exact tm0_cov (V := []) (seen := []) 3 (by decide) (Nat.le_refl 2) (.nslRw rfl) rfl rfl rfl (.inr ⟨rfl, Nat.le_refl _⟩)
    · intro ⟨seen, hn, hs⟩
      have hsl : seen.length ≤ (gatherF X).length := by
        have := (List.Nodup.length_le_of_subset hn (l₂ := List.range (gatherF X).length) fun i hi => List.mem_range.2 (hs i hi))
        simpa using this
      conv => whnf
      refine Nxt.mk 2 1 _ seen _ rfl rfl rfl rfl rfl (fun hall => ?_) (fun i e he hns => ?_)
      · have hp := seen_all hn hs (fun i hi => hall i (by rw [entG_length]; exact hi))
        have hr : riseI (seen.map (keyAt (gatherF X))) = timesF X := riseI_of hp
        conv => whnf
        refine ⟨seen.map (keyAt (gatherF X)), 3, _, 0, _, true, rfl, rfl, by decide, rfl, ints_map _, by rw [List.length_map]; omega, ?_⟩
        have hkey := fr_eq (n := (seen.map (keyAt (gatherF X))).length) (m := (timesF X).length) (k := 1) (by rw [← hr, riseI_len]) (congrArg ints hr)
        conv => whnf
        refine LoopP.mk { i : Nat // i ≤ (timesF X).length } 3 (fun i => rd0 k (gatherF X) (((timesF X).take i.val).map (oneF k X)) (timesF X) i.val) (fun i => (timesF X).length - i.val) ⟨0, Nat.zero_le _⟩ ?_ ?_
        · exact rd0_cov (R := []) (i := 0) 9 (by decide) (Nat.le_refl 1) rfl rfl (.nslRw rfl) hkey (congrArg (fun n : Nat => AV.si .i64 n) (by rw [← hr, riseI_len])) rfl rfl (.inr ⟨rfl, by decide⟩)
        · intro ⟨i, hi⟩
          have hx : ∀ h : i < (timesF X).length, (∃ j, efind (.int .i64) (.int .i64 (timesF X)[i]) (entG (gatherF X)) 0 = some (some (j, .fr (X.flatten.filter fun x => x.1 == (timesF X)[i]).length 2 (smp (X.flatten.filter fun x => x.1 == (timesF X)[i]))))) ∧ (X.flatten.filter fun x => x.1 == (timesF X)[i]) ≠ [] := fun h => by
            obtain ⟨xs, hm, rfl, hne⟩ := timesF_mem (List.getElem_mem h)
            exact ⟨efind_ent _ 0 (gather_is X).nd hm, hne⟩
          have hfl : ∀ t : Int, (X.flatten.filter fun x => x.1 == t).length ≤ 1000000 := fun t => Nat.le_trans (List.length_filter_le _ _) (by omega)
          have hRl : (((timesF X).take i).map (oneF k X)).length = i := by rw [List.length_map, List.length_take]; omega
          have hO : subL (smp (((timesF X).take i).map (oneF k X))) 0 ((((timesF X).take i).map (oneF k X)).length * 2) = some (smp (((timesF X).take i).map (oneF k X))) := smp_whole _
          have hbig : ((((timesF X).take i).map (oneF k X)).length + 1) * 16 ≤ 140737488355328 := by rw [hRl]; omega
          conv => whnf
          refine Fork.dec (fun h1 => ?_) (fun h1 => ?_)
          · have h2 : i < (timesF X).length := Int.ofNat_lt.1 h1
            have hsn : ((timesF X).take (i + 1)).map (oneF k X) = ((timesF X).take i).map (oneF k X) ++ [oneF k X (timesF X)[i]] := by rw [List.take_succ_eq_append_getElem h2, List.map_append]; rfl
            have hw : IntKind.i64.wrap ((i : Int) + 1) = ((i + 1 : Nat) : Int) := by rw [wrap_i64_of (by omega) (by omega)]; omega
            have hln : (((timesF X).take i).map (oneF k X)).length + 1 = (((timesF X).take (i + 1)).map (oneF k X)).length := by rw [hsn, List.length_append]; rfl
            have hlt : (timesF X).length - (i + 1) < (timesF X).length - i := by omega
            refine Exists.elim (hx h2).1 fun j hj => ?_
            conv => whnf
            refine Idx.mk i rfl h2 ?_
            conv => whnf
            refine optP_of (ints_nth h2 (Nat.mul_one _)) ?_
            refine Ask.mk _ (elook (k := AV.int .i64 (timesF X)[i]) rfl rfl rfl hj) ?_
            conv => whnf
            refine ⟨X.flatten.filter (fun x => x.1 == (timesF X)[i]), .inr (.inl (.inr ⟨_, rfl, smp_map _, fun q => (hx h2).2 (List.eq_nil_of_length_eq_zero q)⟩)), by have := hfl (timesF X)[i]; omega, ?_⟩
            conv => whnf
            refine RApp.grow 2 16 _ _ _ _ _ _ tyS2 (.old rfl) rfl rfl (.rw rfl hO) hbig ?_
            conv => whnf
            refine ⟨⟨i + 1, h2⟩, hlt, rd0_cov 4 (by decide) (Nat.le_refl 1) rfl rfl (SubV.rw (by decide) rfl hln) rfl rfl (congrArg (AV.si .i64) hw) rfl (.inl ⟨_, rfl, (smpG_snoc _ _).trans (congrArg smp hsn.symm)⟩)⟩
          · have h2 : i = (timesF X).length := by have : ¬ (i : Int) < ((timesF X).length : Int) := h1; omega
            subst h2
            conv => whnf
            exact frG_row rfl (by rw [hR, List.length_map, List.length_map, List.length_take, Nat.min_self]) rfl (by rw [hR, List.take_length, smp_map]) (smp_length _)
      · obtain ⟨hi, rfl⟩ := entG_at he
        have hO : subL (ints (seen.map (keyAt (gatherF X)))) 0 ((seen.map (keyAt (gatherF X))).length * 1) = some (ints (seen.map (keyAt (gatherF X)))) := subL_all (by rw [ints_length, Nat.mul_one])
        have hbig : ((seen.map (keyAt (gatherF X))).length + 1) * 8 ≤ 140737488355328 := by rw [List.length_map]; omega
        have hlt : (gatherF X).length - (seen ++ [i]).length < (gatherF X).length - seen.length := by
          have := List.Nodup.length_le_of_subset (l₁ := seen ++ [i]) (l₂ := List.range (gatherF X).length) (by rw [List.nodup_append]; exact ⟨hn, by simp, fun a ha b hb e => by simp at hb; subst hb e; exact hns ha⟩) (fun j hj => List.mem_range.2 (by rcases List.mem_append.1 hj with hj | hj; exact hs j hj; simp at hj; subst hj; exact hi))
          simp at this ⊢; omega
        have hsn : seen.map (keyAt (gatherF X)) ++ [(gatherF X)[i].1] = (seen ++ [i]).map (keyAt (gatherF X)) := by rw [List.map_append, List.map_singleton, keyAt_eq hi]
        conv => whnf
        refine Ent.mk 2 1 _ i seen _ _ rfl rfl rfl rfl he ?_
        conv => whnf
        refine RApp.grow 1 8 _ _ _ _ _ _ tyI (.old rfl) rfl rfl (.rw rfl hO) hbig ?_
        conv => whnf
        refine ⟨⟨seen ++ [i], by rw [List.nodup_append]; exact ⟨hn, by simp, fun a ha b hb e => by simp at hb; subst hb e; exact hns ha⟩, fun j hj => by rcases List.mem_append.1 hj with hj | hj; exact hs j hj; simp at hj; subst hj; exact hi⟩, hlt, tm0_cov 5 (by decide) (Nat.le_refl 2) (SubV.rw (by decide) rfl) rfl rfl rfl (.inl ⟨_, rfl, ?_⟩)⟩
        exact (ints_snoc (seen.map (keyAt (gatherF X))) (gatherF X)[i].1).trans (congrArg ints hsn)
set_option maxHeartbeats 4000000 in
set_option maxRecDepth 100000 in
theorem reduce_runF (k : Int) (X : List Smp) (hL : X.length + X.flatten.length ≤ 1000000) (hK : (gatherF X).length ≤ 1000000) : callT GU 4 17 [.si .i64 k, .fr X.length 1 (rowsC X)] .nil 1 fun u H' _ => FrG (reduceF k X).length 2 (smp (reduceF k X)) u H' := by
  conv => whnf
  first | refine Fork.nsb (fun hr => ?_) (fun hr => ?_) | refine Fork.sb (fun hr => ?_) (fun hr => ?_)
  · have hR : reduceF k X = [] := if_neg (by rw [hr]; decide)
    conv => whnf
    exact .inl ⟨rfl, by rw [hR]; rfl, by rw [hR]; rfl⟩
  · have hR : reduceF k X = (timesF X).map (oneF k X) := if_pos hr
    have hTl : (timesF X).length ≤ 1000000 := by show (riseI _).length ≤ _; rw [riseI_len]; simpa [keysG] using hK
    conv => whnf
    refine ⟨X, RowsAt.frz rfl, hL, ?_⟩
    conv => whnf
    refine LoopP.mk { seen : List Nat // seen.Nodup ∧ ∀ i ∈ seen, i < (gatherF X).length } 4 (fun s => tm0 X (gatherF X) (s.val.map (keyAt (gatherF X))) s.val) (fun s => (gatherF X).length - s.val.length) ⟨[], by simp, by simp⟩ ?_ ?_
    · exact tm0_cov (V := []) (seen := []) 3 (by decide) (Nat.le_refl 2) (.nslRw rfl) rfl rfl rfl (.inr ⟨rfl, Nat.le_refl _⟩)
    · intro ⟨seen, hn, hs⟩
      have hsl : seen.length ≤ (gatherF X).length := by
        have := (List.Nodup.length_le_of_subset hn (l₂ := List.range (gatherF X).length) fun i hi => List.mem_range.2 (hs i hi))
        simpa using this
      conv => whnf
      refine Nxt.mk 2 1 _ seen _ rfl rfl rfl rfl rfl (fun hall => ?_) (fun i e he hns => ?_)
      · have hp := seen_all hn hs (fun i hi => hall i (by rw [entG_length]; exact hi))
        have hr : riseI (seen.map (keyAt (gatherF X))) = timesF X := riseI_of hp
        conv => whnf
        refine ⟨seen.map (keyAt (gatherF X)), 3, _, 0, _, true, rfl, rfl, by decide, rfl, ints_map _, by rw [List.length_map]; omega, ?_⟩
        have hkey := fr_eq (n := (seen.map (keyAt (gatherF X))).length) (m := (timesF X).length) (k := 1) (by rw [← hr, riseI_len]) (congrArg ints hr)
        conv => whnf
        refine LoopP.mk { i : Nat // i ≤ (timesF X).length } 3 (fun i => rd0 k (gatherF X) (((timesF X).take i.val).map (oneF k X)) (timesF X) i.val) (fun i => (timesF X).length - i.val) ⟨0, Nat.zero_le _⟩ ?_ ?_
        · exact rd0_cov (R := []) (i := 0) 9 (by decide) (Nat.le_refl 1) rfl rfl (.nslRw rfl) hkey (congrArg (fun n : Nat => AV.si .i64 n) (by rw [← hr, riseI_len])) rfl rfl (.inr ⟨rfl, by decide⟩)
        · intro ⟨i, hi⟩
          have hx : ∀ h : i < (timesF X).length, (∃ j, efind (.int .i64) (.int .i64 (timesF X)[i]) (entG (gatherF X)) 0 = some (some (j, .fr (X.flatten.filter fun x => x.1 == (timesF X)[i]).length 2 (smp (X.flatten.filter fun x => x.1 == (timesF X)[i]))))) ∧ (X.flatten.filter fun x => x.1 == (timesF X)[i]) ≠ [] := fun h => by
            obtain ⟨xs, hm, rfl, hne⟩ := timesF_mem (List.getElem_mem h)
            exact ⟨efind_ent _ 0 (gather_is X).nd hm, hne⟩
          have hfl : ∀ t : Int, (X.flatten.filter fun x => x.1 == t).length ≤ 1000000 := fun t => Nat.le_trans (List.length_filter_le _ _) (by omega)
          have hRl : (((timesF X).take i).map (oneF k X)).length = i := by rw [List.length_map, List.length_take]; omega
          have hO : subL (smp (((timesF X).take i).map (oneF k X))) 0 ((((timesF X).take i).map (oneF k X)).length * 2) = some (smp (((timesF X).take i).map (oneF k X))) := smp_whole _
          have hbig : ((((timesF X).take i).map (oneF k X)).length + 1) * 16 ≤ 140737488355328 := by rw [hRl]; omega
          conv => whnf
          refine Fork.dec (fun h1 => ?_) (fun h1 => ?_)
          · have h2 : i < (timesF X).length := Int.ofNat_lt.1 h1
            have hsn : ((timesF X).take (i + 1)).map (oneF k X) = ((timesF X).take i).map (oneF k X) ++ [oneF k X (timesF X)[i]] := by rw [List.take_succ_eq_append_getElem h2, List.map_append]; rfl
            have hw : IntKind.i64.wrap ((i : Int) + 1) = ((i + 1 : Nat) : Int) := by rw [wrap_i64_of (by omega) (by omega)]; omega
            have hln : (((timesF X).take i).map (oneF k X)).length + 1 = (((timesF X).take (i + 1)).map (oneF k X)).length := by rw [hsn, List.length_append]; rfl
            have hlt : (timesF X).length - (i + 1) < (timesF X).length - i := by omega
            refine Exists.elim (hx h2).1 fun j hj => ?_
            conv => whnf
            refine Idx.mk i rfl h2 ?_
            conv => whnf
            refine optP_of (ints_nth h2 (Nat.mul_one _)) ?_
            refine Ask.mk _ (elook (k := AV.int .i64 (timesF X)[i]) rfl rfl rfl hj) ?_
            conv => whnf
            refine ⟨X.flatten.filter (fun x => x.1 == (timesF X)[i]), .inr (.inl (.inr ⟨_, rfl, smp_map _, fun q => (hx h2).2 (List.eq_nil_of_length_eq_zero q)⟩)), by have := hfl (timesF X)[i]; omega, ?_⟩
            conv => whnf
            refine RApp.grow 2 16 _ _ _ _ _ _ tyS2 (.old rfl) rfl rfl (.rw rfl hO) hbig ?_
            conv => whnf
            refine ⟨⟨i + 1, h2⟩, hlt, rd0_cov 4 (by decide) (Nat.le_refl 1) rfl rfl (SubV.rw (by decide) rfl hln) rfl rfl (congrArg (AV.si .i64) hw) rfl (.inl ⟨_, rfl, (smpG_snoc _ _).trans (congrArg smp hsn.symm)⟩)⟩
          · have h2 : i = (timesF X).length := by have : ¬ (i : Int) < ((timesF X).length : Int) := h1; omega
            subst h2
            conv => whnf
            exact frG_row rfl (by rw [hR, List.length_map, List.length_map, List.length_take, Nat.min_self]) rfl (by rw [hR, List.take_length, smp_map]) (smp_length _)
      · obtain ⟨hi, rfl⟩ := entG_at he
        have hO : subL (ints (seen.map (keyAt (gatherF X)))) 0 ((seen.map (keyAt (gatherF X))).length * 1) = some (ints (seen.map (keyAt (gatherF X)))) := subL_all (by rw [ints_length, Nat.mul_one])
        have hbig : ((seen.map (keyAt (gatherF X))).length + 1) * 8 ≤ 140737488355328 := by rw [List.length_map]; omega
        have hlt : (gatherF X).length - (seen ++ [i]).length < (gatherF X).length - seen.length := by
          have := List.Nodup.length_le_of_subset (l₁ := seen ++ [i]) (l₂ := List.range (gatherF X).length) (by rw [List.nodup_append]; exact ⟨hn, by simp, fun a ha b hb e => by simp at hb; subst hb e; exact hns ha⟩) (fun j hj => List.mem_range.2 (by rcases List.mem_append.1 hj with hj | hj; exact hs j hj; simp at hj; subst hj; exact hi))
          simp at this ⊢; omega
        have hsn : seen.map (keyAt (gatherF X)) ++ [(gatherF X)[i].1] = (seen ++ [i]).map (keyAt (gatherF X)) := by rw [List.map_append, List.map_singleton, keyAt_eq hi]
        conv => whnf
        refine Ent.mk 2 1 _ i seen _ _ rfl rfl rfl rfl he ?_
        conv => whnf
        refine RApp.grow 1 8 _ _ _ _ _ _ tyI (.old rfl) rfl rfl (.rw rfl hO) hbig ?_
        conv => whnf
        refine ⟨⟨seen ++ [i], by rw [List.nodup_append]; exact ⟨hn, by simp, fun a ha b hb e => by simp at hb; subst hb e; exact hns ha⟩, fun j hj => by rcases List.mem_append.1 hj with hj | hj; exact hs j hj; simp at hj; subst hj; exact hi⟩, hlt, tm0_cov 5 (by decide) (Nat.le_refl 2) (SubV.rw (by decide) rfl) rfl rfl rfl (.inl ⟨_, rfl, ?_⟩)⟩
        exact (ints_snoc (seen.map (keyAt (gatherF X))) (gatherF X)[i].1).trans (congrArg ints hsn)
end Go.Proofs.Ytkhfdjhohfebgaa
namespace Go.Proofs.Ytkhfdjhohfebgaa
open Go Go.RowKit
section
variable {φ : Ph} {H : AH} {n : Nat} {h0 hp : Hp}
theorem HR.up (hr : HR φ H n h0 hp) : HR φ H (n + 1) h0 hp := ⟨fun b p e => ⟨Nat.lt_succ_of_lt (hr.dom b p e).1, (hr.dom b p e).2⟩, hr.live, hr.inj, hr.base, hr.size, hr.frz⟩
def phz (φ : Ph) (p : Option Pl) : Ph := ⟨fun b => if b = 0 then p else none, φ.z, φ.z⟩
/-- A run's memory: one row to be looked at, and what is frozen. -/
theorem HR.roz (hr : HR φ H n h0 hp) (hw : Wf hp) {po : Option Pl} {l : List AV} (hst : l.all stab = true)
    (h : (po = none ∧ l = []) ∨ ∃ p c t fz, po = some p ∧ hp.f p.B = some (.cells c t fz) ∧ l.length ≤ p.T ∧ p.s + p.T ≤ c.size ∧ CR φ c p.s l) : HR (phz φ po) (mkH [(0, .ro l)]) 1 hp hp := by
  refine ⟨fun b q e => ?_, fun b o e => ?_, fun b b' o o' q q' e _ hw' => ?_, fun b o e => ⟨hw b o e, e⟩, Nat.le_refl _, fun q hq => ⟨⟨FzR.mono (ψ := phz φ po) (φ := φ) (fun _ e => e) (hr.frz q hq).1.1, .inl hq⟩, fun b o p hb hw' _ => ?_⟩⟩
  · have e : (if b = 0 then po else none) = some q := e
    split at e
    · rcases h with ⟨h1, _⟩ | ⟨p, c, t, fz, h1, h2, _⟩
      · rw [h1] at e; cases e
      · rw [h1] at e; injection e with e; subst e; exact ⟨by omega, hw _ _ h2⟩
    · cases e
  · have hm := mkH_get e
    simp only [List.mem_cons, List.not_mem_nil, or_false] at hm
    injection hm with e1 e2
    subst e1 e2
    rcases h with ⟨h1, h2⟩ | ⟨p, c, t, fz, h1, h2, h3, h4, h5⟩
    · subst h2; exact .inl ⟨h1, rfl⟩
    · refine .inr ⟨p, _, h1, h2, h2, c, t, fz, rfl, h3, h4, fun i a hi => ?_⟩
      obtain ⟨v, h6, h7⟩ := h5 i a hi
      exact ⟨v, h6, stab_VR (φ := φ) (ψ := phz φ po) (fun _ e => e) (List.all_eq_true.1 hst a (List.mem_of_getElem? hi)) h7⟩
  · have hm := mkH_get e
    simp only [List.mem_cons, List.not_mem_nil, or_false] at hm
    injection hm with e1 e2
    subst e2
    cases hw'
  · have hm := mkH_get hb
    simp only [List.mem_cons, List.not_mem_nil, or_false] at hm
    injection hm with e1 e2
    subst e2
    cases hw'
end
/-- A slice of frozen rows of samples. -/
def RowsZ (H : AH) (a : AV) (X : List Smp) : Prop := a = .fr X.length 1 (rowsC X) ∨
  (∃ b o x l, (a = .rw b o X.length 1 x ∧ x ≠ 4) ∧ (H.get b = some (.ro l) ∨ ∃ z, H.get b = some (.cells l z)) ∧ subL l o (X.length * 1) = some (rowsC X)) ∨
  ∃ b o c k l, hd a = .sl b o X.length c k ∧ (H.get b = some (.ro l) ∨ ∃ z, H.get b = some (.cells l z)) ∧ subL l o (X.length * 1) = some (rowsC X) ∧ X.length ≤ c
theorem rowsC_stab (X : List Smp) : (rowsC X).all stab = true := by simp [rowsC, stab]
section
variable {φ : Ph} {H : AH} {n : Nat} {h0 hp : Hp}
theorem cells_of (hr : HR φ H n h0 hp) {b o m : Nat} {l r : List AV} {p : Pl} (hb : H.get b = some (.ro l) ∨ ∃ z, H.get b = some (.cells l z)) (hpb : φ b = some p) (hs : subL l o m = some r) : ∃ c t fz, hp.f p.B = some (.cells c t fz) ∧ p.s + o + m ≤ c.size ∧ CR φ c (p.s + o) r := by
  obtain ⟨g1, g2⟩ := subL_spec hs
  rcases hb with hb | ⟨z, hb⟩
  · obtain ⟨ob, _, h2, c, t, fz, rfl, h3, h4, h5⟩ := hr.of hb hpb
    exact ⟨c, t, fz, h2, by omega, by rw [g2]; exact CR.drop h5⟩
  · obtain ⟨ob, _, h2, c, t, fz, rfl, h3, h4, _, _, h5⟩ := hr.of hb hpb
    exact ⟨c, t, fz, h2, by omega, by rw [g2]; exact CR.drop h5⟩
theorem rows_open (hr : HR φ H n h0 hp) {a : AV} {X : List Smp} {v : Value} (hS : RowsZ H a X) (hv : VR φ a v) : VR ⟨fun _ => none, φ.z, φ.z⟩ (.fr X.length 1 (rowsC X)) v ∨ ∃ po, (Wf hp → HR (phz φ po) (mkH [(0, .ro (rowsC X))]) 1 hp hp) ∧ VR (phz φ po) (.rw 0 0 X.length 1 2) v := by
  have hlen : (rowsC X).length = X.length * 1 := by rw [rowsC_length, Nat.mul_one]
  have hnil : X.length = 0 → rowsC X = [] := fun q => by rw [List.eq_nil_of_length_eq_zero q]; rfl
  rcases hS with rfl | ⟨b, o, x, l, ⟨rfl, hx⟩, hb, hs⟩ | ⟨b, o, c, k, l, e, hb, hs, hc⟩
  · exact .inl (stab_VR (ψ := ⟨fun _ => none, φ.z, φ.z⟩) (fun _ h => h) rfl hv)
  · rcases hv.rw_inv with ⟨h1, hem⟩ | ⟨p, y, C, hpb, rfl, h2, h3, h4, h5, _, _⟩
    · refine .inr ⟨none, fun hw => hr.roz hw (rowsC_stab X) (.inl ⟨rfl, hnil h1⟩), ?_⟩
      rw [hem.nil hx, h1]; exact .rwn
    · by_cases hm : X.length = 0
      · refine .inl ?_
        rw [hnil hm, hm]
        exact .fre fun q => by cases q
      · have := h2 hm
        subst this
        obtain ⟨c, t, fz, g1, g2, g3⟩ := cells_of hr hb hpb hs
        refine .inr ⟨some ⟨p.B, p.s + o, X.length * 1⟩, fun hw => hr.roz hw (rowsC_stab X) (.inr ⟨_, c, t, fz, rfl, g1, Nat.le_of_eq hlen, g2, g3⟩), ?_⟩
        exact .rwx (p := ⟨p.B, p.s + o, X.length * 1⟩) rfl (fun _ => rfl) (Nat.le_refl _) h4 (Nat.le_refl _) (fun q => by omega) (fun q => by cases q)
  · have e6 := hv.hd
    rw [e] at e6
    obtain ⟨p, C, hpb, rfl, hC0, hC1⟩ := e6.sl_inv
    have hlC : X.length ≤ C := by
      by_cases hk0 : k = 0
      · rw [hC0 hk0]; exact hc
      · exact Nat.le_trans hc (hC1 hk0).1
    obtain ⟨c, t, fz, g1, g2, g3⟩ := cells_of hr hb hpb hs
    refine .inr ⟨some ⟨p.B, p.s + o, X.length * 1⟩, fun hw => hr.roz hw (rowsC_stab X) (.inr ⟨_, c, t, fz, rfl, g1, Nat.le_of_eq hlen, g2, g3⟩), ?_⟩
    exact .rwx (p := ⟨p.B, p.s + o, X.length * 1⟩) rfl (fun _ => rfl) (Nat.le_refl _) hlC (Nat.le_refl _) (fun q => by omega) (fun q => by cases q)
end
theorem gIns_len : ∀ (G : Grp) (x : Int × Int), (gIns G x).length ≤ G.length + 1
  | [], x => Nat.le_refl _
  | (t, xs) :: G, x => by
    unfold gIns
    split
    · simp
    · have := gIns_len G x; simp; omega
theorem gather_len (X : List Smp) : (gatherF X).length ≤ X.flatten.length := by
  have : ∀ (L : Smp) (G : Grp), (L.foldl gIns G).length ≤ G.length + L.length := fun L => by
    induction L with
    | nil => intro G; simp
    | cons x L ih => intro G; have := ih (gIns G x); have := gIns_len G x; simp only [List.foldl_cons, List.length_cons] at *; omega
  have := this X.flatten []
  simpa [gatherF] using this
def natTm (args : List AV) (H : AH) (n : Nat) (κ : PK) : Prop := match args with
  | [x] => ∃ X, RowsZ H x X ∧ X.length + X.flatten.length ≤ 1000000 ∧ κ (.fr (timesF X).length 1 (ints (timesF X))) H n
  | _ => False
def natRd (args : List AV) (H : AH) (n : Nat) (κ : PK) : Prop := match args with
  | [y, x] => asI y fun k => ∃ X, RowsZ H x X ∧ X.length + X.flatten.length ≤ 1000000 ∧ κ (.fr (reduceF k X).length 2 (smp (reduceF k X))) H n
  | _ => False
theorem singTm : SingG natTm := .pure fun args H n κ hs => by
  unfold natTm at *
  split at hs
  · obtain ⟨X, h1, h2, h3⟩ := hs
    exact ⟨_, h3, fun κ' h => ⟨X, h1, h2, h⟩⟩
  · exact hs.elim
theorem singRd : SingG natRd := .pure fun args H n κ hs => by
  unfold natRd at *
  split at hs
  · obtain ⟨k, ⟨X, h1, h2, h3⟩, k1⟩ := asI_sing hs
    exact ⟨_, h3, fun κ' h => k1 _ ⟨X, h1, h2, h⟩⟩
  · exact hs.elim
theorem n_times (hG : NatP 39 natGa) : NatP 20 natTm := fun args H n κ hs φ h0' hp vs K hr hargs hk => by
  unfold natTm at hs
  split at hs
  · obtain ⟨x, rfl, e1⟩ := vs1 hargs
    obtain ⟨X, hS, hL, hs⟩ := hs
    have hK : (gatherF X).length ≤ 1000000 := Nat.le_trans (gather_len X) (by omega)
    rcases rows_open hr hS e1 with hv | ⟨po, h1, hv⟩
    · exact smallFrR (callT_nat (GT_ok hG) 4 _) (ints_flat _) (by rw [ints_length, Nat.mul_one]) (times_runF X hL hK) hs hr hk (by kernel_rfl) (φ0 := ⟨fun _ => none, φ.z, φ.z⟩) (fun hw => (hr.withz (start_none hw) (fun _ _ h => by cases h) (fun _ h => h)).up) rfl (.cons hv .nil)
    · exact smallFrR (callT_nat (GT_ok hG) 4 _) (ints_flat _) (by rw [ints_length, Nat.mul_one]) (times_run X hL hK) hs hr hk (by kernel_rfl) (φ0 := phz φ po) h1 rfl (.cons hv .nil)
  · exact hs.elim
theorem n_reduce (hG : NatP 39 natGa) : NatP 17 natRd := fun args H n κ hs φ h0' hp vs K hr hargs hk => by
  unfold natRd at hs
  split at hs
  · obtain ⟨y, x, rfl, e1, e2⟩ := vs2 hargs
    obtain ⟨k, e1, X, hS, hL, hs⟩ := asI_si e1 hs
    have hK : (gatherF X).length ≤ 1000000 := Nat.le_trans (gather_len X) (by omega)
    rcases rows_open hr hS e2 with hv | ⟨po, h1, hv⟩
    · exact smallFrR (callT_nat (GU_ok hG) 4 _) (smp_flat _) (smp_length _) (reduce_runF k X hL hK) hs hr hk (by kernel_rfl) (φ0 := ⟨fun _ => none, φ.z, φ.z⟩) (fun hw => (hr.withz (start_none hw) (fun _ _ h => by cases h) (fun _ h => h)).up) rfl (.cons (by rw [e1.si_inv]; exact .si _ _) (.cons hv .nil))
    · exact smallFrR (callT_nat (GU_ok hG) 4 _) (smp_flat _) (smp_length _) (reduce_run k X hL hK) hs hr hk (by kernel_rfl) (φ0 := phz φ po) h1 rfl (.cons (by rw [e1.si_inv]; exact .si _ _) (.cons hv .nil))
  · exact hs.elim
end Go.Proofs.Ytkhfdjhohfebgaa
namespace Go.Proofs.Ytkhfdjhohfebgaa
open Go Go.RowKit
def insI : List Int → Int → List Int
  | [], t => [t]
  | o :: O, t => if o < t then o :: insI O t else if o = t then t :: O else t :: o :: O
def tRef (L : Smp) : List Int := L.foldl (fun O x => insI O x.1) []
theorem tRef_snoc (L : Smp) (x : Int × Int) : tRef (L ++ [x]) = insI (tRef L) x.1 := by simp [tRef]
theorem insI_len : ∀ (O : List Int) (t : Int), (insI O t).length ≤ O.length + 1
  | [], t => Nat.le_refl _
  | o :: O, t => by
    unfold insI
    split
    · have := insI_len O t; simp; omega
    · split <;> simp
theorem tRef_len (L : Smp) : (tRef L).length ≤ L.length := by
  have : ∀ (L : Smp) (O : List Int), (L.foldl (fun O x => insI O x.1) O).length ≤ O.length + L.length := fun L => by
    induction L with
    | nil => intro O; simp
    | cons x L ih => intro O; have := ih (insI O x.1); have := insI_len O x.1; simp only [List.foldl_cons, List.length_cons] at *; omega
  simpa [tRef] using this L []
/-- All ahead of n are below t. -/
def belowN (O : List Int) (t : Int) (n : Nat) : Prop := ∀ x ∈ O.take n, x < t
theorem insI_at : ∀ (O : List Int) (t : Int) (n : Nat), n ≤ O.length → belowN O t n → (∀ h : n < O.length, ¬ O[n] < t) → insI O t = O.take n ++ [t] ++ O.drop (if h : n < O.length then (if O[n] = t then n + 1 else n) else n)
  | [], t, n, hn, _, _ => by have : n = 0 := (by simpa using hn); subst this; rfl
  | o :: O, t, 0, _, _, hs => by
    have h0 : ¬ o < t := hs (Nat.succ_pos _)
    unfold insI
    rw [if_neg h0]
    by_cases e : o = t
    · simp [e]
    · simp [e]
  | o :: O, t, n + 1, hn, hb, hs => by
    have h0 : o < t := hb o (by simp)
    unfold insI
    rw [if_pos h0, insI_at O t n (by simpa using hn) (fun x hx => hb x (by simp [hx])) (fun h => by have := hs (by simp; omega); simpa using this)]
    by_cases h : n < O.length
    · have h' : n + 1 < (o :: O).length := by simp; omega
      rw [dif_pos h, dif_pos h']
      by_cases e : O[n] = t
      · simp [e]
      · simp [e]
    · have h' : ¬ n + 1 < (o :: O).length := by simp; omega
      rw [dif_neg h, dif_neg h']
      simp
theorem rowsC_nth {X : List Smp} {i o : Nat} (h : i < X.length) (ho : o = i) : nth (rowsC X) o = some (.fr X[i].length 2 (smp X[i])) := by
  subst ho
  rw [nth_eq, rowsC, List.getElem?_map, List.getElem?_eq_getElem h]; rfl
noncomputable def tra (X : List Smp) (O : List Int) (i : Nat) : AE × AH := (mkE [(0, .fr X.length 1 (rowsC X)), (3, .rw 0 0 O.length 1 0), (4, .si .i64 (i))], mkH [(0, .cells (ints (O)) true)])
theorem tra_cov {X : List Smp} {O : List Int} {i : Nat} {p n : Nat} {σ : AE} {H : AH} (j0 : Nat) (hp : p ≤ 0) (e0 : getq (pa 0) σ = .fr X.length 1 (rowsC X)) (e3 : SubV H 1 (fun b => if b = 0 then j0 else b) (getq (pa 3) σ) (.rw 0 0 O.length 1 0)) (e4 : mk (getq (pa 4) σ) = .si .i64 (i)) (h0 : (∃ l, H.get j0 = some (.cells l true) ∧ l.map mk = ints (O)) ∨ ((O) = [] ∧ n ≤ j0)) : Cov p σ H n ((tra X O i).1, (tra X O i).2, 1) := by
  refine Cov.ofR (fun b => if b = 0 then j0 else b) (by omega) (fun b hb => by repeat' rw [if_neg (by omega)]) ?_ ?_ ?_
  · intro x hx
    simp only [List.mem_cons, List.not_mem_nil, or_false] at hx
    rcases hx with rfl | rfl | rfl
    · exact SubV.frE e0
    · exact e3
    · exact .int e4
  · intro x hx
    simp only [List.mem_cons, List.not_mem_nil, or_false] at hx
    subst hx
    exact ⟨by simp, h0.elim (fun ⟨l, h, g⟩ => .inl ⟨_, h, SubO.cells_mk (ints_flat _) (by rw [g, ints_map]) (fun q => q)⟩) (fun h => .inr ⟨by rw [h.1]; rfl, h.2⟩)⟩
  · intro x hx y hy
    simp only [List.mem_cons, List.not_mem_nil, or_false] at hx hy
    subst hx hy
    exact fun q => rfl
noncomputable def trb (X : List Smp) (O : List Int) (i : Nat) (k : Nat) : AE × AH := (mkE [(0, .fr X.length 1 (rowsC X)), (3, .rw 0 0 O.length 1 0), (4, .si .i64 (i)), (5, .si .i64 (k))], mkH [(0, .cells (ints (O)) true)])
theorem trb_cov {X : List Smp} {O : List Int} {i : Nat} {k : Nat} {p n : Nat} {σ : AE} {H : AH} (j0 : Nat) (hp : p ≤ 0) (e0 : getq (pa 0) σ = .fr X.length 1 (rowsC X)) (e3 : SubV H 1 (fun b => if b = 0 then j0 else b) (getq (pa 3) σ) (.rw 0 0 O.length 1 0)) (e4 : mk (getq (pa 4) σ) = .si .i64 (i)) (e5 : mk (getq (pa 5) σ) = .si .i64 (k)) (h0 : (∃ l, H.get j0 = some (.cells l true) ∧ l.map mk = ints (O)) ∨ ((O) = [] ∧ n ≤ j0)) : Cov p σ H n ((trb X O i k).1, (trb X O i k).2, 1) := by
  refine Cov.ofR (fun b => if b = 0 then j0 else b) (by omega) (fun b hb => by repeat' rw [if_neg (by omega)]) ?_ ?_ ?_
  · intro x hx
    simp only [List.mem_cons, List.not_mem_nil, or_false] at hx
    rcases hx with rfl | rfl | rfl | rfl
    · exact SubV.frE e0
    · exact e3
    · exact .int e4
    · exact .int e5
  · intro x hx
    simp only [List.mem_cons, List.not_mem_nil, or_false] at hx
    subst hx
    exact ⟨by simp, h0.elim (fun ⟨l, h, g⟩ => .inl ⟨_, h, SubO.cells_mk (ints_flat _) (by rw [g, ints_map]) (fun q => q)⟩) (fun h => .inr ⟨by rw [h.1]; rfl, h.2⟩)⟩
  · intro x hx y hy
    simp only [List.mem_cons, List.not_mem_nil, or_false] at hx hy
    subst hx hy
    exact fun q => rfl
noncomputable def trc (X : List Smp) (O : List Int) (i : Nat) (k : Nat) (t : Int) (N : List Int) : AE × AH := (mkE [(0, .fr X.length 1 (rowsC X)), (3, .rw 0 0 O.length 1 0), (4, .si .i64 (i)), (5, .si .i64 (k)), (6, .si .i64 (t)), (7, .rw 1 0 N.length 1 0), (8, .si .i64 (N.length))], mkH [(0, .cells (ints (O)) true), (1, .cells (ints (N)) true)])
theorem trc_cov {X : List Smp} {O : List Int} {i : Nat} {k : Nat} {t : Int} {N : List Int} {p n : Nat} {σ : AE} {H : AH} (j0 : Nat) (j1 : Nat) (hj : j0 ≠ j1) (hp : p ≤ 0) (e0 : getq (pa 0) σ = .fr X.length 1 (rowsC X)) (e3 : SubV H 2 (fun b => if b = 0 then j0 else if b = 1 then j1 else b) (getq (pa 3) σ) (.rw 0 0 O.length 1 0)) (e4 : mk (getq (pa 4) σ) = .si .i64 (i)) (e5 : mk (getq (pa 5) σ) = .si .i64 (k)) (e6 : mk (getq (pa 6) σ) = .si .i64 (t)) (e7 : SubV H 2 (fun b => if b = 0 then j0 else if b = 1 then j1 else b) (getq (pa 7) σ) (.rw 1 0 N.length 1 0)) (e8 : mk (getq (pa 8) σ) = .si .i64 (N.length)) (h0 : (∃ l, H.get j0 = some (.cells l true) ∧ l.map mk = ints (O)) ∨ ((O) = [] ∧ n ≤ j0)) (h1 : (∃ l, H.get j1 = some (.cells l true) ∧ l.map mk = ints (N)) ∨ ((N) = [] ∧ n ≤ j1)) : Cov p σ H n ((trc X O i k t N).1, (trc X O i k t N).2, 2) := by
  refine Cov.ofR (fun b => if b = 0 then j0 else if b = 1 then j1 else b) (by omega) (fun b hb => by repeat' rw [if_neg (by omega)]) ?_ ?_ ?_
  · intro x hx
    simp only [List.mem_cons, List.not_mem_nil, or_false] at hx
    rcases hx with rfl | rfl | rfl | rfl | rfl | rfl | rfl
    · exact SubV.frE e0
    · exact e3
    · exact .int e4
    · exact .int e5
    · exact .int e6
    · exact e7
    · exact .int e8
  · intro x hx
    simp only [List.mem_cons, List.not_mem_nil, or_false] at hx
    rcases hx with rfl | rfl
    · exact ⟨by simp, h0.elim (fun ⟨l, h, g⟩ => .inl ⟨_, h, SubO.cells_mk (ints_flat _) (by rw [g, ints_map]) (fun q => q)⟩) (fun h => .inr ⟨by rw [h.1]; rfl, h.2⟩)⟩
    · exact ⟨by simp, h1.elim (fun ⟨l, h, g⟩ => .inl ⟨_, h, SubO.cells_mk (ints_flat _) (by rw [g, ints_map]) (fun q => q)⟩) (fun h => .inr ⟨by rw [h.1]; rfl, h.2⟩)⟩
  · intro x hx y hy
    simp only [List.mem_cons, List.not_mem_nil, or_false] at hx hy
    rcases hx with rfl | rfl <;> rcases hy with rfl | rfl <;> simp <;> omega
noncomputable def GV : FuncId → EP := withD 21 [] evP
theorem GV_ok : TabP GV := withD_ok evP_ok (by kernel_rfl) (by kernel_rfl)
theorem flat_take_len (X : List Smp) (i : Nat) : (X.take i).flatten.length ≤ X.flatten.length := by
  have := congrArg List.length (congrArg List.flatten (List.take_append_drop i X))
  rw [List.flatten_append, List.length_append] at this; omega
theorem flat_take_succ {X : List Smp} {i : Nat} (h : i < X.length) : (X.take (i + 1)).flatten = (X.take i).flatten ++ X[i] := by
  rw [List.take_succ_eq_append_getElem h, List.flatten_append]; simp
set_option maxHeartbeats 4000000 in
set_option maxRecDepth 100000 in
theorem rtimes_run (X : List Smp) (hL : X.flatten.length ≤ 1000000) (hX : X.length ≤ 1000000) : callT GV 3 21 [.fr X.length 1 (rowsC X)] .nil 0 fun u H' _ => FrG (tRef X.flatten).length 1 (ints (tRef X.flatten)) u H' := by
  conv => whnf
  refine LoopP.mk { i : Nat // i ≤ X.length } 1 (fun i => tra X (tRef (X.take i.val).flatten) i.val) (fun i => X.length - i.val) ⟨0, Nat.zero_le _⟩ ?_ ?_
  · exact tra_cov (O := []) (i := 0) 0 (Nat.le_refl 0) rfl (.nslRw rfl) rfl (.inr ⟨rfl, Nat.le_refl _⟩)
  · intro ⟨i, hi⟩
    conv => whnf
    refine Fork.dec (fun h1 => ?_) (fun h1 => ?_)
    · have h2 : i < X.length := Int.ofNat_lt.1 h1
      have hw : IntKind.i64.wrap ((i : Int) + 1) = ((i + 1 : Nat) : Int) := by rw [wrap_i64_of (by omega) (by omega)]; omega
      have hlt : X.length - (i + 1) < X.length - i := by omega
      have hfl : (X.take i).flatten.length + X[i].length ≤ 1000000 := by
        have := flat_take_len X (i + 1)
        rw [flat_take_succ h2, List.length_append] at this; omega
      conv => whnf
      refine LoopP.mk { k : Nat // k ≤ X[i].length } 1 (fun k => trb X (tRef ((X.take i).flatten ++ X[i].take k.val)) i k.val) (fun k => X[i].length - k.val) ⟨0, Nat.zero_le _⟩ ?_ ?_
      · exact trb_cov (k := 0) 0 (Nat.le_refl 0) rfl (SubV.rw (by decide) rfl (by simp)) rfl rfl (.inl ⟨_, rfl, by rw [List.take_zero, List.append_nil]; exact ints_map _⟩)
      · intro ⟨k, hk⟩
        have hOl : (tRef ((X.take i).flatten ++ X[i].take k)).length ≤ 1000000 := Nat.le_trans (tRef_len _) (by rw [List.length_append, List.length_take]; omega)
        have hwk : IntKind.i64.wrap ((k : Int) + 1) = ((k + 1 : Nat) : Int) := by rw [wrap_i64_of (by omega) (by omega)]; omega
        generalize hOe : tRef ((X.take i).flatten ++ X[i].take k) = O at hOl
        conv => whnf
        refine Idx.mk i rfl h2 ?_
        conv => whnf
        refine optP_of (rowsC_nth h2 (Nat.mul_one _)) ?_
        conv => whnf
        refine Fork.dec (fun h3 => ?_) (fun h3 => ?_)
        · have h4 : k < X[i].length := Int.ofNat_lt.1 h3
          have hkt : X[i].length - (k + 1) < X[i].length - k := by omega
          have hsn : tRef ((X.take i).flatten ++ X[i].take (k + 1)) = insI O X[i][k].1 := by rw [List.take_succ_eq_append_getElem h4, ← List.append_assoc, tRef_snoc, hOe]
          conv => whnf
          refine Idx.mk i rfl h2 ?_
          conv => whnf
          refine optP_of (rowsC_nth h2 (Nat.mul_one _)) ?_
          conv => whnf
          refine Idx.mk k rfl h4 ?_
          conv => whnf
          refine optP_of (smp_nth0 h4 (Nat.add_zero _)) ?_
          conv => whnf
          refine LoopP.mk { n : Nat // n ≤ O.length ∧ belowN O X[i][k].1 n } 2 (fun n => trc X O i k X[i][k].1 (O.take n.val)) (fun n => O.length - n.val) ⟨0, Nat.zero_le _, fun x hx => by simp at hx⟩ ?_ ?_
          · exact trc_cov (N := []) 0 1 (by decide) (Nat.le_refl 0) rfl (SubV.rw (by decide) rfl) rfl rfl rfl (.nslRw rfl) rfl (.inl ⟨_, rfl, ints_map _⟩) (.inr ⟨rfl, by decide⟩)
          · intro ⟨n, hn, hb⟩
            have hNl : (O.take n).length = n := by rw [List.length_take]; omega
            have hN : subL (ints (O.take n)) 0 ((O.take n).length * 1) = some (ints (O.take n)) := subL_all (by rw [ints_length, Nat.mul_one])
            have hN2 : subL (ints (O.take n) ++ [AV.si .i64 X[i][k].1]) 0 (((O.take n).length + 1) * 1) = some (ints (O.take n) ++ [AV.si .i64 X[i][k].1]) := subL_all (by simp [ints])
            have hsub : ∀ m, m ≤ O.length → subL (ints O) (0 + m * 1) ((O.length - m) * 1) = some (ints (O.drop m)) := fun m hm => by
              have := subL_drop (M := ints O) (L := ints O) (o := 0) (n := O.length) (l := m) (subL_all (ints_length O)) hm
              rw [ints_drop] at this
              rw [Nat.mul_one, Nat.mul_one]; exact this
            have hbig1 : ((O.take n).length + 1) * 8 ≤ 140737488355328 := by rw [hNl]; omega
            have hbig2 : ∀ m : Nat, ((O.take n).length + 1 + (O.length - m)) * 8 ≤ 140737488355328 := fun m => by rw [hNl]; omega
            have hcast : ((O.take n).length : Int) = (n : Int) := by rw [hNl]
            have hwn : IntKind.i64.wrap (((O.take n).length : Int) + 1) = ((n + 1 : Nat) : Int) := by rw [hNl, wrap_i64_of (by omega) (by omega)]; omega
            have hlen : ∀ m, insI O X[i][k].1 = O.take n ++ [X[i][k].1] ++ O.drop m → (O.take n).length + 1 + (O.length - m) = (tRef ((X.take i).flatten ++ X[i].take (k + 1))).length := fun m h => by rw [hsn, h]; simp; omega
            have hmap : ∀ m, insI O X[i][k].1 = O.take n ++ [X[i][k].1] ++ O.drop m → ((ints (O.take n) ++ [AV.si .i64 X[i][k].1]) ++ ints (O.drop m)).map mk = ints (tRef ((X.take i).flatten ++ X[i].take (k + 1))) := fun m h => by rw [hsn, h]; simp [ints, mk, Function.comp_def]
            have hins := insI_at O X[i][k].1 n hn hb
            conv => whnf
            refine Fork.dec (fun h5 => ?_) (fun h5 => ?_)
            · have h6 : n < O.length := by have : ((O.take n).length : Int) < (O.length : Int) := h5; omega
              have hdl : O.length - (n + 1) < O.length - n := by omega
              have hsn2 : O.take (n + 1) = O.take n ++ [O[n]] := List.take_succ_eq_append_getElem h6
              have hln1 : (O.take n).length + 1 = (O.take (n + 1)).length := by rw [hsn2, List.length_append]; rfl
              have hct1 : ((n + 1 : Nat) : Int) = ((O.take (n + 1)).length : Int) := by rw [← hln1, hNl]
              have hm1 : (ints (O.take n) ++ [AV.si .i64 O[n]]).map mk = ints (O.take (n + 1)) := (ints_snoc _ _).trans (congrArg ints hsn2.symm)
              have hbs : O[n] < X[i][k].1 → belowN O X[i][k].1 (n + 1) := fun h x hx => by
                rw [hsn2] at hx
                rcases List.mem_append.1 hx with hx | hx
                · exact hb x hx
                · simp at hx; subst hx; exact h
              conv => whnf
              refine Idx.mk n hcast h6 ?_
              conv => whnf
              refine optP_of (ints_nth h6 ((Nat.zero_add _).trans (Nat.mul_one _))) ?_
              conv => whnf
              refine Fork.dec (fun h7 => ?_) (fun h7 => ?_)
              · conv => whnf
                refine Idx.mk n hcast h6 ?_
                conv => whnf
                refine optP_of (ints_nth h6 ((Nat.zero_add _).trans (Nat.mul_one _))) ?_
                conv => whnf
                refine RApp.grow 1 8 _ _ _ _ _ _ tyI (.old rfl) rfl rfl (.rw rfl hN) hbig1 ?_
                conv => whnf
                refine ⟨⟨n + 1, h6, hbs h7⟩, hdl, trc_cov (N := O.take (n + 1)) 0 3 (by decide) (Nat.le_refl 0) rfl (SubV.rw (by decide) rfl) rfl rfl rfl (SubV.rw (by decide) rfl hln1) (congrArg (AV.si .i64) (hwn.trans hct1)) (.inl ⟨_, rfl, ints_map _⟩) (.inl ⟨_, rfl, hm1⟩)⟩
              · conv => whnf
                refine RApp.grow 1 8 _ _ _ _ _ _ tyI (.old rfl) rfl rfl (.rw rfl hN) hbig1 ?_
                conv => whnf
                refine Fork.dec (fun _ => ?_) (fun h => absurd h5 h)
                conv => whnf
                refine Idx.mk n hcast h6 ?_
                conv => whnf
                refine optP_of (ints_nth h6 ((Nat.zero_add _).trans (Nat.mul_one _))) ?_
                conv => whnf
                refine Fork.dec (fun h8 => ?_) (fun h8 => ?_)
                · have hI := (hins fun _ => h7).trans (by rw [dif_pos h6, if_pos h8])
                  conv => whnf
                  refine RSl.mk (n + 1) O.length (ebnd_is hwn) rfl (.inl rfl) (by omega) (Nat.le_refl _) ?_
                  conv => whnf
                  refine RApp.grow 1 8 (O.length - (n + 1)) _ _ _ _ _ tyI (.rw (.inr ⟨_, rfl⟩) (hsub (n + 1) (by omega))) (by rw [ints_length, List.length_drop, Nat.mul_one]) (ints_one _) (.rw rfl hN2) (hbig2 (n + 1)) ?_
                  conv => whnf
                  refine ⟨⟨k + 1, h4⟩, hkt, trb_cov 4 (Nat.le_refl 0) rfl (SubV.rw (by decide) rfl (hlen (n + 1) hI)) rfl (congrArg (AV.si .i64) hwk) (.inl ⟨_, rfl, hmap (n + 1) hI⟩)⟩
                · have hI := (hins fun _ => h7).trans (by rw [dif_pos h6, if_neg h8])
                  conv => whnf
                  refine RSl.mk (n) O.length (ebnd_is hcast) rfl (.inl rfl) (by omega) (Nat.le_refl _) ?_
                  conv => whnf
                  refine RApp.grow 1 8 (O.length - (n)) _ _ _ _ _ tyI (.rw (.inr ⟨_, rfl⟩) (hsub (n) (by omega))) (by rw [ints_length, List.length_drop, Nat.mul_one]) (ints_one _) (.rw rfl hN2) (hbig2 (n)) ?_
                  conv => whnf
                  refine ⟨⟨k + 1, h4⟩, hkt, trb_cov 4 (Nat.le_refl 0) rfl (SubV.rw (by decide) rfl (hlen (n) hI)) rfl (congrArg (AV.si .i64) hwk) (.inl ⟨_, rfl, hmap (n) hI⟩)⟩
            · have h6 : ¬ n < O.length := fun h => h5 (by show ((O.take n).length : Int) < (O.length : Int); omega)
              have hI := (hins fun h => absurd h h6).trans (by rw [dif_neg h6])
              conv => whnf
              refine RApp.grow 1 8 _ _ _ _ _ _ tyI (.old rfl) rfl rfl (.rw rfl hN) hbig1 ?_
              conv => whnf
              refine Fork.dec (fun h => absurd h h5) (fun _ => ?_)
              conv => whnf
              refine RSl.mk (n) O.length (ebnd_is hcast) rfl (.inl rfl) (by omega) (Nat.le_refl _) ?_
              conv => whnf
              refine RApp.grow 1 8 (O.length - (n)) _ _ _ _ _ tyI (.rw (.inr ⟨_, rfl⟩) (hsub (n) (by omega))) (by rw [ints_length, List.length_drop, Nat.mul_one]) (ints_one _) (.rw rfl hN2) (hbig2 (n)) ?_
              conv => whnf
              refine ⟨⟨k + 1, h4⟩, hkt, trb_cov 4 (Nat.le_refl 0) rfl (SubV.rw (by decide) rfl (hlen (n) hI)) rfl (congrArg (AV.si .i64) hwk) (.inl ⟨_, rfl, hmap (n) hI⟩)⟩
        · have h4 : k = X[i].length := by have : ¬ (k : Int) < (X[i].length : Int) := h3; omega
          have he : O = tRef (X.take (i + 1)).flatten := by rw [← hOe, h4, List.take_length, flat_take_succ h2]
          conv => whnf
          exact ⟨⟨i + 1, h2⟩, hlt, tra_cov 0 (Nat.le_refl 0) rfl (SubV.rw (by decide) rfl (by rw [he])) (congrArg (AV.si .i64) hw) (.inl ⟨_, rfl, by rw [he]; exact ints_map _⟩)⟩
    · have h2 : i = X.length := by have : ¬ (i : Int) < (X.length : Int) := h1; omega
      subst h2
      conv => whnf
      exact frG_row rfl (by rw [List.take_length]) rfl (by rw [List.take_length]) (by rw [ints_length, Nat.mul_one])
end Go.Proofs.Ytkhfdjhohfebgaa
namespace Go.Proofs.Ytkhfdjhohfebgaa
open Go Go.RowKit
def natRT (args : List AV) (H : AH) (n : Nat) (κ : PK) : Prop := match args with
  | [x] => ∃ X, x = .fr X.length 1 (rowsC X) ∧ X.flatten.length ≤ 1000000 ∧ X.length ≤ 1000000 ∧ κ (.fr (tRef X.flatten).length 1 (ints (tRef X.flatten))) H n
  | _ => False
theorem singRT : SingG natRT := .pure fun args H n κ hs => by
  unfold natRT at *
  split at hs
  · obtain ⟨X, h1, h2, h3, h4⟩ := hs
    exact ⟨_, h4, fun κ' h => ⟨X, h1, h2, h3, h⟩⟩
  · exact hs.elim
theorem n_rtimes : NatP 21 natRT := fun args H n κ hs φ h0' hp vs K hr hargs hk => by
  unfold natRT at hs
  split at hs
  · obtain ⟨x, rfl, e1⟩ := vs1 hargs
    obtain ⟨X, rfl, hL, hX, hs⟩ := hs
    exact smallFrR (callT_nat GV_ok 3 _) (ints_flat _) (by rw [ints_length, Nat.mul_one]) (rtimes_run X hL hX) hs hr hk (by kernel_rfl) (φ0 := ⟨fun _ => none, φ.z, φ.z⟩) (fun hw => hr.withz (start_none hw) (fun _ _ h => by cases h) (fun _ h => h)) rfl (.cons (stab_VR (φ := φ) (ψ := ⟨fun _ => none, φ.z, φ.z⟩) (fun _ h => h) rfl e1) .nil)
  · exact hs.elim
theorem insI_mem : ∀ (O : List Int) (t x : Int), x ∈ insI O t ↔ x ∈ O ∨ x = t
  | [], t, x => by simp [insI]
  | o :: O, t, x => by
    unfold insI
    split
    · rw [List.mem_cons, insI_mem O t x, List.mem_cons, or_assoc]
    · split
      · rename_i h; subst h; simp only [List.mem_cons]; constructor
        · rintro (h | h)
          · exact .inr h
          · exact .inl (.inr h)
        · rintro ((h | h) | h)
          · exact .inl h
          · exact .inr h
          · exact .inl h
      · simp only [List.mem_cons]; constructor
        · rintro (h | h)
          · exact .inr h
          · exact .inl h
        · rintro (h | h)
          · exact .inr h
          · exact .inl h
theorem insI_lt : ∀ (O : List Int) (t : Int), O.Pairwise (· < ·) → (insI O t).Pairwise (· < ·)
  | [], t, _ => List.pairwise_singleton _ _
  | o :: O, t, h => by
    obtain ⟨h1, h2⟩ := List.pairwise_cons.1 h
    unfold insI
    split
    · rename_i ho
      refine List.pairwise_cons.2 ⟨fun x hx => ?_, insI_lt O t h2⟩
      rcases (insI_mem O t x).1 hx with hx | rfl
      · exact h1 x hx
      · exact ho
    · split
      · rename_i e; subst e; exact h
      · refine List.pairwise_cons.2 ⟨fun x hx => ?_, h⟩
        rcases List.mem_cons.1 hx with rfl | hx
        · omega
        · have := h1 x hx; omega
theorem tRef_spec : ∀ (L : Smp) (O : List Int), O.Pairwise (· < ·) → (L.foldl (fun O x => insI O x.1) O).Pairwise (· < ·) ∧ ∀ t, t ∈ L.foldl (fun O x => insI O x.1) O ↔ t ∈ O ∨ ∃ x ∈ L, x.1 = t
  | [], O, h => ⟨h, fun t => by simp⟩
  | x :: L, O, h => by
    obtain ⟨h1, h2⟩ := tRef_spec L (insI O x.1) (insI_lt O x.1 h)
    refine ⟨h1, fun t => ?_⟩
    rw [List.foldl_cons, h2, insI_mem]
    simp only [List.mem_cons, exists_eq_or_imp, or_assoc]
    constructor
    · rintro (h | h | h)
      · exact .inl h
      · exact .inr (.inl h.symm)
      · exact .inr (.inr h)
    · rintro (h | h | h)
      · exact .inl h
      · exact .inr (.inl h.symm)
      · exact .inr (.inr h)
theorem times_eq (X : List Smp) : timesF X = tRef X.flatten := by
  obtain ⟨h1, h2⟩ := tRef_spec X.flatten [] .nil
  have hg := gather_is X
  refine sorted_eq ((riseI_perm _).trans ((List.perm_ext_iff_of_nodup hg.nd (h1.imp fun h => by omega)).2 fun t => ?_)) (riseI_sorted _) (h1.imp fun h => by omega)
  rw [hg.mem]
  exact ((h2 t).trans (by simp)).symm
end Go.Proofs.Ytkhfdjhohfebgaa
namespace Go.Proofs.Ytkhfdjhohfebgaa
open Go Go.RowKit
noncomputable def GX : FuncId → EP := withD 18 [] (withS 21 natRT (withS 43 (natKS 8796093022208 rFold) FM))
theorem GX_ok : TabP GX := withD_ok (withS_ok (withS_ok FM_ok n_rfold singKS) n_rtimes singRT) (by kernel_rfl) (by kernel_rfl)
def rOne (k : Int) (X : List Smp) (t : Int) : Int × Int := (t, rNum k (vals (X.flatten.filter fun x => x.1 == t)))
def rreduceF (k : Int) (X : List Smp) : Smp := if sRight k = true then (tRef X.flatten).map (rOne k X) else []
noncomputable def rra (k : Int) (X : List Smp) (T : List Int) (R : Smp) (n' : Nat) : AE × AH := (mkE [(0, .si .i64 (k)), (1, .fr X.length 1 (rowsC X)), (5, .rw 0 0 R.length 2 0), (6, .fr T.length 1 (ints T)), (7, .si .i64 (n'))], mkH [(0, .cells (smp (R)) true)])
theorem rra_cov {k : Int} {X : List Smp} {T : List Int} {R : Smp} {n' : Nat} {p n : Nat} {σ : AE} {H : AH} (j0 : Nat) (hp : p ≤ 0) (e0 : mk (getq (pa 0) σ) = .si .i64 (k)) (e1 : getq (pa 1) σ = .fr X.length 1 (rowsC X)) (e5 : SubV H 1 (fun b => if b = 0 then j0 else b) (getq (pa 5) σ) (.rw 0 0 R.length 2 0)) (e6 : getq (pa 6) σ = .fr T.length 1 (ints T)) (e7 : mk (getq (pa 7) σ) = .si .i64 (n')) (h0 : (∃ l, H.get j0 = some (.cells l true) ∧ l.map mk = smp (R)) ∨ ((R) = [] ∧ n ≤ j0)) : Cov p σ H n ((rra k X T R n').1, (rra k X T R n').2, 1) := by
  refine Cov.ofR (fun b => if b = 0 then j0 else b) (by omega) (fun b hb => by repeat' rw [if_neg (by omega)]) ?_ ?_ ?_
  · intro x hx
    simp only [List.mem_cons, List.not_mem_nil, or_false] at hx
    rcases hx with rfl | rfl | rfl | rfl | rfl
    · exact .int e0
    · exact SubV.frE e1
    · exact e5
    · exact SubV.frE e6
    · exact .int e7
  · intro x hx
    simp only [List.mem_cons, List.not_mem_nil, or_false] at hx
    subst hx
    exact ⟨by simp, h0.elim (fun ⟨l, h, g⟩ => .inl ⟨_, h, SubO.cells_mk (smp_flat _) (by rw [g, smp_map]) (fun q => q)⟩) (fun h => .inr ⟨by rw [h.1]; rfl, h.2⟩)⟩
  · intro x hx y hy
    simp only [List.mem_cons, List.not_mem_nil, or_false] at hx hy
    subst hx hy
    exact fun q => rfl
noncomputable def rrb (k : Int) (X : List Smp) (T : List Int) (R : Smp) (n' : Nat) (N : Smp) (i : Nat) : AE × AH := (mkE [(0, .si .i64 (k)), (1, .fr X.length 1 (rowsC X)), (5, .rw 0 0 R.length 2 0), (6, .fr T.length 1 (ints T)), (7, .si .i64 (n')), (8, .rw 1 0 N.length 2 0), (9, .si .i64 (i))], mkH [(0, .cells (smp (R)) true), (1, .cells (smp (N)) true)])
theorem rrb_cov {k : Int} {X : List Smp} {T : List Int} {R : Smp} {n' : Nat} {N : Smp} {i : Nat} {p n : Nat} {σ : AE} {H : AH} (j0 : Nat) (j1 : Nat) (hj : j0 ≠ j1) (hp : p ≤ 0) (e0 : mk (getq (pa 0) σ) = .si .i64 (k)) (e1 : getq (pa 1) σ = .fr X.length 1 (rowsC X)) (e5 : SubV H 2 (fun b => if b = 0 then j0 else if b = 1 then j1 else b) (getq (pa 5) σ) (.rw 0 0 R.length 2 0)) (e6 : getq (pa 6) σ = .fr T.length 1 (ints T)) (e7 : mk (getq (pa 7) σ) = .si .i64 (n')) (e8 : SubV H 2 (fun b => if b = 0 then j0 else if b = 1 then j1 else b) (getq (pa 8) σ) (.rw 1 0 N.length 2 0)) (e9 : mk (getq (pa 9) σ) = .si .i64 (i)) (h0 : (∃ l, H.get j0 = some (.cells l true) ∧ l.map mk = smp (R)) ∨ ((R) = [] ∧ n ≤ j0)) (h1 : (∃ l, H.get j1 = some (.cells l true) ∧ l.map mk = smp (N)) ∨ ((N) = [] ∧ n ≤ j1)) : Cov p σ H n ((rrb k X T R n' N i).1, (rrb k X T R n' N i).2, 2) := by
  refine Cov.ofR (fun b => if b = 0 then j0 else if b = 1 then j1 else b) (by omega) (fun b hb => by repeat' rw [if_neg (by omega)]) ?_ ?_ ?_
  · intro x hx
    simp only [List.mem_cons, List.not_mem_nil, or_false] at hx
    rcases hx with rfl | rfl | rfl | rfl | rfl | rfl | rfl
    · exact .int e0
    · exact SubV.frE e1
    · exact e5
    · exact SubV.frE e6
    · exact .int e7
    · exact e8
    · exact .int e9
  · intro x hx
    simp only [List.mem_cons, List.not_mem_nil, or_false] at hx
    rcases hx with rfl | rfl
    · exact ⟨by simp, h0.elim (fun ⟨l, h, g⟩ => .inl ⟨_, h, SubO.cells_mk (smp_flat _) (by rw [g, smp_map]) (fun q => q)⟩) (fun h => .inr ⟨by rw [h.1]; rfl, h.2⟩)⟩
    · exact ⟨by simp, h1.elim (fun ⟨l, h, g⟩ => .inl ⟨_, h, SubO.cells_mk (smp_flat _) (by rw [g, smp_map]) (fun q => q)⟩) (fun h => .inr ⟨by rw [h.1]; rfl, h.2⟩)⟩
  · intro x hx y hy
    simp only [List.mem_cons, List.not_mem_nil, or_false] at hx hy
    rcases hx with rfl | rfl <;> rcases hy with rfl | rfl <;> simp <;> omega
noncomputable def rrc (k : Int) (X : List Smp) (T : List Int) (R : Smp) (n' : Nat) (N : Smp) (i : Nat) (j : Nat) : AE × AH := (mkE [(0, .si .i64 (k)), (1, .fr X.length 1 (rowsC X)), (5, .rw 0 0 R.length 2 0), (6, .fr T.length 1 (ints T)), (7, .si .i64 (n')), (8, .rw 1 0 N.length 2 0), (9, .si .i64 (i)), (10, .si .i64 (j))], mkH [(0, .cells (smp (R)) true), (1, .cells (smp (N)) true)])
theorem rrc_cov {k : Int} {X : List Smp} {T : List Int} {R : Smp} {n' : Nat} {N : Smp} {i : Nat} {j : Nat} {p n : Nat} {σ : AE} {H : AH} (j0 : Nat) (j1 : Nat) (hj : j0 ≠ j1) (hp : p ≤ 0) (e0 : mk (getq (pa 0) σ) = .si .i64 (k)) (e1 : getq (pa 1) σ = .fr X.length 1 (rowsC X)) (e5 : SubV H 2 (fun b => if b = 0 then j0 else if b = 1 then j1 else b) (getq (pa 5) σ) (.rw 0 0 R.length 2 0)) (e6 : getq (pa 6) σ = .fr T.length 1 (ints T)) (e7 : mk (getq (pa 7) σ) = .si .i64 (n')) (e8 : SubV H 2 (fun b => if b = 0 then j0 else if b = 1 then j1 else b) (getq (pa 8) σ) (.rw 1 0 N.length 2 0)) (e9 : mk (getq (pa 9) σ) = .si .i64 (i)) (e10 : mk (getq (pa 10) σ) = .si .i64 (j)) (h0 : (∃ l, H.get j0 = some (.cells l true) ∧ l.map mk = smp (R)) ∨ ((R) = [] ∧ n ≤ j0)) (h1 : (∃ l, H.get j1 = some (.cells l true) ∧ l.map mk = smp (N)) ∨ ((N) = [] ∧ n ≤ j1)) : Cov p σ H n ((rrc k X T R n' N i j).1, (rrc k X T R n' N i j).2, 2) := by
  refine Cov.ofR (fun b => if b = 0 then j0 else if b = 1 then j1 else b) (by omega) (fun b hb => by repeat' rw [if_neg (by omega)]) ?_ ?_ ?_
  · intro x hx
    simp only [List.mem_cons, List.not_mem_nil, or_false] at hx
    rcases hx with rfl | rfl | rfl | rfl | rfl | rfl | rfl | rfl
    · exact .int e0
    · exact SubV.frE e1
    · exact e5
    · exact SubV.frE e6
    · exact .int e7
    · exact e8
    · exact .int e9
    · exact .int e10
  · intro x hx
    simp only [List.mem_cons, List.not_mem_nil, or_false] at hx
    rcases hx with rfl | rfl
    · exact ⟨by simp, h0.elim (fun ⟨l, h, g⟩ => .inl ⟨_, h, SubO.cells_mk (smp_flat _) (by rw [g, smp_map]) (fun q => q)⟩) (fun h => .inr ⟨by rw [h.1]; rfl, h.2⟩)⟩
    · exact ⟨by simp, h1.elim (fun ⟨l, h, g⟩ => .inl ⟨_, h, SubO.cells_mk (smp_flat _) (by rw [g, smp_map]) (fun q => q)⟩) (fun h => .inr ⟨by rw [h.1]; rfl, h.2⟩)⟩
  · intro x hx y hy
    simp only [List.mem_cons, List.not_mem_nil, or_false] at hx hy
    rcases hx with rfl | rfl <;> rcases hy with rfl | rfl <;> simp <;> omega
def eqT (t : Int) (x : Int × Int) : Bool := x.1 == t
theorem sName_is (k : Int) : beqL (sName k) [] = !sRight k := by
  by_cases h : 1 ≤ k ∧ k ≤ 7
  · rcases kinds (k := k) (by omega) (by omega) with rfl | rfl | rfl | rfl | rfl | rfl | rfl <;> rfl
  · have h1 : sName k = [] := by unfold sName; repeat' rw [if_neg (by omega)]
    rw [h1]
    simp [sRight, h, beqL]
set_option maxHeartbeats 8000000 in
set_option maxRecDepth 100000 in
theorem rreduce_run (k : Int) (X : List Smp) (hL : X.flatten.length ≤ 1000000) (hX : X.length ≤ 1000000) : callT GX 3 18 [.si .i64 k, .fr X.length 1 (rowsC X)] .nil 0 fun u H' _ => FrG (rreduceF k X).length 2 (smp (rreduceF k X)) u H' := by
  have hTl : (tRef X.flatten).length ≤ 1000000 := Nat.le_trans (tRef_len _) hL
  conv => whnf
  refine ⟨X, rfl, hL, hX, ?_⟩
  generalize hT : tRef X.flatten = T at hTl
  conv => whnf
  refine LoopP.mk { n : Nat // n ≤ T.length ∧ (n = 0 ∨ sRight k = true) } 1 (fun n => rra k X T ((T.take n.val).map (rOne k X)) n.val) (fun n => T.length - n.val) ⟨0, Nat.zero_le _, .inl rfl⟩ ?_ ?_
  · exact rra_cov (R := []) (n' := 0) 0 (Nat.le_refl 0) rfl rfl (.nslRw rfl) rfl rfl (.inr ⟨rfl, Nat.le_refl _⟩)
  · intro ⟨n, hn, hk0⟩
    conv => whnf
    refine Fork.dec (fun h1 => ?_) (fun h1 => ?_)
    · have h2 : n < T.length := Int.ofNat_lt.1 h1
      conv => whnf
      refine Fork.nsb (fun h3 => ?_) (fun h3 => ?_)
      · have hr : sRight k = true := by
          have h4 : beqL (sName k) [] = false := h3
          rw [sName_is] at h4; simpa using h4
        have hRR : rreduceF k X = T.map (rOne k X) := by rw [← hT]; exact if_pos hr
        have hwn : IntKind.i64.wrap ((n : Int) + 1) = ((n + 1 : Nat) : Int) := by rw [wrap_i64_of (by omega) (by omega)]; omega
        have hnt : T.length - (n + 1) < T.length - n := by omega
        have hRl : ((T.take n).map (rOne k X)).length = n := by rw [List.length_map, List.length_take]; omega
        have hRO : subL (smp ((T.take n).map (rOne k X))) 0 (((T.take n).map (rOne k X)).length * 2) = some (smp ((T.take n).map (rOne k X))) := smp_whole _
        have hbigR : (((T.take n).map (rOne k X)).length + 1) * 16 ≤ 140737488355328 := by rw [hRl]; omega
        have hRsn : (T.take (n + 1)).map (rOne k X) = (T.take n).map (rOne k X) ++ [rOne k X T[n]] := by rw [List.take_succ_eq_append_getElem h2, List.map_append]; rfl
        have hRln : ((T.take n).map (rOne k X)).length + 1 = ((T.take (n + 1)).map (rOne k X)).length := by rw [hRsn, List.length_append]; rfl
        conv => whnf
        refine LoopP.mk { i : Nat // i ≤ X.length } 2 (fun i => rrb k X T ((T.take n).map (rOne k X)) n ((X.take i.val).flatten.filter (eqT T[n])) i.val) (fun i => X.length - i.val) ⟨0, Nat.zero_le _⟩ ?_ ?_
        · exact rrb_cov (N := []) (i := 0) 0 1 (by decide) (Nat.le_refl 0) rfl rfl (SubV.rw (by decide) rfl) rfl rfl (.nslRw rfl) rfl (.inl ⟨_, rfl, smp_map _⟩) (.inr ⟨rfl, by decide⟩)
        · intro ⟨i, hi⟩
          have hNl : ((X.take i).flatten.filter (eqT T[n])).length ≤ 1000000 := Nat.le_trans (List.length_filter_le _ _) (Nat.le_trans (flat_take_len X i) hL)
          conv => whnf
          refine Fork.dec (fun h5 => ?_) (fun h5 => ?_)
          · have h6 : i < X.length := Int.ofNat_lt.1 h5
            have hwi : IntKind.i64.wrap ((i : Int) + 1) = ((i + 1 : Nat) : Int) := by rw [wrap_i64_of (by omega) (by omega)]; omega
            have hit : X.length - (i + 1) < X.length - i := by omega
            have hfl : (X.take i).flatten.length + X[i].length ≤ 1000000 := by
              have := flat_take_len X (i + 1)
              rw [flat_take_succ h6, List.length_append] at this; omega
            have hN0 : (((X.take i).flatten ++ X[i].take 0).filter (eqT T[n])) = (X.take i).flatten.filter (eqT T[n]) := by simp
            conv => whnf
            refine LoopP.mk { j : Nat // j ≤ X[i].length } 2 (fun j => rrc k X T ((T.take n).map (rOne k X)) n (((X.take i).flatten ++ X[i].take j.val).filter (eqT T[n])) i j.val) (fun j => X[i].length - j.val) ⟨0, Nat.zero_le _⟩ ?_ ?_
            · exact rrc_cov (j := 0) 0 1 (by decide) (Nat.le_refl 0) rfl rfl (SubV.rw (by decide) rfl) rfl rfl (SubV.rw (by decide) rfl (by rw [hN0])) rfl rfl (.inl ⟨_, rfl, smp_map _⟩) (.inl ⟨_, rfl, (smp_map _).trans (congrArg smp hN0.symm)⟩)
            · intro ⟨j, hj⟩
              have hNl2 : (((X.take i).flatten ++ X[i].take j).filter (eqT T[n])).length ≤ 1000000 := Nat.le_trans (List.length_filter_le _ _) (by rw [List.length_append, List.length_take]; omega)
              have hNO : subL (smp (((X.take i).flatten ++ X[i].take j).filter (eqT T[n]))) 0 ((((X.take i).flatten ++ X[i].take j).filter (eqT T[n])).length * 2) = some (smp (((X.take i).flatten ++ X[i].take j).filter (eqT T[n]))) := smp_whole _
              have hbigN : ((((X.take i).flatten ++ X[i].take j).filter (eqT T[n])).length + 1) * 16 ≤ 140737488355328 := by omega
              conv => whnf
              refine Idx.mk i rfl h6 ?_
              conv => whnf
              refine optP_of (rowsC_nth h6 (Nat.mul_one _)) ?_
              conv => whnf
              refine Fork.dec (fun h7 => ?_) (fun h7 => ?_)
              · have h8 : j < X[i].length := Int.ofNat_lt.1 h7
                have hwj : IntKind.i64.wrap ((j : Int) + 1) = ((j + 1 : Nat) : Int) := by rw [wrap_i64_of (by omega) (by omega)]; omega
                have hjt : X[i].length - (j + 1) < X[i].length - j := by omega
                have hsn : ((X.take i).flatten ++ X[i].take (j + 1)).filter (eqT T[n]) = ((X.take i).flatten ++ X[i].take j).filter (eqT T[n]) ++ (if X[i][j].1 = T[n] then [X[i][j]] else []) := by
                  rw [List.take_succ_eq_append_getElem h8, ← List.append_assoc, List.filter_append]
                  congr 1
                  by_cases e : X[i][j].1 = T[n] <;> simp [eqT, e]
                conv => whnf
                refine Idx.mk i rfl h6 ?_
                conv => whnf
                refine optP_of (rowsC_nth h6 (Nat.mul_one _)) ?_
                conv => whnf
                refine Idx.mk j rfl h8 ?_
                conv => whnf
                refine optP_of (smp_nth0 h8 (Nat.add_zero _)) ?_
                conv => whnf
                refine Idx.mk n rfl h2 ?_
                conv => whnf
                refine optP_of (ints_nth h2 (Nat.mul_one _)) ?_
                conv => whnf
                refine Fork.dec (fun h9 => ?_) (fun h9 => ?_)
                · have hsn1 := hsn.trans (by rw [if_pos h9])
                  have hln1 : (((X.take i).flatten ++ X[i].take j).filter (eqT T[n])).length + 1 = (((X.take i).flatten ++ X[i].take (j + 1)).filter (eqT T[n])).length := by rw [hsn1, List.length_append]; rfl
                  conv => whnf
                  refine Idx.mk i rfl h6 ?_
                  conv => whnf
                  refine optP_of (rowsC_nth h6 (Nat.mul_one _)) ?_
                  conv => whnf
                  refine Idx.mk j rfl h8 ?_
                  conv => whnf
                  refine optP_of (smp_sub h8 rfl) ?_
                  conv => whnf
                  refine RApp.grow 2 16 _ _ _ _ _ _ tyS2 (.old rfl) rfl rfl (.rw rfl hNO) hbigN ?_
                  conv => whnf
                  refine ⟨⟨j + 1, h8⟩, hjt, rrc_cov 0 3 (by decide) (Nat.le_refl 0) rfl rfl (SubV.rw (by decide) rfl) rfl rfl (SubV.rw (by decide) rfl hln1) rfl (congrArg (AV.si .i64) hwj) (.inl ⟨_, rfl, smp_map _⟩) (.inl ⟨_, rfl, (smpG_snoc _ X[i][j]).trans (congrArg smp hsn1.symm)⟩)⟩
                · have hsn1 := hsn.trans ((by rw [if_neg h9, List.append_nil] : _ = ((X.take i).flatten ++ X[i].take j).filter (eqT T[n])))
                  conv => whnf
                  exact ⟨⟨j + 1, h8⟩, hjt, rrc_cov 0 1 (by decide) (Nat.le_refl 0) rfl rfl (SubV.rw (by decide) rfl) rfl rfl (SubV.rw (by decide) rfl (by rw [hsn1])) rfl (congrArg (AV.si .i64) hwj) (.inl ⟨_, rfl, smp_map _⟩) (.inl ⟨_, rfl, (smp_map _).trans (congrArg smp hsn1.symm)⟩)⟩
              · have h8 : j = X[i].length := by have : ¬ (j : Int) < (X[i].length : Int) := h7; omega
                have hsn1 : (X.take (i + 1)).flatten.filter (eqT T[n]) = ((X.take i).flatten ++ X[i].take j).filter (eqT T[n]) := by rw [flat_take_succ h6, h8, List.take_length]
                conv => whnf
                exact ⟨⟨i + 1, h6⟩, hit, rrb_cov 0 1 (by decide) (Nat.le_refl 0) rfl rfl (SubV.rw (by decide) rfl) rfl rfl (SubV.rw (by decide) rfl (by rw [hsn1])) (congrArg (AV.si .i64) hwi) (.inl ⟨_, rfl, smp_map _⟩) (.inl ⟨_, rfl, (smp_map _).trans (congrArg smp hsn1.symm)⟩)⟩
          · have h6 : i = X.length := by have : ¬ (i : Int) < (X.length : Int) := h5; omega
            conv => whnf
            refine ⟨(X.take i).flatten.filter (eqT T[n]), SmpAt.row rfl rfl (smp_map _), by omega, ?_⟩
            conv => whnf
            refine Idx.mk n rfl h2 ?_
            conv => whnf
            refine optP_of (ints_nth h2 (Nat.mul_one _)) ?_
            conv => whnf
            refine RApp.grow 2 16 _ _ _ _ _ _ tyS2 (.old rfl) rfl rfl (.rw rfl hRO) hbigR ?_
            conv => whnf
            have hq : (T[n], rNum k (vals ((X.take i).flatten.filter (eqT T[n])))) = rOne k X T[n] := by rw [h6, List.take_length]; rfl
            exact ⟨⟨n + 1, h2, .inr hr⟩, hnt, rra_cov 3 (Nat.le_refl 0) rfl rfl (SubV.rw (by decide) rfl hRln) rfl (congrArg (AV.si .i64) hwn) (.inl ⟨_, rfl, (smpG_snoc _ (T[n], rNum k (vals ((X.take i).flatten.filter (eqT T[n]))))).trans (congrArg smp (hRsn.trans (congrArg (fun z => (T.take n).map (rOne k X) ++ [z]) hq.symm)).symm)⟩)⟩
      · have hr : ¬ sRight k = true := by
          have h4 : beqL (sName k) [] = true := h3
          rw [sName_is] at h4; simpa using h4
        have hRR : rreduceF k X = [] := if_neg hr
        have hn0 : n = 0 := hk0.resolve_right hr
        subst hn0
        conv => whnf
        exact frG_row rfl (by rw [hRR]; rfl) rfl (by rw [hRR]; rfl) (smp_length _)
    · have h2 : n = T.length := by have : ¬ (n : Int) < (T.length : Int) := h1; omega
      have hRR : rreduceF k X = (T.take n).map (rOne k X) := by
        unfold rreduceF
        rw [hT]
        rcases hk0 with h | h
        · have : T = [] := List.eq_nil_of_length_eq_zero (by omega)
          subst this; split <;> simp
        · rw [if_pos h, h2, List.take_length]
      conv => whnf
      exact frG_row rfl (by rw [hRR]) rfl (by rw [hRR, smp_map]) (smp_length _)
def natRR (args : List AV) (H : AH) (n : Nat) (κ : PK) : Prop := match args with
  | [y, x] => asI y fun k => ∃ X, x = .fr X.length 1 (rowsC X) ∧ X.flatten.length ≤ 1000000 ∧ X.length ≤ 1000000 ∧ κ (.fr (rreduceF k X).length 2 (smp (rreduceF k X))) H n
  | _ => False
theorem singRR : SingG natRR := .pure fun args H n κ hs => by
  unfold natRR at *
  split at hs
  · obtain ⟨k, ⟨X, h1, h2, h3, h4⟩, k1⟩ := asI_sing hs
    exact ⟨_, h4, fun κ' h => k1 _ ⟨X, h1, h2, h3, h⟩⟩
  · exact hs.elim
theorem n_rreduce : NatP 18 natRR := fun args H n κ hs φ h0' hp vs K hr hargs hk => by
  unfold natRR at hs
  split at hs
  · obtain ⟨y, x, rfl, e1, e2⟩ := vs2 hargs
    obtain ⟨k, e1, X, rfl, hL, hX, hs⟩ := asI_si e1 hs
    exact smallFrR (callT_nat GX_ok 3 _) (smp_flat _) (smp_length _) (rreduce_run k X hL hX) hs hr hk (by kernel_rfl) (φ0 := ⟨fun _ => none, φ.z, φ.z⟩) (fun hw => hr.withz (start_none hw) (fun _ _ h => by cases h) (fun _ h => h)) rfl
      (.cons (by rw [e1.si_inv]; exact .si _ _) (.cons (stab_VR (φ := φ) (ψ := ⟨fun _ => none, φ.z, φ.z⟩) (fun _ h => h) rfl e2) .nil))
  · exact hs.elim
end Go.Proofs.Ytkhfdjhohfebgaa
namespace Go.Proofs.Ytkhfdjhohfebgaa
open Go Go.RowKit

theorem wrap_lt {x : Int} (h1 : -18446744073709551616 ≤ x) (h2 : x < -9223372036854775808) : IntKind.i64.wrap x = x + 18446744073709551616 := by
  rw [IntKind.wrap_i64]; omega
theorem wrap_gt {x : Int} (h1 : x ≤ 18446744073709551615) (h2 : 9223372036854775807 < x) : IntKind.i64.wrap x = x - 18446744073709551616 := by
  rw [IntKind.wrap_i64]; omega
theorem sum_cases {x : Int} (h1 : -18446744073709551616 ≤ x) (h2 : x ≤ 18446744073709551615) : (In64 x ∧ IntKind.i64.wrap x = x) ∨ (x < -9223372036854775808 ∧ IntKind.i64.wrap x = x + 18446744073709551616) ∨ (9223372036854775807 < x ∧ IntKind.i64.wrap x = x - 18446744073709551616) := by
  unfold In64
  by_cases a : x < -9223372036854775808
  · exact .inr (.inl ⟨a, wrap_lt h1 a⟩)
  · by_cases b : 9223372036854775807 < x
    · exact .inr (.inr ⟨b, wrap_gt h2 b⟩)
    · exact .inl ⟨by omega, wrap_i64_of (by omega) (by omega)⟩
theorem cap_eq {a b : Int} (ha : In64 a) (hb : In64 b) : pCap a b = rCap a b ∧ In64 (rCap a b) := by
  unfold In64 at *
  have h := sum_cases (x := a + b) (by omega) (by omega)
  have h2 := sum_cases (x := 9223372036854775807 - b) (by omega) (by omega)
  have h3 := sum_cases (x := -9223372036854775808 - b) (by omega) (by omega)
  unfold In64 at h h2 h3
  simp only [pCap, sCap, rCap, sOver, rOver, decide_eq_true_eq]
  generalize IntKind.i64.wrap (a + b) = w at *
  generalize IntKind.i64.wrap (9223372036854775807 - b) = w2 at *
  generalize IntKind.i64.wrap (-9223372036854775808 - b) = w3 at *
  refine ⟨?_, ?_⟩
  · split <;> split <;> first | rfl | omega | (split <;> omega)
  · split
    · split <;> omega
    · omega
theorem cap_0 {x : Int} (h : In64 x) : pCap 0 x = x := by
  unfold In64 at h
  simp only [pCap, sCap, sOver, decide_eq_true_eq]
  rw [wrap_i64_of (x := 0 + x) (by omega) (by omega), if_neg (by omega)]
  omega
/-- The state behind some numbers. -/
def ssOf (x : Int) (r : List Int) : SS := ⟨(r.length : Int) + 1, r.foldl rCap x, r.foldl min x, r.foldl max x, x, (x :: r)[r.length]'(by simp)⟩
def aNums (V : List Int) : SS := V.foldl aAdd ss0
theorem aAll_vals (L : Smp) : aAll L = aNums (vals L) := by
  unfold aAll aNums vals
  rw [List.foldl_map]
theorem in_fold {x : Int} (hx : In64 x) : ∀ {r : List Int}, (∀ y ∈ r, In64 y) → In64 (r.foldl rCap x)
  | [], _ => hx
  | y :: r, h => in_fold (x := rCap x y) (cap_eq hx (h y List.mem_cons_self)).2 fun z hz => h z (List.mem_cons_of_mem _ hz)
theorem ssOf_step {x v : Int} {r : List Int} (hx : In64 x) (hr : ∀ y ∈ r, In64 y) (hv : In64 v) (hl : r.length < 4611686018427387904) : aAdd (ssOf x r) v = ssOf x (r ++ [v]) := by
  unfold aAdd
  rw [if_neg (by simp only [ssOf]; omega)]
  simp only [ssOf, List.foldl_append, List.foldl_cons, List.foldl_nil, List.length_append, List.length_cons, List.length_nil]
  rw [(cap_eq (in_fold hx hr) hv).1, wrap_i64_of (by omega) (by omega)]
  congr 1 <;> first | (simp; done) | omega
theorem aNums_of {x : Int} (hx : In64 x) : ∀ (n : Nat) (r : List Int), r.length = n → (∀ y ∈ r, In64 y) → r.length < 4611686018427387904 → aNums (x :: r) = ssOf x r
  | 0, r, hn, _, _ => by
    have : r = [] := List.eq_nil_of_length_eq_zero hn
    subst this
    show aAdd ss0 x = _
    unfold aAdd
    rw [if_pos (show ss0.n = 0 from rfl)]
    simp only [ss0, ssOf]
    rw [cap_0 hx, wrap_i64_of (by omega) (by omega)]
    simp
  | n + 1, r, hn, hr, hl => by
    obtain ⟨s, v, rfl⟩ : ∃ s v, r = s ++ [v] := ⟨r.dropLast, r.getLast (by intro q; subst q; simp at hn), (List.dropLast_concat_getLast _).symm⟩
    simp only [List.length_append, List.length_cons, List.length_nil] at hn hl
    have ih := aNums_of hx n s (by omega) (fun y hy => hr y (by simp [hy])) (by omega)
    rw [← ssOf_step hx (fun y hy => hr y (by simp [hy])) (hr v (by simp)) (by omega), ← ih]
    unfold aNums
    rw [← List.cons_append, List.foldl_append]; rfl
theorem min_le {x : Int} : ∀ (r : List Int), (∀ y ∈ r, In64 y) → In64 x → r.foldl min x ≤ r.foldl max x ∧ In64 (r.foldl min x) ∧ In64 (r.foldl max x) := by
  have key : ∀ (r : List Int) (a b : Int), a ≤ b → In64 a → In64 b → (∀ y ∈ r, In64 y) → r.foldl min a ≤ r.foldl max b ∧ In64 (r.foldl min a) ∧ In64 (r.foldl max b) := by
    intro r
    induction r with
    | nil => exact fun a b h h1 h2 _ => ⟨h, h1, h2⟩
    | cons y r ih =>
      intro a b h h1 h2 hr
      have hy := hr y List.mem_cons_self
      unfold In64 at h1 h2 hy
      exact ih (min a y) (max b y) (by omega) (by unfold In64; omega) (by unfold In64; omega) fun z hz => hr z (List.mem_cons_of_mem _ hz)
  exact fun r hr hx => key r x x (Int.le_refl _) hx hx hr
theorem wide_eq {l g : Int} (h : l ≤ g) (hl : In64 l) (hg : In64 g) : (if IntKind.i64.wrap (g - l) < 0 then 9223372036854775807 else IntKind.i64.wrap (g - l)) = rWide l g := by
  unfold rWide
  unfold In64 at *
  have h1 := sum_cases (x := g - l) (by omega) (by omega)
  have h2 := sum_cases (x := 9223372036854775807 + l) (by omega) (by omega)
  unfold In64 at h1 h2
  generalize IntKind.i64.wrap (g - l) = w at *
  generalize IntKind.i64.wrap (9223372036854775807 + l) = w2 at *
  split <;> split <;> omega
theorem num_eq {k : Int} {L : Smp} (hL : ∀ x ∈ L, In64 x.2) (hl : L.length < 4611686018427387904) : aNum k L = rNum k (vals L) ∧ aHas k L = rHas k (vals L) ∧ (aAll L).n = (L.length : Int) := by
  have hv : ∀ y ∈ vals L, In64 y := fun y hy => by
    simp only [vals, List.mem_map] at hy
    obtain ⟨x, hx, rfl⟩ := hy
    exact hL x hx
  have hlen : (vals L).length = L.length := by simp [vals]
  simp only [aNum, aHas, rNum, rHas, aAll_vals]
  rw [← hlen] at hl ⊢
  generalize vals L = V at *
  cases V with
  | nil => simp [aNums, ss0]
  | cons x r =>
    simp only [List.length_cons] at hl
    have hx := hv x List.mem_cons_self
    have hr : ∀ y ∈ r, In64 y := fun y hy => hv y (List.mem_cons_of_mem _ hy)
    rw [aNums_of hx r.length r rfl hr (by omega)]
    have hn : ¬ (ssOf x r).n = 0 := by simp only [ssOf]; omega
    have hm := min_le r hr hx
    have hw := wide_eq hm.1 hm.2.1 hm.2.2
    refine ⟨?_, by simp [hn], by simp [ssOf]⟩
    by_cases hk : sRight k = true
    · rw [if_pos hk, if_pos hk, if_neg hn]
      show aVal k (ssOf x r) = rVal k x r
      have hw2 : aWide (ssOf x r) = rWide (r.foldl min x) (r.foldl max x) := hw
      unfold aVal rVal
      rw [hw2]; rfl
    · rw [if_neg hk, if_neg hk]
end Go.Proofs.Ytkhfdjhohfebgaa
namespace Go.Proofs.Ytkhfdjhohfebgaa
open Go Go.RowKit
theorem reduce_eq {k : Int} {X : List Smp} (hX : ∀ L ∈ X, ∀ x ∈ L, In64 x.1 ∧ In64 x.2) (hL : X.flatten.length ≤ 1000000) : reduceF k X = rreduceF k X := by
  unfold reduceF rreduceF
  rw [times_eq]
  split
  · refine List.map_congr_left fun t _ => ?_
    have h1 : ∀ x ∈ X.flatten.filter (fun x => x.1 == t), In64 x.2 := fun x hx => by
      obtain ⟨L, hL1, hL2⟩ := List.mem_flatten.1 (List.mem_filter.1 hx).1
      exact (hX L hL1 x hL2).2
    have h2 : (X.flatten.filter fun x => x.1 == t).length < 4611686018427387904 := Nat.lt_of_le_of_lt (List.length_filter_le _ _) (by omega)
    unfold oneF rOne
    rw [(num_eq (k := k) h1 h2).1]
  · rfl
end Go.Proofs.Ytkhfdjhohfebgaa
namespace Go.Proofs.Ytkhfdjhohfebgaa
open Go Go.RowKit
def lightS (X : List Smp) : Nat := (X.map fun L => min L.length 1000).foldl (· + ·) 0
def lightF (X : List Smp) : Int := ((X.length + lightS X : Nat) : Int)
theorem lightS_snoc (X : List Smp) (L : Smp) : lightS (X ++ [L]) = lightS X + min L.length 1000 := by simp [lightS]
theorem lightS_le (X : List Smp) : lightS X ≤ X.length * 1000 := by
  have : ∀ (X : List Smp) (a : Nat), (X.map fun L => min L.length 1000).foldl (· + ·) a ≤ a + X.length * 1000 := fun X => by
    induction X with
    | nil => intro a; simp
    | cons L X ih => intro a; have := ih (a + min L.length 1000); simp only [List.map_cons, List.foldl_cons, List.length_cons] at *; omega
  simpa [lightS] using this X 0
theorem lightS_flat (X : List Smp) (h : lightS X ≤ 80) : X.flatten.length ≤ 80 := by
  have key : ∀ (X : List Smp) (a : Nat), (X.map fun L => min L.length 1000).foldl (· + ·) a ≤ 80 → a + X.flatten.length ≤ 80 := fun X => by
    induction X with
    | nil => intro a h; simpa using h
    | cons L X ih =>
      intro a h
      have h1 := ih (a + min L.length 1000) (by simpa using h)
      simp only [List.flatten_cons, List.length_append]; omega
  simpa using key X 0 (by simpa [lightS] using h)
def natLi (args : List AV) (H : AH) (n : Nat) (κ : PK) : Prop := match args with
  | [x] => ∃ X, x = .fr X.length 1 (rowsC X) ∧ X.length ≤ 8796093022208 ∧ κ (.si .i64 (lightF X)) H n
  | _ => False
theorem singLi : SingG natLi := .pure fun args H n κ hs => by
  unfold natLi at *
  split at hs
  · obtain ⟨X, h1, h2, h3⟩ := hs
    exact ⟨_, h3, fun κ' h => ⟨X, h1, h2, h⟩⟩
  · exact hs.elim
noncomputable def li0 (X : List Smp) (i : Nat) : AE × AH := (mkE [(0, .fr X.length 1 (rowsC X)), (3, .si .i64 (((X.length + lightS (X.take i) : Nat) : Int))), (4, .si .i64 (i))], mkH [])
theorem li0_cov {X : List Smp} {i : Nat} {p n : Nat} {σ : AE} {H : AH} (hp : p ≤ 0) (e0 : getq (pa 0) σ = .fr X.length 1 (rowsC X)) (e3 : mk (getq (pa 3) σ) = .si .i64 (((X.length + lightS (X.take i) : Nat) : Int))) (e4 : mk (getq (pa 4) σ) = .si .i64 (i)) : Cov p σ H n ((li0 X i).1, (li0 X i).2, 0) := by
  refine Cov.ofR (fun b => b) (by omega) (fun b hb => rfl) ?_ ?_ ?_
  · intro x hx
    simp only [List.mem_cons, List.not_mem_nil, or_false] at hx
    rcases hx with rfl | rfl | rfl
    · exact SubV.frE e0
    · exact .int e3
    · exact .int e4
  · intro x hx
    cases hx
  · intro x hx y hy
    cases hx
noncomputable def GL : FuncId → EP := withD 14 [] evP
theorem GL_ok : TabP GL := withD_ok evP_ok (by kernel_rfl) (by kernel_rfl)
set_option maxHeartbeats 4000000 in
set_option maxRecDepth 100000 in
theorem light_run (X : List Smp) (hX : X.length ≤ 8796093022208) : callT GL 3 14 [.fr X.length 1 (rowsC X)] .nil 0 fun u _ _ => mkT u = mkT (.int .i64 (lightF X)) := by
  conv => whnf
  refine LoopP.mk { i : Nat // i ≤ X.length } 0 (fun i => li0 X i.val) (fun i => X.length - i.val) ⟨0, Nat.zero_le _⟩ ?_ ?_
  · exact li0_cov (i := 0) (Nat.le_refl 0) rfl rfl rfl
  · intro ⟨i, hi⟩
    conv => whnf
    refine Fork.dec (fun h1 => ?_) (fun h1 => ?_)
    · have h2 : i < X.length := Int.ofNat_lt.1 h1
      have hlt : X.length - (i + 1) < X.length - i := by omega
      have hw : IntKind.i64.wrap ((i : Int) + 1) = ((i + 1 : Nat) : Int) := by rw [wrap_i64_of (by omega) (by omega)]; omega
      have hsn : lightS (X.take (i + 1)) = lightS (X.take i) + min X[i].length 1000 := by rw [List.take_succ_eq_append_getElem h2, lightS_snoc]
      have hb := lightS_le (X.take i)
      have hw2 : IntKind.i64.wrap (((X.length + lightS (X.take i) : Nat) : Int) + min (X[i].length : Int) 1000) = ((X.length + lightS (X.take (i + 1)) : Nat) : Int) := by
        rw [List.length_take] at hb
        rw [hsn, wrap_i64_of (by omega) (by omega)]; omega
      conv => whnf
      refine Idx.mk i rfl h2 ?_
      conv => whnf
      refine optP_of (rowsC_nth h2 (Nat.mul_one _)) ?_
      conv => whnf
      exact ⟨⟨i + 1, h2⟩, hlt, li0_cov (Nat.le_refl 0) rfl (congrArg (AV.si .i64) hw2) (congrArg (AV.si .i64) hw)⟩
    · have h2 : i = X.length := by have : ¬ (i : Int) < (X.length : Int) := h1; omega
      subst h2
      conv => whnf
      show AV.si .i64 ((X.length + lightS (X.take X.length) : Nat) : Int) = AV.si .i64 (lightF X)
      rw [List.take_length]; rfl
theorem n_light : NatP 14 natLi := fun args H n κ hs φ h0' hp vs K hr hargs hk => by
  unfold natLi at hs
  split at hs
  · obtain ⟨x, rfl, e1⟩ := vs1 hargs
    obtain ⟨X, rfl, hX, hs⟩ := hs
    exact smallN GL_ok (v := .int .i64 (lightF X)) rfl (light_run X hX) hs hr hk (by kernel_rfl) (φ0 := ⟨fun _ => none, φ.z, φ.z⟩) (fun hw => hr.withz (start_none hw) (fun _ _ h => by cases h) (fun _ h => h)) (.cons (stab_VR (φ := φ) (ψ := ⟨fun _ => none, φ.z, φ.z⟩) (fun _ h => h) rfl e1) .nil)
  · exact hs.elim
end Go.Proofs.Ytkhfdjhohfebgaa
namespace Go.Proofs.Ytkhfdjhohfebgaa
open Go Go.RowKit
def natII (args : List AV) (H : AH) (n : Nat) (κ : PK) : Prop := match args with
  | [x, y] => ∃ V W, x = .fr V.length 1 (ints V) ∧ y = .fr W.length 1 (ints W) ∧ V.length ≤ 1000000 ∧ κ (.sb (decide (V = W))) H n
  | _ => False
theorem singII : SingG natII := .pure fun args H n κ hs => by
  unfold natII at *
  split at hs
  · obtain ⟨V, W, h1, h2, h3, h4⟩ := hs
    exact ⟨_, h4, fun κ' h => ⟨V, W, h1, h2, h3, h⟩⟩
  · exact hs.elim
noncomputable def ii0 (V : List Int) (W : List Int) (i : Nat) : AE × AH := (mkE [(0, .fr V.length 1 (ints V)), (1, .fr W.length 1 (ints W)), (5, .si .i64 (i))], mkH [])
theorem ii0_cov {V : List Int} {W : List Int} {i : Nat} {p n : Nat} {σ : AE} {H : AH} (hp : p ≤ 0) (e0 : getq (pa 0) σ = .fr V.length 1 (ints V)) (e1 : getq (pa 1) σ = .fr W.length 1 (ints W)) (e5 : mk (getq (pa 5) σ) = .si .i64 (i)) : Cov p σ H n ((ii0 V W i).1, (ii0 V W i).2, 0) := by
  refine Cov.ofR (fun b => b) (by omega) (fun b hb => rfl) ?_ ?_ ?_
  · intro x hx
    simp only [List.mem_cons, List.not_mem_nil, or_false] at hx
    rcases hx with rfl | rfl | rfl
    · exact SubV.frE e0
    · exact SubV.frE e1
    · exact .int e5
  · intro x hx
    cases hx
  · intro x hx y hy
    cases hx
noncomputable def GM : FuncId → EP := withD 19 [] evP
theorem GM_ok : TabP GM := withD_ok evP_ok (by kernel_rfl) (by kernel_rfl)
theorem same_is {a b : Bool} (h : a = b) : mkT (AV.bool a) = mkT (.bool b) := by rw [h]
set_option maxHeartbeats 4000000 in
set_option maxRecDepth 100000 in
theorem ints_run (V W : List Int) (hV : V.length ≤ 1000000) : callT GM 3 19 [.fr V.length 1 (ints V), .fr W.length 1 (ints W)] .nil 0 fun u _ _ => mkT u = mkT (.bool (decide (V = W))) := by
  conv => whnf
  refine Fork.ndec (fun h1 => ?_) (fun h1 => ?_)
  · have h2 : decide (V = W) = false := decide_eq_false fun e => h1 (by subst e; rfl)
    conv => whnf
    exact same_is h2.symm
  · have hl : V.length = W.length := Int.ofNat_inj.1 h1
    conv => whnf
    refine LoopP.mk { i : Nat // i ≤ V.length ∧ V.take i = W.take i } 0 (fun i => ii0 V W i.val) (fun i => V.length - i.val) ⟨0, Nat.zero_le _, rfl⟩ ?_ ?_
    · exact ii0_cov (i := 0) (Nat.le_refl 0) rfl rfl rfl
    · intro ⟨i, hi, he⟩
      conv => whnf
      refine Fork.dec (fun h3 => ?_) (fun h3 => ?_)
      · have h4 : i < V.length := Int.ofNat_lt.1 h3
        have h5 : i < W.length := hl ▸ h4
        have hlt : V.length - (i + 1) < V.length - i := by omega
        have hw : IntKind.i64.wrap ((i : Int) + 1) = ((i + 1 : Nat) : Int) := by rw [wrap_i64_of (by omega) (by omega)]; omega
        have hsn : V[i] = W[i] → V.take (i + 1) = W.take (i + 1) := fun e => by rw [List.take_succ_eq_append_getElem h4, List.take_succ_eq_append_getElem h5, he, e]
        have hne : ¬ V[i] = W[i] → decide (V = W) = false := fun q => decide_eq_false fun e => q (by subst e; rfl)
        conv => whnf
        refine Idx.mk i rfl h4 ?_
        conv => whnf
        refine optP_of (ints_nth h4 (Nat.mul_one _)) ?_
        conv => whnf
        refine Idx.mk i rfl h5 ?_
        conv => whnf
        refine optP_of (ints_nth h5 (Nat.mul_one _)) ?_
        conv => whnf
        refine Fork.ndec (fun h6 => ?_) (fun h6 => ?_)
        · conv => whnf
          exact same_is (hne h6).symm
        · conv => whnf
          exact ⟨⟨i + 1, h4, hsn h6⟩, hlt, ii0_cov (Nat.le_refl 0) rfl rfl (congrArg (AV.si .i64) hw)⟩
      · have h4 : i = V.length := by have : ¬ (i : Int) < (V.length : Int) := h3; omega
        have h5 : decide (V = W) = true := decide_eq_true (by rw [h4, List.take_length, hl, List.take_length] at he; exact he)
        conv => whnf
        exact same_is h5.symm
theorem n_ints : NatP 19 natII := fun args H n κ hs φ h0' hp vs K hr hargs hk => by
  unfold natII at hs
  split at hs
  · obtain ⟨x, y, rfl, e1, e2⟩ := vs2 hargs
    obtain ⟨V, W, rfl, rfl, hV, hs⟩ := hs
    exact smallN GM_ok (v := .bool (decide (V = W))) rfl (ints_run V W hV) hs hr hk (by kernel_rfl) (φ0 := ⟨fun _ => none, φ.z, φ.z⟩) (fun hw => hr.withz (start_none hw) (fun _ _ h => by cases h) (fun _ h => h))
      (.cons (stab_VR (φ := φ) (ψ := ⟨fun _ => none, φ.z, φ.z⟩) (fun _ h => h) rfl e1) (.cons (stab_VR (φ := φ) (ψ := ⟨fun _ => none, φ.z, φ.z⟩) (fun _ h => h) rfl e2) .nil))
  · exact hs.elim
end Go.Proofs.Ytkhfdjhohfebgaa
namespace Go.Proofs.Ytkhfdjhohfebgaa
open Go Go.RowKit
noncomputable def FN : FuncId → EP := withS 43 (natKS 8796093022208 rFold) FM
theorem FN_ok : TabP FN := withS_ok FM_ok n_rfold singKS
theorem aAdd_0 {s : SS} {v : Int} (h : s.n = 0) : aAdd s v = ⟨IntKind.i64.wrap (s.n + 1), pCap s.sum v, min v v, max v v, v, v⟩ := if_pos h
theorem aAdd_1 {s : SS} {v : Int} (h : ¬ s.n = 0) : aAdd s v = ⟨IntKind.i64.wrap (s.n + 1), pCap s.sum v, min s.least v, max s.great v, s.first, v⟩ := if_neg h
end Go.Proofs.Ytkhfdjhohfebgaa
namespace Go.Proofs.Ytkhfdjhohfebgaa
open Go Go.RowKit
structure BK where
  pre : Smp
  b : Int
  v : Int
  s : SS
def BK.out (c : BK) : Smp := c.pre ++ [(c.b, c.v)]
def aV (k : Int) (s : SS) : Int := if s.n = 0 then 0 else aVal k s
def bkNew (k : Int) (pre : Smp) (b x : Int) : BK := ⟨pre, b, aV k (aAdd ss0 x), aAdd ss0 x⟩
def bkSame (k : Int) (c : BK) (x : Int) : BK := ⟨c.pre, c.b, aV k (aAdd c.s x), aAdd c.s x⟩
def bkStep (k sz al : Int) (c : BK) (x : Int × Int) : BK := if c.b = sStart x.1 sz al then bkSame k c x.2 else bkNew k c.out (sStart x.1 sz al) x.2
def bkAll (k sz al : Int) (x : Int × Int) (r : Smp) : BK := r.foldl (bkStep k sz al) (bkNew k [] (sStart x.1 sz al) x.2)
def bkOk (L : Smp) : Bool := L.all fun x => sTime x.1
def bkA (k sz al : Int) (L : Smp) : Smp := if sRight k = true ∧ sCan sz al = true ∧ bkOk L = true then (match L with
  | [] => []
  | x :: r => (bkAll k sz al x r).out) else []
theorem bkA_pos {k sz al : Int} {x : Int × Int} {r : Smp} (h1 : sRight k = true) (h2 : sCan sz al = true) (h3 : bkOk (x :: r) = true) : bkA k sz al (x :: r) = (bkAll k sz al x r).out := if_pos ⟨h1, h2, h3⟩
theorem bkA_neg {k sz al : Int} {L : Smp} (h : sRight k = false ∨ sCan sz al = false ∨ bkOk L = false) : bkA k sz al L = [] := if_neg (by rcases h with h | h | h <;> simp [h])
theorem bkA_nil {k sz al : Int} : bkA k sz al [] = [] := by unfold bkA; split <;> rfl
theorem bkOk_no {L : Smp} {i : Nat} (h : i < L.length) (ht : sTime L[i].1 = false) : bkOk L = false := by
  cases hb : bkOk L with
  | false => rfl
  | true =>
    have := List.all_eq_true.1 hb _ (List.getElem_mem h)
    simp only [ht] at this
    cases this
theorem bkAll_take {k sz al : Int} {x : Int × Int} {r : Smp} {i : Nat} (h : i < r.length) : bkAll k sz al x (r.take (i + 1)) = bkStep k sz al (bkAll k sz al x (r.take i)) r[i] := foldl_take h
theorem bkStep_same {k sz al : Int} {c : BK} {x : Int × Int} (h : c.b = sStart x.1 sz al) : bkStep k sz al c x = bkSame k c x.2 := if_pos h
theorem bkStep_new {k sz al : Int} {c : BK} {x : Int × Int} (h : ¬ c.b = sStart x.1 sz al) : bkStep k sz al c x = bkNew k c.out (sStart x.1 sz al) x.2 := if_neg h
theorem bkOk_take {L : Smp} {i : Nat} (h : i < L.length) (h1 : bkOk (L.take i) = true) (h2 : sTime L[i].1 = true) : bkOk (L.take (i + 1)) = true := by
  unfold bkOk at *
  rw [List.take_succ_eq_append_getElem h, List.all_append, h1]
  simp [h2]
theorem bk_fold_len {k sz al : Int} : ∀ (r : Smp) (c : BK), (r.foldl (bkStep k sz al) c).pre.length ≤ c.pre.length + r.length
  | [], _ => Nat.le_refl _
  | y :: r, c => by
    have h1 := bk_fold_len (k := k) (sz := sz) (al := al) r (bkStep k sz al c y)
    have h2 : (bkStep k sz al c y).pre.length ≤ c.pre.length + 1 := by
      unfold bkStep
      split
      · exact Nat.le_succ _
      · simp [bkNew, BK.out]
    simp only [List.foldl_cons, List.length_cons]
    omega
theorem bk_len {k sz al : Int} {x : Int × Int} (r : Smp) : (bkAll k sz al x r).pre.length ≤ r.length := by
  have := bk_fold_len (k := k) (sz := sz) (al := al) r (bkNew k [] (sStart x.1 sz al) x.2)
  simp only [bkNew, List.length_nil, Nat.zero_add] at this
  exact this
/-! ### cells -/
theorem end_nth0 {xs : List AV} {a c : AV} {o : Nat} (h : o = xs.length) : nth (xs ++ [a, c]) o = some a := by
  subst h; rw [nth_eq]; simp
theorem end_set {a c w : AV} : ∀ {xs : List AV} {o : Nat}, o = xs.length + 1 → setL (xs ++ [a, c]) o [w] = some (xs ++ [a, w])
  | [], o, h => by subst h; rfl
  | x :: xs, o, h => by
    obtain ⟨q, rfl⟩ : ∃ q, o = q + 1 := ⟨o - 1, by simp at h; omega⟩
    have := end_set (a := a) (c := c) (w := w) (xs := xs) (o := q) (by simp at h; omega)
    simp only [List.cons_append, setL, this, Option.map_some]
def endC (pre : Smp) (b v : Int) : List AV := smp pre ++ [.si .i64 b, .si .i64 v]
theorem endC_eq (pre : Smp) (b v : Int) : endC pre b v = smp (pre ++ [(b, v)]) := by simp [endC, smp]
theorem endC_flat (pre : Smp) (b v : Int) : (endC pre b v).all flat.flat1 = true := by rw [endC_eq]; exact smp_flat _
theorem endC_map (pre : Smp) (b v : Int) : (endC pre b v).map mk = smp (pre ++ [(b, v)]) := by rw [endC_eq, smp_map]
theorem endC_len (pre : Smp) (b v : Int) : (endC pre b v).length = (pre.length + 1) * 2 := by rw [endC_eq, smp_length]; simp
/-! ### the walk -/
noncomputable def FP : FuncId → EP := FN
theorem FP_ok : TabP FP := FN_ok
noncomputable def bkC (k sz al : Int) (L : Smp) (cap : Nat) (c : BK) (i : Nat) : AE × AH :=
  (mkE [(0, .si .i64 k), (1, .si .i64 sz), (2, .si .i64 al), (9, .sl 1 0 (c.pre.length + 1) (c.pre.length + 1) 2), (10, .ptr 2 0), (24, .sl 0 0 L.length cap 0), (25, .si .i64 L.length), (26, .si .i64 (i + 1 : Nat))],
   mkH [(0, .ro (smp L)), (1, .cells (endC c.pre c.b c.v) true), (2, .cells (stateCells k c.s) true)])
noncomputable abbrev bkSt (k sz al : Int) (x : Int × Int) (r : Smp) (cap : Nat) : Nat → AE × AH
  | 0 => (mkE [(0, .si .i64 k), (1, .si .i64 sz), (2, .si .i64 al), (9, .nsl), (10, .nil), (24, .sl 0 0 (r.length + 1) cap 0), (25, .si .i64 (r.length + 1 : Nat)), (26, .si .i64 0)], mkH [(0, .ro (smp (x :: r)))])
  | i + 1 => bkC k sz al (x :: r) cap (bkAll k sz al x (r.take i)) i
theorem bk_cov {k sz al : Int} {L : Smp} {cap i p n : Nat} {c : BK} {σ : AE} {H : AH} {l s : List AV} (j1 j2 : Nat) (hj : j1 ≠ 0 ∧ j2 ≠ 0 ∧ j1 ≠ j2) (hp : p ≤ 1) (e0 : mk (getq (pa 0) σ) = .si .i64 k) (e1 : mk (getq (pa 1) σ) = .si .i64 sz) (e2 : mk (getq (pa 2) σ) = .si .i64 al)
    (e9 : mk (getq (pa 9) σ) = .sy j1 0 (c.pre.length + 1) (c.pre.length + 1) 2) (e10 : getq (pa 10) σ = .ptr j2 0) (e24 : mk (getq (pa 24) σ) = .sy 0 0 L.length cap 0) (e25 : mk (getq (pa 25) σ) = .si .i64 L.length) (e26 : mk (getq (pa 26) σ) = .si .i64 (i + 1 : Nat))
    (h0 : H.get 0 = some (.ro (smp L))) (h1 : H.get j1 = some (.cells l true)) (hl : l.map mk = smp c.out) (h2 : H.get j2 = some (.cells s true)) (hs : s.map mk = stateCells k c.s) : Cov p σ H n ((bkC k sz al L cap c i).1, (bkC k sz al L cap c i).2, 3) := by
  refine Cov.of (fun b => if b = 0 then 0 else if b = 1 then j1 else j2) (by omega) (fun b hb => by rw [if_pos (by omega)]; omega) ?_ ?_ ?_
  · intro x hx
    simp only [List.mem_cons, List.not_mem_nil, or_false] at hx
    rcases hx with rfl | rfl | rfl | rfl | rfl | rfl | rfl | rfl
    · exact .int e0
    · exact .int e1
    · exact .int e2
    · exact .sl (by decide) e9
    · exact .ptr (by decide) e10
    · exact .sl (by decide) e24
    · exact .int e25
    · exact .int e26
  · intro x hx
    simp only [List.mem_cons, List.not_mem_nil, or_false] at hx
    rcases hx with rfl | rfl | rfl
    · exact ⟨by simp, _, h0, SubO.ro_mk (smp_flat L) rfl⟩
    · exact ⟨by simp, _, h1, SubO.cells_mk (endC_flat _ _ _) (by rw [hl, endC_map]; rfl) (fun q => q)⟩
    · exact ⟨by simp, _, h2, SubO.cells_mk rfl hs (fun q => q)⟩
  · intro x hx y hy
    simp only [List.mem_cons, List.not_mem_nil, or_false] at hx hy
    rcases hx with rfl | rfl | rfl <;> rcases hy with rfl | rfl | rfl <;> simp <;> omega
theorem bk_at {k sz al : Int} {x : Int × Int} {r : Smp} {cap i p n : Nat} {c : BK} {σ : AE} {H : AH} (hc : bkAll k sz al x (r.take (i + 1)) = c) (h : Cov p σ H n ((bkC k sz al (x :: r) cap c (i + 1)).1, (bkC k sz al (x :: r) cap c (i + 1)).2, 3)) :
    Cov p σ H n ((bkSt k sz al x r cap (i + 2)).1, (bkSt k sz al x r cap (i + 2)).2, 3) := by subst hc; exact h
theorem bk_cov0 {k sz al : Int} {x : Int × Int} {r : Smp} {cap p n : Nat} {σ : AE} {H : AH} (hp : p ≤ 1) (e0 : mk (getq (pa 0) σ) = .si .i64 k) (e1 : mk (getq (pa 1) σ) = .si .i64 sz) (e2 : mk (getq (pa 2) σ) = .si .i64 al)
    (e9 : getq (pa 9) σ = .nsl) (e10 : getq (pa 10) σ = .nil) (e24 : mk (getq (pa 24) σ) = .sy 0 0 (r.length + 1) cap 0) (e25 : mk (getq (pa 25) σ) = .si .i64 (r.length + 1 : Nat)) (e26 : mk (getq (pa 26) σ) = .si .i64 0)
    (h0 : H.get 0 = some (.ro (smp (x :: r)))) : Cov p σ H n ((bkSt k sz al x r cap 0).1, (bkSt k sz al x r cap 0).2, 3) := by
  refine Cov.of (fun b => b) (by omega) (fun b hb => rfl) ?_ ?_ ?_
  · intro x hx
    simp only [List.mem_cons, List.not_mem_nil, or_false] at hx
    rcases hx with rfl | rfl | rfl | rfl | rfl | rfl | rfl | rfl
    · exact .int e0
    · exact .int e1
    · exact .int e2
    · exact .flat rfl (congrArg mk e9)
    · exact .flat rfl (congrArg mk e10)
    · exact .sl (by decide) e24
    · exact .int e25
    · exact .int e26
  · intro x hx
    simp only [List.mem_cons, List.not_mem_nil, or_false] at hx
    subst hx
    exact ⟨by simp, _, h0, SubO.ro_mk (smp_flat _) rfl⟩
  · intro x hx y hy
    simp only [List.mem_cons, List.not_mem_nil, or_false] at hx hy
    subst hx hy
    exact fun q => q
theorem aTold_aV {k : Int} {s : SS} : mkT (aTold k s) = .tup [.si .i64 (aV k s), .sb (!decide (s.n = 0))] := rfl
theorem snoc_map (o : Smp) (b v : Int) {l : List AV} (h : l.map mk = smp o) : (l ++ [AV.si .i64 b, AV.si .i64 v]).map mk = smp (o ++ [(b, v)]) := by
  rw [List.map_append, h]; simp [smp, mk]
set_option maxHeartbeats 8000000 in
set_option maxRecDepth 100000 in
theorem bk_run (k sz al : Int) (L : Smp) (cap : Nat) (hL : L.length ≤ 1000000) (_ : L.length ≤ cap) : callT FP 4 46 [.si .i64 k, .si .i64 sz,   .si .i64 al, .sy 0 0 L.length cap 0] (mkH [(0, .ro (smp L))]) 1 fun u H' _ => NewRow (bkA k sz al L) u H' := by
  conv => whnf
  refine Fork.nsb (fun hr => ?_) (fun hr => ?_)
  · conv => whnf
    exact .inl ⟨bkA_neg (.inl hr), rfl⟩
  have hk := right_pos hr
  conv => whnf
  refine Fork.nsb (fun hc => ?_) (fun hc => ?_)
  · conv => whnf
    exact .inl ⟨bkA_neg (.inr (.inl hc)), rfl⟩
  rcases L with _ | ⟨x, r⟩
  · conv => whnf
    refine LoopP.roll 1 ?_
    conv => whnf
    refine Fork.dec (fun h => absurd h (by decide)) (fun _ => ?_)
    conv => whnf
    exact .inl ⟨bkA_nil, rfl⟩
  simp only [List.length_cons] at hL
  conv => whnf
  refine LoopP.mk { i : Nat // i < r.length + 2 ∧ bkOk ((x :: r).take i) = true } 3 (fun a => bkSt k sz al x r cap a.val) (fun a => r.length + 1 - a.val) ⟨0, by omega, rfl⟩ ?_ ?_
  · exact bk_cov0 (Nat.le_refl 1) rfl rfl rfl rfl rfl rfl rfl rfl rfl
  · intro ⟨i, hi, hok⟩
    cases i with
    | zero =>
      conv => whnf
      refine Fork.dec (fun h1 => ?_) (fun h1 => absurd (show (0 : Int) < ((r.length + 1 : Nat) : Int) by omega) h1)
      have hlt : r.length + 1 - 1 < r.length + 1 - 0 := by omega
      have h2 : 0 < (x :: r).length := Nat.succ_pos _
      conv => whnf
      refine Idx.mk 0 rfl (Nat.succ_pos _) ?_
      conv => whnf
      refine Fork.nsb (fun ht => ?_) (fun ht => ?_)
      · conv => whnf
        exact .inl ⟨bkA_neg (.inr (.inr (bkOk_no h2 ht))), rfl⟩
      conv => whnf
      refine Fork.nsb (fun h => absurd h (by rw [hr]; decide)) (fun _ => ?_)
      conv => whnf
      refine Fork.ndec (fun h => absurd (show (0 : Int) < k by omega) h) (fun _ => ?_)
      conv => whnf
      refine .inr ⟨k, aAdd ss0 x.2, 6, rfl, ⟨_, .inr ⟨_, rfl⟩, ?_⟩, hk.1, hk.2, ?_⟩
      · exact Eq.trans rfl (congrArg (stateCells k) (aAdd_0 (s := ss0) (v := x.2) rfl).symm)
      conv => whnf
      refine ⟨⟨1, by omega, bkOk_take h2 hok ht⟩, hlt, bk_cov (i := 0) (c := bkAll k sz al x (r.take 0)) 5 6 (by decide) (Nat.le_refl 1) rfl rfl rfl rfl rfl rfl rfl rfl rfl rfl ?_ rfl ?_⟩
      · exact Eq.trans rfl (show smp [(sStart x.1 sz al, aV k (aAdd ss0 x.2))] = _ from rfl)
      · exact Eq.trans rfl (congrArg (stateCells k) (aAdd_0 (s := ss0) (v := x.2) rfl).symm)
    | succ i =>
      conv => whnf
      refine Fork.dec (fun h1 => ?_) (fun h1 => ?_)
      · have h1 : ((i + 1 : Nat) : Int) < ((r.length + 1 : Nat) : Int) := h1
        have h2 : i + 1 < (x :: r).length := by simp only [List.length_cons]; omega
        have h3 : i < r.length := by omega
        have hlt : r.length + 1 - (i + 2) < r.length + 1 - (i + 1) := by omega
        have hw : IntKind.i64.wrap (((i + 1 : Nat) : Int) + 1) = ((i + 1 + 1 : Nat) : Int) := by rw [wrap_i64_of (x := ((i + 1 : Nat) : Int) + 1) (by omega) (by omega)]; omega
        have hpl : (bkAll k sz al x (r.take i)).pre.length ≤ i := Nat.le_trans (bk_len _) (by rw [List.length_take]; omega)
        have hlw : IntKind.i64.wrap ((((bkAll k sz al x (r.take i)).pre.length + 1 : Nat) : Int) - 1) = ((bkAll k sz al x (r.take i)).pre.length : Int) := by rw [wrap_i64_of (by omega) (by omega)]; omega
        have hlw2 : IntKind.i64.wrap ((((bkAll k sz al x (r.take i)).pre.length + 1 + 1 : Nat) : Int) - 1) = (((bkAll k sz al x (r.take i)).pre.length + 1 : Nat) : Int) := by rw [wrap_i64_of (by omega) (by omega)]; omega
        conv => whnf
        refine Idx.mk (i + 1) rfl h2 ?_
        conv => whnf
        refine optP_of (smp_sub h2 (by show 0 + (i + 1) * 2 = (i + 1) * 2; omega)) ?_
        conv => whnf
        refine Fork.nsb (fun ht => ?_) (fun ht => ?_)
        · conv => whnf
          exact .inl ⟨bkA_neg (.inr (.inr (bkOk_no h2 ht))), rfl⟩
        conv => whnf
        refine optP_of (eix_of rfl hlw (Nat.lt_succ_self _)) ?_
        conv => whnf
        refine optP_of (end_nth0 (by rw [smp_length]; show 0 + _ * 2 + 0 = _; omega)) ?_
        conv => whnf
        refine Fork.ndec (fun h4 => ?_) (fun h4 => ?_)
        · conv => whnf
          refine optP_of (app_grow (k := 1) (by' := 16) (m := 1) (sn := (bkAll k sz al x (r.take i)).pre.length + 1) (c := (bkAll k sz al x (r.take i)).pre.length + 1) rfl rfl rfl rfl rfl rfl rfl rfl (by decide) rfl rfl rfl (by omega) (by omega) (subL_all (endC_len _ _ _))) ?_
          conv => whnf
          refine Fork.nsb (fun h => absurd h (by rw [hr]; decide)) (fun _ => ?_)
          conv => whnf
          refine Fork.ndec (fun h => absurd (show (0 : Int) < k by omega) h) (fun _ => ?_)
          conv => whnf
          refine .inr ⟨k, aAdd ss0 r[i].2, 6, rfl, ⟨_, .inr ⟨_, rfl⟩, ?_⟩, hk.1, hk.2, ?_⟩
          · exact Eq.trans rfl (congrArg (stateCells k) (aAdd_0 (s := ss0) (v := r[i].2) rfl).symm)
          conv => whnf
          refine optP_of (eix_of rfl hlw2 (Nat.lt_succ_self _)) ?_
          conv => whnf
          refine optP_of (end_set (xs := endC (bkAll k sz al x (r.take i)).pre (bkAll k sz al x (r.take i)).b (bkAll k sz al x (r.take i)).v) (by rw [endC_len]; show 0 + (_ + 1) * 2 + 1 = _; omega)) ?_
          conv => whnf
          refine ⟨⟨i + 2, by omega, bkOk_take h2 hok ht⟩, hlt, bk_at ((bkAll_take h3).trans (bkStep_new h4)) (bk_cov (i := i + 1) 5 6 (by decide) (Nat.le_refl 1) rfl rfl rfl ?_ rfl rfl rfl (congrArg (AV.si .i64) hw) rfl rfl (snoc_map _ _ _ (endC_map _ _ _)) rfl ?_)⟩
          · exact (show mk _ = AV.sy 5 0 ((bkAll k sz al x (r.take i)).pre.length + 1 + 1) ((bkAll k sz al x (r.take i)).pre.length + 1 + 1) 2 from rfl).trans (by simp [bkNew, BK.out])
          · exact Eq.trans rfl (congrArg (stateCells k) (aAdd_0 (s := ss0) (v := r[i].2) rfl).symm)
        · refine Fork.ndec (fun h => absurd (show (0 : Int) < k by omega) h) (fun _ => ?_)
          conv => whnf
          refine Fork.dec (fun h5 => ?_) (fun h5 => ?_)
          all_goals
            conv => whnf
            refine .inr ⟨k, aAdd (bkAll k sz al x (r.take i)).s r[i].2, 2, rfl, ⟨_, .inr ⟨_, rfl⟩, ?_⟩, hk.1, hk.2, ?_⟩
            · first | exact Eq.trans rfl (congrArg (stateCells k) (aAdd_0 h5).symm) | exact Eq.trans rfl (congrArg (stateCells k) (aAdd_1 h5).symm)
            conv => whnf
            refine optP_of (eix_of rfl hlw (Nat.lt_succ_self _)) ?_
            conv => whnf
            refine optP_of (end_set (xs := smp (bkAll k sz al x (r.take i)).pre) (by rw [smp_length]; show 0 + _ * 2 + 1 = _; omega)) ?_
            conv => whnf
            refine ⟨⟨i + 2, by omega, bkOk_take h2 hok ht⟩, hlt, bk_at ((bkAll_take h3).trans (bkStep_same h4)) (bk_cov (i := i + 1) 1 2 (by decide) (Nat.le_refl 1) rfl rfl rfl rfl rfl rfl rfl (congrArg (AV.si .i64) hw) rfl rfl (endC_map _ _ _) rfl ?_)⟩
            first | exact Eq.trans rfl (congrArg (stateCells k) (aAdd_0 h5).symm) | exact Eq.trans rfl (congrArg (stateCells k) (aAdd_1 h5).symm)
      · conv => whnf
        have h1 : ¬ ((i + 1 : Nat) : Int) < ((r.length + 1 : Nat) : Int) := h1
        have h3 : i = r.length := by omega
        subst h3
        have e1 : r.take r.length = r := List.take_length
        rw [show (x :: r).take (r.length + 1) = x :: r from by rw [List.take_succ_cons, e1]] at hok
        have e2 : bkA k sz al (x :: r) = (bkAll k sz al x (r.take r.length)).out := by rw [bkA_pos hr hc hok, e1]
        refine .inr ⟨by rw [e2]; simp [BK.out], 1, (bkAll k sz al x (r.take r.length)).pre.length + 1, _, ?_, ?_, rfl, (endC_map _ _ _).trans (congrArg smp e2.symm)⟩
        · exact (show _ = AV.sl 1 0 ((bkAll k sz al x (r.take r.length)).pre.length + 1) ((bkAll k sz al x (r.take r.length)).pre.length + 1) 2 from rfl).trans (by rw [e2]; simp [BK.out])
        · rw [e2]; simp [BK.out]
set_option maxHeartbeats 4000000 in
set_option maxRecDepth 100000 in
theorem bk_nil (k sz al : Int) : callT FP 4 46 [.si .i64 k, .si .i64 sz, .si .i64 al, .nsl] .nil 0 fun u H' _ => NewRow (bkA k sz al []) u H' := by
  conv => whnf
  refine Fork.nsb (fun hr => ?_) (fun hr => ?_)
  · conv => whnf
    exact .inl ⟨bkA_nil, rfl⟩
  conv => whnf
  refine Fork.nsb (fun hc => ?_) (fun hc => ?_)
  · conv => whnf
    exact .inl ⟨bkA_nil, rfl⟩
  conv => whnf
  refine LoopP.roll 1 ?_
  conv => whnf
  exact .inl ⟨bkA_nil, rfl⟩
theorem n_buckets : NatP 46 (natB 1000000 bkA) := natB_ok FP_ok (by kernel_rfl) bk_nil bk_run
end Go.Proofs.Ytkhfdjhohfebgaa
namespace Go.Proofs.Ytkhfdjhohfebgaa
open Go Go.RowKit
noncomputable def FQ : FuncId → EP := withD 16 [] (withS 46 (natB 1000000 bkA) FP)
theorem FQ_ok : TabP FQ := withD_ok (withS_ok FP_ok n_buckets singB) (by kernel_rfl) (by kernel_rfl)
/-- A function of two rows of samples that yields a truth. -/
def natSS (B : Nat) (f : Smp → Smp → Bool) (args : List AV) (H : AH) (n : Nat) (κ : PK) : Prop := match args with
  | [x, y] => ∃ L M, SmpAt H x L ∧ SmpAt H y M ∧ L.length ≤ B ∧ M.length ≤ B ∧ κ (.sb (f L M)) H n
  | _ => False
theorem singSS {B : Nat} {f : Smp → Smp → Bool} : SingG (natSS B f) := .pure fun args H n κ hs => by
  unfold natSS at *
  split at hs
  · obtain ⟨L, M, h1, h2, h3, h4, h5⟩ := hs
    exact ⟨_, h5, fun κ' h => ⟨L, M, h1, h2, h3, h4, h⟩⟩
  · exact hs.elim
theorem natSS_ok {B : Nat} {F : FuncId → EP} (hF : TabP F) {d : Nat} {f : FuncId} {g : Smp → Smp → Bool} (hic : isCall Try.prog f = true) (h00 : callT F d f [.nsl, .nsl] .nil 0 fun u _ _ => mkT u = mkT (.bool (g [] [])))
    (h01 : ∀ M cap, M.length ≤ B → callT F d f [.nsl, .sy 0 0 M.length cap 0] (mkH [(0, .ro (smp M))]) 1 fun u _ _ => mkT u = mkT (.bool (g [] M)))
    (h10 : ∀ L cap, L.length ≤ B → callT F d f [.sy 0 0 L.length cap 0, .nsl] (mkH [(0, .ro (smp L))]) 1 fun u _ _ => mkT u = mkT (.bool (g L [])))
    (h11 : ∀ L M c1 c2, L.length ≤ B → M.length ≤ B → callT F d f [.sy 0 0 L.length c1 0, .sy 1 0 M.length c2 0] (mkH [(0, .ro (smp L)), (1, .ro (smp M))]) 2 fun u _ _ => mkT u = mkT (.bool (g L M))) : NatP f (natSS B g) := fun args H n κ hs φ h0' hp vs K hr hargs hk => by
  unfold natSS at hs
  split at hs
  · obtain ⟨x, y, rfl, e1, e2⟩ := vs2 hargs
    obtain ⟨L, M, hS, hT, hL, hM, hs2⟩ := hs
    rcases hS.open hr e1 with ⟨rfl, hv⟩ | ⟨p, C, _, hro, hv⟩ <;> rcases hT.open hr e2 with ⟨rfl, hw⟩ | ⟨p', C', _, hro', hw⟩
    · exact smallN (v := .bool (g [] [])) hF rfl h00 hs2 hr hk hic HR.ro0 (.cons (hv _) (.cons (hw _) .nil))
    · exact smallN (v := .bool (g [] M)) hF rfl (h01 M C' hM) hs2 hr hk hic (fun hw => HR.ro1 hw hro') (.cons (hv _) (.cons (hw _ 0 rfl) .nil))
    · exact smallN (v := .bool (g L [])) hF rfl (h10 L C hL) hs2 hr hk hic (fun hw => HR.ro1 hw hro) (.cons (hv _ 0 rfl) (.cons (hw _) .nil))
    · exact smallN (v := .bool (g L M)) hF rfl (h11 L M C C' hL hM) hs2 hr hk hic (fun hw => HR.ro2 hw hro hro') (.cons (hv _ 0 rfl) (.cons (hw _ 1 rfl) .nil))
  · exact hs.elim
theorem plan39 : eqPlan Try.prog 38 = some [(0, 0), (0, 1)] := by kernel_rfl
theorem ebin_agg2 {P : Program} {t : TypeId} {H : AH} {a b c d : Int} (hp : eqPlan P t = some [(0, 0), (0, 1)]) : ebin P .neq t (.agg [.int .i64 a, .int .i64 b]) (.agg [.int .i64 c, .int .i64 d]) H = some (.bool (!(decide (a = c) && (decide (b = d) && true)))) := by
  simp [ebin, hp, eplan, nth, qbool]
def sameS (L M : Smp) : Bool := decide (L = M)
noncomputable def sameSt (L M : Smp) (c1 c2 i : Nat) : AE × AH := (mkE [(0, .sy 0 0 L.length c1 0), (1, .sy 1 0 M.length c2 0), (5, .si .i64 i)], mkH [(0, .ro (smp L)), (1, .ro (smp M))])
theorem same_cov {L M : Smp} {c1 c2 i p n : Nat} {σ : AE} {H : AH} (hp : p ≤ 2) (e0 : mk (getq (pa 0) σ) = .sy 0 0 L.length c1 0) (e1 : mk (getq (pa 1) σ) = .sy 1 0 M.length c2 0) (e5 : mk (getq (pa 5) σ) = .si .i64 i)
    (h0 : H.get 0 = some (.ro (smp L))) (h1 : H.get 1 = some (.ro (smp M))) : Cov p σ H n ((sameSt L M c1 c2 i).1, (sameSt L M c1 c2 i).2, 2) := by
  refine Cov.of (fun b => b) hp (fun b hb => rfl) ?_ ?_ ?_
  · intro x hx
    simp only [List.mem_cons, List.not_mem_nil, or_false] at hx
    rcases hx with rfl | rfl | rfl
    · exact .sy (by decide) e0
    · exact .sy (by decide) e1
    · exact .int e5
  · intro x hx
    simp only [List.mem_cons, List.not_mem_nil, or_false] at hx
    rcases hx with rfl | rfl
    · exact ⟨by simp, _, h0, SubO.ro_mk (smp_flat L) rfl⟩
    · exact ⟨by simp, _, h1, SubO.ro_mk (smp_flat M) rfl⟩
  · intro x hx y hy
    simp only [List.mem_cons, List.not_mem_nil, or_false] at hx hy
    rcases hx with rfl | rfl <;> rcases hy with rfl | rfl <;> exact fun q => q
theorem same_no {L M : Smp} (h : L ≠ M) : AV.sb false = mkT (.bool (sameS L M)) := by simp [sameS, h, mkT, mk]
theorem same_yes {L M : Smp} (h : L = M) : AV.sb true = mkT (.bool (sameS L M)) := by simp [sameS, h, mkT, mk]
set_option maxHeartbeats 4000000 in
set_option maxRecDepth 100000 in
theorem same_run (L M : Smp) (c1 c2 : Nat) (hL : L.length ≤ 1000000) (hM : M.length ≤ 1000000) : callT FQ 3 16 [.sy 0 0 L.length c1 0, .sy 1 0 M.length c2 0] (mkH [(0, .ro (smp L)), (1, .ro (smp M))]) 2 fun u _ _ => mkT u = mkT (.bool (sameS L M)) := by
  conv => whnf
  refine Fork.ndec (fun h1 => ?_) (fun h1 => ?_)
  · conv => whnf
    exact (show mkT _ = AV.sb false from rfl).trans (same_no fun e => h1 (by rw [e]))
  have hlen : L.length = M.length := by have : (L.length : Int) = (M.length : Int) := h1; omega
  conv => whnf
  refine LoopP.mk { i : Nat // i < L.length + 1 ∧ L.take i = M.take i } 2 (fun a => sameSt L M c1 c2 a.val) (fun a => L.length - a.val) ⟨0, by omega, rfl⟩ ?_ ?_
  · exact same_cov (i := 0) (Nat.le_refl 2) rfl rfl rfl rfl rfl
  · intro ⟨i, hi, he⟩
    conv => whnf
    refine Fork.dec (fun h2 => ?_) (fun h2 => ?_)
    · have h3 : i < L.length := Int.ofNat_lt.1 h2
      have h4 : i < M.length := by omega
      have hlt : L.length - (i + 1) < L.length - i := by omega
      have hw : IntKind.i64.wrap ((i : Int) + 1) = ((i + 1 : Nat) : Int) := by rw [wrap_i64_of (x := (i : Int) + 1) (by omega) (by omega)]; omega
      conv => whnf
      refine Idx.mk i rfl h3 ?_
      conv => whnf
      refine optP_of (smp_sub h3 (by show 0 + i * 2 = i * 2; omega)) ?_
      conv => whnf
      refine Idx.mk i rfl h4 ?_
      conv => whnf
      refine optP_of (smp_sub h4 (by show 0 + i * 2 = i * 2; omega)) ?_
      conv => whnf
      refine optP_of (ebin_agg2 plan39) ?_
      conv => whnf
      refine Fork.nsb (fun h5 => ?_) (fun h5 => ?_)
      · conv => whnf
        refine (show mkT _ = AV.sb false from rfl).trans (same_no fun e => ?_)
        subst e
        have h5 : (decide (L[i].1 = L[i].1) && (decide (L[i].2 = L[i].2) && true)) = false := h5
        simp at h5
      · conv => whnf
        have h5 : (decide (L[i].1 = M[i].1) && (decide (L[i].2 = M[i].2) && true)) = true := h5
        simp only [Bool.and_true, Bool.and_eq_true, decide_eq_true_eq] at h5
        refine ⟨⟨i + 1, by omega, ?_⟩, hlt, same_cov (Nat.le_refl 2) rfl rfl (congrArg (AV.si .i64) hw) rfl rfl⟩
        rw [List.take_succ_eq_append_getElem h3, List.take_succ_eq_append_getElem h4, he, Prod.ext h5.1 h5.2]
    · conv => whnf
      have h3 : i = L.length := by have : ¬ (i : Int) < (L.length : Int) := h2; omega
      subst h3
      refine (show mkT _ = AV.sb true from rfl).trans (same_yes ?_)
      rw [List.take_length, hlen, List.take_length] at he
      exact he
set_option maxHeartbeats 4000000 in
set_option maxRecDepth 100000 in
theorem same_00 : callT FQ 3 16 [.nsl, .nsl] .nil 0 fun u _ _ => mkT u = mkT (.bool (sameS [] [])) := by
  conv => whnf
  refine LoopP.roll 1 ?_
  conv => whnf
  rfl
set_option maxHeartbeats 4000000 in
set_option maxRecDepth 100000 in
theorem same_01 (M : Smp) (cap : Nat) : callT FQ 3 16 [.nsl, .sy 0 0 M.length cap 0] (mkH [(0, .ro (smp M))]) 1 fun u _ _ => mkT u = mkT (.bool (sameS [] M)) := by
  conv => whnf
  refine Fork.ndec (fun h1 => ?_) (fun h1 => ?_)
  · conv => whnf
    exact (show mkT _ = AV.sb false from rfl).trans (same_no fun e => h1 (by rw [← e]; rfl))
  · conv => whnf
    have h2 : M = [] := List.eq_nil_of_length_eq_zero (by have : (0 : Int) = (M.length : Int) := h1; omega)
    subst h2
    refine LoopP.roll 1 ?_
    conv => whnf
    rfl
set_option maxHeartbeats 4000000 in
set_option maxRecDepth 100000 in
theorem same_10 (L : Smp) (cap : Nat) : callT FQ 3 16 [.sy 0 0 L.length cap 0, .nsl] (mkH [(0, .ro (smp L))]) 1 fun u _ _ => mkT u = mkT (.bool (sameS L [])) := by
  conv => whnf
  refine Fork.ndec (fun h1 => ?_) (fun h1 => ?_)
  · conv => whnf
    exact (show mkT _ = AV.sb false from rfl).trans (same_no fun e => h1 (by rw [e]; rfl))
  · conv => whnf
    have h2 : L = [] := List.eq_nil_of_length_eq_zero (by have : (L.length : Int) = (0 : Int) := h1; omega)
    subst h2
    refine LoopP.roll 1 ?_
    conv => whnf
    refine Fork.dec (fun h => absurd h (by decide)) (fun _ => ?_)
    conv => whnf
    rfl
theorem n_same : NatP 16 (natSS 1000000 sameS) := natSS_ok FQ_ok (by kernel_rfl) same_00 (fun M cap _ => same_01 M cap) (fun L cap _ => same_10 L cap) same_run
end Go.Proofs.Ytkhfdjhohfebgaa
namespace Go.Proofs.Ytkhfdjhohfebgaa
open Go Go.RowKit
def natSF (args : List AV) (H : AH) (n : Nat) (κ : PK) : Prop := match args with
  | [x, y] => ∃ V W, x = .fr V.length 2 (smp V) ∧ y = .fr W.length 2 (smp W) ∧ V.length ≤ 1000000 ∧ κ (.sb (decide (V = W))) H n
  | _ => False
theorem singSF : SingG natSF := .pure fun args H n κ hs => by
  unfold natSF at *
  split at hs
  · obtain ⟨V, W, h1, h2, h3, h4⟩ := hs
    exact ⟨_, h4, fun κ' h => ⟨V, W, h1, h2, h3, h⟩⟩
  · exact hs.elim
noncomputable def sf0 (V : Smp) (W : Smp) (i : Nat) : AE × AH := (mkE [(0, .fr V.length 2 (smp V)), (1, .fr W.length 2 (smp W)), (5, .si .i64 (i))], mkH [])
theorem sf0_cov {V : Smp} {W : Smp} {i : Nat} {p n : Nat} {σ : AE} {H : AH} (hp : p ≤ 0) (e0 : getq (pa 0) σ = .fr V.length 2 (smp V)) (e1 : getq (pa 1) σ = .fr W.length 2 (smp W)) (e5 : mk (getq (pa 5) σ) = .si .i64 (i)) : Cov p σ H n ((sf0 V W i).1, (sf0 V W i).2, 0) := by
  refine Cov.ofR (fun b => b) (by omega) (fun b hb => rfl) ?_ ?_ ?_
  · intro x hx
    simp only [List.mem_cons, List.not_mem_nil, or_false] at hx
    rcases hx with rfl | rfl | rfl
    · exact SubV.frE e0
    · exact SubV.frE e1
    · exact .int e5
  · intro x hx
    cases hx
  · intro x hx y hy
    cases hx
noncomputable def GN : FuncId → EP := withD 16 [] evP
theorem GN_ok : TabP GN := withD_ok evP_ok (by kernel_rfl) (by kernel_rfl)
set_option maxHeartbeats 4000000 in
set_option maxRecDepth 100000 in
theorem sameF_run (V W : Smp) (hV : V.length ≤ 1000000) : callT GN 3 16 [.fr V.length 2 (smp V), .fr W.length 2 (smp W)] .nil 0 fun u _ _ => mkT u = mkT (.bool (decide (V = W))) := by
  conv => whnf
  refine Fork.ndec (fun h1 => ?_) (fun h1 => ?_)
  · have h2 : decide (V = W) = false := decide_eq_false fun e => h1 (by subst e; rfl)
    conv => whnf
    exact same_is h2.symm
  · have hl : V.length = W.length := Int.ofNat_inj.1 h1
    conv => whnf
    refine LoopP.mk { i : Nat // i ≤ V.length ∧ V.take i = W.take i } 0 (fun i => sf0 V W i.val) (fun i => V.length - i.val) ⟨0, Nat.zero_le _, rfl⟩ ?_ ?_
    · exact sf0_cov (i := 0) (Nat.le_refl 0) rfl rfl rfl
    · intro ⟨i, hi, he⟩
      conv => whnf
      refine Fork.dec (fun h3 => ?_) (fun h3 => ?_)
      · have h4 : i < V.length := Int.ofNat_lt.1 h3
        have h5 : i < W.length := hl ▸ h4
        have hlt : V.length - (i + 1) < V.length - i := by omega
        have hw : IntKind.i64.wrap ((i : Int) + 1) = ((i + 1 : Nat) : Int) := by rw [wrap_i64_of (by omega) (by omega)]; omega
        have hsn : V[i] = W[i] → V.take (i + 1) = W.take (i + 1) := fun e => by rw [List.take_succ_eq_append_getElem h4, List.take_succ_eq_append_getElem h5, he, e]
        have hne : ¬ V[i] = W[i] → decide (V = W) = false := fun q => decide_eq_false fun e => q (by subst e; rfl)
        conv => whnf
        refine Idx.mk i rfl h4 ?_
        conv => whnf
        refine optP_of (smp_sub h4 rfl) ?_
        conv => whnf
        refine Idx.mk i rfl h5 ?_
        conv => whnf
        refine optP_of (smp_sub h5 rfl) ?_
        conv => whnf
        refine optP_of (ebin_agg2 plan39) ?_
        conv => whnf
        refine Fork.nsb (fun h6 => ?_) (fun h6 => ?_)
        · conv => whnf
          exact same_is (hne (fun e => by rw [e] at h6; simp at h6)).symm
        · conv => whnf
          exact ⟨⟨i + 1, h4, hsn (by simp at h6; exact Prod.ext h6.1 h6.2)⟩, hlt, sf0_cov (Nat.le_refl 0) rfl rfl (congrArg (AV.si .i64) hw)⟩
      · have h4 : i = V.length := by have : ¬ (i : Int) < (V.length : Int) := h3; omega
        have h5 : decide (V = W) = true := decide_eq_true (by rw [h4, List.take_length, hl, List.take_length] at he; exact he)
        conv => whnf
        exact same_is h5.symm
theorem n_sameF : NatP 16 natSF := fun args H n κ hs φ h0' hp vs K hr hargs hk => by
  unfold natSF at hs
  split at hs
  · obtain ⟨x, y, rfl, e1, e2⟩ := vs2 hargs
    obtain ⟨V, W, rfl, rfl, hV, hs⟩ := hs
    exact smallN GN_ok (v := .bool (decide (V = W))) rfl (sameF_run V W hV) hs hr hk (by kernel_rfl) (φ0 := ⟨fun _ => none, φ.z, φ.z⟩) (fun hw => hr.withz (start_none hw) (fun _ _ h => by cases h) (fun _ h => h))
      (.cons (stab_VR (φ := φ) (ψ := ⟨fun _ => none, φ.z, φ.z⟩) (fun _ h => h) rfl e1) (.cons (stab_VR (φ := φ) (ψ := ⟨fun _ => none, φ.z, φ.z⟩) (fun _ h => h) rfl e2) .nil))
  · exact hs.elim
end Go.Proofs.Ytkhfdjhohfebgaa
namespace Go.Proofs.Ytkhfdjhohfebgaa
open Go Go.RowKit
def natKn (args : List AV) (H : AH) (n : Nat) (κ : PK) : Prop := match args with
  | [] => κ (.sb true) H n
  | _ => False
theorem singKn : SingG natKn := .pure fun args H n κ hs => by
  unfold natKn at *
  split at hs
  · exact ⟨_, hs, fun κ' h => h⟩
  · exact hs.elim
noncomputable def GY : FuncId → EP := withS 14 natLi (withS 15 natKn (withS 17 natRd (withS 18 natRR (withS 20 natTm (withS 21 natRT (withS 16 natSF (withS 19 natII evP)))))))
theorem GY_ok (hG : NatP 39 natGa) (hK : NatP 15 natKn) : TabP GY :=
  withS_ok (withS_ok (withS_ok (withS_ok (withS_ok (withS_ok (withS_ok (withS_ok evP_ok n_ints singII) n_sameF singSF) n_rtimes singRT) (n_times hG) singTm) n_rreduce singRR) (n_reduce hG) singRd) hK singKn) n_light singLi
noncomputable def GZ : FuncId → EP := withD 3 [] GY
theorem GZ_ok (hG : NatP 39 natGa) (hK : NatP 15 natKn) : TabP GZ := withD_ok (GY_ok hG hK) (by kernel_rfl) (by kernel_rfl)
theorem light_small {X : List Smp} (h : ¬ (80 : Int) < lightF X) : X.length ≤ 80 ∧ X.flatten.length ≤ 80 := by
  unfold lightF at h
  exact ⟨by omega, lightS_flat X (by omega)⟩
set_option maxHeartbeats 8000000 in
set_option maxRecDepth 100000 in
theorem w_groupTells (k : Int) (X : List Smp) (_ : In64 k) (hX : ∀ L ∈ X, ∀ x ∈ L, In64 x.1 ∧ In64 x.2) (hl : X.length ≤ 8796093022208) : callT GZ 3 3 [.si .i64 k, .fr X.length 1 (rowsC X)] .nil 0 fun u _ _ => u = .bool true ∨ u = .sb true := by
  conv => whnf
  refine ⟨X, rfl, hl, ?_⟩
  conv => whnf
  refine Fork.dec (fun h1 => ?_) (fun h1 => ?_)
  · conv => whnf
    exact .inr rfl
  · have hs := light_small h1
    have hR := reduce_eq (k := k) hX (Nat.le_trans hs.2 (by decide))
    have hT := times_eq X
    have hRl : (reduceF k X).length ≤ 1000000 := by
      unfold reduceF
      split
      · rw [List.length_map, times_eq]; exact Nat.le_trans (tRef_len _) (by omega)
      · exact Nat.zero_le _
    have hTl : (timesF X).length ≤ 1000000 := by rw [times_eq]; exact Nat.le_trans (tRef_len _) (by omega)
    conv => whnf
    refine ⟨X, .inl rfl, by omega, ?_⟩
    conv => whnf
    refine ⟨X, rfl, by omega, by omega, ?_⟩
    conv => whnf
    refine ⟨reduceF k X, rreduceF k X, rfl, rfl, hRl, ?_⟩
    conv => whnf
    refine Fork.dec (fun _ => ?_) (fun h => absurd hR h)
    conv => whnf
    refine ⟨X, .inl rfl, by omega, ?_⟩
    conv => whnf
    refine ⟨X, rfl, by omega, by omega, ?_⟩
    conv => whnf
    refine ⟨timesF X, tRef X.flatten, rfl, rfl, hTl, ?_⟩
    conv => whnf
    refine Fork.dec (fun _ => ?_) (fun h => absurd hT h)
    conv => whnf
    first | exact .inr rfl | exact .inl rfl | trace_state
end Go.Proofs.Ytkhfdjhohfebgaa
namespace Go.Proofs.Ytkhfdjhohfebgaa
open Go Go.RowKit
def sumN : List Nat → Nat
  | [] => 0
  | a :: l => a + sumN l
theorem sumN_perm {l m : List Nat} (h : l.Perm m) : sumN l = sumN m := by
  induction h with
  | nil => rfl
  | cons x _ ih => simp [sumN, ih]
  | swap x y l => simp only [sumN]; omega
  | trans _ _ h1 h2 => exact h1.trans h2
def sumG (G : Grp) : Nat := sumN (G.map fun e => e.2.length)
theorem gIns_sum : ∀ (G : Grp) (x : Int × Int), sumG (gIns G x) = sumG G + 1
  | [], x => rfl
  | (t, xs) :: G, x => by
    have ih := gIns_sum G x
    unfold gIns
    split
    · simp only [sumG, List.map_cons, sumN, List.length_append, List.length_cons, List.length_nil]; omega
    · simp only [sumG, List.map_cons, sumN] at ih ⊢; omega
theorem fold_sum : ∀ (L : Smp) (G : Grp), sumG (L.foldl gIns G) = sumG G + L.length
  | [], G => by simp
  | x :: L, G => by rw [List.foldl_cons, fold_sum L, gIns_sum, List.length_cons]; omega
theorem counts_sum (X : List Smp) : sumN ((timesF X).map fun t => (X.flatten.filter fun x => x.1 == t).length) = X.flatten.length := by
  have hg := gather_is X
  have h1 : ((timesF X).map fun t => (X.flatten.filter fun x => x.1 == t).length).Perm ((keysG (gatherF X)).map fun t => (X.flatten.filter fun x => x.1 == t).length) := (riseI_perm _).map _
  rw [sumN_perm h1]
  have h2 : ((keysG (gatherF X)).map fun t => (X.flatten.filter fun x => x.1 == t).length) = (gatherF X).map fun e => e.2.length := by
    unfold keysG
    rw [List.map_map]
    refine List.map_congr_left fun e he => ?_
    show (X.flatten.filter fun x => x.1 == e.1).length = e.2.length
    rw [hg.all e.1 e.2 he]
  rw [h2]
  have := fold_sum X.flatten []
  simpa [sumG, gatherF, sumN] using this
end Go.Proofs.Ytkhfdjhohfebgaa
