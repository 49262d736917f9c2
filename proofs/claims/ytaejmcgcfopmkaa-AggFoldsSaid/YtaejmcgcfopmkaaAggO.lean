/- The walk of AggFolds. -/
import Derived.Test.YtaejmcgcfopmkaaAggN
namespace Go.Proofs.Ytaejmcgcfopmkaa
open Go Go.RowKit
noncomputable def FN : FuncId → EP := withS 23 (natKS 8796093022208 rFold) FM
theorem FN_ok : TabP FN := withS_ok FM_ok n_rfold singKS
noncomputable def lawFSt (k : Int) (L : Smp) (cap : Nat) (a : Int) (b : Bool) (c : Int) (d : Bool) (i : Nat) : AE × AH :=
  (mkE [(0, .si .i64 k), (1, .sy 0 0 L.length cap 0), (5, .ptr 1 0), (7, .si .i64 a), (8, .sb b), (9, .si .i64 c), (10, .sb d), (11, .si .i64 i)], mkH [(0, .ro (smp L)), (1, .cells (stateCells k (aAll (L.take i))) true)])
theorem lawF_cov {k : Int} {L : Smp} {cap : Nat} {a : Int} {b : Bool} {c : Int} {d : Bool} {i p n : Nat} {σ : AE} {H : AH} {l : List AV} (hp : p ≤ 2) (e0 : mk (getq (pa 0) σ) = .si .i64 k) (e1 : mk (getq (pa 1) σ) = .sy 0 0 L.length cap 0) (e5 : getq (pa 5) σ = .ptr 1 0)
    (e7 : mk (getq (pa 7) σ) = .si .i64 a) (e8 : mk (getq (pa 8) σ) = .sb b) (e9 : mk (getq (pa 9) σ) = .si .i64 c) (e10 : mk (getq (pa 10) σ) = .sb d) (e11 : mk (getq (pa 11) σ) = .si .i64 i)
    (h0 : H.get 0 = some (.ro (smp L))) (h1 : H.get 1 = some (.cells l true)) (h2 : l.map mk = stateCells k (aAll (L.take i))) : Cov p σ H n ((lawFSt k L cap a b c d i).1, (lawFSt k L cap a b c d i).2, 2) := by
  refine Cov.of (fun b => b) hp (fun b hb => rfl) ?_ ?_ ?_
  · intro x hx
    simp only [List.mem_cons, List.not_mem_nil, or_false] at hx
    rcases hx with rfl | rfl | rfl | rfl | rfl | rfl | rfl | rfl
    · exact .int e0
    · exact .sy (by decide) e1
    · exact .ptr (by decide) e5
    · exact .int e7
    · exact .bool e8
    · exact .int e9
    · exact .bool e10
    · exact .int e11
  · intro x hx
    simp only [List.mem_cons, List.not_mem_nil, or_false] at hx
    rcases hx with rfl | rfl
    · exact ⟨by simp, _, h0, SubO.ro_mk (smp_flat L) rfl⟩
    · exact ⟨by simp, _, h1, SubO.cells_mk rfl h2 (fun q => q)⟩
  · intro x hx y hy
    simp only [List.mem_cons, List.not_mem_nil, or_false] at hx hy
    rcases hx with rfl | rfl <;> rcases hy with rfl | rfl <;> exact fun q => q
theorem aAdd_0 {s : SS} {v : Int} (h : s.n = 0) : aAdd s v = ⟨IntKind.i64.wrap (s.n + 1), pCap s.sum v, min v v, max v v, v, v⟩ := if_pos h
theorem aAdd_1 {s : SS} {v : Int} (h : ¬ s.n = 0) : aAdd s v = ⟨IntKind.i64.wrap (s.n + 1), pCap s.sum v, min s.least v, max s.great v, s.first, v⟩ := if_neg h
theorem fold_facts {k : Int} {L : Smp} {i : Nat} (hr : sRight k = true) (hL : ∀ x ∈ L, In64 x.2) (hi : i + 1 ≤ L.length) (hl : L.length ≤ 8796093022208) :
    (if (aAll (L.take (i + 1))).n = 0 then 0 else aVal k (aAll (L.take (i + 1)))) = rNum k (vals (L.take (i + 1))) ∧ (!decide ((aAll (L.take (i + 1))).n = 0)) = rHas k (vals (L.take (i + 1))) ∧ (aAll (L.take (i + 1))).n = ((i + 1 : Nat) : Int) := by
  have hlen : (L.take (i + 1)).length = i + 1 := by rw [List.length_take]; omega
  obtain ⟨h1, h2, h3⟩ := num_eq (k := k) (L := L.take (i + 1)) (fun x hx => hL x (List.mem_of_mem_take hx)) (by omega)
  rw [hlen] at h3
  refine ⟨?_, ?_, h3⟩
  · rw [← h1]; unfold aNum; rw [if_pos hr]
  · rw [← h2]; unfold aHas; rw [hr]; rfl
set_option maxHeartbeats 4000000 in
set_option maxRecDepth 100000 in
theorem w_aggFolds (k : Int) (L : Smp) (cap : Nat) (hin : ∀ x ∈ L, In64 x.1 ∧ In64 x.2) (hl : L.length ≤ 8796093022208) (hc : L.length ≤ cap) : callT FN 4 4 [.si .i64 k, .sy 0 0 L.length cap 0] (mkH [(0, .ro (smp L))]) 1 fun v _ _ => v = .bool true ∨ v = .sb true := by
  have hL : ∀ x ∈ L, In64 x.2 := fun x hx => (hin x hx).2
  obtain ⟨q1, q2, _⟩ := num_eq (k := k) (L := L) hL (by omega)
  conv => whnf
  refine Fork.nsb (fun hr => ?_) (fun hr => ?_)
  · conv => whnf
    refine Fork.ndec (fun h => absurd (by have e := right_name k; rw [hr] at e; rw [show beqL (sName k) (List.map UInt8.toNat (ByteArray.mk #[]).data.toList) = beqL (sName k) [] from rfl, ← e]; rfl) h) (fun _ => ?_)
    conv => whnf
    refine ⟨L, .inr ⟨0, 0, cap, 0, smp L, smp L, rfl, .inl rfl, smp_whole L, smp_map L⟩, by omega, ?_⟩
    conv => whnf
    refine ⟨L, .inr ⟨0, 0, cap, 0, smp L, smp L, rfl, .inl rfl, smp_whole L, smp_map L⟩, hl, ?_⟩
    conv => whnf
    refine LoopP.roll 1 ?_
    repeat' (conv => whnf
             first | refine Fork.dec (fun _ => ?_) (fun h => absurd q1 h) | refine Fork.dec (fun _ => ?_) (fun h => absurd q2 h) | refine Fork.dec (fun _ => ?_) (fun _ => ?_) | refine Fork.ndec (fun _ => ?_) (fun _ => ?_) | exact .inl rfl)
  · have hk := right_pos hr
    conv => whnf
    refine Fork.ndec (fun h => absurd (by have e := right_name k; rw [hr] at e; rw [show beqL (sName k) (List.map UInt8.toNat (ByteArray.mk #[]).data.toList) = beqL (sName k) [] from rfl, ← e]; rfl) h) (fun _ => ?_)
    conv => whnf
    refine ⟨L, .inr ⟨0, 0, cap, 0, smp L, smp L, rfl, .inl rfl, smp_whole L, smp_map L⟩, by omega, ?_⟩
    conv => whnf
    refine ⟨L, .inr ⟨0, 0, cap, 0, smp L, smp L, rfl, .inl rfl, smp_whole L, smp_map L⟩, hl, ?_⟩
    conv => whnf
    refine LoopP.mk (_root_.Fin (L.length + 1)) 2 (fun a => lawFSt k L cap (aNum k L) (aHas k L) (rNum k (vals L)) (rHas k (vals L)) a.val) (fun a => L.length - a.val) 0 ?_ ?_
    · exact lawF_cov (i := 0) (Nat.le_succ 1) rfl rfl rfl rfl rfl rfl rfl rfl rfl rfl rfl
    · intro ⟨i, hi⟩
      conv => whnf
      refine Fork.dec (fun h1 => ?_) (fun h1 => ?_)
      · have h2 : i < L.length := Int.ofNat_lt.1 h1
        have hw : IntKind.i64.wrap ((i : Int) + 1) = ((i + 1 : Nat) : Int) := by rw [wrap_i64_of (by omega) (by omega)]; omega
        have hlt : L.length - (i + 1) < L.length - i := by omega
        obtain ⟨f1, f2, f3⟩ := fold_facts (k := k) hr hL (show i + 1 ≤ L.length by omega) hl
        conv => whnf
        refine Fork.dec (fun h3 => ?_) (fun h3 => ?_)
        · conv => whnf
          refine Idx.mk i rfl h2 ?_
          conv => whnf
          refine optP_of (smp_nth1 h2 (by show 0 + i * 2 + 1 = i * 2 + 1; omega)) ?_
          conv => whnf
          refine Fork.ndec (fun h => absurd (show (0 : Int) < k by omega) h) (fun _ => ?_)
          conv => whnf
          have hlt2 : (L.take (i + 1)).length = i + 1 := by rw [List.length_take]; omega
          have f4 : IntKind.i64.wrap ((aAll (L.take i)).n + 1) = ((i + 1 : Nat) : Int) := by
            rw [← f3, aAll_take h2]
            unfold aAdd
            split <;> rfl
          have ha : ∀ (l : List AV), l.map mk = stateCells k (aAdd (aAll (L.take i)) L[i].2) → l.map mk = stateCells k (aAll (L.take (i + 1))) := fun l e => e.trans (congrArg (stateCells k) (aAll_take h2).symm)
          refine Fork.dec (fun h4 => ?_) (fun h4 => ?_)
          all_goals
            conv => whnf
            refine .inr ⟨k, aAll (L.take (i + 1)), 1, rfl, ⟨_, .inr ⟨_, rfl⟩, ha _ ?_⟩, hk.1, hk.2, ?_⟩
            · first | exact Eq.trans rfl (congrArg (stateCells k) (aAdd_0 h4).symm) | exact Eq.trans rfl (congrArg (stateCells k) (aAdd_1 h4).symm)
            conv => whnf
            refine Ask.mk _ (eslice_to (es := 2) rfl rfl hw (by omega)) ?_
            conv => whnf
            refine ⟨L.take (i + 1), .inr ⟨0, 0, cap, 0, smp L, smp (L.take (i + 1)), ?_, .inl rfl, smp_sub0 (by omega), smp_map _⟩, by omega, ?_⟩
            · exact (show _ = AV.sl 0 0 (i + 1) cap 0 from rfl).trans (by rw [hlt2])
            conv => whnf
            refine Fork.ndec (fun h => absurd f1 h) (fun _ => ?_)
            conv => whnf
            refine Fork.nsb (fun h => absurd h (by rw [show (_ == _) = true from beq_iff_eq.2 f2]; decide)) (fun _ => ?_)
            conv => whnf
            refine Fork.ndec (fun h => absurd (f4.trans hw.symm) h) (fun _ => ?_)
            conv => whnf
            refine ⟨⟨i + 1, by omega⟩, hlt, lawF_cov (Nat.le_succ 1) rfl rfl rfl rfl rfl rfl rfl (congrArg (AV.si IntKind.i64) hw) rfl rfl (ha _ ?_)⟩
            first | exact Eq.trans rfl (congrArg (stateCells k) (aAdd_0 h4).symm) | exact Eq.trans rfl (congrArg (stateCells k) (aAdd_1 h4).symm)
        · repeat' (conv => whnf
                   first | refine Fork.dec (fun _ => ?_) (fun h => absurd q1 h) | refine Fork.dec (fun _ => ?_) (fun h => absurd q2 h) | refine Fork.dec (fun _ => ?_) (fun _ => ?_) | refine Fork.ndec (fun _ => ?_) (fun _ => ?_) | exact .inl rfl)
      · repeat' (conv => whnf
                 first | refine Fork.dec (fun _ => ?_) (fun h => absurd q1 h) | refine Fork.dec (fun _ => ?_) (fun h => absurd q2 h) | refine Fork.dec (fun _ => ?_) (fun _ => ?_) | refine Fork.ndec (fun _ => ?_) (fun _ => ?_) | exact .inl rfl)
set_option maxHeartbeats 4000000 in
set_option maxRecDepth 100000 in
theorem w_aggFolds0 (k : Int) : callT FN 4 4 [.si .i64 k, .nsl] .nil 0 fun v _ _ => v = .bool true ∨ v = .sb true := by
  obtain ⟨q1, q2, _⟩ := num_eq (k := k) (L := []) (fun x hx => by cases hx) (by decide)
  conv => whnf
  refine Fork.nsb (fun hr => ?_) (fun hr => ?_)
  all_goals
    conv => whnf
    refine Fork.ndec (fun h => absurd (by have e := right_name k; rw [hr] at e; rw [show beqL (sName k) (List.map UInt8.toNat (ByteArray.mk #[]).data.toList) = beqL (sName k) [] from rfl, ← e]; rfl) h) (fun _ => ?_)
    conv => whnf
    refine ⟨[], .inl ⟨rfl, rfl⟩, by decide, ?_⟩
    conv => whnf
    refine ⟨[], .inl ⟨rfl, rfl⟩, by decide, ?_⟩
    conv => whnf
    refine LoopP.roll 1 ?_
    repeat' (conv => whnf
             first | refine Fork.dec (fun _ => ?_) (fun h => absurd q1 h) | refine Fork.dec (fun _ => ?_) (fun h => absurd q2 h) | refine Fork.dec (fun _ => ?_) (fun _ => ?_) | refine Fork.ndec (fun _ => ?_) (fun _ => ?_) | exact .inl rfl)
end Go.Proofs.Ytaejmcgcfopmkaa
