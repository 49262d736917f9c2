/- Texts of our own, joined: the engine, the machine that runs code, and what is known of the functions. -/
import Derived.Test.YtkhfdjhohfebgaaJh
import Derived.Test.YtkhfdjhohfebgaaJi
set_option linter.unusedSimpArgs false
set_option linter.unusedVariables false
namespace Go.Proofs.Ytkhfdjhohfebgaa
open Go Go.RowKit
noncomputable def FR_ : FuncId → EP := withS 16 (natSS 1000000 sameS) FQ
theorem FR_ok : TabP FR_ := withS_ok FQ_ok n_same singSS
def atS (L : Smp) (i : Nat) : Int × Int := L.getD i (0, 0)
theorem atS_eq {L : Smp} {i : Nat} (h : i < L.length) : L[i] = atS L i := by simp [atS, h]
def cutS (L : Smp) (f h : Nat) : Smp := (L.take h).drop f
def rbStep (k sz al : Int) (L : Smp) (i : Nat) (q : Smp × Nat) : Smp × Nat := if i + 1 = L.length ∨ ¬ sStart (atS L (i + 1)).1 sz al = sStart (atS L i).1 sz al then (q.1 ++ [(sStart (atS L i).1 sz al, rNum k (vals (cutS L q.2 (i + 1))))], i + 1) else q
def rb (k sz al : Int) (L : Smp) : Nat → Smp × Nat
  | 0 => ([], 0)
  | i + 1 => rbStep k sz al L i (rb k sz al L i)
def rbA (k sz al : Int) (L : Smp) : Smp := if sRight k = true ∧ sCan sz al = true ∧ bkOk L = true then (rb k sz al L L.length).1 else []
theorem rbA_neg {k sz al : Int} {L : Smp} (h : sRight k = false ∨ sCan sz al = false ∨ bkOk L = false) : rbA k sz al L = [] := if_neg (by rcases h with h | h | h <;> simp [h])
theorem rbA_nil {k sz al : Int} : rbA k sz al [] = [] := by unfold rbA; split <;> rfl
structure RbI (k sz al : Int) (L : Smp) (out : Smp) (f i : Nat) : Prop where
  hi : i ≤ L.length
  hf : f ≤ i
  ho : out.length ≤ i
  eq : rb k sz al L i = (out, f)
  ok : bkOk (L.take i) = true
theorem RbI.add {k sz al : Int} {L out : Smp} {f i : Nat} (h : RbI k sz al L out f i) (hlt : i < L.length) (ht : sTime L[i].1 = true) (hc : i + 1 = L.length ∨ ¬ sStart (atS L (i + 1)).1 sz al = sStart (atS L i).1 sz al) :
    RbI k sz al L (out ++ [(sStart (atS L i).1 sz al, rNum k (vals (cutS L f (i + 1))))]) (i + 1) (i + 1) := by
  refine ⟨hlt, Nat.le_refl _, by simp; exact h.ho, ?_, bkOk_take hlt h.ok ht⟩
  show rbStep k sz al L i (rb k sz al L i) = _
  rw [h.eq]
  exact if_pos hc
theorem RbI.skip {k sz al : Int} {L out : Smp} {f i : Nat} (h : RbI k sz al L out f i) (hlt : i < L.length) (ht : sTime L[i].1 = true) (hc : ¬ (i + 1 = L.length ∨ ¬ sStart (atS L (i + 1)).1 sz al = sStart (atS L i).1 sz al)) : RbI k sz al L out f (i + 1) := by
  refine ⟨hlt, Nat.le_succ_of_le h.hf, Nat.le_succ_of_le h.ho, ?_, bkOk_take hlt h.ok ht⟩
  show rbStep k sz al L i (rb k sz al L i) = _
  rw [h.eq]
  exact if_neg hc
theorem time_no {t : Int} (h : t < 0 ∨ 1099511627776 < t) : sTime t = false := by simp only [sTime, decide_eq_false_iff_not]; omega
theorem time_yes {t : Int} (h1 : ¬ t < 0) (h2 : ¬ 1099511627776 < t) : sTime t = true := by simp only [sTime, decide_eq_true_eq]; omega
theorem eslice_lh {P : Program} {t e : TypeId} {es b o n c f j : Nat} {i i' : Int} {kk kk' : IntKind} (hu : P.underlying t = some (.slice e)) (hs : tySize P e = some es) (hi : i = (f : Int)) (hi' : i' = (j : Int)) (h1 : f < j) (h2 : j ≤ c) :
    eslice P t (.sl b o n c 0) (some (.int kk i)) (some (.int kk' i')) none = some (.sl b (o + f * es) (j - f) (c - f) 0) := by
  subst hi hi'
  have e1 : ebnd (some (AV.int kk (f : Int))) 0 = some f := rfl
  have e2 : ebnd (some (AV.int kk' (j : Int))) n = some j := rfl
  simp only [eslice, hu, hs, e1, e2]
  simp only [ebnd]
  rw [if_pos ⟨by omega, h2, Nat.le_refl _⟩, if_neg (by omega)]
theorem smp_cut {L : Smp} {f j : Nat} (h1 : f ≤ j) (h2 : j ≤ L.length) : subL (smp L) (0 + f * 2) ((cutS L f j).length * 2) = some (smp (cutS L f j)) ∧ (cutS L f j).length = j - f := by
  have hl : (cutS L f j).length = j - f := by simp [cutS]; omega
  refine ⟨?_, hl⟩
  rw [hl]
  unfold subL
  rw [Nat.ble_eq_true_of_le (by rw [smp_length]; omega), Nat.zero_add, smp_drop]
  rw [show (j - f) * 2 = (j - f) * 2 from rfl, smp_take]
  congr 2
  rw [cutS, List.drop_take]
noncomputable abbrev rbSt (k sz al : Int) (L : Smp) (cap : Nat) (f i : Nat) : Smp → AE × AH
  | [] => (mkE [(0, .si .i64 k), (1, .si .i64 sz), (2, .si .i64 al), (3, .sy 0 0 L.length cap 0), (9, .nsl), (10, .si .i64 f), (11, .si .i64 i)], mkH [(0, .ro (smp L))])
  | y :: o => (mkE [(0, .si .i64 k), (1, .si .i64 sz), (2, .si .i64 al), (3, .sy 0 0 L.length cap 0), (9, .sl 1 0 (o.length + 1) (o.length + 1) 2), (10, .si .i64 f), (11, .si .i64 i)], mkH [(0, .ro (smp L)), (1, .cells (smp (y :: o)) true)])
theorem rb_cov0 {k sz al : Int} {L : Smp} {cap f i p n : Nat} {σ : AE} {H : AH} (hp : p ≤ 1) (e0 : mk (getq (pa 0) σ) = .si .i64 k) (e1 : mk (getq (pa 1) σ) = .si .i64 sz) (e2 : mk (getq (pa 2) σ) = .si .i64 al) (e3 : mk (getq (pa 3) σ) = .sy 0 0 L.length cap 0)
    (e9 : getq (pa 9) σ = .nsl) (e10 : mk (getq (pa 10) σ) = .si .i64 f) (e11 : mk (getq (pa 11) σ) = .si .i64 i) (h0 : H.get 0 = some (.ro (smp L))) : Cov p σ H n ((rbSt k sz al L cap f i []).1, (rbSt k sz al L cap f i []).2, 2) := by
  refine Cov.of (fun b => b) (by omega) (fun b hb => rfl) ?_ ?_ ?_
  · intro x hx
    simp only [List.mem_cons, List.not_mem_nil, or_false] at hx
    rcases hx with rfl | rfl | rfl | rfl | rfl | rfl | rfl
    · exact .int e0
    · exact .int e1
    · exact .int e2
    · exact .sy (by decide) e3
    · exact .flat rfl (congrArg mk e9)
    · exact .int e10
    · exact .int e11
  · intro x hx
    simp only [List.mem_cons, List.not_mem_nil, or_false] at hx
    subst hx
    exact ⟨by simp, _, h0, SubO.ro_mk (smp_flat _) rfl⟩
  · intro x hx y hy
    simp only [List.mem_cons, List.not_mem_nil, or_false] at hx hy
    subst hx hy
    exact fun q => q
theorem rb_cov {k sz al : Int} {L : Smp} {cap f i p n : Nat} {y : Int × Int} {o : Smp} {σ : AE} {H : AH} {l : List AV} (j1 : Nat) (hj : j1 ≠ 0) (hp : p ≤ 1) (e0 : mk (getq (pa 0) σ) = .si .i64 k) (e1 : mk (getq (pa 1) σ) = .si .i64 sz) (e2 : mk (getq (pa 2) σ) = .si .i64 al) (e3 : mk (getq (pa 3) σ) = .sy 0 0 L.length cap 0)
    (e9 : mk (getq (pa 9) σ) = .sy j1 0 (o.length + 1) (o.length + 1) 2) (e10 : mk (getq (pa 10) σ) = .si .i64 f) (e11 : mk (getq (pa 11) σ) = .si .i64 i) (h0 : H.get 0 = some (.ro (smp L))) (h1 : H.get j1 = some (.cells l true)) (hl : l.map mk = smp (y :: o)) : Cov p σ H n ((rbSt k sz al L cap f i (y :: o)).1, (rbSt k sz al L cap f i (y :: o)).2, 2) := by
  refine Cov.of (fun b => if b = 0 then 0 else j1) (by omega) (fun b hb => by rw [if_pos (by omega)]; omega) ?_ ?_ ?_
  · intro x hx
    simp only [List.mem_cons, List.not_mem_nil, or_false] at hx
    rcases hx with rfl | rfl | rfl | rfl | rfl | rfl | rfl
    · exact .int e0
    · exact .int e1
    · exact .int e2
    · exact .sy (by decide) e3
    · exact .sl (by decide) e9
    · exact .int e10
    · exact .int e11
  · intro x hx
    simp only [List.mem_cons, List.not_mem_nil, or_false] at hx
    rcases hx with rfl | rfl
    · exact ⟨by simp, _, h0, SubO.ro_mk (smp_flat L) rfl⟩
    · exact ⟨by simp, _, h1, SubO.cells_mk (smp_flat _) (by rw [hl, smp_map]) (fun q => q)⟩
  · intro x hx y hy
    simp only [List.mem_cons, List.not_mem_nil, or_false] at hx hy
    rcases hx with rfl | rfl <;> rcases hy with rfl | rfl <;> simp <;> omega
set_option maxHeartbeats 8000000 in
set_option maxRecDepth 100000 in
theorem rb_run (k sz al : Int) (L : Smp) (cap : Nat) (hL : L.length ≤ 1000000) (hcap : L.length ≤ cap) : callT FR_ 4 48 [.si .i64 k, .si .i64 sz, .si .i64 al, .sy 0 0 L.length cap 0] (mkH [(0, .ro (smp L))]) 1 fun u H' _ => NewRow (rbA k sz al L) u H' := by
  conv => whnf
  refine Fork.sb (fun hr => ?_) (fun hr => ?_)
  · conv => whnf
    exact .inl ⟨rbA_neg (.inl (name_empty hr)), rfl⟩
  have hr := name_full hr
  conv => whnf
  refine Fork.nsb (fun hc => ?_) (fun hc => ?_)
  · conv => whnf
    exact .inl ⟨rbA_neg (.inr (.inl hc)), rfl⟩
  conv => whnf
  refine LoopP.mk { q : Smp × Nat × Nat // RbI k sz al L q.1 q.2.1 q.2.2 } 2 (fun a => rbSt k sz al L cap a.val.2.1 a.val.2.2 a.val.1) (fun a => L.length - a.val.2.2) ⟨([], 0, 0), ⟨Nat.zero_le _, Nat.le_refl _, Nat.le_refl _, rfl, rfl⟩⟩ ?_ ?_
  · exact rb_cov0 (i := 0) (f := 0) (Nat.le_refl 1) rfl rfl rfl rfl rfl rfl rfl rfl
  · intro ⟨⟨out, f, i⟩, hI⟩
    obtain ⟨hi, hf, ho, heq, hok⟩ := id hI
    dsimp only at hi hf ho heq hok
    cases out with
    | nil =>
      conv => whnf
      refine Fork.dec (fun h1 => ?_) (fun h1 => ?_)
      · have h2 : i < L.length := Int.ofNat_lt.1 h1
        have hlt : L.length - (i + 1) < L.length - i := by omega
        have hw : IntKind.i64.wrap ((i : Int) + 1) = ((i + 1 : Nat) : Int) := by rw [wrap_i64_of (x := (i : Int) + 1) (by omega) (by omega)]; omega
        have hcl := smp_cut (L := L) (f := f) (j := i + 1) (by omega) (by omega)
        conv => whnf
        refine Idx.mk i rfl h2 ?_
        conv => whnf
        refine optP_of (smp_nth0 h2 (by show 0 + i * 2 + 0 = i * 2; omega)) ?_
        conv => whnf
        refine Fork.dec (fun h3 => ?_) (fun h3 => ?_)
        · conv => whnf
          exact .inl ⟨rbA_neg (.inr (.inr (bkOk_no h2 (time_no (.inl h3))))), rfl⟩
        conv => whnf
        refine Idx.mk i rfl h2 ?_
        conv => whnf
        refine optP_of (smp_nth0 h2 (by show 0 + i * 2 + 0 = i * 2; omega)) ?_
        conv => whnf
        refine Fork.dec (fun h4 => ?_) (fun h4 => ?_)
        · conv => whnf
          exact .inl ⟨rbA_neg (.inr (.inr (bkOk_no h2 (time_no (.inr h4))))), rfl⟩
        have ht := time_yes h3 h4
        conv => whnf
        refine Idx.mk i rfl h2 ?_
        conv => whnf
        refine optP_of (smp_nth0 h2 (by show 0 + i * 2 + 0 = i * 2; omega)) ?_
        conv => whnf
        refine Fork.dec (fun h5 => ?_) (fun h5 => ?_)
        rotate_left 1
        have h6 : ¬ i + 1 = L.length := fun q => h5 (hw.trans (by rw [q]))
        have h7 : i + 1 < L.length := by omega
        conv => whnf
        refine Idx.mk (i + 1) hw h7 ?_
        conv => whnf
        refine optP_of (smp_nth0 h7 (by show 0 + (i + 1) * 2 + 0 = (i + 1) * 2; omega)) ?_
        conv => whnf
        refine Fork.ndec (fun h8 => ?_) (fun h8 => ?_)
        rotate_left 1
        · have hno : ¬ (i + 1 = L.length ∨ ¬ sStart (atS L (i + 1)).1 sz al = sStart (atS L i).1 sz al) := by
            rw [← atS_eq h7, ← atS_eq h2]
            exact fun q => q.elim h6 (fun q => q h8)
          conv => whnf
          exact ⟨⟨([], f, i + 1), hI.skip h2 ht hno⟩, hlt, rb_cov0 (Nat.le_refl 1) rfl rfl rfl rfl rfl rfl (congrArg (AV.si .i64) hw) rfl⟩
        all_goals
          have hadd : i + 1 = L.length ∨ ¬ sStart (atS L (i + 1)).1 sz al = sStart (atS L i).1 sz al := by
            first
              | (exact .inr (by rw [← atS_eq h7, ← atS_eq h2]; exact h8))
              | (refine .inl ?_
                 have : ((i + 1 : Nat) : Int) = (L.length : Int) := hw.symm.trans h5
                 omega)
          have hz : (sStart L[i].1 sz al, rNum k (vals (cutS L f (i + 1)))) = (sStart (atS L i).1 sz al, rNum k (vals (cutS L f (i + 1)))) := by rw [atS_eq h2]
          conv => whnf
          refine Ask.mk _ (eslice_lh (f := f) (j := i + 1) (es := 2) rfl rfl rfl hw (by omega) (by omega)) ?_
          conv => whnf
          refine ⟨cutS L f (i + 1), .inr (.inr ⟨0, 0 + f * 2, cap - f, 0, smp L, smp (cutS L f (i + 1)), ?_, .inl rfl, hcl.1, smp_map _, by omega⟩), by omega, ?_⟩
          · exact (show _ = AV.sl 0 (0 + f * 2) (i + 1 - f) (cap - f) 0 from rfl).trans (by rw [hcl.2])
          conv => whnf
          refine ⟨⟨([] ++ [_], i + 1, i + 1), hI.add h2 ht hadd⟩, hlt, rb_cov (o := []) 3 (by decide) (Nat.le_refl 1) rfl rfl rfl rfl rfl (congrArg (AV.si .i64) hw) (congrArg (AV.si .i64) hw) rfl rfl ?_⟩
          exact Eq.trans rfl (show smp [(sStart L[i].1 sz al, rNum k (vals (cutS L f (i + 1))))] = _ from congrArg (fun z => smp [z]) hz)
      · conv => whnf
        have h3 : i = L.length := by have : ¬ (i : Int) < (L.length : Int) := h1; omega
        subst h3
        rw [List.take_length] at hok
        have e2 : rbA k sz al L = [] := by
          unfold rbA
          rw [if_pos ⟨hr, hc, hok⟩, heq]
        exact .inl ⟨e2, rfl⟩
    | cons y o =>
      conv => whnf
      refine Fork.dec (fun h1 => ?_) (fun h1 => ?_)
      · have h2 : i < L.length := Int.ofNat_lt.1 h1
        have hlt : L.length - (i + 1) < L.length - i := by omega
        have hw : IntKind.i64.wrap ((i : Int) + 1) = ((i + 1 : Nat) : Int) := by rw [wrap_i64_of (x := (i : Int) + 1) (by omega) (by omega)]; omega
        have hcl := smp_cut (L := L) (f := f) (j := i + 1) (by omega) (by omega)
        conv => whnf
        refine Idx.mk i rfl h2 ?_
        conv => whnf
        refine optP_of (smp_nth0 h2 (by show 0 + i * 2 + 0 = i * 2; omega)) ?_
        conv => whnf
        refine Fork.dec (fun h3 => ?_) (fun h3 => ?_)
        · conv => whnf
          exact .inl ⟨rbA_neg (.inr (.inr (bkOk_no h2 (time_no (.inl h3))))), rfl⟩
        conv => whnf
        refine Idx.mk i rfl h2 ?_
        conv => whnf
        refine optP_of (smp_nth0 h2 (by show 0 + i * 2 + 0 = i * 2; omega)) ?_
        conv => whnf
        refine Fork.dec (fun h4 => ?_) (fun h4 => ?_)
        · conv => whnf
          exact .inl ⟨rbA_neg (.inr (.inr (bkOk_no h2 (time_no (.inr h4))))), rfl⟩
        have ht := time_yes h3 h4
        conv => whnf
        refine Idx.mk i rfl h2 ?_
        conv => whnf
        refine optP_of (smp_nth0 h2 (by show 0 + i * 2 + 0 = i * 2; omega)) ?_
        conv => whnf
        refine Fork.dec (fun h5 => ?_) (fun h5 => ?_)
        rotate_left 1
        have h6 : ¬ i + 1 = L.length := fun q => h5 (hw.trans (by rw [q]))
        have h7 : i + 1 < L.length := by omega
        conv => whnf
        refine Idx.mk (i + 1) hw h7 ?_
        conv => whnf
        refine optP_of (smp_nth0 h7 (by show 0 + (i + 1) * 2 + 0 = (i + 1) * 2; omega)) ?_
        conv => whnf
        refine Fork.ndec (fun h8 => ?_) (fun h8 => ?_)
        rotate_left 1
        · have hno : ¬ (i + 1 = L.length ∨ ¬ sStart (atS L (i + 1)).1 sz al = sStart (atS L i).1 sz al) := by
            rw [← atS_eq h7, ← atS_eq h2]
            exact fun q => q.elim h6 (fun q => q h8)
          conv => whnf
          exact ⟨⟨(y :: o, f, i + 1), hI.skip h2 ht hno⟩, hlt, rb_cov 1 (by decide) (Nat.le_refl 1) rfl rfl rfl rfl rfl rfl (congrArg (AV.si .i64) hw) rfl rfl (smp_map _)⟩
        all_goals
          have hadd : i + 1 = L.length ∨ ¬ sStart (atS L (i + 1)).1 sz al = sStart (atS L i).1 sz al := by
            first
              | (exact .inr (by rw [← atS_eq h7, ← atS_eq h2]; exact h8))
              | (refine .inl ?_
                 have : ((i + 1 : Nat) : Int) = (L.length : Int) := hw.symm.trans h5
                 omega)
          have hz : (sStart L[i].1 sz al, rNum k (vals (cutS L f (i + 1)))) = (sStart (atS L i).1 sz al, rNum k (vals (cutS L f (i + 1)))) := by rw [atS_eq h2]
          conv => whnf
          refine Ask.mk _ (eslice_lh (f := f) (j := i + 1) (es := 2) rfl rfl rfl hw (by omega) (by omega)) ?_
          conv => whnf
          refine ⟨cutS L f (i + 1), .inr (.inr ⟨0, 0 + f * 2, cap - f, 0, smp L, smp (cutS L f (i + 1)), ?_, .inl rfl, hcl.1, smp_map _, by omega⟩), by omega, ?_⟩
          · exact (show _ = AV.sl 0 (0 + f * 2) (i + 1 - f) (cap - f) 0 from rfl).trans (by rw [hcl.2])
          conv => whnf
          refine optP_of (app_grow (k := 1) (by' := 16) (m := 1) (sn := o.length + 1) (c := o.length + 1) rfl rfl rfl rfl rfl rfl rfl rfl (by decide) rfl rfl rfl (by omega) (by simp only [List.length_cons] at ho; omega) (subL_all (smp_length (y :: o)))) ?_
          conv => whnf
          refine ⟨⟨(y :: (o ++ [(sStart (atS L i).1 sz al, rNum k (vals (cutS L f (i + 1))))]), i + 1, i + 1), hI.add h2 ht hadd⟩, hlt, rb_cov (k := k) (sz := sz) (al := al) (L := L) (cap := cap) (y := y) (o := o ++ [(sStart (atS L i).1 sz al, rNum k (vals (cutS L f (i + 1))))]) (f := i + 1) (i := i + 1) 3 (by decide) (Nat.le_refl 1) rfl rfl rfl rfl ?_ (congrArg (AV.si .i64) hw) (congrArg (AV.si .i64) hw) rfl rfl ?_⟩
          · exact (show mk _ = AV.sy 3 0 (o.length + 1 + 1) (o.length + 1 + 1) 2 from rfl).trans (by simp)
          · exact Eq.trans (snoc_map (y :: o) (sStart L[i].1 sz al) (rNum k (vals (cutS L f (i + 1)))) (smp_map _)) (congrArg (fun z => smp ((y :: o) ++ [z])) hz)
      · conv => whnf
        have h3 : i = L.length := by have : ¬ (i : Int) < (L.length : Int) := h1; omega
        subst h3
        rw [List.take_length] at hok
        have e2 : rbA k sz al L = y :: o := by
          unfold rbA
          rw [if_pos ⟨hr, hc, hok⟩, heq]
        refine .inr ⟨by rw [e2]; simp, 1, o.length + 1, _, ?_, by rw [e2]; simp, rfl, (smp_map _).trans (congrArg smp e2.symm)⟩
        exact (show _ = AV.sl 1 0 (o.length + 1) (o.length + 1) 2 from rfl).trans (by rw [e2]; simp)
end Go.Proofs.Ytkhfdjhohfebgaa
namespace Go.Proofs.Ytkhfdjhohfebgaa
open Go Go.RowKit
/-! ### the times of a map that is somebody else's -/
noncomputable def tm1 (G : Grp) (V : List Int) (seen : List Nat) : AE × AH := (mkE [(3, .rw 2 0 V.length 1 0), (6, .ptr 1 (0))], mkH [(0, AO.map (entG G)), (1, AO.iter 0 (entG G).length seen), (2, .cells (ints (V)) true)])
theorem tm1_cov {G : Grp} {V : List Int} {seen : List Nat} {p n : Nat} {σ : AE} {H : AH} (j2 : Nat) (hj : j2 ≠ 0 ∧ j2 ≠ 1) (hp : p ≤ 1) (e3 : SubV H 3 (fun b => if b = 2 then j2 else b) (getq (pa 3) σ) (.rw 2 0 V.length 1 0)) (e6 : getq (pa 6) σ = .ptr 1 (0)) (h0 : H.get 0 = some (AO.map (entG G))) (h1 : H.get 1 = some (AO.iter 0 (entG G).length seen)) (h2 : (∃ l, H.get j2 = some (.cells l true) ∧ l.map mk = ints (V)) ∨ ((V) = [] ∧ n ≤ j2)) : Cov p σ H n ((tm1 G V seen).1, (tm1 G V seen).2, 3) := by
  refine Cov.ofR (fun b => if b = 2 then j2 else b) (by omega) (fun b hb => by repeat' rw [if_neg (by omega)]) ?_ ?_ ?_
  · intro x hx
    simp only [List.mem_cons, List.not_mem_nil, or_false] at hx
    rcases hx with rfl | rfl
    · exact e3
    · exact .ptr (by decide) e6
  · intro x hx
    simp only [List.mem_cons, List.not_mem_nil, or_false] at hx
    rcases hx with rfl | rfl | rfl
    · exact ⟨by simp, .inl ⟨_, h0, SubO.mapS (entG_stab G)⟩⟩
    · exact ⟨by simp, .inl ⟨_, h1, SubO.iterS (by decide) rfl⟩⟩
    · exact ⟨by simp, h2.elim (fun ⟨l, h, g⟩ => .inl ⟨_, h, SubO.cells_mk (ints_flat _) (by rw [g, ints_map]) (fun q => q)⟩) (fun h => .inr ⟨by rw [h.1]; rfl, h.2⟩)⟩
  · intro x hx y hy
    simp only [List.mem_cons, List.not_mem_nil, or_false] at hx hy
    rcases hx with rfl | rfl | rfl <;> rcases hy with rfl | rfl | rfl <;> simp <;> omega
noncomputable def GTi : FuncId → EP := withD 40 [] (withN 55 natRw evP)
theorem GTi_ok : TabP GTi := withD_ok (withN_ok evP_ok n_riseW) (by kernel_rfl) (by kernel_rfl)
set_option maxHeartbeats 4000000 in
set_option maxRecDepth 100000 in
theorem times_runM (G : Grp) (hK : G.length ≤ 1000000) : callT GTi 3 40 [.map 0] (mkH [(0, .map (entG G))]) 1 fun u H' _ => u = .fr G.length 1 (ints (riseI (keysG G))) ∧ H'.get 0 = some (.map (entG G)) := by
  conv => whnf
  refine LoopP.mk { seen : List Nat // seen.Nodup ∧ ∀ i ∈ seen, i < G.length } 3 (fun s => tm1 G (s.val.map (keyAt G)) s.val) (fun s => G.length - s.val.length) ⟨[], by simp, by simp⟩ ?_ ?_
  · exact tm1_cov (V := []) (seen := []) 2 (by decide) (Nat.le_refl 1) (.nslRw rfl) rfl rfl rfl (.inr ⟨rfl, Nat.le_refl _⟩)
  · intro ⟨seen, hn, hs⟩
    have hsl : seen.length ≤ G.length := by
      have := (List.Nodup.length_le_of_subset hn (l₂ := List.range G.length) fun i hi => List.mem_range.2 (hs i hi))
      simpa using this
    conv => whnf
    refine Nxt.mk 1 0 _ seen _ rfl rfl rfl rfl rfl (fun hall => ?_) (fun i e he hns => ?_)
    · have hp := seen_all hn hs (fun i hi => hall i (by rw [entG_length]; exact hi))
      have hr : riseI (seen.map (keyAt G)) = riseI (keysG G) := riseI_of hp
      have hl : (seen.map (keyAt G)).length = G.length := by rw [hp.length_eq]; simp [keysG]
      conv => whnf
      refine ⟨seen.map (keyAt G), 2, _, 0, _, true, rfl, rfl, by decide, rfl, ints_map _, by rw [List.length_map]; omega, ?_⟩
      conv => whnf
      exact ⟨fr_eq hl (congrArg ints hr), rfl⟩
    · obtain ⟨hi, rfl⟩ := entG_at he
      have hO : subL (ints (seen.map (keyAt G))) 0 ((seen.map (keyAt G)).length * 1) = some (ints (seen.map (keyAt G))) := subL_all (by rw [ints_length, Nat.mul_one])
      have hbig : ((seen.map (keyAt G)).length + 1) * 8 ≤ 140737488355328 := by rw [List.length_map]; omega
      have hlt : G.length - (seen ++ [i]).length < G.length - seen.length := by
        have := List.Nodup.length_le_of_subset (l₁ := seen ++ [i]) (l₂ := List.range G.length) (by rw [List.nodup_append]; exact ⟨hn, by simp, fun a ha b hb e => by simp at hb; subst hb e; exact hns ha⟩) (fun j hj => List.mem_range.2 (by rcases List.mem_append.1 hj with hj | hj; exact hs j hj; simp at hj; subst hj; exact hi))
        simp at this ⊢; omega
      have hsn : seen.map (keyAt G) ++ [G[i].1] = (seen ++ [i]).map (keyAt G) := by rw [List.map_append, List.map_singleton, keyAt_eq hi]
      conv => whnf
      refine Ent.mk 1 0 _ i seen _ _ rfl rfl rfl rfl he ?_
      conv => whnf
      refine RApp.grow 1 8 _ _ _ _ _ _ tyI (.old rfl) rfl rfl (.rw rfl hO) hbig ?_
      conv => whnf
      refine ⟨⟨seen ++ [i], by rw [List.nodup_append]; exact ⟨hn, by simp, fun a ha b hb e => by simp at hb; subst hb e; exact hns ha⟩, fun j hj => by rcases List.mem_append.1 hj with hj | hj; exact hs j hj; simp at hj; subst hj; exact hi⟩, hlt, tm1_cov 4 (by decide) (Nat.le_refl 1) (SubV.rw (by decide) rfl) rfl rfl rfl (.inl ⟨_, rfl, ?_⟩)⟩
      exact (ints_snoc (seen.map (keyAt G)) G[i].1).trans (congrArg ints hsn)
def natTi (args : List AV) (H : AH) (n : Nat) (κ : PK) : Prop := match args with
  | [x] => ∃ G b V, x = .map b ∧ b < n ∧ H.get b = some (.map (entG G)) ∧ G.length ≤ 1000000 ∧ riseI (keysG G) = V ∧ κ (.fr V.length 1 (ints V)) H n
  | _ => False
theorem renE_entG (r : Nat → Nat) : ∀ G : Grp, renE r (entG G) = entG G
  | [] => rfl
  | e :: G => by
    show _ :: renE r (entG G) = _ :: entG G
    rw [renE_entG r G]; rfl
theorem ltE_entG (m : Nat) : ∀ G : Grp, ltE m (entG G) = true
  | [] => rfl
  | e :: G => ltE_entG m G
theorem n_timesM : NatP 40 natTi := fun args H n κ hs φ h0' hp vs K hr hargs hk => by
  unfold natTi at hs
  split at hs
  · obtain ⟨G, b, V, rfl, hbn, hb, hG, hV, hs⟩ := hs
    have hnm : nmOf [b] n 0 = b := rfl
    refine framed (S := [b]) (O := [.map (entG G)]) (args0 := [.map 0]) (callT_nat GTi_ok 3 _) (by kernel_rfl) hr ⟨by simp, rfl, fun i s o h1 h2 => ?_⟩ (by simpa [renL, ren, hnm] using hargs) hk (times_runM G hG) fun u H' n' ⟨h1, h2⟩ => ?_
    · cases i with
      | zero =>
        injection h1 with h1; injection h2 with h2; subst h1 h2
        exact ⟨hbn, by rw [renO, renE_entG]; exact hb, .inl rfl⟩
      | succ i => simp at h1
    · subst h1 hV
      refine ⟨1, H, Nat.le_refl _, After.same fun i s o h3 h4 _ => ?_, rfl, (fr_eq (by rw [riseI_len]; simp [keysG]) rfl : AV.fr (riseI (keysG G)).length 1 (ints (riseI (keysG G))) = .fr G.length 1 (ints (riseI (keysG G)))) ▸ hs⟩
      cases i with
      | zero =>
        injection h3 with h3; subst h3
        rw [hb] at h4; injection h4 with h4; subst h4
        exact ⟨_, h2, rfl, ltE_entG _ _, by rw [renO, renE_entG]⟩
      | succ i => simp at h3
  · exact hs.elim
def d_tachographref08Same : DT := [(6, [(some 0, [0]), (some 0, [5]), (some 0, [17, 18]), (some 0, [19]), (some 0, [1]), (some 0, [5]), (some 0, [21, 22]), (some 0, [23]), (some 0, [20, 24])])]
theorem HR.freezeS {φ : Ph} {H : AH} {n : Nat} {h0 h : Hp} (hr : HR φ H n h0 h) {b m k c kk : Nat} {l s : List AV} {z : Bool} {v : Value} (hb : H.get b = some (.cells l z)) (hv : VR φ (.sl b 0 m c kk) v) (hc : m ≤ c) (hs : s.all flat.flat1 = true) (hsl : s.length = m * k) (hmk : l.map Go.Proofs.Ytkhfdjhohfebgaa.mk = s.map Go.Proofs.Ytkhfdjhohfebgaa.mk) :
    ∃ χ, PLe φ χ ∧ HR χ (H.set none depthH b) n h0 h ∧ VR χ (.fr m k s) v := by
  have hk := hr.kill depthH b
  have hll : l.length = m * k := by have := congrArg List.length hmk; simp only [List.length_map] at this; omega
  have hst : s.all stab = true := by
    rw [List.all_eq_true] at hs ⊢
    intro y hy
    have := hs y hy
    cases y <;> first | rfl | cases this
  obtain ⟨p, C, hpb, rfl, hC0, hC1⟩ := hv.sl_inv
  have hlC : m ≤ C := by
    by_cases hk0 : kk = 0
    · rw [hC0 hk0]; exact hc
    · exact Nat.le_trans hc (hC1 hk0).1
  obtain ⟨ob, hq0, hq1, cc, t, fz, rfl, o1, o2, o3, o4, o5⟩ := hr.of hb hpb
  refine ⟨φ.more fun q => q = ⟨p.B, p.s + 0, s⟩, φ.more_le _, hk.more fun q hq => ?_, ?_⟩
  · subst hq
    refine ⟨⟨⟨(hr.dom _ _ hpb).2, hst⟩, cc, t, fz, hq1, (show p.s + 0 + s.length ≤ cc.size by omega), CR.mk_flat o5 hmk hs⟩, hq0, fun b' o' p' e1 e2 e3 e4 => ?_⟩
    rcases PM.get_set depthH H b b' o' e1 with ⟨_, h⟩ | ⟨h6, h7⟩
    · cases h
    · exact h6 (hr.inj b' b o' _ p' p h7 hb e2 rfl e3 hpb e4)
  · have : VR (φ.more fun q => q = ⟨p.B, p.s + 0, s⟩) (.fr m k s) (.slice (some ⟨p.B, p.s + 0 + 0, none⟩) m C) := .fr (q := ⟨p.B, p.s + 0, s⟩) (o := 0) (.inr rfl) hlC (subL_all hsl)
    exact this
/-- Names of a row of one's own, which nobody looks at any more. -/
def natNo (args : List AV) (H : AH) (n : Nat) (κ : PK) : Prop := match args with
  | [x] => ∃ V W b c k l z j, x = .sl b 0 j c k ∧ j = V.length ∧ j ≤ c ∧ H.get b = some (.cells l z) ∧ l.map mk = strs V ∧ V.length ≤ 1000000 ∧ sortS V = W ∧ κ (.fr W.length 1 (strs W)) (H.set none depthH b) n
  | _ => False
theorem n_namesO : NatP 22 natNo := fun args H n κ hs φ h0' hp vs K hr hargs hk => by
  unfold natNo at hs
  split at hs
  · obtain ⟨x, rfl, e1⟩ := vs1 hargs
    obtain ⟨V, W, b, c, k, l, z, j, rfl, rfl, hc, hb, hl, hL, rfl, hs⟩ := hs
    obtain ⟨χ, h1, h2, h3⟩ := hr.freezeS (s := strs V) hb e1 hc (strs_flat V) (by rw [strs_length, Nat.mul_one]) (by rw [hl, strs_map])
    exact n_names [.fr V.length 1 (strs V)] (H.set none depthH b) n κ ⟨V, rfl, hL, hs⟩ χ h0' hp _ K h2 (.cons h3 .nil) fun ψ v H' n' u g hle => hk ψ v H' n' u g (h1.trans hle)
  · exact hs.elim
noncomputable def GKn : FuncId → EP := withD 15 [] (withD 17 [] (withD 20 [] (withD 19 [] (withD 23 [] (withD 24 d_tachographref08Same (withN 22 natNo (withN 40 natTi (withN 39 natGa FR_))))))))
theorem GKn_ok : TabP GKn := withD_ok (withD_ok (withD_ok (withD_ok (withD_ok (withD_ok (withN_ok (withN_ok (withN_ok FR_ok n_gather) n_timesM) n_namesO) (by kernel_rfl) (by kernel_rfl)) (by kernel_rfl) (by kernel_rfl)) (by kernel_rfl) (by kernel_rfl)) (by kernel_rfl) (by kernel_rfl)) (by kernel_rfl) (by kernel_rfl)) (by kernel_rfl) (by kernel_rfl)
def X0 : List Smp := [[(5, 1)], [(5, 2), (9, 3)]]
theorem rise59 : riseI [5, 9] = [5, 9] := by
  rw [riseI_ge (by decide)]
  show mergeI (riseI [5]) (riseI [9]) = _
  rw [riseI_lt (by decide), riseI_lt (by decide), mergeI_le _ _ (by decide), mergeI_nil]
theorem rise95 : riseI [9, 5] = [5, 9] := by
  rw [riseI_ge (by decide)]
  show mergeI (riseI [9]) (riseI [5]) = _
  rw [riseI_lt (by decide), riseI_lt (by decide), mergeI_gt _ _ (by decide), mergeI_nil]
theorem entG0 {i : Nat} {e : AV × AV} (h : (entG (gatherF X0))[i]? = some e) : (i = 0 ∧ e = (.int .i64 5, .fr 2 2 (smp [(5, 1), (5, 2)]))) ∨ (i = 1 ∧ e = (.int .i64 9, .fr 1 2 (smp [(9, 3)]))) := by
  match i, h with
  | 0, h => exact .inl ⟨rfl, (Option.some.inj h).symm⟩
  | 1, h => exact .inr ⟨rfl, (Option.some.inj h).symm⟩
theorem rows0 {H : AH} {a : AV} {b b1 b2 : Nat} (ha : a = .sl b 0 2 2 0) (hb : H.get b = some (.cells [.sl b1 0 1 1 0, .sl b2 0 2 2 0] true)) (h1 : H.get b1 = some (.cells [.int .i64 5, .int .i64 1] true)) (h2 : H.get b2 = some (.cells [.int .i64 5, .int .i64 2, .int .i64 9, .int .i64 3] true)) : RowsAt H a X0 :=
  .inr (.inr (.inr ⟨b, 0, 2, 0, _, _, by rw [ha]; rfl, .inr ⟨_, hb⟩, rfl, .cons (.inl (.inr (.inr ⟨b1, 0, 1, 0, _, _, rfl, .inr ⟨_, h1⟩, rfl, rfl, by decide⟩))) (.cons (.inl (.inr (.inr ⟨b2, 0, 2, 0, _, _, rfl, .inr ⟨_, h2⟩, rfl, rfl, by decide⟩))) .nil), by decide⟩))
theorem sort0 : sortS [[98], [97], [98]] = [[97], [98]] := by
  have h1 : risesS [[98], [97], [98]] = false := decide_eq_false fun h => by
    have := h 0 (by decide) (by decide)
    revert this
    decide
  have h2 : risesS [[97], [98]] = true := decide_eq_true fun j h h' => by
    have : j = 0 := by simp at h; omega
    subst this
    show ltL [97] [98] = true
    decide
  rw [sortS_no (by rw [h1]; decide)]
  show mergeS (sortS [[98]]) (sortS [[97], [98]]) = _
  rw [sortS_up (rises_small (by decide)), sortS_up h2, mergeS_gt _ _ (by decide), mergeS_eq _ _ (by decide) (by decide), mergeS_nil]
theorem keys0 : riseI (keysG (gatherF X0)) = [5, 9] := rise59
theorem look0 : efind (.int .i64) (.int .i64 5) (entG (gatherF X0)) 0 = some (some (0, .fr 2 2 (smp [(5, 1), (5, 2)]))) := by
  show efind _ _ [(.int .i64 5, .fr 2 2 (smp [(5, 1), (5, 2)])), (.int .i64 9, .fr 1 2 (smp [(9, 3)]))] 0 = _
  simp [efind, esame]
theorem look1 : efind (.int .i64) (.int .i64 9) (entG (gatherF X0)) 0 = some (some (1, .fr 1 2 (smp [(9, 3)]))) := by
  show efind _ _ [(.int .i64 5, .fr 2 2 (smp [(5, 1), (5, 2)])), (.int .i64 9, .fr 1 2 (smp [(9, 3)]))] 0 = _
  simp [efind, esame]
set_option maxHeartbeats 8000000 in
set_option maxRecDepth 100000 in
theorem known_run : callT GKn 8 15 [] .nil 0 fun u _ _ => mkT u = mkT (.bool true) := by
  conv => whnf
  refine Fork.mk (fun h => absurd h (by decide)) (fun _ => ?_)
  conv => whnf
  refine ⟨X0, rows0 rfl rfl rfl rfl, by decide, ?_⟩
  conv => whnf
  refine ⟨gatherF X0, 3, [5, 9], rfl, by decide, rfl, by decide, keys0, ?_⟩
  conv => whnf
  refine LoopP.roll 3 ?_
  conv => whnf
  refine Fork.mk (fun _ => ?_) (fun h => absurd h (by decide))
  conv => whnf
  refine Idx.mk 0 rfl (by decide) ?_
  conv => whnf
  refine Ask.mk _ (elook (k := AV.int .i64 5) rfl rfl rfl (look0)) ?_
  conv => whnf
  refine ⟨[(5, 1), (5, 2)], .inr (.inl (.inr ⟨_, rfl, smp_map _, by decide⟩)), by decide, ?_⟩
  conv => whnf
  refine Fork.mk (fun _ => ?_) (fun h => absurd h (by decide))
  conv => whnf
  refine Idx.mk 1 rfl (by decide) ?_
  conv => whnf
  refine Ask.mk _ (elook (k := AV.int .i64 9) rfl rfl rfl (look1)) ?_
  conv => whnf
  refine ⟨[(9, 3)], .inr (.inl (.inr ⟨_, rfl, smp_map _, by decide⟩)), by decide, ?_⟩
  conv => whnf
  refine Fork.mk (fun h => absurd h (by decide)) (fun _ => ?_)
  conv => whnf
  refine ⟨[(5, 3), (9, 3)], [(5, 3), (9, 3)], .inr (.inr ⟨_, 0, _, _, _, _, rfl, .inr ⟨_, rfl⟩, rfl, rfl, by decide⟩), .inr (.inr ⟨_, 0, _, _, _, _, rfl, .inr ⟨_, rfl⟩, rfl, rfl, by decide⟩), by decide, by decide, ?_⟩
  conv => whnf
  refine Fork.mk (fun _ => ?_) (fun h => absurd h (by decide))
  conv => whnf
  refine Fork.mk (fun _ => ?_) (fun h => absurd h (by decide))
  conv => whnf
  refine ⟨X0, rows0 rfl rfl rfl rfl, by decide, ?_⟩
  conv => whnf
  refine ⟨gatherF X0, _, [5, 9], rfl, by decide, rfl, by decide, keys0, ?_⟩
  conv => whnf
  repeat ((first
    | refine Fork.mk (fun _ => ?_) (fun h => absurd h (by decide))
    | refine Fork.mk (fun h => absurd h (by decide)) (fun _ => ?_)
    | refine LoopP.roll 4 ?_
    | refine Idx.mk 0 rfl (by decide) ?_
    | refine Idx.mk 1 rfl (by decide) ?_
    | refine Idx.mk 2 rfl (by decide) ?_); conv => whnf)
  refine ⟨[[98], [97], [98]], [[97], [98]], _, _, _, _, _, _, rfl, rfl, by decide, rfl, rfl, by decide, sort0, ?_⟩
  conv => whnf
  repeat ((first
    | refine Fork.mk (fun _ => ?_) (fun h => absurd h (by decide))
    | refine Fork.mk (fun h => absurd h (by decide)) (fun _ => ?_)
    | refine LoopP.roll 4 ?_
    | refine Idx.mk 0 rfl (by decide) ?_
    | refine Idx.mk 1 rfl (by decide) ?_
    | refine Idx.mk 2 rfl (by decide) ?_); conv => whnf)
  rfl
theorem n_known : NatP 15 natKn := fun args H n κ hs φ h0' hp vs K hr hargs hk => by
  unfold natKn at hs
  split at hs
  · exact smallN GKn_ok (v := .bool true) rfl known_run hs hr hk (by kernel_rfl) (φ0 := Ph.no) (fun hw => start_none hw) (by rw [hargs.nil_inv]; exact .nil)
  · exact hs.elim
end Go.Proofs.Ytkhfdjhohfebgaa
namespace Go.Proofs.Ytkhfdjhohfebgaa
open Go Go.RowKit Go.ChangeShapes Go.WideShapes
set_option maxRecDepth 20000
section
variable {H : Type} {enc : TypeId × Value → H} {P : Program} {W : World} {held : Bool}
/-- A row's cells, as they lie. -/
theorem open_cells {t e : TypeId} {ks : List Kd} {d c fuel : Nat} {v : Value} {D : DataW H} {ps : List MemPlace} (ht : P.underlying t = some (.slice e)) (hk : kdsT P d e = some ks) (hc : ks.length = c) (hc2 : P.cellsOf e = c) (hc0 : c ≠ 0)
    (hf : DataW.trod enc P W 0 (fun _ => true) held fuel t [v] = some (D, ps)) : ∃ (rows : List (List Value)), (∀ r ∈ rows, Prims (TrS enc P W 0 (fun _ => true) held) ks r ∧ r.length = c) ∧ (rows = [] ∨ ∃ E F, D = .slice ((List.range rows.length).map F) E) ∧ rows.length ≤ maxLen ∧
      ((rows = [] ∧ ∃ a C, v = .slice a 0 C ∧ (a = none → C = 0)) ∨ ∃ b off cap cc u fz, v = .slice (some ⟨b, off, none⟩) rows.length cap ∧ rows.length ≤ cap ∧ W.heap[b]? = some (.cells cc u fz) ∧ off + rows.length * c ≤ cc.size ∧ ∀ i a, rows.flatten[i]? = some a → cc[off + i]? = some a) := by
  rcases Go.Deep.open_slice ht hf with ⟨h0, h1⟩ | ⟨a, len, cap, m, n, Df, Pf, h1, _, hl, hm, hmm, hx, hel⟩
  · injection h0 with h0
    subst h0
    exact ⟨[], (fun r h => by cases h), .inl rfl, Nat.zero_le _, .inl ⟨rfl, none, 0, rfl, fun _ => rfl⟩⟩
  · injection h1 with h1
    subst h1
    have hmc : m = cap := hmm
    subst hmc
    by_cases hcap : len = 0
    · subst hcap
      exact ⟨[], (fun r h => by cases h), .inl rfl, Nat.zero_le _, .inl ⟨rfl, some a, m, rfl, fun q => by cases q⟩⟩
    · have hcells : ∀ i, i < m → ∃ cs', cs'.length = c ∧ Prims (TrS enc P W 0 (fun _ => true) held) ks cs' ∧ ∀ q, q < c → W.cell? ((a.add (i * c)).add q) = cs'[q]? := fun i hi => by
        obtain ⟨cs', g1, g2⟩ := hel i hi
        rw [hc2] at g1
        obtain ⟨_, g3, g4⟩ := World.cells?_some g1
        exact ⟨cs', g3, kds_trod d e ks n cs' _ hk g2, fun q hq => g4 q hq⟩
      obtain ⟨R, hR⟩ := Go.Deep.choose_lt hcells
      have hspot : a.spot = none ∧ ∃ cc u fz, W.heap[a.block]? = some (.cells cc u fz) := by
        obtain ⟨g1, _, g3⟩ := hR 0 (by omega)
        have g4 := g3 0 (by omega)
        rw [List.getElem?_eq_getElem (by omega)] at g4
        obtain ⟨cc, u, fz, g5, g6, _⟩ := cell_inv g4
        have e0 : (a.add (0 * c)).add 0 = a := by simp [Addr.add]
        rw [e0] at g5 g6
        exact ⟨g6, cc, u, fz, g5⟩
      obtain ⟨hs, cc, u, fz, hb⟩ := hspot
      obtain ⟨b, off, sp⟩ := a
      simp only at hs hb
      subst hs
      have hget : ∀ i q, i < m → q < c → cc[off + i * c + q]? = (R i)[q]? := fun i q hi hq => by
        have g := (hR i hi).2.2 q hq
        have e0 : ((⟨b, off, none⟩ : Addr).add (i * c)).add q = (⟨b, off, none⟩ : Addr).add (i * c + q) := Go.Deep.add_add _ _ _
        rw [e0, List.getElem?_eq_getElem (by rw [(hR i hi).1]; exact hq)] at g
        have := cell_at hb g
        rw [Nat.add_assoc, this, List.getElem?_eq_getElem (by rw [(hR i hi).1]; exact hq)]
      have hrl : ((List.range len).map R).length = len := by simp
      have hmem : ∀ r ∈ (List.range len).map R, ∃ i, i < len ∧ r = R i := fun r hr => by
        simp only [List.mem_map, List.mem_range] at hr
        obtain ⟨i, hi, rfl⟩ := hr
        exact ⟨i, hi, rfl⟩
      have hrc : ∀ r ∈ (List.range len).map R, r.length = c := fun r hr => by
        obtain ⟨i, hi, rfl⟩ := hmem r hr
        exact (hR i (by omega)).1
      have hfl := flat_len _ hrc
      rw [hrl] at hfl
      refine ⟨(List.range len).map R, fun r hr => ⟨?_, hrc r hr⟩, .inr ?_, ?_, .inr ⟨b, off, m, cc, u, fz, by rw [hrl], by rw [hrl]; exact hl, hb, ?_, fun i a hi => ?_⟩⟩
      · obtain ⟨i, hi, rfl⟩ := hmem r hr
        exact (hR i (by omega)).2.1
      · injection hx with hx _
        exact ⟨_, Df, by rw [hrl]; exact hx⟩
      · rw [hrl]; omega
      · rw [hrl]
        have g := hget (len - 1) (c - 1) (by omega) (by omega)
        rw [List.getElem?_eq_getElem (by rw [(hR _ (by omega)).1]; omega)] at g
        have := (Array.getElem?_eq_some_iff.1 g).1
        have e1 : (len - 1) * c + c = len * c := by rw [← Nat.succ_mul]; congr 1; omega
        omega
      · have hi2 := (List.getElem?_eq_some_iff.1 hi).1
        rw [hfl] at hi2
        have h0 := Nat.div_add_mod i c
        have hq := Nat.mod_lt i (Nat.pos_of_ne_zero hc0)
        have hj : i / c < len := (Nat.div_lt_iff_lt_mul (Nat.pos_of_ne_zero hc0)).2 hi2
        have ei : i = i / c * c + i % c := by rw [Nat.mul_comm]; omega
        rw [ei, flat_at _ hrc _ _ hq] at hi
        have e2 : ((List.range len).map R)[i / c]? = some (R (i / c)) := by simp [hj]
        rw [e2, Option.bind_some] at hi
        have := hget (i / c) (i % c) (by omega) hq
        rw [hi, Nat.add_assoc, ← ei] at this
        exact this
def phF (z : Fz → Prop) : Ph := ⟨fun _ => none, z, z⟩
/-- What is frozen when a law is called. -/
def Frozen (W : World) (z : Fz → Prop) : Prop := ∀ q, z q → FzR (phF z) (wholeHp W) q
theorem Frozen.none : Frozen W fun _ => False := fun _ h => h.elim
theorem Frozen.or {z y : Fz → Prop} (h : Frozen W z) (k : Frozen W y) : Frozen W fun q => z q ∨ y q := fun q hq => hq.elim (fun hq => FzR.mono (φ := phF z) (ψ := phF _) (fun _ h => Or.inl h) (h q hq)) fun hq => FzR.mono (φ := phF y) (ψ := phF _) (fun _ h => Or.inr h) (k q hq)
theorem HR.frs {z : Fz → Prop} (h : Frozen W z) : HR (phF z) .nil 0 (wholeHp W) (wholeHp W) :=
  ⟨fun _ _ h => (by cases h), fun _ _ h => (by cases h), fun _ _ _ _ _ _ h => (by cases h), fun b o h => ⟨(Array.getElem?_eq_some_iff.1 h).1, h⟩, Nat.le_refl _, fun q hq => ⟨⟨h q hq, .inl hq⟩, fun _ _ _ h => by cases h⟩⟩
/-- A row of flat cells, frozen. -/
theorem frz_row {b off cap m k : Nat} {cc : Array Value} {u : TypeId} {fz : Nat × Nat} {L : List AV} {vs : List Value} (hb : W.heap[b]? = some (.cells cc u fz)) (hcap : m ≤ cap) (hL : L.length = m * k) (hsz : off + m * k ≤ cc.size) (hst : L.all stab = true) {z : Fz → Prop} (hfz : z ⟨b, off, L⟩) (hv : VRs (phF z) L vs) (hcell : ∀ i a, vs[i]? = some a → cc[off + i]? = some a) :
    FzR (phF z) (wholeHp W) ⟨b, off, L⟩ ∧ ∀ χ : Ph, (∀ q, z q → χ.z q) → VR χ (.fr m k L) (.slice (some ⟨b, off, none⟩) m cap) := by
  refine ⟨⟨⟨(Array.getElem?_eq_some_iff.1 hb).1, hst⟩, cc, u, fz, hb, (show off + L.length ≤ cc.size by omega), fun i a e => ?_⟩, fun χ hχ => ?_⟩
  · obtain ⟨v, h1, h2⟩ := hv.at e
    exact ⟨v, hcell i v h1, h2⟩
  · have : VR χ (.fr m k L) (.slice (some ⟨(⟨b, off, L⟩ : Fz).B, (⟨b, off, L⟩ : Fz).s + 0, .none⟩) m cap) := .fr (q := ⟨b, off, L⟩) (o := 0) (hχ _ hfz) hcap (subL_all hL)
    exact this
theorem smp_vals {Tr : TypeId → Value → Prop} : ∀ {rows : List (List Value)}, (∀ r ∈ rows, Prims Tr [.int .i64, .int .i64] r) → ∀ φ : Ph, VRs φ (smp (rows.map pairOf)) rows.flatten
  | [], _, φ => .nil
  | r :: rows, h, φ => by
    obtain ⟨g1, g2⟩ := h r List.mem_cons_self
    match r, g1, g2 with
    | [v, w], _, g2 =>
      obtain ⟨a, rfl, ha⟩ := g2 0 _ v rfl rfl
      obtain ⟨b, rfl, hb⟩ := g2 1 _ w rfl rfl
      exact .cons (.si _ _) (.cons (.si _ _) (smp_vals (fun x hx => h x (List.mem_cons_of_mem _ hx)) φ))
/-- Samples, frozen. -/
theorem fr_samples {t e : TypeId} {d fuel : Nat} {v : Value} {D : DataW H} {ps : List MemPlace} (ht : P.underlying t = some (.slice e)) (hk : kdsT P d e = some [.int .i64, .int .i64]) (hc2 : P.cellsOf e = 2) (hf : DataW.trod enc P W 0 (fun _ => true) held fuel t [v] = some (D, ps)) :
    ∃ (L : Smp) (z : Fz → Prop), (∀ x ∈ L, In64 x.1 ∧ In64 x.2) ∧ Frozen W z ∧ (∀ χ : Ph, (∀ q, z q → χ.z q) → VR χ (.fr L.length 2 (smp L)) v) ∧ (L = [] ∨ ∃ E F, D = .slice ((List.range L.length).map F) E) ∧ L.length ≤ maxLen := by
  obtain ⟨rows, h1, h2, h3, h4⟩ := open_cells ht hk rfl hc2 (by decide) hf
  obtain ⟨_, g2⟩ := smp_rows fun r hr => (h1 r hr).1
  rcases h4 with ⟨rfl, a, C, rfl, hC⟩ | ⟨b, off, cap, cc, u, fz, rfl, hcap, hb, hsz, hcell⟩
  · exact ⟨[], fun _ => False, (fun x h => by cases h), .none, fun χ _ => .fre hC, .inl rfl, Nat.zero_le _⟩
  · have hst : (smp (rows.map pairOf)).all stab = true := by
      rw [List.all_eq_true]
      intro y hy
      have := List.all_eq_true.1 (smp_flat (rows.map pairOf)) y hy
      cases y <;> first | rfl | cases this
    obtain ⟨k1, k2⟩ := frz_row (m := rows.length) (k := 2) (L := smp (rows.map pairOf)) (z := fun q => q = ⟨b, off, smp (rows.map pairOf)⟩) hb hcap (by rw [smp_length, List.length_map]) hsz hst rfl (smp_vals (fun r hr => (h1 r hr).1) _) hcell
    exact ⟨rows.map pairOf, fun q => q = ⟨b, off, smp (rows.map pairOf)⟩, g2, fun q hq => by subst hq; exact k1, fun χ hχ => by rw [List.length_map]; exact k2 χ hχ, by rw [List.length_map]; exact h2.imp (fun q => by rw [q]; rfl) id, by rw [List.length_map]; exact h3⟩
/-- Rows of samples, frozen. -/
theorem arg_rows2 {t e e2 : TypeId} {d d2 : Nat} {v : Value} {D : DataW H} {ps : List MemPlace} (ht : P.underlying t = some (.slice e)) (hk : kdsT P d e = some [.sl e]) (hc2 : P.cellsOf e = 1) (ht2 : P.underlying e = some (.slice e2)) (hk2 : kdsT P d2 e2 = some [.int .i64, .int .i64]) (hc3 : P.cellsOf e2 = 2) (hcell : v.cells.toList = [v]) (hd : DataW.Trod enc P W 0 (fun _ => true) held t v D ps) :
    ∃ (X : List Smp) (z : Fz → Prop), (∀ L ∈ X, ∀ x ∈ L, In64 x.1 ∧ In64 x.2) ∧ Frozen W z ∧ (∀ χ : Ph, (∀ q, z q → χ.z q) → VR χ (.fr X.length 1 (X.map fun L => .fr L.length 2 (smp L))) v) ∧ (X = [] ∨ ∃ E F, D = .slice ((List.range X.length).map F) E) ∧ X.length ≤ maxLen := by
  obtain ⟨fuel, hf⟩ := hd
  rw [hcell] at hf
  obtain ⟨rows, h1, h2, h3, h4⟩ := open_cells ht hk rfl hc2 (Nat.one_ne_zero) hf
  rcases h4 with ⟨rfl, a, C, rfl, hC⟩ | ⟨b, off, cap, cc, u, fz, rfl, hcap, hb, hsz, hcel⟩
  · exact ⟨[], fun _ => False, (fun x h => by cases h), .none, fun χ _ => .fre hC, .inl rfl, Nat.zero_le _⟩
  · have inner : ∀ (R : List (List Value)), (∀ r ∈ R, Prims (TrS enc P W 0 (fun _ => true) held) [.sl e] r ∧ r.length = 1) → ∃ (X : List Smp) (z : Fz → Prop), X.length = R.length ∧ (∀ L ∈ X, ∀ x ∈ L, In64 x.1 ∧ In64 x.2) ∧ Frozen W z ∧ ∀ χ : Ph, (∀ q, z q → χ.z q) → VRs χ (X.map fun L => .fr L.length 2 (smp L)) R.flatten := fun R => by
      induction R with
      | nil => intro _; exact ⟨[], fun _ => False, rfl, (fun x h => by cases h), .none, fun χ _ => .nil⟩
      | cons r R ih =>
        intro hR
        obtain ⟨X, z, k1, k2, k3, k4⟩ := ih fun x hx => hR x (List.mem_cons_of_mem _ hx)
        obtain ⟨⟨_, g1⟩, g2⟩ := hR r List.mem_cons_self
        match r, g2, g1 with
        | [w], _, g1 =>
          obtain ⟨fuel2, ⟨D2, ps2⟩, hf2⟩ := g1 0 _ w rfl rfl
          obtain ⟨L, y, j1, j2, j3, _⟩ := fr_samples ht2 hk2 hc3 hf2
          refine ⟨L :: X, fun q => y q ∨ z q, by simp [k1], fun M hM => ?_, j2.or k3, fun χ hχ => .cons (j3 χ fun q hq => hχ q (.inl hq)) (k4 χ fun q hq => hχ q (.inr hq))⟩
          rcases List.mem_cons.1 hM with rfl | hM
          · exact j1
          · exact k2 M hM
    obtain ⟨X, z, k1, k2, k3, k4⟩ := inner rows h1
    have hX : (X.map fun L => (AV.fr L.length 2 (smp L))).length = rows.length * 1 := by simp [k1]
    obtain ⟨j1, j2⟩ := frz_row (m := rows.length) (k := 1) (L := X.map fun L => .fr L.length 2 (smp L)) (z := fun q => z q ∨ q = ⟨b, off, X.map fun L => .fr L.length 2 (smp L)⟩) hb hcap hX hsz (by simp [stab]) (.inr rfl) (k4 _ fun q hq => Or.inl hq) hcel
    refine ⟨X, fun q => z q ∨ q = ⟨b, off, X.map fun L => .fr L.length 2 (smp L)⟩, k2, fun q hq => ?_, fun χ hχ => by rw [k1]; exact j2 χ hχ, by rw [k1]; exact h2.imp (fun q => by rw [q] at k1; exact List.eq_nil_of_length_eq_zero k1) id, by rw [k1]; exact h3⟩
    rcases hq with hq | rfl
    · exact FzR.mono (φ := phF z) (ψ := phF _) (fun _ h => Or.inl h) (k3 q hq)
    · exact j1
/-- Texts, frozen. -/
theorem arg_texts {t e : TypeId} {d : Nat} {v : Value} {D : DataW H} {ps : List MemPlace} (ht : P.underlying t = some (.slice e)) (hk : kdsT P d e = some [.str]) (hc2 : P.cellsOf e = 1) (hcell : v.cells.toList = [v]) (hd : DataW.Trod enc P W 0 (fun _ => true) held t v D ps) :
    ∃ (V : List (List Nat)) (z : Fz → Prop), (∀ s ∈ V, (∀ x ∈ s, x < 256) ∧ s.length ≤ maxLen) ∧ Frozen W z ∧ (∀ χ : Ph, (∀ q, z q → χ.z q) → VR χ (.fr V.length 1 (V.map fun s => .ss s)) v) ∧ (V = [] ∨ ∃ E F, D = .slice ((List.range V.length).map F) E) ∧ V.length ≤ maxLen := by
  obtain ⟨fuel, hf⟩ := hd
  rw [hcell] at hf
  obtain ⟨rows, h1, h2, h3, h4⟩ := open_cells ht hk rfl hc2 (by decide) hf
  rcases h4 with ⟨rfl, a, C, rfl, hC⟩ | ⟨b, off, cap, cc, u, fz, rfl, hcap, hb, hsz, hcel⟩
  · exact ⟨[], fun _ => False, (fun x h => by cases h), .none, fun χ _ => .fre hC, .inl rfl, Nat.zero_le _⟩
  · have inner : ∀ (R : List (List Value)), (∀ r ∈ R, Prims (TrS enc P W 0 (fun _ => true) held) [.str] r ∧ r.length = 1) → ∃ (V : List (List Nat)), V.length = R.length ∧ (∀ s ∈ V, (∀ x ∈ s, x < 256) ∧ s.length ≤ maxLen) ∧ ∀ χ : Ph, VRs χ (V.map fun s => .ss s) R.flatten := fun R => by
      induction R with
      | nil => intro _; exact ⟨[], rfl, (fun x h => by cases h), fun χ => .nil⟩
      | cons r R ih =>
        intro hR
        obtain ⟨V, k1, k2, k3⟩ := ih fun x hx => hR x (List.mem_cons_of_mem _ hx)
        obtain ⟨⟨_, g1⟩, g2⟩ := hR r List.mem_cons_self
        match r, g2, g1 with
        | [w], _, g1 =>
          obtain ⟨s, rfl, hs⟩ := g1 0 _ w rfl rfl
          refine ⟨s.data.toList.map UInt8.toNat :: V, by simp [k1], fun x hx => ?_, fun χ => .cons (vr_string s) (k3 χ)⟩
          rcases List.mem_cons.1 hx with rfl | hx
          · refine ⟨fun y hy => ?_, by simp only [List.length_map, Array.length_toList]; exact hs⟩
            simp only [List.mem_map] at hy
            obtain ⟨c, _, rfl⟩ := hy
            exact c.toNat_lt
          · exact k2 x hx
    obtain ⟨V, k1, k2, k3⟩ := inner rows h1
    obtain ⟨j1, j2⟩ := frz_row (m := rows.length) (k := 1) (L := V.map fun s => .ss s) (z := fun q => q = ⟨b, off, V.map fun s => .ss s⟩) hb hcap (by simp [k1]) hsz (by simp [stab]) rfl (k3 _) hcel
    exact ⟨V, fun q => q = ⟨b, off, V.map fun s => .ss s⟩, k2, fun q hq => by subst hq; exact j1, fun χ hχ => by rw [k1]; exact j2 χ hχ, by rw [k1]; exact h2.imp (fun q => by rw [q] at k1; exact List.eq_nil_of_length_eq_zero k1) id, by rw [k1]; exact h3⟩
theorem slice_cells {b0 : Nat} {t e : TypeId} {v : Value} (ht : P.underlying t = some (.slice e)) (hval : Value.okWide P W .any b0 t v) : v.cells.toList = [v] := by
  rcases okWide_slice_at ht hval with rfl | ⟨b, off, len, cap, cc, u, fz, rfl, _⟩ <;> rfl
theorem sized_len2 {ts : List TypeId} {ds : List (DataW H)} (h : (DataW.weightsEach P ts ds).all (· ≤ reachBytes) = true) {j n : Nat} {t e : TypeId} {D : DataW H} (ht : ts[j]? = some t) (hd : ds[j]? = some D) (hD : n = 0 ∨ ∃ E F, D = .slice ((List.range n).map F) E) (hu : P.underlying t = some (.slice e)) (hb : 16 ≤ P.bytesOf e) : n ≤ 8796093022208 := by
  rcases hD with rfl | ⟨E, F, rfl⟩
  · omega
  · have := sized_slice h ht hd hu
    rw [List.length_map, List.length_range] at this
    unfold reachBytes at this
    have h2 : n * 16 ≤ n * P.bytesOf e := Nat.mul_le_mul_left n hb
    have h3 : n * P.bytesOf e ≤ (n + E.length) * P.bytesOf e := Nat.mul_le_mul_right _ (Nat.le_add_right _ _)
    omega
end
end Go.Proofs.Ytkhfdjhohfebgaa
