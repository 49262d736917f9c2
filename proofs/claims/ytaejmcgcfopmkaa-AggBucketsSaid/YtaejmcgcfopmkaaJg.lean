/- Texts of our own, joined: the engine, the machine that runs code, and what is known of the functions. -/
import Derived.Test.YtaejmcgcfopmkaaJf
namespace Go.Proofs.Ytaejmcgcfopmkaa
open Go Go.RowKit
noncomputable def FR_ : FuncId → EP := withS 27 (natSS 1000000 sameS) FQ
theorem FR_ok : TabP FR_ := withS_ok FQ_ok n_same singSS
def atS (L : Smp) (i : Nat) : Int × Int := L.getD i (0, 0)
theorem atS_eq {L : Smp} {i : Nat} (h : i < L.length) : L[i] = atS L i := by simp [atS, h]
def cutS (L : Smp) (f h : Nat) : Smp := (L.take h).drop f
def rbStep (k sz al : Int) (L : Smp) (i : Nat) (q : Smp × Nat) : Smp × Nat := if i + 1 = L.length ∨ ¬ sStart (atS L (i + 1)).1 sz al = sStart (atS L i).1 sz al then (q.1 ++ [(sStart (atS L i).1 sz al, rNum k (vals (cutS L q.2 (i + 1))))], i + 1) else q
def rb (k sz al : Int) (L : Smp) : Nat → Smp × Nat
  | 0 => ([], 0)
  | i + 1 => rbStep k sz al L i (rb k sz al L i)
def rbA (k sz al : Int) (L : Smp) : Smp := if sRight k = true ∧ sCan sz al = true ∧ bkOk L = true then (rb k sz al L L.length).1 else []
theorem rbA_neg {k sz al : Int} {L : Smp} (h : sRight k = false ∨ sCan sz al = false ∨ bkOk L = false) : rbA k sz al L = [] := if_neg (by rcases h with h | h | h <;> simp [h])
theorem rbA_nil {k sz al : Int} : rbA k sz al [] = [] := by unfold rbA; split <;> rfl
structure RbI (k sz al : Int) (L : Smp) (out : Smp) (f i : Nat) : Prop where
  hi : i ≤ L.length
  hf : f ≤ i
  ho : out.length ≤ i
  eq : rb k sz al L i = (out, f)
  ok : bkOk (L.take i) = true
theorem RbI.add {k sz al : Int} {L out : Smp} {f i : Nat} (h : RbI k sz al L out f i) (hlt : i < L.length) (ht : sTime L[i].1 = true) (hc : i + 1 = L.length ∨ ¬ sStart (atS L (i + 1)).1 sz al = sStart (atS L i).1 sz al) :
    RbI k sz al L (out ++ [(sStart (atS L i).1 sz al, rNum k (vals (cutS L f (i + 1))))]) (i + 1) (i + 1) := by
  refine ⟨hlt, Nat.le_refl _, by simp; exact h.ho, ?_, bkOk_take hlt h.ok ht⟩
  show rbStep k sz al L i (rb k sz al L i) = _
  rw [h.eq]
  exact if_pos hc
theorem RbI.skip {k sz al : Int} {L out : Smp} {f i : Nat} (h : RbI k sz al L out f i) (hlt : i < L.length) (ht : sTime L[i].1 = true) (hc : ¬ (i + 1 = L.length ∨ ¬ sStart (atS L (i + 1)).1 sz al = sStart (atS L i).1 sz al)) : RbI k sz al L out f (i + 1) := by
  refine ⟨hlt, Nat.le_succ_of_le h.hf, Nat.le_succ_of_le h.ho, ?_, bkOk_take hlt h.ok ht⟩
  show rbStep k sz al L i (rb k sz al L i) = _
  rw [h.eq]
  exact if_neg hc
theorem time_no {t : Int} (h : t < 0 ∨ 1099511627776 < t) : sTime t = false := by simp only [sTime, decide_eq_false_iff_not]; omega
theorem time_yes {t : Int} (h1 : ¬ t < 0) (h2 : ¬ 1099511627776 < t) : sTime t = true := by simp only [sTime, decide_eq_true_eq]; omega
theorem eslice_lh {P : Program} {t e : TypeId} {es b o n c f j : Nat} {i i' : Int} {kk kk' : IntKind} (hu : P.underlying t = some (.slice e)) (hs : tySize P e = some es) (hi : i = (f : Int)) (hi' : i' = (j : Int)) (h1 : f < j) (h2 : j ≤ c) :
    eslice P t (.sl b o n c 0) (some (.int kk i)) (some (.int kk' i')) none = some (.sl b (o + f * es) (j - f) (c - f) 0) := by
  subst hi hi'
  have e1 : ebnd (some (AV.int kk (f : Int))) 0 = some f := rfl
  have e2 : ebnd (some (AV.int kk' (j : Int))) n = some j := rfl
  simp only [eslice, hu, hs, e1, e2]
  simp only [ebnd]
  rw [if_pos ⟨by omega, h2, Nat.le_refl _⟩, if_neg (by omega)]
theorem smp_cut {L : Smp} {f j : Nat} (h1 : f ≤ j) (h2 : j ≤ L.length) : subL (smp L) (0 + f * 2) ((cutS L f j).length * 2) = some (smp (cutS L f j)) ∧ (cutS L f j).length = j - f := by
  have hl : (cutS L f j).length = j - f := by simp [cutS]; omega
  refine ⟨?_, hl⟩
  rw [hl]
  unfold subL
  rw [Nat.ble_eq_true_of_le (by rw [smp_length]; omega), Nat.zero_add, smp_drop]
  rw [show (j - f) * 2 = (j - f) * 2 from rfl, smp_take]
  congr 2
  rw [cutS, List.drop_take]
noncomputable abbrev rbSt (k sz al : Int) (L : Smp) (cap : Nat) (f i : Nat) : Smp → AE × AH
  | [] => (mkE [(0, .si .i64 k), (1, .si .i64 sz), (2, .si .i64 al), (3, .sy 0 0 L.length cap 0), (9, .nsl), (10, .si .i64 f), (11, .si .i64 i)], mkH [(0, .ro (smp L))])
  | y :: o => (mkE [(0, .si .i64 k), (1, .si .i64 sz), (2, .si .i64 al), (3, .sy 0 0 L.length cap 0), (9, .sl 1 0 (o.length + 1) (o.length + 1) 2), (10, .si .i64 f), (11, .si .i64 i)], mkH [(0, .ro (smp L)), (1, .cells (smp (y :: o)) true)])
theorem rb_cov0 {k sz al : Int} {L : Smp} {cap f i p n : Nat} {σ : AE} {H : AH} (hp : p ≤ 1) (e0 : mk (getq (pa 0) σ) = .si .i64 k) (e1 : mk (getq (pa 1) σ) = .si .i64 sz) (e2 : mk (getq (pa 2) σ) = .si .i64 al) (e3 : mk (getq (pa 3) σ) = .sy 0 0 L.length cap 0)
    (e9 : getq (pa 9) σ = .nsl) (e10 : mk (getq (pa 10) σ) = .si .i64 f) (e11 : mk (getq (pa 11) σ) = .si .i64 i) (h0 : H.get 0 = some (.ro (smp L))) : Cov p σ H n ((rbSt k sz al L cap f i []).1, (rbSt k sz al L cap f i []).2, 2) := by
  refine Cov.of (fun b => b) (by omega) (fun b hb => rfl) ?_ ?_ ?_
  · intro x hx
    simp only [List.mem_cons, List.not_mem_nil, or_false] at hx
    rcases hx with rfl | rfl | rfl | rfl | rfl | rfl | rfl
    · exact .int e0
    · exact .int e1
    · exact .int e2
    · exact .sy (by decide) e3
    · exact .flat rfl (congrArg mk e9)
    · exact .int e10
    · exact .int e11
  · intro x hx
    simp only [List.mem_cons, List.not_mem_nil, or_false] at hx
    subst hx
    exact ⟨by simp, _, h0, SubO.ro_mk (smp_flat _) rfl⟩
  · intro x hx y hy
    simp only [List.mem_cons, List.not_mem_nil, or_false] at hx hy
    subst hx hy
    exact fun q => q
theorem rb_cov {k sz al : Int} {L : Smp} {cap f i p n : Nat} {y : Int × Int} {o : Smp} {σ : AE} {H : AH} {l : List AV} (j1 : Nat) (hj : j1 ≠ 0) (hp : p ≤ 1) (e0 : mk (getq (pa 0) σ) = .si .i64 k) (e1 : mk (getq (pa 1) σ) = .si .i64 sz) (e2 : mk (getq (pa 2) σ) = .si .i64 al) (e3 : mk (getq (pa 3) σ) = .sy 0 0 L.length cap 0)
    (e9 : mk (getq (pa 9) σ) = .sy j1 0 (o.length + 1) (o.length + 1) 2) (e10 : mk (getq (pa 10) σ) = .si .i64 f) (e11 : mk (getq (pa 11) σ) = .si .i64 i) (h0 : H.get 0 = some (.ro (smp L))) (h1 : H.get j1 = some (.cells l true)) (hl : l.map mk = smp (y :: o)) : Cov p σ H n ((rbSt k sz al L cap f i (y :: o)).1, (rbSt k sz al L cap f i (y :: o)).2, 2) := by
  refine Cov.of (fun b => if b = 0 then 0 else j1) (by omega) (fun b hb => by rw [if_pos (by omega)]; omega) ?_ ?_ ?_
  · intro x hx
    simp only [List.mem_cons, List.not_mem_nil, or_false] at hx
    rcases hx with rfl | rfl | rfl | rfl | rfl | rfl | rfl
    · exact .int e0
    · exact .int e1
    · exact .int e2
    · exact .sy (by decide) e3
    · exact .sl (by decide) e9
    · exact .int e10
    · exact .int e11
  · intro x hx
    simp only [List.mem_cons, List.not_mem_nil, or_false] at hx
    rcases hx with rfl | rfl
    · exact ⟨by simp, _, h0, SubO.ro_mk (smp_flat L) rfl⟩
    · exact ⟨by simp, _, h1, SubO.cells_mk (smp_flat _) (by rw [hl, smp_map]) (fun q => q)⟩
  · intro x hx y hy
    simp only [List.mem_cons, List.not_mem_nil, or_false] at hx hy
    rcases hx with rfl | rfl <;> rcases hy with rfl | rfl <;> simp <;> omega
set_option maxHeartbeats 8000000 in
set_option maxRecDepth 100000 in
theorem rb_run (k sz al : Int) (L : Smp) (cap : Nat) (hL : L.length ≤ 1000000) (hcap : L.length ≤ cap) : callT FR_ 4 29 [.si .i64 k, .si .i64 sz, .si .i64 al, .sy 0 0 L.length cap 0] (mkH [(0, .ro (smp L))]) 1 fun u H' _ => NewRow (rbA k sz al L) u H' := by
  conv => whnf
  refine Fork.sb (fun hr => ?_) (fun hr => ?_)
  · conv => whnf
    exact .inl ⟨rbA_neg (.inl (name_empty hr)), rfl⟩
  have hr := name_full hr
  conv => whnf
  refine Fork.nsb (fun hc => ?_) (fun hc => ?_)
  · conv => whnf
    exact .inl ⟨rbA_neg (.inr (.inl hc)), rfl⟩
  conv => whnf
  refine LoopP.mk { q : Smp × Nat × Nat // RbI k sz al L q.1 q.2.1 q.2.2 } 2 (fun a => rbSt k sz al L cap a.val.2.1 a.val.2.2 a.val.1) (fun a => L.length - a.val.2.2) ⟨([], 0, 0), ⟨Nat.zero_le _, Nat.le_refl _, Nat.le_refl _, rfl, rfl⟩⟩ ?_ ?_
  · exact rb_cov0 (i := 0) (f := 0) (Nat.le_refl 1) rfl rfl rfl rfl rfl rfl rfl rfl
  · intro ⟨⟨out, f, i⟩, hI⟩
    obtain ⟨hi, hf, ho, heq, hok⟩ := id hI
    dsimp only at hi hf ho heq hok
    cases out with
    | nil =>
      conv => whnf
      refine Fork.dec (fun h1 => ?_) (fun h1 => ?_)
      · have h2 : i < L.length := Int.ofNat_lt.1 h1
        have hlt : L.length - (i + 1) < L.length - i := by omega
        have hw : IntKind.i64.wrap ((i : Int) + 1) = ((i + 1 : Nat) : Int) := by rw [wrap_i64_of (x := (i : Int) + 1) (by omega) (by omega)]; omega
        have hcl := smp_cut (L := L) (f := f) (j := i + 1) (by omega) (by omega)
        conv => whnf
        refine Idx.mk i rfl h2 ?_
        conv => whnf
        refine optP_of (smp_nth0 h2 (by show 0 + i * 2 + 0 = i * 2; omega)) ?_
        conv => whnf
        refine Fork.dec (fun h3 => ?_) (fun h3 => ?_)
        · conv => whnf
          exact .inl ⟨rbA_neg (.inr (.inr (bkOk_no h2 (time_no (.inl h3))))), rfl⟩
        conv => whnf
        refine Idx.mk i rfl h2 ?_
        conv => whnf
        refine optP_of (smp_nth0 h2 (by show 0 + i * 2 + 0 = i * 2; omega)) ?_
        conv => whnf
        refine Fork.dec (fun h4 => ?_) (fun h4 => ?_)
        · conv => whnf
          exact .inl ⟨rbA_neg (.inr (.inr (bkOk_no h2 (time_no (.inr h4))))), rfl⟩
        have ht := time_yes h3 h4
        conv => whnf
        refine Idx.mk i rfl h2 ?_
        conv => whnf
        refine optP_of (smp_nth0 h2 (by show 0 + i * 2 + 0 = i * 2; omega)) ?_
        conv => whnf
        refine Fork.dec (fun h5 => ?_) (fun h5 => ?_)
        rotate_left 1
        have h6 : ¬ i + 1 = L.length := fun q => h5 (hw.trans (by rw [q]))
        have h7 : i + 1 < L.length := by omega
        conv => whnf
        refine Idx.mk (i + 1) hw h7 ?_
        conv => whnf
        refine optP_of (smp_nth0 h7 (by show 0 + (i + 1) * 2 + 0 = (i + 1) * 2; omega)) ?_
        conv => whnf
        refine Fork.ndec (fun h8 => ?_) (fun h8 => ?_)
        rotate_left 1
        · have hno : ¬ (i + 1 = L.length ∨ ¬ sStart (atS L (i + 1)).1 sz al = sStart (atS L i).1 sz al) := by
            rw [← atS_eq h7, ← atS_eq h2]
            exact fun q => q.elim h6 (fun q => q h8)
          conv => whnf
          exact ⟨⟨([], f, i + 1), hI.skip h2 ht hno⟩, hlt, rb_cov0 (Nat.le_refl 1) rfl rfl rfl rfl rfl rfl (congrArg (AV.si .i64) hw) rfl⟩
        all_goals
          have hadd : i + 1 = L.length ∨ ¬ sStart (atS L (i + 1)).1 sz al = sStart (atS L i).1 sz al := by
            first
              | (exact .inr (by rw [← atS_eq h7, ← atS_eq h2]; exact h8))
              | (refine .inl ?_
                 have : ((i + 1 : Nat) : Int) = (L.length : Int) := hw.symm.trans h5
                 omega)
          have hz : (sStart L[i].1 sz al, rNum k (vals (cutS L f (i + 1)))) = (sStart (atS L i).1 sz al, rNum k (vals (cutS L f (i + 1)))) := by rw [atS_eq h2]
          conv => whnf
          refine Ask.mk _ (eslice_lh (f := f) (j := i + 1) (es := 2) rfl rfl rfl hw (by omega) (by omega)) ?_
          conv => whnf
          refine ⟨cutS L f (i + 1), .inr ⟨0, 0 + f * 2, cap - f, 0, smp L, smp (cutS L f (i + 1)), ?_, .inl rfl, hcl.1, smp_map _, by omega⟩, by omega, ?_⟩
          · exact (show _ = AV.sl 0 (0 + f * 2) (i + 1 - f) (cap - f) 0 from rfl).trans (by rw [hcl.2])
          conv => whnf
          refine ⟨⟨([] ++ [_], i + 1, i + 1), hI.add h2 ht hadd⟩, hlt, rb_cov (o := []) 3 (by decide) (Nat.le_refl 1) rfl rfl rfl rfl rfl (congrArg (AV.si .i64) hw) (congrArg (AV.si .i64) hw) rfl rfl ?_⟩
          exact Eq.trans rfl (show smp [(sStart L[i].1 sz al, rNum k (vals (cutS L f (i + 1))))] = _ from congrArg (fun z => smp [z]) hz)
      · conv => whnf
        have h3 : i = L.length := by have : ¬ (i : Int) < (L.length : Int) := h1; omega
        subst h3
        rw [List.take_length] at hok
        have e2 : rbA k sz al L = [] := by
          unfold rbA
          rw [if_pos ⟨hr, hc, hok⟩, heq]
        exact .inl ⟨e2, rfl⟩
    | cons y o =>
      conv => whnf
      refine Fork.dec (fun h1 => ?_) (fun h1 => ?_)
      · have h2 : i < L.length := Int.ofNat_lt.1 h1
        have hlt : L.length - (i + 1) < L.length - i := by omega
        have hw : IntKind.i64.wrap ((i : Int) + 1) = ((i + 1 : Nat) : Int) := by rw [wrap_i64_of (x := (i : Int) + 1) (by omega) (by omega)]; omega
        have hcl := smp_cut (L := L) (f := f) (j := i + 1) (by omega) (by omega)
        conv => whnf
        refine Idx.mk i rfl h2 ?_
        conv => whnf
        refine optP_of (smp_nth0 h2 (by show 0 + i * 2 + 0 = i * 2; omega)) ?_
        conv => whnf
        refine Fork.dec (fun h3 => ?_) (fun h3 => ?_)
        · conv => whnf
          exact .inl ⟨rbA_neg (.inr (.inr (bkOk_no h2 (time_no (.inl h3))))), rfl⟩
        conv => whnf
        refine Idx.mk i rfl h2 ?_
        conv => whnf
        refine optP_of (smp_nth0 h2 (by show 0 + i * 2 + 0 = i * 2; omega)) ?_
        conv => whnf
        refine Fork.dec (fun h4 => ?_) (fun h4 => ?_)
        · conv => whnf
          exact .inl ⟨rbA_neg (.inr (.inr (bkOk_no h2 (time_no (.inr h4))))), rfl⟩
        have ht := time_yes h3 h4
        conv => whnf
        refine Idx.mk i rfl h2 ?_
        conv => whnf
        refine optP_of (smp_nth0 h2 (by show 0 + i * 2 + 0 = i * 2; omega)) ?_
        conv => whnf
        refine Fork.dec (fun h5 => ?_) (fun h5 => ?_)
        rotate_left 1
        have h6 : ¬ i + 1 = L.length := fun q => h5 (hw.trans (by rw [q]))
        have h7 : i + 1 < L.length := by omega
        conv => whnf
        refine Idx.mk (i + 1) hw h7 ?_
        conv => whnf
        refine optP_of (smp_nth0 h7 (by show 0 + (i + 1) * 2 + 0 = (i + 1) * 2; omega)) ?_
        conv => whnf
        refine Fork.ndec (fun h8 => ?_) (fun h8 => ?_)
        rotate_left 1
        · have hno : ¬ (i + 1 = L.length ∨ ¬ sStart (atS L (i + 1)).1 sz al = sStart (atS L i).1 sz al) := by
            rw [← atS_eq h7, ← atS_eq h2]
            exact fun q => q.elim h6 (fun q => q h8)
          conv => whnf
          exact ⟨⟨(y :: o, f, i + 1), hI.skip h2 ht hno⟩, hlt, rb_cov 1 (by decide) (Nat.le_refl 1) rfl rfl rfl rfl rfl rfl (congrArg (AV.si .i64) hw) rfl rfl (smp_map _)⟩
        all_goals
          have hadd : i + 1 = L.length ∨ ¬ sStart (atS L (i + 1)).1 sz al = sStart (atS L i).1 sz al := by
            first
              | (exact .inr (by rw [← atS_eq h7, ← atS_eq h2]; exact h8))
              | (refine .inl ?_
                 have : ((i + 1 : Nat) : Int) = (L.length : Int) := hw.symm.trans h5
                 omega)
          have hz : (sStart L[i].1 sz al, rNum k (vals (cutS L f (i + 1)))) = (sStart (atS L i).1 sz al, rNum k (vals (cutS L f (i + 1)))) := by rw [atS_eq h2]
          conv => whnf
          refine Ask.mk _ (eslice_lh (f := f) (j := i + 1) (es := 2) rfl rfl rfl hw (by omega) (by omega)) ?_
          conv => whnf
          refine ⟨cutS L f (i + 1), .inr ⟨0, 0 + f * 2, cap - f, 0, smp L, smp (cutS L f (i + 1)), ?_, .inl rfl, hcl.1, smp_map _, by omega⟩, by omega, ?_⟩
          · exact (show _ = AV.sl 0 (0 + f * 2) (i + 1 - f) (cap - f) 0 from rfl).trans (by rw [hcl.2])
          conv => whnf
          refine optP_of (app_grow (k := 1) (by' := 16) (m := 1) (sn := o.length + 1) (c := o.length + 1) rfl rfl rfl rfl rfl rfl rfl rfl (by decide) rfl rfl rfl (by omega) (by simp only [List.length_cons] at ho; omega) (subL_all (smp_length (y :: o)))) ?_
          conv => whnf
          refine ⟨⟨(y :: (o ++ [(sStart (atS L i).1 sz al, rNum k (vals (cutS L f (i + 1))))]), i + 1, i + 1), hI.add h2 ht hadd⟩, hlt, rb_cov (k := k) (sz := sz) (al := al) (L := L) (cap := cap) (y := y) (o := o ++ [(sStart (atS L i).1 sz al, rNum k (vals (cutS L f (i + 1))))]) (f := i + 1) (i := i + 1) 3 (by decide) (Nat.le_refl 1) rfl rfl rfl rfl ?_ (congrArg (AV.si .i64) hw) (congrArg (AV.si .i64) hw) rfl rfl ?_⟩
          · exact (show mk _ = AV.sy 3 0 (o.length + 1 + 1) (o.length + 1 + 1) 2 from rfl).trans (by simp)
          · exact Eq.trans (snoc_map (y :: o) (sStart L[i].1 sz al) (rNum k (vals (cutS L f (i + 1)))) (smp_map _)) (congrArg (fun z => smp ((y :: o) ++ [z])) hz)
      · conv => whnf
        have h3 : i = L.length := by have : ¬ (i : Int) < (L.length : Int) := h1; omega
        subst h3
        rw [List.take_length] at hok
        have e2 : rbA k sz al L = y :: o := by
          unfold rbA
          rw [if_pos ⟨hr, hc, hok⟩, heq]
        refine .inr ⟨by rw [e2]; simp, 1, o.length + 1, _, ?_, by rw [e2]; simp, rfl, (smp_map _).trans (congrArg smp e2.symm)⟩
        exact (show _ = AV.sl 1 0 (o.length + 1) (o.length + 1) 2 from rfl).trans (by rw [e2]; simp)
end Go.Proofs.Ytaejmcgcfopmkaa
namespace Go.Proofs.Ytaejmcgcfopmkaa
open Go Go.RowKit
set_option maxHeartbeats 4000000 in
set_option maxRecDepth 100000 in
theorem rb_nil (k sz al : Int) : callT FR_ 4 29 [.si .i64 k, .si .i64 sz, .si .i64 al, .nsl] .nil 0 fun u H' _ => NewRow (rbA k sz al []) u H' := by
  conv => whnf
  refine Fork.sb (fun hr => ?_) (fun hr => ?_)
  · conv => whnf
    exact .inl ⟨rbA_nil, rfl⟩
  conv => whnf
  refine Fork.nsb (fun hc => ?_) (fun hc => ?_)
  · conv => whnf
    exact .inl ⟨rbA_nil, rfl⟩
  conv => whnf
  refine LoopP.roll 1 ?_
  conv => whnf
  exact .inl ⟨rbA_nil, rfl⟩
theorem n_rbuckets : NatP 29 (natB 1000000 rbA) := natB_ok FR_ok (by kernel_rfl) rb_nil rb_run
theorem cut_snoc {L : Smp} {f i : Nat} (hf : f ≤ i) (hi : i < L.length) : cutS L f (i + 1) = cutS L f i ++ [atS L i] := by
  unfold cutS
  rw [List.take_succ_eq_append_getElem hi, List.drop_append_of_le_length (by rw [List.length_take]; omega), atS_eq hi]
theorem cut_one {L : Smp} {i : Nat} (hi : i < L.length) : cutS L i (i + 1) = [atS L i] := by
  rw [cut_snoc (Nat.le_refl _) hi]
  simp [cutS]
theorem aAll_snoc (L : Smp) (x : Int × Int) : aAll (L ++ [x]) = aAdd (aAll L) x.2 := by unfold aAll; rw [List.foldl_append]; rfl
theorem aAll_one (x : Int × Int) : aAll [x] = aAdd ss0 x.2 := rfl
/-- A bucket that is not closed yet. -/
structure Open_ (k sz al : Int) (L : Smp) (c : BK) (f i : Nat) : Prop where
  hf : f ≤ i
  hs : c.s = aAll (cutS L f (i + 1))
  hv : c.v = aV k c.s
  hb : c.b = sStart (atS L i).1 sz al
  eq : rb k sz al L (i + 1) = rbStep k sz al L i (c.pre, f)
theorem num_v {k : Int} {L : Smp} (hr : sRight k = true) (hL : ∀ x ∈ L, In64 x.2) (hl : L.length < 4611686018427387904) : rNum k (vals L) = aV k (aAll L) := by
  rw [← (num_eq hL hl).1]
  unfold aNum aV
  rw [if_pos hr]
theorem in_cut {L : Smp} {f j : Nat} (hL : ∀ x ∈ L, In64 x.2) : ∀ x ∈ cutS L f j, In64 x.2 := fun x hx => hL x (List.mem_of_mem_take (List.mem_of_mem_drop hx))
theorem Open_.close {k sz al : Int} {L : Smp} {c : BK} {f i : Nat} (h : Open_ k sz al L c f i) (hr : sRight k = true) (hL : ∀ x ∈ L, In64 x.2) (hi : i < L.length) (hl : L.length ≤ 1000000) :
    rb k sz al L (i + 1) = if i + 1 = L.length ∨ ¬ sStart (atS L (i + 1)).1 sz al = c.b then (c.out, i + 1) else (c.pre, f) := by
  rw [h.eq]
  unfold rbStep
  have hlen := (smp_cut (L := L) (f := f) (j := i + 1) (by have := h.hf; omega) hi).2
  have e : rNum k (vals (cutS L f (i + 1))) = aV k (aAll (cutS L f (i + 1))) := num_v hr (in_cut hL) (by omega)
  dsimp only
  rw [e, ← h.hs, ← h.hv, ← h.hb]
  rfl
theorem Open_.next {k sz al : Int} {L : Smp} {c : BK} {f i : Nat} (h : Open_ k sz al L c f i) (hr : sRight k = true) (hL : ∀ x ∈ L, In64 x.2) (hi : i + 1 < L.length) (hl : L.length ≤ 1000000) : ∃ g, Open_ k sz al L (bkStep k sz al c (atS L (i + 1))) g (i + 1) := by
  have hcl := h.close hr hL (by omega) hl
  by_cases hb : c.b = sStart (atS L (i + 1)).1 sz al
  · rw [if_neg (by rw [← hb]; simp; omega)] at hcl
    rw [bkStep_same hb]
    refine ⟨f, Nat.le_succ_of_le h.hf, ?_, rfl, hb, ?_⟩
    · rw [cut_snoc (Nat.le_succ_of_le h.hf) hi, aAll_snoc, ← h.hs]; rfl
    · show rbStep k sz al L (i + 1) (rb k sz al L (i + 1)) = _
      rw [hcl]; rfl
  · rw [if_pos (.inr (fun q => hb q.symm))] at hcl
    rw [bkStep_new hb]
    refine ⟨i + 1, Nat.le_refl _, ?_, rfl, rfl, ?_⟩
    · rw [cut_one hi, aAll_one]; rfl
    · show rbStep k sz al L (i + 1) (rb k sz al L (i + 1)) = _
      rw [hcl]; rfl
theorem open_all {k sz al : Int} {x : Int × Int} {r : Smp} (hr : sRight k = true) (hL : ∀ y ∈ x :: r, In64 y.2) (hl : (x :: r).length ≤ 1000000) : ∀ i, i ≤ r.length → ∃ f, Open_ k sz al (x :: r) (bkAll k sz al x (r.take i)) f i
  | 0, _ => ⟨0, Nat.le_refl _, rfl, rfl, rfl, rfl⟩
  | i + 1, hi => by
    obtain ⟨f, h⟩ := open_all (k := k) (sz := sz) (al := al) hr hL hl i (by omega)
    obtain ⟨g, h2⟩ := h.next hr hL (by simp; omega) hl
    refine ⟨g, ?_⟩
    rw [bkAll_take (show i < r.length by omega)]
    have : atS (x :: r) (i + 1) = r[i] := by rw [← atS_eq (by simp; omega)]; rfl
    rw [this] at h2
    exact h2
theorem buckets_eq {k sz al : Int} {L : Smp} (hL : ∀ y ∈ L, In64 y.2) (hl : L.length ≤ 1000000) : bkA k sz al L = rbA k sz al L := by
  by_cases h : sRight k = true ∧ sCan sz al = true ∧ bkOk L = true
  · unfold bkA rbA
    rw [if_pos h, if_pos h]
    cases L with
    | nil => rfl
    | cons x r =>
      obtain ⟨f, h2⟩ := open_all (k := k) (sz := sz) (al := al) h.1 hL hl r.length (Nat.le_refl _)
      have hcl := h2.close h.1 hL (by simp) hl
      rw [if_pos (.inl rfl), List.take_length] at hcl
      show (bkAll k sz al x r).out = (rb k sz al (x :: r) (r.length + 1)).1
      rw [hcl]
  · unfold bkA rbA
    rw [if_neg h, if_neg h]
theorem bkA_len {k sz al : Int} (L : Smp) : (bkA k sz al L).length ≤ L.length := by
  unfold bkA
  split
  · cases L with
    | nil => exact Nat.le_refl _
    | cons x r =>
      have := bk_len (k := k) (sz := sz) (al := al) (x := x) r
      simp only [BK.out, List.length_append, List.length_cons, List.length_nil]
      omega
  · exact Nat.zero_le _
end Go.Proofs.Ytaejmcgcfopmkaa
namespace Go.Proofs.Ytaejmcgcfopmkaa
open Go Go.RowKit
def d_tachographlaw06AggBuckets : DT := [(3, [(some 0, [0]), (some 0, [4]), (some 0, [12]), (some 0, [4]), (some 0, [14]), (some 0, [2]), (none, [11, 13, 15, 16]), (some 1, [0]), (some 2, [4]), (some 3, [19]), (some 4, [4]), (some 5, [21]), (some 6, [2]), (none, [18, 20, 22, 23]), (none, [17, 24]), (some 0, [25]), (none, [26]), (some 0, [26, 27]), (some 0, [28])])]
noncomputable def FT : FuncId → EP := withD 5 d_tachographlaw06AggBuckets (withS 29 (natB 1000000 rbA) FR_)
theorem FT_ok : TabP FT := withD_ok (withS_ok FR_ok n_rbuckets singB) (by kernel_rfl) (by kernel_rfl)
set_option maxHeartbeats 8000000 in
set_option maxRecDepth 100000 in
theorem w_aggBuckets (k s a : Int) (L : Smp) (cap : Nat) (hin : ∀ x ∈ L, In64 x.1 ∧ In64 x.2) (_ : L.length ≤ 8796093022208) (hc : L.length ≤ cap) : callT FT 4 5 [.si .i64 k, .agg [.si .i64 s, .si .i64 a], .sy 0 0 L.length cap 0] (mkH [(0, .ro (smp L))]) 1 fun v _ _ => v = .bool true ∨ v = .sb true := by
  conv => whnf
  refine Fork.dec (fun h1 => ?_) (fun h1 => ?_)
  · conv => whnf
    exact .inl rfl
  have hl : L.length ≤ 80 := by have : ¬ (80 : Int) < (L.length : Int) := h1; omega
  have hE := buckets_eq (k := k) (sz := s) (al := a) (fun y hy => (hin y hy).2) (show L.length ≤ 1000000 by omega)
  have hR := bkA_len (k := k) (sz := s) (al := a) L
  have hsame : sameS (bkA k s a L) (rbA k s a L) = true := by rw [← hE]; simp [sameS]
  conv => whnf
  refine ⟨L, .inr ⟨0, 0, cap, 0, smp L, smp L, rfl, .inl rfl, smp_whole L, smp_map L, hc⟩, by omega, fun hn => ?_, fun hn => ⟨⟨rfl, by decide⟩, ?_⟩⟩
  · conv => whnf
    refine ⟨L, .inr ⟨0, 0, cap, 0, smp L, smp L, rfl, .inl rfl, smp_whole L, smp_map L, hc⟩, by omega, fun hm => ?_, fun hm => absurd (hE.symm.trans hn) hm⟩
    conv => whnf
    refine ⟨[], [], .inl ⟨rfl, rfl⟩, .inl ⟨rfl, rfl⟩, by decide, by decide, ?_⟩
    conv => whnf
    refine Fork.sb (fun _ => ?_) (fun h => absurd h (by decide))
    conv => whnf
    exact .inl rfl
  · conv => whnf
    refine ⟨L, .inr ⟨0, 0, cap, 0, smp L, smp L, rfl, .inl rfl, smp_whole L, smp_map L, hc⟩, by omega, fun hm => absurd (hE.trans hm) hn, fun hm => ⟨⟨rfl, by decide⟩, ?_⟩⟩
    conv => whnf
    refine ⟨bkA k s a L, rbA k s a L, .inr ⟨2, 0, (bkA k s a L).length, 2, smp (bkA k s a L), smp (bkA k s a L), rfl, .inr ⟨_, rfl⟩, smp_whole _, smp_map _, Nat.le_refl _⟩, .inr ⟨3, 0, (rbA k s a L).length, 2, smp (rbA k s a L), smp (rbA k s a L), rfl, .inr ⟨_, rfl⟩, smp_whole _, smp_map _, Nat.le_refl _⟩, by omega, by rw [← hE]; omega, ?_⟩
    conv => whnf
    refine Fork.sb (fun _ => ?_) (fun h => absurd h (by rw [hsame]; decide))
    conv => whnf
    exact .inl rfl
set_option maxHeartbeats 8000000 in
set_option maxRecDepth 100000 in
theorem w_aggBuckets0 (k s a : Int) : callT FT 4 5 [.si .i64 k, .agg [.si .i64 s, .si .i64 a], .nsl] .nil 0 fun v _ _ => v = .bool true ∨ v = .sb true := by
  conv => whnf
  refine ⟨[], .inl ⟨rfl, rfl⟩, by decide, fun _ => ?_, fun hn => absurd bkA_nil hn⟩
  conv => whnf
  refine ⟨[], .inl ⟨rfl, rfl⟩, by decide, fun _ => ?_, fun hn => absurd rbA_nil hn⟩
  conv => whnf
  refine ⟨[], [], .inl ⟨rfl, rfl⟩, .inl ⟨rfl, rfl⟩, by decide, by decide, ?_⟩
  conv => whnf
  refine Fork.sb (fun _ => ?_) (fun h => absurd h (by decide))
  conv => whnf
  exact .inl rfl
end Go.Proofs.Ytaejmcgcfopmkaa
