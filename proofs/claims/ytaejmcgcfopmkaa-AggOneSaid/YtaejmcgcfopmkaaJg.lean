/- Texts of our own, joined: the engine, the machine that runs code, and what is known of the functions. -/
import Derived.Test.YtaejmcgcfopmkaaJf
namespace Go.Proofs.Ytaejmcgcfopmkaa
open Go Go.RowKit
noncomputable def FR_ : FuncId → EP := withS 27 (natSS 1000000 sameS) FQ
theorem FR_ok : TabP FR_ := withS_ok FQ_ok n_same singSS
def atS (L : Smp) (i : Nat) : Int × Int := L.getD i (0, 0)
theorem atS_eq {L : Smp} {i : Nat} (h : i < L.length) : L[i] = atS L i := by simp [atS, h]
def cutS (L : Smp) (f h : Nat) : Smp := (L.take h).drop f
def rbStep (k sz al : Int) (L : Smp) (i : Nat) (q : Smp × Nat) : Smp × Nat := if i + 1 = L.length ∨ ¬ sStart (atS L (i + 1)).1 sz al = sStart (atS L i).1 sz al then (q.1 ++ [(sStart (atS L i).1 sz al, rNum k (vals (cutS L q.2 (i + 1))))], i + 1) else q
def rb (k sz al : Int) (L : Smp) : Nat → Smp × Nat
  | 0 => ([], 0)
  | i + 1 => rbStep k sz al L i (rb k sz al L i)
def rbA (k sz al : Int) (L : Smp) : Smp := if sRight k = true ∧ sCan sz al = true ∧ bkOk L = true then (rb k sz al L L.length).1 else []
theorem rbA_neg {k sz al : Int} {L : Smp} (h : sRight k = false ∨ sCan sz al = false ∨ bkOk L = false) : rbA k sz al L = [] := if_neg (by rcases h with h | h | h <;> simp [h])
theorem rbA_nil {k sz al : Int} : rbA k sz al [] = [] := by unfold rbA; split <;> rfl
structure RbI (k sz al : Int) (L : Smp) (out : Smp) (f i : Nat) : Prop where
  hi : i ≤ L.length
  hf : f ≤ i
  ho : out.length ≤ i
  eq : rb k sz al L i = (out, f)
  ok : bkOk (L.take i) = true
theorem RbI.add {k sz al : Int} {L out : Smp} {f i : Nat} (h : RbI k sz al L out f i) (hlt : i < L.length) (ht : sTime L[i].1 = true) (hc : i + 1 = L.length ∨ ¬ sStart (atS L (i + 1)).1 sz al = sStart (atS L i).1 sz al) :
    RbI k sz al L (out ++ [(sStart (atS L i).1 sz al, rNum k (vals (cutS L f (i + 1))))]) (i + 1) (i + 1) := by
  refine ⟨hlt, Nat.le_refl _, by simp; exact h.ho, ?_, bkOk_take hlt h.ok ht⟩
  show rbStep k sz al L i (rb k sz al L i) = _
  rw [h.eq]
  exact if_pos hc
theorem RbI.skip {k sz al : Int} {L out : Smp} {f i : Nat} (h : RbI k sz al L out f i) (hlt : i < L.length) (ht : sTime L[i].1 = true) (hc : ¬ (i + 1 = L.length ∨ ¬ sStart (atS L (i + 1)).1 sz al = sStart (atS L i).1 sz al)) : RbI k sz al L out f (i + 1) := by
  refine ⟨hlt, Nat.le_succ_of_le h.hf, Nat.le_succ_of_le h.ho, ?_, bkOk_take hlt h.ok ht⟩
  show rbStep k sz al L i (rb k sz al L i) = _
  rw [h.eq]
  exact if_neg hc
theorem time_no {t : Int} (h : t < 0 ∨ 1099511627776 < t) : sTime t = false := by simp only [sTime, decide_eq_false_iff_not]; omega
theorem time_yes {t : Int} (h1 : ¬ t < 0) (h2 : ¬ 1099511627776 < t) : sTime t = true := by simp only [sTime, decide_eq_true_eq]; omega
theorem eslice_lh {P : Program} {t e : TypeId} {es b o n c f j : Nat} {i i' : Int} {kk kk' : IntKind} (hu : P.underlying t = some (.slice e)) (hs : tySize P e = some es) (hi : i = (f : Int)) (hi' : i' = (j : Int)) (h1 : f < j) (h2 : j ≤ c) :
    eslice P t (.sl b o n c 0) (some (.int kk i)) (some (.int kk' i')) none = some (.sl b (o + f * es) (j - f) (c - f) 0) := by
  subst hi hi'
  have e1 : ebnd (some (AV.int kk (f : Int))) 0 = some f := rfl
  have e2 : ebnd (some (AV.int kk' (j : Int))) n = some j := rfl
  simp only [eslice, hu, hs, e1, e2]
  simp only [ebnd]
  rw [if_pos ⟨by omega, h2, Nat.le_refl _⟩, if_neg (by omega)]
theorem smp_cut {L : Smp} {f j : Nat} (h1 : f ≤ j) (h2 : j ≤ L.length) : subL (smp L) (0 + f * 2) ((cutS L f j).length * 2) = some (smp (cutS L f j)) ∧ (cutS L f j).length = j - f := by
  have hl : (cutS L f j).length = j - f := by simp [cutS]; omega
  refine ⟨?_, hl⟩
  rw [hl]
  unfold subL
  rw [Nat.ble_eq_true_of_le (by rw [smp_length]; omega), Nat.zero_add, smp_drop]
  rw [show (j - f) * 2 = (j - f) * 2 from rfl, smp_take]
  congr 2
  rw [cutS, List.drop_take]
noncomputable abbrev rbSt (k sz al : Int) (L : Smp) (cap : Nat) (f i : Nat) : Smp → AE × AH
  | [] => (mkE [(0, .si .i64 k), (1, .si .i64 sz), (2, .si .i64 al), (3, .sy 0 0 L.length cap 0), (9, .nsl), (10, .si .i64 f), (11, .si .i64 i)], mkH [(0, .ro (smp L))])
  | y :: o => (mkE [(0, .si .i64 k), (1, .si .i64 sz), (2, .si .i64 al), (3, .sy 0 0 L.length cap 0), (9, .sl 1 0 (o.length + 1) (o.length + 1) 2), (10, .si .i64 f), (11, .si .i64 i)], mkH [(0, .ro (smp L)), (1, .cells (smp (y :: o)) true)])
theorem rb_cov0 {k sz al : Int} {L : Smp} {cap f i p n : Nat} {σ : AE} {H : AH} (hp : p ≤ 1) (e0 : mk (getq (pa 0) σ) = .si .i64 k) (e1 : mk (getq (pa 1) σ) = .si .i64 sz) (e2 : mk (getq (pa 2) σ) = .si .i64 al) (e3 : mk (getq (pa 3) σ) = .sy 0 0 L.length cap 0)
    (e9 : getq (pa 9) σ = .nsl) (e10 : mk (getq (pa 10) σ) = .si .i64 f) (e11 : mk (getq (pa 11) σ) = .si .i64 i) (h0 : H.get 0 = some (.ro (smp L))) : Cov p σ H n ((rbSt k sz al L cap f i []).1, (rbSt k sz al L cap f i []).2, 2) := by
  refine Cov.of (fun b => b) (by omega) (fun b hb => rfl) ?_ ?_ ?_
  · intro x hx
    simp only [List.mem_cons, List.not_mem_nil, or_false] at hx
    rcases hx with rfl | rfl | rfl | rfl | rfl | rfl | rfl
    · exact .int e0
    · exact .int e1
    · exact .int e2
    · exact .sy (by decide) e3
    · exact .flat rfl (congrArg mk e9)
    · exact .int e10
    · exact .int e11
  · intro x hx
    simp only [List.mem_cons, List.not_mem_nil, or_false] at hx
    subst hx
    exact ⟨by simp, _, h0, SubO.ro_mk (smp_flat _) rfl⟩
  · intro x hx y hy
    simp only [List.mem_cons, List.not_mem_nil, or_false] at hx hy
    subst hx hy
    exact fun q => q
theorem rb_cov {k sz al : Int} {L : Smp} {cap f i p n : Nat} {y : Int × Int} {o : Smp} {σ : AE} {H : AH} {l : List AV} (j1 : Nat) (hj : j1 ≠ 0) (hp : p ≤ 1) (e0 : mk (getq (pa 0) σ) = .si .i64 k) (e1 : mk (getq (pa 1) σ) = .si .i64 sz) (e2 : mk (getq (pa 2) σ) = .si .i64 al) (e3 : mk (getq (pa 3) σ) = .sy 0 0 L.length cap 0)
    (e9 : mk (getq (pa 9) σ) = .sy j1 0 (o.length + 1) (o.length + 1) 2) (e10 : mk (getq (pa 10) σ) = .si .i64 f) (e11 : mk (getq (pa 11) σ) = .si .i64 i) (h0 : H.get 0 = some (.ro (smp L))) (h1 : H.get j1 = some (.cells l true)) (hl : l.map mk = smp (y :: o)) : Cov p σ H n ((rbSt k sz al L cap f i (y :: o)).1, (rbSt k sz al L cap f i (y :: o)).2, 2) := by
  refine Cov.of (fun b => if b = 0 then 0 else j1) (by omega) (fun b hb => by rw [if_pos (by omega)]; omega) ?_ ?_ ?_
  · intro x hx
    simp only [List.mem_cons, List.not_mem_nil, or_false] at hx
    rcases hx with rfl | rfl | rfl | rfl | rfl | rfl | rfl
    · exact .int e0
    · exact .int e1
    · exact .int e2
    · exact .sy (by decide) e3
    · exact .sl (by decide) e9
    · exact .int e10
    · exact .int e11
  · intro x hx
    simp only [List.mem_cons, List.not_mem_nil, or_false] at hx
    rcases hx with rfl | rfl
    · exact ⟨by simp, _, h0, SubO.ro_mk (smp_flat L) rfl⟩
    · exact ⟨by simp, _, h1, SubO.cells_mk (smp_flat _) (by rw [hl, smp_map]) (fun q => q)⟩
  · intro x hx y hy
    simp only [List.mem_cons, List.not_mem_nil, or_false] at hx hy
    rcases hx with rfl | rfl <;> rcases hy with rfl | rfl <;> simp <;> omega
set_option maxHeartbeats 8000000 in
set_option maxRecDepth 100000 in
theorem rb_run (k sz al : Int) (L : Smp) (cap : Nat) (hL : L.length ≤ 1000000) (hcap : L.length ≤ cap) : callT FR_ 4 29 [.si .i64 k, .si .i64 sz, .si .i64 al, .sy 0 0 L.length cap 0] (mkH [(0, .ro (smp L))]) 1 fun u H' _ => NewRow (rbA k sz al L) u H' := by
  conv => whnf
  refine Fork.sb (fun hr => ?_) (fun hr => ?_)
  · conv => whnf
    exact .inl ⟨rbA_neg (.inl (name_empty hr)), rfl⟩
  have hr := name_full hr
  conv => whnf
  refine Fork.nsb (fun hc => ?_) (fun hc => ?_)
  · conv => whnf
    exact .inl ⟨rbA_neg (.inr (.inl hc)), rfl⟩
  conv => whnf
  refine LoopP.mk { q : Smp × Nat × Nat // RbI k sz al L q.1 q.2.1 q.2.2 } 2 (fun a => rbSt k sz al L cap a.val.2.1 a.val.2.2 a.val.1) (fun a => L.length - a.val.2.2) ⟨([], 0, 0), ⟨Nat.zero_le _, Nat.le_refl _, Nat.le_refl _, rfl, rfl⟩⟩ ?_ ?_
  · exact rb_cov0 (i := 0) (f := 0) (Nat.le_refl 1) rfl rfl rfl rfl rfl rfl rfl rfl
  · intro ⟨⟨out, f, i⟩, hI⟩
    obtain ⟨hi, hf, ho, heq, hok⟩ := id hI
    dsimp only at hi hf ho heq hok
    cases out with
    | nil =>
      conv => whnf
      refine Fork.dec (fun h1 => ?_) (fun h1 => ?_)
      · have h2 : i < L.length := Int.ofNat_lt.1 h1
        have hlt : L.length - (i + 1) < L.length - i := by omega
        have hw : IntKind.i64.wrap ((i : Int) + 1) = ((i + 1 : Nat) : Int) := by rw [wrap_i64_of (x := (i : Int) + 1) (by omega) (by omega)]; omega
        have hcl := smp_cut (L := L) (f := f) (j := i + 1) (by omega) (by omega)
        conv => whnf
        refine Idx.mk i rfl h2 ?_
        conv => whnf
        refine optP_of (smp_nth0 h2 (by show 0 + i * 2 + 0 = i * 2; omega)) ?_
        conv => whnf
        refine Fork.dec (fun h3 => ?_) (fun h3 => ?_)
        · conv => whnf
          exact .inl ⟨rbA_neg (.inr (.inr (bkOk_no h2 (time_no (.inl h3))))), rfl⟩
        conv => whnf
        refine Idx.mk i rfl h2 ?_
        conv => whnf
        refine optP_of (smp_nth0 h2 (by show 0 + i * 2 + 0 = i * 2; omega)) ?_
        conv => whnf
        refine Fork.dec (fun h4 => ?_) (fun h4 => ?_)
        · conv => whnf
          exact .inl ⟨rbA_neg (.inr (.inr (bkOk_no h2 (time_no (.inr h4))))), rfl⟩
        have ht := time_yes h3 h4
        conv => whnf
        refine Idx.mk i rfl h2 ?_
        conv => whnf
        refine optP_of (smp_nth0 h2 (by show 0 + i * 2 + 0 = i * 2; omega)) ?_
        conv => whnf
        refine Fork.dec (fun h5 => ?_) (fun h5 => ?_)
        rotate_left 1
        have h6 : ¬ i + 1 = L.length := fun q => h5 (hw.trans (by rw [q]))
        have h7 : i + 1 < L.length := by omega
        conv => whnf
        refine Idx.mk (i + 1) hw h7 ?_
        conv => whnf
        refine optP_of (smp_nth0 h7 (by show 0 + (i + 1) * 2 + 0 = (i + 1) * 2; omega)) ?_
        conv => whnf
        refine Fork.ndec (fun h8 => ?_) (fun h8 => ?_)
        rotate_left 1
        · have hno : ¬ (i + 1 = L.length ∨ ¬ sStart (atS L (i + 1)).1 sz al = sStart (atS L i).1 sz al) := by
            rw [← atS_eq h7, ← atS_eq h2]
            exact fun q => q.elim h6 (fun q => q h8)
          conv => whnf
          exact ⟨⟨([], f, i + 1), hI.skip h2 ht hno⟩, hlt, rb_cov0 (Nat.le_refl 1) rfl rfl rfl rfl rfl rfl (congrArg (AV.si .i64) hw) rfl⟩
        all_goals
          have hadd : i + 1 = L.length ∨ ¬ sStart (atS L (i + 1)).1 sz al = sStart (atS L i).1 sz al := by
            first
              | (exact .inr (by rw [← atS_eq h7, ← atS_eq h2]; exact h8))
              | (refine .inl ?_
                 have : ((i + 1 : Nat) : Int) = (L.length : Int) := hw.symm.trans h5
                 omega)
          have hz : (sStart L[i].1 sz al, rNum k (vals (cutS L f (i + 1)))) = (sStart (atS L i).1 sz al, rNum k (vals (cutS L f (i + 1)))) := by rw [atS_eq h2]
          conv => whnf
          refine Ask.mk _ (eslice_lh (f := f) (j := i + 1) (es := 2) rfl rfl rfl hw (by omega) (by omega)) ?_
          conv => whnf
          refine ⟨cutS L f (i + 1), .inr ⟨0, 0 + f * 2, cap - f, 0, smp L, smp (cutS L f (i + 1)), ?_, .inl rfl, hcl.1, smp_map _, by omega⟩, by omega, ?_⟩
          · exact (show _ = AV.sl 0 (0 + f * 2) (i + 1 - f) (cap - f) 0 from rfl).trans (by rw [hcl.2])
          conv => whnf
          refine ⟨⟨([] ++ [_], i + 1, i + 1), hI.add h2 ht hadd⟩, hlt, rb_cov (o := []) 3 (by decide) (Nat.le_refl 1) rfl rfl rfl rfl rfl (congrArg (AV.si .i64) hw) (congrArg (AV.si .i64) hw) rfl rfl ?_⟩
          exact Eq.trans rfl (show smp [(sStart L[i].1 sz al, rNum k (vals (cutS L f (i + 1))))] = _ from congrArg (fun z => smp [z]) hz)
      · conv => whnf
        have h3 : i = L.length := by have : ¬ (i : Int) < (L.length : Int) := h1; omega
        subst h3
        rw [List.take_length] at hok
        have e2 : rbA k sz al L = [] := by
          unfold rbA
          rw [if_pos ⟨hr, hc, hok⟩, heq]
        exact .inl ⟨e2, rfl⟩
    | cons y o =>
      conv => whnf
      refine Fork.dec (fun h1 => ?_) (fun h1 => ?_)
      · have h2 : i < L.length := Int.ofNat_lt.1 h1
        have hlt : L.length - (i + 1) < L.length - i := by omega
        have hw : IntKind.i64.wrap ((i : Int) + 1) = ((i + 1 : Nat) : Int) := by rw [wrap_i64_of (x := (i : Int) + 1) (by omega) (by omega)]; omega
        have hcl := smp_cut (L := L) (f := f) (j := i + 1) (by omega) (by omega)
        conv => whnf
        refine Idx.mk i rfl h2 ?_
        conv => whnf
        refine optP_of (smp_nth0 h2 (by show 0 + i * 2 + 0 = i * 2; omega)) ?_
        conv => whnf
        refine Fork.dec (fun h3 => ?_) (fun h3 => ?_)
        · conv => whnf
          exact .inl ⟨rbA_neg (.inr (.inr (bkOk_no h2 (time_no (.inl h3))))), rfl⟩
        conv => whnf
        refine Idx.mk i rfl h2 ?_
        conv => whnf
        refine optP_of (smp_nth0 h2 (by show 0 + i * 2 + 0 = i * 2; omega)) ?_
        conv => whnf
        refine Fork.dec (fun h4 => ?_) (fun h4 => ?_)
        · conv => whnf
          exact .inl ⟨rbA_neg (.inr (.inr (bkOk_no h2 (time_no (.inr h4))))), rfl⟩
        have ht := time_yes h3 h4
        conv => whnf
        refine Idx.mk i rfl h2 ?_
        conv => whnf
        refine optP_of (smp_nth0 h2 (by show 0 + i * 2 + 0 = i * 2; omega)) ?_
        conv => whnf
        refine Fork.dec (fun h5 => ?_) (fun h5 => ?_)
        rotate_left 1
        have h6 : ¬ i + 1 = L.length := fun q => h5 (hw.trans (by rw [q]))
        have h7 : i + 1 < L.length := by omega
        conv => whnf
        refine Idx.mk (i + 1) hw h7 ?_
        conv => whnf
        refine optP_of (smp_nth0 h7 (by show 0 + (i + 1) * 2 + 0 = (i + 1) * 2; omega)) ?_
        conv => whnf
        refine Fork.ndec (fun h8 => ?_) (fun h8 => ?_)
        rotate_left 1
        · have hno : ¬ (i + 1 = L.length ∨ ¬ sStart (atS L (i + 1)).1 sz al = sStart (atS L i).1 sz al) := by
            rw [← atS_eq h7, ← atS_eq h2]
            exact fun q => q.elim h6 (fun q => q h8)
          conv => whnf
          exact ⟨⟨(y :: o, f, i + 1), hI.skip h2 ht hno⟩, hlt, rb_cov 1 (by decide) (Nat.le_refl 1) rfl rfl rfl rfl rfl rfl (congrArg (AV.si .i64) hw) rfl rfl (smp_map _)⟩
        all_goals
          have hadd : i + 1 = L.length ∨ ¬ sStart (atS L (i + 1)).1 sz al = sStart (atS L i).1 sz al := by
            first
              | (exact .inr (by rw [← atS_eq h7, ← atS_eq h2]; exact h8))
              | (refine .inl ?_
                 have : ((i + 1 : Nat) : Int) = (L.length : Int) := hw.symm.trans h5
                 omega)
          have hz : (sStart L[i].1 sz al, rNum k (vals (cutS L f (i + 1)))) = (sStart (atS L i).1 sz al, rNum k (vals (cutS L f (i + 1)))) := by rw [atS_eq h2]
          conv => whnf
          refine Ask.mk _ (eslice_lh (f := f) (j := i + 1) (es := 2) rfl rfl rfl hw (by omega) (by omega)) ?_
          conv => whnf
          refine ⟨cutS L f (i + 1), .inr ⟨0, 0 + f * 2, cap - f, 0, smp L, smp (cutS L f (i + 1)), ?_, .inl rfl, hcl.1, smp_map _, by omega⟩, by omega, ?_⟩
          · exact (show _ = AV.sl 0 (0 + f * 2) (i + 1 - f) (cap - f) 0 from rfl).trans (by rw [hcl.2])
          conv => whnf
          refine optP_of (app_grow (k := 1) (by' := 16) (m := 1) (sn := o.length + 1) (c := o.length + 1) rfl rfl rfl rfl rfl rfl rfl rfl (by decide) rfl rfl rfl (by omega) (by simp only [List.length_cons] at ho; omega) (subL_all (smp_length (y :: o)))) ?_
          conv => whnf
          refine ⟨⟨(y :: (o ++ [(sStart (atS L i).1 sz al, rNum k (vals (cutS L f (i + 1))))]), i + 1, i + 1), hI.add h2 ht hadd⟩, hlt, rb_cov (k := k) (sz := sz) (al := al) (L := L) (cap := cap) (y := y) (o := o ++ [(sStart (atS L i).1 sz al, rNum k (vals (cutS L f (i + 1))))]) (f := i + 1) (i := i + 1) 3 (by decide) (Nat.le_refl 1) rfl rfl rfl rfl ?_ (congrArg (AV.si .i64) hw) (congrArg (AV.si .i64) hw) rfl rfl ?_⟩
          · exact (show mk _ = AV.sy 3 0 (o.length + 1 + 1) (o.length + 1 + 1) 2 from rfl).trans (by simp)
          · exact Eq.trans (snoc_map (y :: o) (sStart L[i].1 sz al) (rNum k (vals (cutS L f (i + 1)))) (smp_map _)) (congrArg (fun z => smp ((y :: o) ++ [z])) hz)
      · conv => whnf
        have h3 : i = L.length := by have : ¬ (i : Int) < (L.length : Int) := h1; omega
        subst h3
        rw [List.take_length] at hok
        have e2 : rbA k sz al L = y :: o := by
          unfold rbA
          rw [if_pos ⟨hr, hc, hok⟩, heq]
        refine .inr ⟨by rw [e2]; simp, 1, o.length + 1, _, ?_, by rw [e2]; simp, rfl, (smp_map _).trans (congrArg smp e2.symm)⟩
        exact (show _ = AV.sl 1 0 (o.length + 1) (o.length + 1) 2 from rfl).trans (by rw [e2]; simp)
end Go.Proofs.Ytaejmcgcfopmkaa
namespace Go.Proofs.Ytaejmcgcfopmkaa
open Go Go.RowKit
set_option maxHeartbeats 4000000 in
set_option maxRecDepth 100000 in
theorem rb_nil (k sz al : Int) : callT FR_ 4 29 [.si .i64 k, .si .i64 sz, .si .i64 al, .nsl] .nil 0 fun u H' _ => NewRow (rbA k sz al []) u H' := by
  conv => whnf
  refine Fork.sb (fun hr => ?_) (fun hr => ?_)
  · conv => whnf
    exact .inl ⟨rbA_nil, rfl⟩
  conv => whnf
  refine Fork.nsb (fun hc => ?_) (fun hc => ?_)
  · conv => whnf
    exact .inl ⟨rbA_nil, rfl⟩
  conv => whnf
  refine LoopP.roll 1 ?_
  conv => whnf
  exact .inl ⟨rbA_nil, rfl⟩
theorem n_rbuckets : NatP 29 (natB 1000000 rbA) := natB_ok FR_ok (by kernel_rfl) rb_nil rb_run
theorem cut_snoc {L : Smp} {f i : Nat} (hf : f ≤ i) (hi : i < L.length) : cutS L f (i + 1) = cutS L f i ++ [atS L i] := by
  unfold cutS
  rw [List.take_succ_eq_append_getElem hi, List.drop_append_of_le_length (by rw [List.length_take]; omega), atS_eq hi]
theorem cut_one {L : Smp} {i : Nat} (hi : i < L.length) : cutS L i (i + 1) = [atS L i] := by
  rw [cut_snoc (Nat.le_refl _) hi]
  simp [cutS]
theorem aAll_snoc (L : Smp) (x : Int × Int) : aAll (L ++ [x]) = aAdd (aAll L) x.2 := by unfold aAll; rw [List.foldl_append]; rfl
theorem aAll_one (x : Int × Int) : aAll [x] = aAdd ss0 x.2 := rfl
/-- A bucket that is not closed yet. -/
structure Open_ (k sz al : Int) (L : Smp) (c : BK) (f i : Nat) : Prop where
  hf : f ≤ i
  hs : c.s = aAll (cutS L f (i + 1))
  hv : c.v = aV k c.s
  hb : c.b = sStart (atS L i).1 sz al
  eq : rb k sz al L (i + 1) = rbStep k sz al L i (c.pre, f)
theorem num_v {k : Int} {L : Smp} (hr : sRight k = true) (hL : ∀ x ∈ L, In64 x.2) (hl : L.length < 4611686018427387904) : rNum k (vals L) = aV k (aAll L) := by
  rw [← (num_eq hL hl).1]
  unfold aNum aV
  rw [if_pos hr]
theorem in_cut {L : Smp} {f j : Nat} (hL : ∀ x ∈ L, In64 x.2) : ∀ x ∈ cutS L f j, In64 x.2 := fun x hx => hL x (List.mem_of_mem_take (List.mem_of_mem_drop hx))
theorem Open_.close {k sz al : Int} {L : Smp} {c : BK} {f i : Nat} (h : Open_ k sz al L c f i) (hr : sRight k = true) (hL : ∀ x ∈ L, In64 x.2) (hi : i < L.length) (hl : L.length ≤ 1000000) :
    rb k sz al L (i + 1) = if i + 1 = L.length ∨ ¬ sStart (atS L (i + 1)).1 sz al = c.b then (c.out, i + 1) else (c.pre, f) := by
  rw [h.eq]
  unfold rbStep
  have hlen := (smp_cut (L := L) (f := f) (j := i + 1) (by have := h.hf; omega) hi).2
  have e : rNum k (vals (cutS L f (i + 1))) = aV k (aAll (cutS L f (i + 1))) := num_v hr (in_cut hL) (by omega)
  dsimp only
  rw [e, ← h.hs, ← h.hv, ← h.hb]
  rfl
theorem Open_.next {k sz al : Int} {L : Smp} {c : BK} {f i : Nat} (h : Open_ k sz al L c f i) (hr : sRight k = true) (hL : ∀ x ∈ L, In64 x.2) (hi : i + 1 < L.length) (hl : L.length ≤ 1000000) : ∃ g, Open_ k sz al L (bkStep k sz al c (atS L (i + 1))) g (i + 1) := by
  have hcl := h.close hr hL (by omega) hl
  by_cases hb : c.b = sStart (atS L (i + 1)).1 sz al
  · rw [if_neg (by rw [← hb]; simp; omega)] at hcl
    rw [bkStep_same hb]
    refine ⟨f, Nat.le_succ_of_le h.hf, ?_, rfl, hb, ?_⟩
    · rw [cut_snoc (Nat.le_succ_of_le h.hf) hi, aAll_snoc, ← h.hs]; rfl
    · show rbStep k sz al L (i + 1) (rb k sz al L (i + 1)) = _
      rw [hcl]; rfl
  · rw [if_pos (.inr (fun q => hb q.symm))] at hcl
    rw [bkStep_new hb]
    refine ⟨i + 1, Nat.le_refl _, ?_, rfl, rfl, ?_⟩
    · rw [cut_one hi, aAll_one]; rfl
    · show rbStep k sz al L (i + 1) (rb k sz al L (i + 1)) = _
      rw [hcl]; rfl
theorem open_all {k sz al : Int} {x : Int × Int} {r : Smp} (hr : sRight k = true) (hL : ∀ y ∈ x :: r, In64 y.2) (hl : (x :: r).length ≤ 1000000) : ∀ i, i ≤ r.length → ∃ f, Open_ k sz al (x :: r) (bkAll k sz al x (r.take i)) f i
  | 0, _ => ⟨0, Nat.le_refl _, rfl, rfl, rfl, rfl⟩
  | i + 1, hi => by
    obtain ⟨f, h⟩ := open_all (k := k) (sz := sz) (al := al) hr hL hl i (by omega)
    obtain ⟨g, h2⟩ := h.next hr hL (by simp; omega) hl
    refine ⟨g, ?_⟩
    rw [bkAll_take (show i < r.length by omega)]
    have : atS (x :: r) (i + 1) = r[i] := by rw [← atS_eq (by simp; omega)]; rfl
    rw [this] at h2
    exact h2
theorem buckets_eq {k sz al : Int} {L : Smp} (hL : ∀ y ∈ L, In64 y.2) (hl : L.length ≤ 1000000) : bkA k sz al L = rbA k sz al L := by
  by_cases h : sRight k = true ∧ sCan sz al = true ∧ bkOk L = true
  · unfold bkA rbA
    rw [if_pos h, if_pos h]
    cases L with
    | nil => rfl
    | cons x r =>
      obtain ⟨f, h2⟩ := open_all (k := k) (sz := sz) (al := al) h.1 hL hl r.length (Nat.le_refl _)
      have hcl := h2.close h.1 hL (by simp) hl
      rw [if_pos (.inl rfl), List.take_length] at hcl
      show (bkAll k sz al x r).out = (rb k sz al (x :: r) (r.length + 1)).1
      rw [hcl]
  · unfold bkA rbA
    rw [if_neg h, if_neg h]
theorem bkA_len {k sz al : Int} (L : Smp) : (bkA k sz al L).length ≤ L.length := by
  unfold bkA
  split
  · cases L with
    | nil => exact Nat.le_refl _
    | cons x r =>
      have := bk_len (k := k) (sz := sz) (al := al) (x := x) r
      simp only [BK.out, List.length_append, List.length_cons, List.length_nil]
      omega
  · exact Nat.zero_le _
end Go.Proofs.Ytaejmcgcfopmkaa
namespace Go.Proofs.Ytaejmcgcfopmkaa
open Go Go.RowKit
def d_tachographlaw06AggBuckets : DT := [(3, [(some 0, [0]), (some 0, [4]), (some 0, [12]), (some 0, [4]), (some 0, [14]), (some 0, [2]), (none, [11, 13, 15, 16]), (some 1, [0]), (some 2, [4]), (some 3, [19]), (some 4, [4]), (some 5, [21]), (some 6, [2]), (none, [18, 20, 22, 23]), (none, [17, 24]), (some 0, [25]), (none, [26]), (some 0, [26, 27]), (some 0, [28])])]
noncomputable def FT : FuncId → EP := withD 5 d_tachographlaw06AggBuckets (withS 29 (natB 1000000 rbA) FR_)
theorem FT_ok : TabP FT := withD_ok (withS_ok FR_ok n_rbuckets singB) (by kernel_rfl) (by kernel_rfl)
set_option maxHeartbeats 8000000 in
set_option maxRecDepth 100000 in
theorem w_aggBuckets (k s a : Int) (L : Smp) (cap : Nat) (hin : ∀ x ∈ L, In64 x.1 ∧ In64 x.2) (_ : L.length ≤ 8796093022208) (hc : L.length ≤ cap) : callT FT 4 5 [.si .i64 k, .agg [.si .i64 s, .si .i64 a], .sy 0 0 L.length cap 0] (mkH [(0, .ro (smp L))]) 1 fun v _ _ => v = .bool true ∨ v = .sb true := by
  conv => whnf
  refine Fork.dec (fun h1 => ?_) (fun h1 => ?_)
  · conv => whnf
    exact .inl rfl
  have hl : L.length ≤ 80 := by have : ¬ (80 : Int) < (L.length : Int) := h1; omega
  have hE := buckets_eq (k := k) (sz := s) (al := a) (fun y hy => (hin y hy).2) (show L.length ≤ 1000000 by omega)
  have hR := bkA_len (k := k) (sz := s) (al := a) L
  have hsame : sameS (bkA k s a L) (rbA k s a L) = true := by rw [← hE]; simp [sameS]
  conv => whnf
  refine ⟨L, .inr ⟨0, 0, cap, 0, smp L, smp L, rfl, .inl rfl, smp_whole L, smp_map L, hc⟩, by omega, fun hn => ?_, fun hn => ⟨⟨rfl, by decide⟩, ?_⟩⟩
  · conv => whnf
    refine ⟨L, .inr ⟨0, 0, cap, 0, smp L, smp L, rfl, .inl rfl, smp_whole L, smp_map L, hc⟩, by omega, fun hm => ?_, fun hm => absurd (hE.symm.trans hn) hm⟩
    conv => whnf
    refine ⟨[], [], .inl ⟨rfl, rfl⟩, .inl ⟨rfl, rfl⟩, by decide, by decide, ?_⟩
    conv => whnf
    refine Fork.sb (fun _ => ?_) (fun h => absurd h (by decide))
    conv => whnf
    exact .inl rfl
  · conv => whnf
    refine ⟨L, .inr ⟨0, 0, cap, 0, smp L, smp L, rfl, .inl rfl, smp_whole L, smp_map L, hc⟩, by omega, fun hm => absurd (hE.trans hm) hn, fun hm => ⟨⟨rfl, by decide⟩, ?_⟩⟩
    conv => whnf
    refine ⟨bkA k s a L, rbA k s a L, .inr ⟨2, 0, (bkA k s a L).length, 2, smp (bkA k s a L), smp (bkA k s a L), rfl, .inr ⟨_, rfl⟩, smp_whole _, smp_map _, Nat.le_refl _⟩, .inr ⟨3, 0, (rbA k s a L).length, 2, smp (rbA k s a L), smp (rbA k s a L), rfl, .inr ⟨_, rfl⟩, smp_whole _, smp_map _, Nat.le_refl _⟩, by omega, by rw [← hE]; omega, ?_⟩
    conv => whnf
    refine Fork.sb (fun _ => ?_) (fun h => absurd h (by rw [hsame]; decide))
    conv => whnf
    exact .inl rfl
set_option maxHeartbeats 8000000 in
set_option maxRecDepth 100000 in
theorem w_aggBuckets0 (k s a : Int) : callT FT 4 5 [.si .i64 k, .agg [.si .i64 s, .si .i64 a], .nsl] .nil 0 fun v _ _ => v = .bool true ∨ v = .sb true := by
  conv => whnf
  refine ⟨[], .inl ⟨rfl, rfl⟩, by decide, fun _ => ?_, fun hn => absurd bkA_nil hn⟩
  conv => whnf
  refine ⟨[], .inl ⟨rfl, rfl⟩, by decide, fun _ => ?_, fun hn => absurd rbA_nil hn⟩
  conv => whnf
  refine ⟨[], [], .inl ⟨rfl, rfl⟩, .inl ⟨rfl, rfl⟩, by decide, by decide, ?_⟩
  conv => whnf
  refine Fork.sb (fun _ => ?_) (fun h => absurd h (by decide))
  conv => whnf
  exact .inl rfl
end Go.Proofs.Ytaejmcgcfopmkaa
namespace Go.Proofs.Ytaejmcgcfopmkaa
open Go Go.RowKit
def segF (k sz al : Int) (h : Smp) : Int × Int := (sStart (h.headD (0, 0)).1 sz al, aV k (aAll h))
def SegOk (sz al : Int) (h : Smp) : Prop := h ≠ [] ∧ ∀ y ∈ h, sStart y.1 sz al = sStart (h.headD (0, 0)).1 sz al
structure SegI (k sz al : Int) (L : Smp) (c : BK) (gs : List Smp) (g : Smp) : Prop where
  flat : gs.flatten ++ g = L
  pre : c.pre = gs.map (segF k sz al)
  ok : ∀ h ∈ gs, SegOk sz al h
  last : SegOk sz al g
  s : c.s = aAll g
  v : c.v = aV k c.s
  b : c.b = sStart (g.headD (0, 0)).1 sz al
  chain : ∀ (i : Nat) (h h' : Smp), (gs ++ [g])[i]? = some h → (gs ++ [g])[i + 1]? = some h' → ¬ sStart (h.headD (0, 0)).1 sz al = sStart (h'.headD (0, 0)).1 sz al
theorem head_append {g : Smp} {x : Int × Int} (h : g ≠ []) : (g ++ [x]).headD (0, 0) = g.headD (0, 0) := by cases g with
  | nil => exact absurd rfl h
  | cons y g => rfl
theorem SegI.step {k sz al : Int} {L : Smp} {c : BK} {gs : List Smp} {g : Smp} (h : SegI k sz al L c gs g) (x : Int × Int) : ∃ gs' g', SegI k sz al (L ++ [x]) (bkStep k sz al c x) gs' g' := by
  by_cases hb : c.b = sStart x.1 sz al
  · rw [bkStep_same hb]
    refine ⟨gs, g ++ [x], ?_, h.pre, h.ok, ⟨by simp, fun y hy => ?_⟩, ?_, rfl, ?_, ?_⟩
    · rw [← List.append_assoc, h.flat]
    · rw [head_append h.last.1]
      rcases List.mem_append.1 hy with hy | hy
      · exact h.last.2 y hy
      · simp only [List.mem_singleton] at hy
        subst hy
        rw [← hb, h.b]
    · rw [aAll_snoc, ← h.s]; rfl
    · rw [head_append h.last.1]; exact h.b
    · intro i p q hp hq
      by_cases hi : i + 1 < gs.length
      · refine h.chain i p q ?_ ?_
        · rw [List.getElem?_append_left (by omega)] at hp ⊢; exact hp
        · rw [List.getElem?_append_left hi] at hq ⊢; exact hq
      · by_cases hi2 : i + 1 = gs.length
        · rw [List.getElem?_append_right (by omega), show i + 1 - gs.length = 0 from by omega] at hq
          simp only [List.getElem?_cons_zero, Option.some.injEq] at hq
          subst hq
          rw [head_append h.last.1]
          refine h.chain i p g ?_ ?_
          · rw [List.getElem?_append_left (by omega)] at hp ⊢; exact hp
          · rw [List.getElem?_append_right (by omega), show i + 1 - gs.length = 0 from by omega]; rfl
        · have := (List.getElem?_eq_some_iff.1 hq).1
          simp at this
          omega
  · rw [bkStep_new hb]
    refine ⟨gs ++ [g], [x], ?_, ?_, ?_, ⟨by simp, fun y hy => ?_⟩, aAll_one x, rfl, rfl, ?_⟩
    · rw [List.flatten_append, List.flatten_cons, List.flatten_nil, List.append_nil, h.flat]
    · show c.out = _
      rw [List.map_append, ← h.pre]
      simp only [BK.out, List.map_cons, List.map_nil, segF]
      rw [h.v, h.s, h.b]
    · intro p hp
      rcases List.mem_append.1 hp with hp | hp
      · exact h.ok p hp
      · simp only [List.mem_singleton] at hp
        subst hp
        exact h.last
    · simp only [List.mem_singleton] at hy
      subst hy; rfl
    · intro i p q hp hq
      by_cases hi : i + 1 < (gs ++ [g]).length
      · refine h.chain i p q ?_ ?_
        · rw [List.getElem?_append_left (by omega)] at hp; exact hp
        · rw [List.getElem?_append_left hi] at hq; exact hq
      · by_cases hi2 : i + 1 = (gs ++ [g]).length
        · rw [List.getElem?_append_right (by omega), show i + 1 - (gs ++ [g]).length = 0 from by omega] at hq
          simp only [List.getElem?_cons_zero, Option.some.injEq] at hq
          subst hq
          rw [List.getElem?_append_left (by omega)] at hp
          simp only [List.length_append, List.length_cons, List.length_nil] at hi2
          rw [List.getElem?_append_right (by omega), show i - gs.length = 0 from by omega] at hp
          simp only [List.getElem?_cons_zero, Option.some.injEq] at hp
          subst hp
          rw [← h.b]
          exact hb
        · have := (List.getElem?_eq_some_iff.1 hq).1
          simp only [List.length_append, List.length_cons, List.length_nil] at this hi hi2
          omega
theorem seg_fold {k sz al : Int} : ∀ (r : Smp) {L : Smp} {c : BK} {gs : List Smp} {g : Smp}, SegI k sz al L c gs g → ∃ gs' g', SegI k sz al (L ++ r) (r.foldl (bkStep k sz al) c) gs' g'
  | [], L, c, gs, g, h => ⟨gs, g, by rw [List.append_nil]; exact h⟩
  | x :: r, L, c, gs, g, h => by
    obtain ⟨gs1, g1, h1⟩ := h.step x
    obtain ⟨gs2, g2, h2⟩ := seg_fold r h1
    refine ⟨gs2, g2, ?_⟩
    rw [List.append_assoc] at h2
    exact h2
/-- Buckets' rows. -/
theorem segs {k sz al : Int} {L : Smp} (h1 : sRight k = true) (h2 : sCan sz al = true) (h3 : bkOk L = true) : ∃ gs : List Smp, gs.flatten = L ∧ bkA k sz al L = gs.map (segF k sz al) ∧ (∀ h ∈ gs, SegOk sz al h) ∧
    ∀ (i : Nat) (h h' : Smp), gs[i]? = some h → gs[i + 1]? = some h' → ¬ sStart (h.headD (0, 0)).1 sz al = sStart (h'.headD (0, 0)).1 sz al := by
  cases L with
  | nil => exact ⟨[], rfl, bkA_nil, (fun h q => by cases q), fun i h h' q => by simp at q⟩
  | cons x r =>
    have h0 : SegI k sz al [x] (bkNew k [] (sStart x.1 sz al) x.2) [] [x] := ⟨rfl, rfl, (fun h q => by cases q), ⟨by simp, fun y hy => by simp only [List.mem_singleton] at hy; subst hy; rfl⟩, rfl, rfl, rfl, fun i h h' q q' => by
      have := (List.getElem?_eq_some_iff.1 q').1
      simp at this⟩
    obtain ⟨gs, g, h4⟩ := seg_fold r h0
    refine ⟨gs ++ [g], ?_, ?_, ?_, h4.chain⟩
    · rw [List.flatten_append, List.flatten_cons, List.flatten_nil, List.append_nil, h4.flat]; rfl
    · rw [bkA_pos h1 h2 h3, List.map_append, ← h4.pre]
      show (r.foldl (bkStep k sz al) (bkNew k [] (sStart x.1 sz al) x.2)).out = _
      simp only [BK.out, List.map_cons, List.map_nil, segF]
      rw [h4.v, h4.s, h4.b]
    · intro p hp
      rcases List.mem_append.1 hp with hp | hp
      · exact h4.ok p hp
      · simp only [List.mem_singleton] at hp
        subst hp
        exact h4.last
/-! ### counts, least, greatest -/
def sumW (C : Smp) : Int := C.foldl (fun a x => IntKind.i64.wrap (a + x.2)) 0
theorem sumW_of : ∀ (ls : List Nat) (a : Int), 0 ≤ a → a + (ls.sum : Int) ≤ 4611686018427387904 → ∀ (C : Smp), C.map (·.2) = ls.map (fun n : Nat => (n : Int)) → C.foldl (fun a x => IntKind.i64.wrap (a + x.2)) a = a + (ls.sum : Int)
  | [], a, _, _, C, h => by
    have : C = [] := by simpa using h
    subst this
    simp
  | n :: ls, a, ha, hs, C, h => by
    cases C with
    | nil => simp at h
    | cons x C =>
      simp only [List.map_cons, List.cons.injEq] at h
      simp only [List.sum_cons] at hs ⊢
      simp only [List.foldl_cons, h.1]
      have hn : (0 : Int) ≤ (ls.sum : Int) := Int.natCast_nonneg _
      push_cast at hs ⊢
      rw [wrap_i64_of (by omega) (by omega), sumW_of ls (a + n) (by omega) (by omega) C h.2]
      omega
theorem count_v {h : Smp} (hne : h ≠ []) (hL : ∀ x ∈ h, In64 x.2) (hl : h.length < 4611686018427387904) : aV 4 (aAll h) = (h.length : Int) := by
  obtain ⟨_, _, h3⟩ := num_eq (k := 4) hL hl
  have : 0 < h.length := List.length_pos_iff.2 hne
  unfold aV
  rw [h3, if_neg (by omega)]
  show (aAll h).n = _
  exact h3
theorem mem_seg {gs : List Smp} {L : Smp} (hf : gs.flatten = L) {h : Smp} (hh : h ∈ gs) {x : Int × Int} (hx : x ∈ h) : x ∈ L := by
  rw [← hf]; exact List.mem_flatten.2 ⟨h, hh, hx⟩
theorem len_seg {gs : List Smp} {L : Smp} (hf : gs.flatten = L) {h : Smp} (hh : h ∈ gs) : h.length ≤ L.length := by
  rw [← hf]
  clear hf
  induction gs with
  | nil => cases hh
  | cons g gs ih =>
    simp only [List.flatten_cons, List.length_append]
    rcases List.mem_cons.1 hh with rfl | hh
    · omega
    · have := ih hh; omega
theorem counts_law {sz al : Int} {L : Smp} (h2 : sCan sz al = true) (h3 : bkOk L = true) (hL : ∀ x ∈ L, In64 x.2) (hl : L.length ≤ 1000000) : sumW (bkA 4 sz al L) = (L.length : Int) := by
  obtain ⟨gs, hf, he, hok, _⟩ := segs (k := 4) (by decide) h2 h3
  have hsum : (gs.map List.length).sum = L.length := by rw [← hf, List.length_flatten]
  unfold sumW
  rw [sumW_of (gs.map List.length) 0 (by omega) (by rw [hsum]; omega), hsum]
  · omega
  · rw [he]
    simp only [List.map_map]
    refine List.map_congr_left fun h hh => ?_
    exact count_v (hok h hh).1 (fun x hx => hL x (mem_seg hf hh hx)) (by have := len_seg hf hh; omega)
def leastOf : List Int → Int
  | [] => 0
  | x :: r => r.foldl min x
def greatOf : List Int → Int
  | [] => 0
  | x :: r => r.foldl max x
theorem fold_min : ∀ (r : List Int) (x : Int), r.foldl min x ∈ x :: r ∧ ∀ y ∈ x :: r, r.foldl min x ≤ y
  | [], x => ⟨by simp, by simp⟩
  | z :: r, x => by
    obtain ⟨h1, h2⟩ := fold_min r (min x z)
    simp only [List.foldl_cons]
    have h3 := h2 (min x z) List.mem_cons_self
    refine ⟨?_, fun y hy => ?_⟩
    · rcases List.mem_cons.1 h1 with h | h
      · rw [h]
        by_cases q : x ≤ z
        · rw [Int.min_eq_left q]; simp
        · rw [Int.min_eq_right (by omega)]; simp
      · simp [h]
    · rcases List.mem_cons.1 hy with rfl | hy
      · omega
      · rcases List.mem_cons.1 hy with rfl | hy
        · omega
        · exact h2 y (List.mem_cons_of_mem _ hy)
theorem fold_max : ∀ (r : List Int) (x : Int), r.foldl max x ∈ x :: r ∧ ∀ y ∈ x :: r, y ≤ r.foldl max x
  | [], x => ⟨by simp, by simp⟩
  | z :: r, x => by
    obtain ⟨h1, h2⟩ := fold_max r (max x z)
    simp only [List.foldl_cons]
    have h3 := h2 (max x z) List.mem_cons_self
    refine ⟨?_, fun y hy => ?_⟩
    · rcases List.mem_cons.1 h1 with h | h
      · rw [h]
        by_cases q : x ≤ z
        · rw [Int.max_eq_right q]; simp
        · rw [Int.max_eq_left (by omega)]; simp
      · simp [h]
    · rcases List.mem_cons.1 hy with rfl | hy
      · omega
      · rcases List.mem_cons.1 hy with rfl | hy
        · omega
        · exact h2 y (List.mem_cons_of_mem _ hy)
theorem least_mem {V : List Int} (h : V ≠ []) : leastOf V ∈ V ∧ ∀ y ∈ V, leastOf V ≤ y := by
  cases V with
  | nil => exact absurd rfl h
  | cons x r => exact fold_min r x
theorem great_mem {V : List Int} (h : V ≠ []) : greatOf V ∈ V ∧ ∀ y ∈ V, y ≤ greatOf V := by
  cases V with
  | nil => exact absurd rfl h
  | cons x r => exact fold_max r x
theorem least_same {V W : List Int} (hV : V ≠ []) (hW : W ≠ []) (h1 : ∀ z ∈ W, z ∈ V) (h2 : ∀ y ∈ V, ∃ z ∈ W, z ≤ y) : leastOf W = leastOf V := by
  obtain ⟨a1, a2⟩ := least_mem hV
  obtain ⟨b1, b2⟩ := least_mem hW
  obtain ⟨z, c1, c2⟩ := h2 _ a1
  have := a2 _ (h1 _ b1)
  have := b2 z c1
  omega
theorem great_same {V W : List Int} (hV : V ≠ []) (hW : W ≠ []) (h1 : ∀ z ∈ W, z ∈ V) (h2 : ∀ y ∈ V, ∃ z ∈ W, y ≤ z) : greatOf W = greatOf V := by
  obtain ⟨a1, a2⟩ := great_mem hV
  obtain ⟨b1, b2⟩ := great_mem hW
  obtain ⟨z, c1, c2⟩ := h2 _ a1
  have := a2 _ (h1 _ b1)
  have := b2 z c1
  omega
theorem rNum_2 (V : List Int) : rNum 2 V = leastOf V := by cases V <;> rfl
theorem rNum_3 (V : List Int) : rNum 3 V = greatOf V := by cases V <;> rfl
theorem vals_ne {L : Smp} (h : L ≠ []) : vals L ≠ [] := by simpa [vals] using h
theorem rHas_eq {k : Int} {V W : List Int} (h : V = [] ↔ W = []) : rHas k V = rHas k W := by
  unfold rHas
  cases V <;> cases W <;> simp_all
theorem ends_law {sz al : Int} {L : Smp} (h2 : sCan sz al = true) (h3 : bkOk L = true) (hL : ∀ x ∈ L, In64 x.2) (hl : L.length ≤ 1000000) :
    (aNum 2 (bkA 2 sz al L) = aNum 2 L ∧ aHas 2 (bkA 2 sz al L) = aHas 2 L) ∧ aNum 3 (bkA 3 sz al L) = aNum 3 L := by
  have key : ∀ k : Int, sRight k = true → ∀ m : List Int → Int, (∀ V, rNum k V = m V) → (∀ V, V ≠ [] → m V ∈ V) → (∀ V W : List Int, V ≠ [] → W ≠ [] → (∀ z ∈ W, z ∈ V) → (∀ G : List (List Int), G.flatten = V → W = G.map m → (∀ g ∈ G, g ≠ []) → m W = m V)) →
      aNum k (bkA k sz al L) = aNum k L ∧ aHas k (bkA k sz al L) = aHas k L := by
    intro k hr m hm hmem hsame
    obtain ⟨gs, hf, he, hok, _⟩ := segs (k := k) hr h2 h3
    have hv : ∀ h ∈ gs, aV k (aAll h) = m (vals h) := fun h hh => by
      rw [← hm, num_v hr (fun x hx => hL x (mem_seg hf hh hx)) (by have := len_seg hf hh; omega)]
    have hW : vals (bkA k sz al L) = (gs.map vals).map m := by
      rw [he]
      simp only [vals, List.map_map]
      exact List.map_congr_left fun h hh => hv h hh
    have hin : ∀ z ∈ vals (bkA k sz al L), z ∈ vals L := fun z hz => by
      rw [hW] at hz
      simp only [List.map_map, List.mem_map, Function.comp] at hz
      obtain ⟨h, hh, rfl⟩ := hz
      have h4 := hmem (vals h) (vals_ne (hok h hh).1)
      simp only [vals, List.mem_map] at h4 ⊢
      obtain ⟨x, hx, e⟩ := h4
      exact ⟨x, mem_seg hf hh hx, e⟩
    have hIn : ∀ x ∈ bkA k sz al L, In64 x.2 := fun x hx => by
      have h4 := hin x.2 (by simp only [vals, List.mem_map]; exact ⟨x, hx, rfl⟩)
      simp only [vals, List.mem_map] at h4
      obtain ⟨y, hy, e⟩ := h4
      rw [← e]; exact hL y hy
    have hlen := bkA_len (k := k) (sz := sz) (al := al) L
    obtain ⟨a1, a2, _⟩ := num_eq (k := k) hIn (by omega)
    obtain ⟨b1, b2, _⟩ := num_eq (k := k) hL (by omega)
    have hnil : vals (bkA k sz al L) = [] ↔ vals L = [] := by
      rw [hW]
      constructor
      · intro q
        have : gs = [] := by simpa using q
        rw [← hf, this]; rfl
      · intro q
        have : L = [] := by simpa [vals] using q
        have hg : gs = [] := by
          cases gs with
          | nil => rfl
          | cons g gs =>
            have := (hok g List.mem_cons_self).1
            simp_all
        rw [hg]; rfl
    refine ⟨?_, by rw [a2, b2]; exact rHas_eq hnil⟩
    rw [a1, b1, hm, hm]
    by_cases hV : vals L = []
    · rw [hV, hnil.2 hV]
    · have hWn : vals (bkA k sz al L) ≠ [] := fun q => hV (hnil.1 q)
      refine hsame _ _ hV hWn hin (gs.map vals) ?_ hW (fun g hg => ?_)
      · rw [← hf]
        simp only [vals, List.map_flatten]
        rfl
      · simp only [List.mem_map] at hg
        obtain ⟨h, hh, rfl⟩ := hg
        exact vals_ne (hok h hh).1
  refine ⟨key 2 (by decide) leastOf rNum_2 (fun V h => (least_mem h).1) fun V W hV hW h1 G hG hWG hne => ?_, (key 3 (by decide) greatOf rNum_3 (fun V h => (great_mem h).1) fun V W hV hW h1 G hG hWG hne => ?_).1⟩
  · refine least_same hV hW h1 fun y hy => ?_
    rw [← hG] at hy
    obtain ⟨g, hg, hyg⟩ := List.mem_flatten.1 hy
    exact ⟨leastOf g, by rw [hWG]; exact List.mem_map_of_mem hg, (least_mem (hne g hg)).2 y hyg⟩
  · refine great_same hV hW h1 fun y hy => ?_
    rw [← hG] at hy
    obtain ⟨g, hg, hyg⟩ := List.mem_flatten.1 hy
    exact ⟨greatOf g, by rw [hWG]; exact List.mem_map_of_mem hg, (great_mem (hne g hg)).2 y hyg⟩
end Go.Proofs.Ytaejmcgcfopmkaa
namespace Go.Proofs.Ytaejmcgcfopmkaa
open Go Go.RowKit
def okF (L : Smp) : Smp := L.filter fun x => sTime x.1
theorem okF_yes {L : Smp} {i : Nat} (h : i < L.length) (ht : sTime L[i].1 = true) : okF (L.take (i + 1)) = okF (L.take i) ++ [L[i]] := by
  unfold okF
  rw [List.take_succ_eq_append_getElem h, List.filter_append]
  simp [ht]
theorem okF_no {L : Smp} {i : Nat} (h : i < L.length) (ht : sTime L[i].1 = false) : okF (L.take (i + 1)) = okF (L.take i) := by
  unfold okF
  rw [List.take_succ_eq_append_getElem h, List.filter_append]
  simp [ht]
theorem okF_ok (L : Smp) : bkOk (okF L) = true := by
  unfold bkOk okF
  simp
theorem okF_mem {L : Smp} {x : Int × Int} (h : x ∈ okF L) : x ∈ L := (List.mem_filter.1 h).1
theorem bkA_ne {k sz al : Int} {L : Smp} (h1 : sRight k = true) (h2 : sCan sz al = true) (h3 : bkOk L = true) (h : L ≠ []) : bkA k sz al L ≠ [] := by
  cases L with
  | nil => exact absurd rfl h
  | cons x r => rw [bkA_pos h1 h2 h3]; simp [BK.out]
noncomputable abbrev cSt (L : Smp) (cap : Nat) (sz al : Int) (i : Nat) : Smp → AE × AH
  | [] => (mkE [(1, .sy 0 0 L.length cap 0), (5, .si .i64 sz), (6, .si .i64 al), (7, .nsl), (8, .si .i64 i)], mkH [(0, .ro (smp L))])
  | y :: o => (mkE [(1, .sy 0 0 L.length cap 0), (5, .si .i64 sz), (6, .si .i64 al), (7, .sl 1 0 (o.length + 1) (o.length + 1) 2), (8, .si .i64 i)], mkH [(0, .ro (smp L)), (1, .cells (smp (y :: o)) true)])
theorem c_cov0 {L : Smp} {cap i p n : Nat} {sz al : Int} {σ : AE} {H : AH} (hp : p ≤ 1) (e1 : mk (getq (pa 1) σ) = .sy 0 0 L.length cap 0) (e5 : mk (getq (pa 5) σ) = .si .i64 sz) (e6 : mk (getq (pa 6) σ) = .si .i64 al) (e7 : getq (pa 7) σ = .nsl)
    (e8 : mk (getq (pa 8) σ) = .si .i64 i) (h0 : H.get 0 = some (.ro (smp L))) : Cov p σ H n ((cSt L cap sz al i []).1, (cSt L cap sz al i []).2, 2) := by
  refine Cov.of (fun b => b) (by omega) (fun b hb => rfl) ?_ ?_ ?_
  · intro x hx
    simp only [List.mem_cons, List.not_mem_nil, or_false] at hx
    rcases hx with rfl | rfl | rfl | rfl | rfl
    · exact .sy (by decide) e1
    · exact .int e5
    · exact .int e6
    · exact .flat rfl (congrArg mk e7)
    · exact .int e8
  · intro x hx
    simp only [List.mem_cons, List.not_mem_nil, or_false] at hx
    subst hx
    exact ⟨by simp, _, h0, SubO.ro_mk (smp_flat _) rfl⟩
  · intro x hx y hy
    simp only [List.mem_cons, List.not_mem_nil, or_false] at hx hy
    subst hx hy
    exact fun q => q
theorem c_cov {L : Smp} {cap i p n : Nat} {sz al : Int} {y : Int × Int} {o : Smp} {σ : AE} {H : AH} {l : List AV} (j1 : Nat) (hj : j1 ≠ 0) (hp : p ≤ 1) (e1 : mk (getq (pa 1) σ) = .sy 0 0 L.length cap 0) (e5 : mk (getq (pa 5) σ) = .si .i64 sz) (e6 : mk (getq (pa 6) σ) = .si .i64 al)
    (e7 : mk (getq (pa 7) σ) = .sy j1 0 (o.length + 1) (o.length + 1) 2) (e8 : mk (getq (pa 8) σ) = .si .i64 i) (h0 : H.get 0 = some (.ro (smp L))) (h1 : H.get j1 = some (.cells l true)) (hl : l.map mk = smp (y :: o)) : Cov p σ H n ((cSt L cap sz al i (y :: o)).1, (cSt L cap sz al i (y :: o)).2, 2) := by
  refine Cov.of (fun b => if b = 0 then 0 else j1) (by omega) (fun b hb => by rw [if_pos (by omega)]; omega) ?_ ?_ ?_
  · intro x hx
    simp only [List.mem_cons, List.not_mem_nil, or_false] at hx
    rcases hx with rfl | rfl | rfl | rfl | rfl
    · exact .sy (by decide) e1
    · exact .int e5
    · exact .int e6
    · exact .sl (by decide) e7
    · exact .int e8
  · intro x hx
    simp only [List.mem_cons, List.not_mem_nil, or_false] at hx
    rcases hx with rfl | rfl
    · exact ⟨by simp, _, h0, SubO.ro_mk (smp_flat L) rfl⟩
    · exact ⟨by simp, _, h1, SubO.cells_mk (smp_flat _) (by rw [hl, smp_map]) (fun q => q)⟩
  · intro x hx y hy
    simp only [List.mem_cons, List.not_mem_nil, or_false] at hx hy
    rcases hx with rfl | rfl <;> rcases hy with rfl | rfl <;> simp <;> omega
noncomputable def dSt (m : Nat) (I C : Smp) (sz al : Int) (j : Nat) : AE × AH := (mkE [(5, .si .i64 sz), (6, .si .i64 al), (7, .sl 1 0 m m 2), (9, .si .i64 (sumW (C.take j))), (10, .sl 2 0 C.length C.length 2), (11, .si .i64 j)], mkH [(1, .cells (smp I) true), (2, .cells (smp C) true)])
theorem d_cov {m : Nat} {I C : Smp} {j p n : Nat} {sz al : Int} {σ : AE} {H : AH} {l l' : List AV} (hp : p ≤ 3) (e5 : mk (getq (pa 5) σ) = .si .i64 sz) (e6 : mk (getq (pa 6) σ) = .si .i64 al) (e7 : mk (getq (pa 7) σ) = .sy 1 0 m m 2)
    (e9 : mk (getq (pa 9) σ) = .si .i64 (sumW (C.take j))) (e10 : mk (getq (pa 10) σ) = .sy 2 0 C.length C.length 2) (e11 : mk (getq (pa 11) σ) = .si .i64 j) (h1 : H.get 1 = some (.cells l true)) (hl : l.map mk = smp I) (h2 : H.get 2 = some (.cells l' true)) (hl' : l'.map mk = smp C) :
    Cov p σ H n ((dSt m I C sz al j).1, (dSt m I C sz al j).2, 3) := by
  refine Cov.of (fun b => b) hp (fun b hb => rfl) ?_ ?_ ?_
  · intro x hx
    simp only [List.mem_cons, List.not_mem_nil, or_false] at hx
    rcases hx with rfl | rfl | rfl | rfl | rfl | rfl
    · exact .int e5
    · exact .int e6
    · exact .sl (by decide) e7
    · exact .int e9
    · exact .sl (by decide) e10
    · exact .int e11
  · intro x hx
    simp only [List.mem_cons, List.not_mem_nil, or_false] at hx
    rcases hx with rfl | rfl
    · exact ⟨by simp, _, h1, SubO.cells_mk (smp_flat _) (by rw [hl, smp_map]) (fun q => q)⟩
    · exact ⟨by simp, _, h2, SubO.cells_mk (smp_flat _) (by rw [hl', smp_map]) (fun q => q)⟩
  · intro x hx y hy
    simp only [List.mem_cons, List.not_mem_nil, or_false] at hx hy
    rcases hx with rfl | rfl <;> rcases hy with rfl | rfl <;> exact fun q => q
theorem sumW_take {C : Smp} {j : Nat} (h : j < C.length) : sumW (C.take (j + 1)) = IntKind.i64.wrap (sumW (C.take j) + C[j].2) := foldl_take h
theorem size_eq {x : Int} (h : 0 ≤ x ∧ x ≤ 255) : IntKind.i64.wrap (1 + IntKind.i64.wrap x) = 1 + x := by rw [wrap_i64_of (x := x) (by omega) (by omega), wrap_i64_of (by omega) (by omega)]
theorem align_ok {x y : Int} (h : 0 ≤ x ∧ x ≤ 255) (k : 0 ≤ y ∧ y ≤ 255) : sCan (1 + x) ((IntKind.i64.wrap y).tmod (1 + x)) = true := by
  rw [wrap_i64_of (x := y) (by omega) (by omega), Int.tmod_eq_emod_of_nonneg k.1]
  have h1 := Int.emod_nonneg y (show 1 + x ≠ 0 by omega)
  have h2 := Int.emod_lt_of_pos y (show 0 < 1 + x by omega)
  simp only [sCan, decide_eq_true_eq]
  omega
set_option maxHeartbeats 8000000 in
set_option maxRecDepth 100000 in
theorem w_aggCounts (x0 x1 : Int) (hx0 : 0 ≤ x0 ∧ x0 ≤ 255) (hx1 : 0 ≤ x1 ∧ x1 ≤ 255) (L : Smp) (cap : Nat) (hin : ∀ x ∈ L, In64 x.1 ∧ In64 x.2) (_ : L.length ≤ 8796093022208) (hc : L.length ≤ cap) :
    callT FT 4 8 [.agg [.si .u8 x0, .si .u8 x1], .sy 0 0 L.length cap 0] (mkH [(0, .ro (smp L))]) 1 fun v _ _ => v = .bool true ∨ v = .sb true := by
  have hs := size_eq hx0
  have hca := align_ok hx0 hx1
  obtain ⟨al, hal⟩ : ∃ al, (IntKind.i64.wrap x1).tmod (1 + x0) = al := ⟨_, rfl⟩
  have hal2 : (IntKind.i64.wrap x1).tmod (IntKind.i64.wrap (1 + IntKind.i64.wrap x0)) = al := by rw [hs]; exact hal
  rw [hal] at hca
  conv => whnf
  refine And.intro (by rw [hs]; omega) ?_
  conv => whnf
  refine LoopP.mk { q : Smp × Nat // q.1 = okF (L.take q.2) ∧ q.2 ≤ L.length ∧ q.2 ≤ 60 } 2 (fun a => cSt L cap (1 + x0) al a.val.2 a.val.1) (fun a => L.length - a.val.2) ⟨([], 0), rfl, Nat.zero_le _, Nat.zero_le _⟩ ?_ ?_
  · exact c_cov0 (i := 0) (Nat.le_refl 1) rfl (congrArg (AV.si .i64) hs) (congrArg (AV.si .i64) hal2) rfl rfl rfl
  · intro ⟨⟨out, i⟩, hI⟩
    obtain ⟨ho, hi, hi60⟩ := id hI
    dsimp only at ho hi hi60
    have hIn : ∀ x ∈ out, In64 x.2 := fun x hx => (hin x (List.mem_of_mem_take (okF_mem (ho ▸ hx)))).2
    have hbk : bkOk out = true := by rw [ho]; exact okF_ok _
    have hol : out.length ≤ 60 := by
      rw [ho]
      exact Nat.le_trans (List.length_filter_le _ _) (by rw [List.length_take]; omega)
    cases out with
    | nil =>
      conv => whnf
      refine Fork.dec (fun h1 => ?_) (fun h1 => ?_)
      · have h2 : i < L.length := Int.ofNat_lt.1 h1
        have hlt : L.length - (i + 1) < L.length - i := by omega
        have hw : IntKind.i64.wrap ((i : Int) + 1) = ((i + 1 : Nat) : Int) := by rw [wrap_i64_of (x := (i : Int) + 1) (by omega) (by omega)]; omega
        conv => whnf
        refine Fork.dec (fun h60 => ?_) (fun h60 => ?_)
        · have h60 : (i : Int) < 60 := h60
          conv => whnf
          refine Idx.mk i rfl h2 ?_
          conv => whnf
          refine optP_of (smp_nth0 h2 (by show 0 + i * 2 + 0 = i * 2; omega)) ?_
          conv => whnf
          refine Fork.dec (fun h3 => ?_) (fun h3 => ?_)
          · conv => whnf
            refine Idx.mk i rfl h2 ?_
            conv => whnf
            refine optP_of (smp_nth0 h2 (by show 0 + i * 2 + 0 = i * 2; omega)) ?_
            conv => whnf
            refine Fork.dec (fun h4 => ?_) (fun h4 => ?_)
            · have ht : sTime L[i].1 = true := time_yes (by omega) (by omega)
              conv => whnf
              refine Idx.mk i rfl h2 ?_
              conv => whnf
              refine optP_of (smp_sub h2 (by show 0 + i * 2 = i * 2; omega)) ?_
              conv => whnf
              refine ⟨⟨([] ++ [L[i]], i + 1), (congrArg (· ++ [L[i]]) ho).trans (okF_yes h2 ht).symm, by omega, by omega⟩, hlt, c_cov (y := L[i]) (o := []) 3 (by decide) (Nat.le_refl 1) rfl rfl rfl rfl (congrArg (AV.si .i64) hw) rfl rfl rfl⟩
            · have ht : sTime L[i].1 = false := time_no (by omega)
              conv => whnf
              exact ⟨⟨([], i + 1), ho.trans (okF_no h2 ht).symm, by omega, by omega⟩, hlt, c_cov0 (Nat.le_refl 1) rfl rfl rfl rfl (congrArg (AV.si .i64) hw) rfl⟩
          · have ht : sTime L[i].1 = false := time_no (by omega)
            conv => whnf
            exact ⟨⟨([], i + 1), ho.trans (okF_no h2 ht).symm, by omega, by omega⟩, hlt, c_cov0 (Nat.le_refl 1) rfl rfl rfl rfl (congrArg (AV.si .i64) hw) rfl⟩
        · skip
          conv => whnf
          refine ⟨[], .inl ⟨rfl, rfl⟩, by decide, fun _ => ?_, fun hn => absurd bkA_nil hn⟩
          conv => whnf
          refine LoopP.roll 1 ?_
          repeat' (conv => whnf
                   first | refine ⟨[], .inl ⟨rfl, rfl⟩, by decide, fun _ => ?_, fun hn => absurd bkA_nil hn⟩ | refine ⟨[], .inl ⟨rfl, rfl⟩, by decide, ?_⟩ | refine Fork.dec (fun _ => ?_) (fun h => absurd rfl h) | exact .inl rfl)
      · skip
        conv => whnf
        refine ⟨[], .inl ⟨rfl, rfl⟩, by decide, fun _ => ?_, fun hn => absurd bkA_nil hn⟩
        conv => whnf
        refine LoopP.roll 1 ?_
        repeat' (conv => whnf
                 first | refine ⟨[], .inl ⟨rfl, rfl⟩, by decide, fun _ => ?_, fun hn => absurd bkA_nil hn⟩ | refine ⟨[], .inl ⟨rfl, rfl⟩, by decide, ?_⟩ | refine Fork.dec (fun _ => ?_) (fun h => absurd rfl h) | exact .inl rfl)
    | cons y o =>
      conv => whnf
      refine Fork.dec (fun h1 => ?_) (fun h1 => ?_)
      have h2 : i < L.length := Int.ofNat_lt.1 h1
      have hlt : L.length - (i + 1) < L.length - i := by omega
      have hw : IntKind.i64.wrap ((i : Int) + 1) = ((i + 1 : Nat) : Int) := by rw [wrap_i64_of (x := (i : Int) + 1) (by omega) (by omega)]; omega
      conv => whnf
      refine Fork.dec (fun h60 => ?_) (fun h60 => ?_)
      · have h60 : (i : Int) < 60 := h60
        conv => whnf
        refine Idx.mk i rfl h2 ?_
        conv => whnf
        refine optP_of (smp_nth0 h2 (by show 0 + i * 2 + 0 = i * 2; omega)) ?_
        conv => whnf
        refine Fork.dec (fun h3 => ?_) (fun h3 => ?_)
        · conv => whnf
          refine Idx.mk i rfl h2 ?_
          conv => whnf
          refine optP_of (smp_nth0 h2 (by show 0 + i * 2 + 0 = i * 2; omega)) ?_
          conv => whnf
          refine Fork.dec (fun h4 => ?_) (fun h4 => ?_)
          · have ht : sTime L[i].1 = true := time_yes (by omega) (by omega)
            conv => whnf
            refine Idx.mk i rfl h2 ?_
            conv => whnf
            refine optP_of (smp_sub h2 (by show 0 + i * 2 = i * 2; omega)) ?_
            conv => whnf
            refine optP_of (app_grow (k := 1) (by' := 16) (m := 1) (sn := o.length + 1) (c := o.length + 1) rfl rfl rfl rfl rfl rfl rfl rfl (by decide) rfl rfl rfl (by omega) (by simp only [List.length_cons] at hol; omega) (subL_all (smp_length (y :: o)))) ?_
            conv => whnf
            refine ⟨⟨(y :: (o ++ [L[i]]), i + 1), (congrArg (· ++ [L[i]]) ho).trans (okF_yes h2 ht).symm, by omega, by omega⟩, hlt, c_cov (L := L) (cap := cap) (i := i + 1) (sz := 1 + x0) (al := al) (y := y) (o := o ++ [L[i]]) 3 (by decide) (Nat.le_refl 1) rfl rfl rfl ?_ (congrArg (AV.si .i64) hw) rfl rfl (snoc_map (y :: o) L[i].1 L[i].2 (smp_map _))⟩
            exact (show mk _ = AV.sy 3 0 (o.length + 1 + 1) (o.length + 1 + 1) 2 from rfl).trans (by simp)
          · have ht : sTime L[i].1 = false := time_no (by omega)
            conv => whnf
            exact ⟨⟨(y :: o, i + 1), ho.trans (okF_no h2 ht).symm, by omega, by omega⟩, hlt, c_cov 1 (by decide) (Nat.le_refl 1) rfl rfl rfl rfl (congrArg (AV.si .i64) hw) rfl rfl (smp_map _)⟩
        · have ht : sTime L[i].1 = false := time_no (by omega)
          conv => whnf
          exact ⟨⟨(y :: o, i + 1), ho.trans (okF_no h2 ht).symm, by omega, by omega⟩, hlt, c_cov 1 (by decide) (Nat.le_refl 1) rfl rfl rfl rfl (congrArg (AV.si .i64) hw) rfl rfl (smp_map _)⟩
      all_goals
        have hne : (y :: o) ≠ [] := by simp
        have hl6 : (y :: o).length ≤ 1000000 := by omega
        have hk2 : sRight 2 = true := rfl
        have hk3 : sRight 3 = true := rfl
        have hk4 : sRight 4 = true := rfl
        have hC := bkA_ne hk4 hca hbk hne
        have hC2 := bkA_ne hk2 hca hbk hne
        have hC3 := bkA_ne hk3 hca hbk hne
        have l4 := bkA_len (k := 4) (sz := 1 + x0) (al := al) (y :: o)
        have l2 := bkA_len (k := 2) (sz := 1 + x0) (al := al) (y :: o)
        have l3 := bkA_len (k := 3) (sz := 1 + x0) (al := al) (y :: o)
        have E1 := counts_law hca hbk hIn hl6
        obtain ⟨⟨E2, E3⟩, E4⟩ := ends_law hca hbk hIn hl6
        conv => whnf
        refine ⟨y :: o, .inr ⟨1, 0, o.length + 1, 2, smp (y :: o), smp (y :: o), rfl, .inr ⟨_, rfl⟩, smp_whole (y :: o), smp_map _, Nat.le_refl _⟩, hl6, fun hn => absurd hn hC, fun _ => ⟨⟨rfl, by decide⟩, ?_⟩⟩
        conv => whnf
        refine LoopP.mk (_root_.Fin ((bkA 4 (1 + x0) al (y :: o)).length + 1)) 3 (fun a => dSt (o.length + 1) (y :: o) (bkA 4 (1 + x0) al (y :: o)) (1 + x0) al a.val) (fun a => (bkA 4 (1 + x0) al (y :: o)).length - a.val) 0 ?_ ?_
        · exact d_cov (j := 0) (by decide) rfl rfl rfl rfl rfl rfl rfl (smp_map _) rfl (smp_map _)
        · intro ⟨j, hj⟩
          conv => whnf
          refine Fork.dec (fun h5 => ?_) (fun h5 => ?_)
          · have h6 : j < (bkA 4 (1 + x0) al (y :: o)).length := Int.ofNat_lt.1 h5
            have hwj : IntKind.i64.wrap ((j : Int) + 1) = ((j + 1 : Nat) : Int) := by rw [wrap_i64_of (x := (j : Int) + 1) (by omega) (by omega)]; omega
            have hltj : (bkA 4 (1 + x0) al (y :: o)).length - (j + 1) < (bkA 4 (1 + x0) al (y :: o)).length - j := by omega
            conv => whnf
            refine Idx.mk j rfl h6 ?_
            conv => whnf
            refine optP_of (smp_nth1 h6 (by show 0 + j * 2 + 1 = j * 2 + 1; omega)) ?_
            conv => whnf
            exact ⟨⟨j + 1, by omega⟩, hltj, d_cov (by decide) rfl rfl rfl (congrArg (AV.si .i64) (sumW_take h6).symm) rfl (congrArg (AV.si .i64) hwj) rfl (smp_map _) rfl (smp_map _)⟩
          · have h6 : j = (bkA 4 (1 + x0) al (y :: o)).length := by have : ¬ (j : Int) < ((bkA 4 (1 + x0) al (y :: o)).length : Int) := h5; omega
            subst h6
            have E1' : sumW ((bkA 4 (1 + x0) al (y :: o)).take (bkA 4 (1 + x0) al (y :: o)).length) = ((o.length + 1 : Nat) : Int) := by rw [List.take_length]; exact E1
            conv => whnf
            refine ⟨y :: o, .inr ⟨1, 0, o.length + 1, 2, smp (y :: o), smp (y :: o), rfl, .inr ⟨_, rfl⟩, smp_whole (y :: o), smp_map _, Nat.le_refl _⟩, hl6, fun hn => absurd hn hC2, fun _ => ⟨⟨rfl, by decide⟩, ?_⟩⟩
            conv => whnf
            refine ⟨bkA 2 (1 + x0) al (y :: o), .inr ⟨3, 0, (bkA 2 (1 + x0) al (y :: o)).length, 2, smp _, smp _, rfl, .inr ⟨_, rfl⟩, smp_whole _, smp_map _, Nat.le_refl _⟩, by omega, ?_⟩
            conv => whnf
            refine ⟨y :: o, .inr ⟨1, 0, o.length + 1, 2, smp (y :: o), smp (y :: o), rfl, .inr ⟨_, rfl⟩, smp_whole (y :: o), smp_map _, Nat.le_refl _⟩, by omega, ?_⟩
            conv => whnf
            refine ⟨y :: o, .inr ⟨1, 0, o.length + 1, 2, smp (y :: o), smp (y :: o), rfl, .inr ⟨_, rfl⟩, smp_whole (y :: o), smp_map _, Nat.le_refl _⟩, hl6, fun hn => absurd hn hC3, fun _ => ⟨⟨rfl, by decide⟩, ?_⟩⟩
            conv => whnf
            refine ⟨bkA 3 (1 + x0) al (y :: o), .inr ⟨4, 0, (bkA 3 (1 + x0) al (y :: o)).length, 2, smp _, smp _, rfl, .inr ⟨_, rfl⟩, smp_whole _, smp_map _, Nat.le_refl _⟩, by omega, ?_⟩
            conv => whnf
            refine ⟨y :: o, .inr ⟨1, 0, o.length + 1, 2, smp (y :: o), smp (y :: o), rfl, .inr ⟨_, rfl⟩, smp_whole (y :: o), smp_map _, Nat.le_refl _⟩, by omega, ?_⟩
            repeat' (conv => whnf
                     first | refine Fork.dec (fun _ => ?_) (fun h => absurd E1' h) | refine Fork.dec (fun _ => ?_) (fun h => absurd E2 h) | refine Fork.dec (fun _ => ?_) (fun h => absurd E3 h) | refine Fork.dec (fun _ => ?_) (fun h => absurd E4 h) | exact .inl rfl)
set_option maxHeartbeats 8000000 in
set_option maxRecDepth 100000 in
theorem w_aggCounts0 (x0 x1 : Int) (hx0 : 0 ≤ x0 ∧ x0 ≤ 255) (_ : 0 ≤ x1 ∧ x1 ≤ 255) : callT FT 4 8 [.agg [.si .u8 x0, .si .u8 x1], .nsl] .nil 0 fun v _ _ => v = .bool true ∨ v = .sb true := by
  have hs := size_eq hx0
  conv => whnf
  refine And.intro (by rw [hs]; omega) ?_
  conv => whnf
  refine LoopP.roll 1 ?_
  conv => whnf
  refine ⟨[], .inl ⟨rfl, rfl⟩, by decide, fun _ => ?_, fun hn => absurd bkA_nil hn⟩
  conv => whnf
  refine LoopP.roll 1 ?_
  repeat' (conv => whnf
           first | refine ⟨[], .inl ⟨rfl, rfl⟩, by decide, fun _ => ?_, fun hn => absurd bkA_nil hn⟩ | refine ⟨[], .inl ⟨rfl, rfl⟩, by decide, ?_⟩ | refine Fork.dec (fun _ => ?_) (fun h => absurd rfl h) | exact .inl rfl)
end Go.Proofs.Ytaejmcgcfopmkaa
namespace Go.Proofs.Ytaejmcgcfopmkaa
open Go Go.RowKit
def smallV (v : Int) : Bool := decide (-1125899906842624 < v) && decide (v < 1125899906842624)
def allS (L : Smp) : Bool := L.all fun x => smallV x.2
theorem smallV_spec {v : Int} (h : smallV v = true) : -1125899906842624 < v ∧ v < 1125899906842624 := by simpa [smallV] using h
theorem vals_rev (L : Smp) : vals L.reverse = (vals L).reverse := by simp [vals]
theorem least_rev (V : List Int) : leastOf V.reverse = leastOf V := by
  by_cases h : V = []
  · subst h; rfl
  · exact least_same h (by simpa using h) (fun z hz => by simpa using hz) fun y hy => ⟨y, by simpa using hy, Int.le_refl _⟩
theorem great_rev (V : List Int) : greatOf V.reverse = greatOf V := by
  by_cases h : V = []
  · subst h; rfl
  · exact great_same h (by simpa using h) (fun z hz => by simpa using hz) fun y hy => ⟨y, by simpa using hy, Int.le_refl _⟩
theorem rNum_4 (V : List Int) : rNum 4 V = (V.length : Int) := by
  cases V with
  | nil => rfl
  | cons x r => show ((r.length + 1 : Nat) : Int) = _; simp
theorem rNum_7 (V : List Int) (h : V ≠ []) : rNum 7 V = rWide (leastOf V) (greatOf V) := by
  cases V with
  | nil => exact absurd rfl h
  | cons x r => rfl
def sumI (V : List Int) : Int := V.foldl (· + ·) 0
theorem sumI_from : ∀ (V : List Int) (a : Int), V.foldl (· + ·) a = a + sumI V
  | [], a => by simp [sumI]
  | x :: V, a => by
    unfold sumI
    simp only [List.foldl_cons]
    rw [sumI_from V (a + x), sumI_from V (0 + x)]
    omega
theorem sumI_cons (x : Int) (V : List Int) : sumI (x :: V) = x + sumI V := by
  show V.foldl (· + ·) (0 + x) = _
  rw [sumI_from]; omega
theorem sumI_app (V W : List Int) : sumI (V ++ W) = sumI V + sumI W := by
  unfold sumI
  rw [List.foldl_append, sumI_from W]; rfl
theorem sumI_rev : ∀ V : List Int, sumI V.reverse = sumI V
  | [] => rfl
  | x :: V => by rw [List.reverse_cons, sumI_app, sumI_rev V, sumI_cons, sumI_cons]; simp [sumI]; omega
theorem cap_sum (r : List Int) : ∀ (a : Int), (∀ y ∈ r, smallV y = true) → -4611686018427387904 + 1125899906842624 * (r.length : Int) ≤ a → a ≤ 4611686018427387904 - 1125899906842624 * (r.length : Int) → r.foldl rCap a = a + sumI r := by
  induction r with
  | nil => intro a _ _ _; simp [sumI]
  | cons y r ih =>
    intro a h h1 h2
    have hy := smallV_spec (h y List.mem_cons_self)
    have hlen : ((y :: r).length : Int) = (r.length : Int) + 1 := by simp
    rw [hlen] at h1 h2
    have hc : rCap a y = a + y := by
      have hb : In64 a := by unfold In64; omega
      have hd : In64 y := by unfold In64; omega
      rw [← (cap_eq hb hd).1]
      simp only [pCap, sCap, sOver, decide_eq_true_eq]
      rw [wrap_i64_of (x := a + y) (by omega) (by omega), if_neg (by omega)]
    simp only [List.foldl_cons, hc]
    rw [ih (a + y) (fun z hz => h z (List.mem_cons_of_mem _ hz)) (by omega) (by omega), sumI_cons]
    omega
theorem rNum_1 {V : List Int} (h : ∀ y ∈ V, smallV y = true) (hl : V.length ≤ 1000) : rNum 1 V = sumI V := by
  cases V with
  | nil => rfl
  | cons x r =>
    have hx := smallV_spec (h x List.mem_cons_self)
    simp only [List.length_cons] at hl
    show r.foldl rCap x = _
    rw [cap_sum r x (fun z hz => h z (List.mem_cons_of_mem _ hz)) (by omega) (by omega), sumI_cons]
def anyK (k : Int) (sm : Bool) : Prop := k = 2 ∨ k = 3 ∨ k = 4 ∨ k = 7 ∨ (k = 1 ∧ sm = true)
theorem parts_law {k : Int} {M : Smp} (hL : ∀ x ∈ M, In64 x.2) (hl : M.length ≤ 40) (h : anyK k (allS M)) : aNum k M.reverse = aNum k M := by
  rw [(num_eq (k := k) (L := M.reverse) (fun x hx => hL x (by simpa using hx)) (by simp; omega)).1, (num_eq (k := k) hL (by omega)).1, vals_rev]
  rcases h with rfl | rfl | rfl | rfl | ⟨rfl, h⟩
  · rw [rNum_2, rNum_2, least_rev]
  · rw [rNum_3, rNum_3, great_rev]
  · rw [rNum_4, rNum_4, List.length_reverse]
  · by_cases hV : vals M = []
    · rw [hV]; rfl
    · rw [rNum_7 _ hV, rNum_7 _ (by simpa using hV), least_rev, great_rev]
  · have hs : ∀ y ∈ vals M, smallV y = true := fun y hy => by
      simp only [vals, List.mem_map] at hy
      obtain ⟨x, hx, rfl⟩ := hy
      exact List.all_eq_true.1 h x hx
    rw [rNum_1 hs (by simp [vals]; omega), rNum_1 (fun y hy => hs y (by simpa using hy)) (by simp [vals]; omega), sumI_rev]
theorem allS_drop {M : Smp} {j : Nat} (h : j < M.length) : allS (M.drop j) = (smallV M[j].2 && allS (M.drop (j + 1))) := by
  rw [List.drop_eq_getElem_cons h]; rfl
theorem rev_drop {M : Smp} {j : Nat} (h : j < M.length) : (M.drop j).reverse = (M.drop (j + 1)).reverse ++ [M[j]] := by
  rw [List.drop_eq_getElem_cons h, List.reverse_cons]
end Go.Proofs.Ytaejmcgcfopmkaa
namespace Go.Proofs.Ytaejmcgcfopmkaa
open Go Go.RowKit
noncomputable def p1St (L : Smp) (cap nn cc : Nat) (k : Int) (i : Nat) : AE × AH := (mkE [(1, .sy 0 0 L.length cap 0), (7, .si .i64 nn), (8, .si .i64 k), (9, .si .i64 cc), (10, .ptr 1 0), (12, .si .i64 i)], mkH [(0, .ro (smp L)), (1, .cells (stateCells k (aAll (L.take i))) true)])
theorem p1_cov {L : Smp} {cap nn cc i p n : Nat} {k : Int} {σ : AE} {H : AH} {l : List AV} (hp : p ≤ 2) (e1 : mk (getq (pa 1) σ) = .sy 0 0 L.length cap 0) (e7 : mk (getq (pa 7) σ) = .si .i64 nn) (e8 : mk (getq (pa 8) σ) = .si .i64 k) (e9 : mk (getq (pa 9) σ) = .si .i64 cc)
    (e10 : getq (pa 10) σ = .ptr 1 0) (e12 : mk (getq (pa 12) σ) = .si .i64 i) (h0 : H.get 0 = some (.ro (smp L))) (h1 : H.get 1 = some (.cells l true)) (hl : l.map mk = stateCells k (aAll (L.take i))) : Cov p σ H n ((p1St L cap nn cc k i).1, (p1St L cap nn cc k i).2, 2) := by
  refine Cov.of (fun b => b) hp (fun b hb => rfl) ?_ ?_ ?_
  · intro x hx
    simp only [List.mem_cons, List.not_mem_nil, or_false] at hx
    rcases hx with rfl | rfl | rfl | rfl | rfl | rfl
    · exact .sy (by decide) e1
    · exact .int e7
    · exact .int e8
    · exact .int e9
    · exact .ptr (by decide) e10
    · exact .int e12
  · intro x hx
    simp only [List.mem_cons, List.not_mem_nil, or_false] at hx
    rcases hx with rfl | rfl
    · exact ⟨by simp, _, h0, SubO.ro_mk (smp_flat L) rfl⟩
    · exact ⟨by simp, _, h1, SubO.cells_mk rfl hl (fun q => q)⟩
  · intro x hx y hy
    simp only [List.mem_cons, List.not_mem_nil, or_false] at hx hy
    rcases hx with rfl | rfl <;> rcases hy with rfl | rfl <;> exact fun q => q
noncomputable def p2St (L : Smp) (cap nn cc : Nat) (k : Int) (i : Nat) : AE × AH := (mkE [(1, .sy 0 0 L.length cap 0), (7, .si .i64 nn), (8, .si .i64 k), (9, .si .i64 cc), (10, .ptr 1 0), (13, .ptr 2 0), (14, .nsl), (15, .sb true), (16, .si .i64 i)],
  mkH [(0, .ro (smp L)), (1, .cells (stateCells k (aAll (L.take cc))) true), (2, .cells (stateCells k (aAll (L.take i))) true)])
theorem p2_cov {L : Smp} {cap nn cc i p n : Nat} {k : Int} {σ : AE} {H : AH} {l l' : List AV} (hp : p ≤ 3) (e1 : mk (getq (pa 1) σ) = .sy 0 0 L.length cap 0) (e7 : mk (getq (pa 7) σ) = .si .i64 nn) (e8 : mk (getq (pa 8) σ) = .si .i64 k) (e9 : mk (getq (pa 9) σ) = .si .i64 cc)
    (e10 : getq (pa 10) σ = .ptr 1 0) (e13 : getq (pa 13) σ = .ptr 2 0) (e14 : getq (pa 14) σ = .nsl) (e15 : mk (getq (pa 15) σ) = .sb true) (e16 : mk (getq (pa 16) σ) = .si .i64 i) (h0 : H.get 0 = some (.ro (smp L))) (h1 : H.get 1 = some (.cells l true)) (hl : l.map mk = stateCells k (aAll (L.take cc)))
    (h2 : H.get 2 = some (.cells l' true)) (hl' : l'.map mk = stateCells k (aAll (L.take i))) : Cov p σ H n ((p2St L cap nn cc k i).1, (p2St L cap nn cc k i).2, 3) := by
  refine Cov.of (fun b => b) hp (fun b hb => rfl) ?_ ?_ ?_
  · intro x hx
    simp only [List.mem_cons, List.not_mem_nil, or_false] at hx
    rcases hx with rfl | rfl | rfl | rfl | rfl | rfl | rfl | rfl | rfl
    · exact .sy (by decide) e1
    · exact .int e7
    · exact .int e8
    · exact .int e9
    · exact .ptr (by decide) e10
    · exact .ptr (by decide) e13
    · exact .flat rfl (congrArg mk e14)
    · exact .bool e15
    · exact .int e16
  · intro x hx
    simp only [List.mem_cons, List.not_mem_nil, or_false] at hx
    rcases hx with rfl | rfl | rfl
    · exact ⟨by simp, _, h0, SubO.ro_mk (smp_flat L) rfl⟩
    · exact ⟨by simp, _, h1, SubO.cells_mk rfl hl (fun q => q)⟩
    · exact ⟨by simp, _, h2, SubO.cells_mk rfl hl' (fun q => q)⟩
  · intro x hx y hy
    simp only [List.mem_cons, List.not_mem_nil, or_false] at hx hy
    rcases hx with rfl | rfl | rfl <;> rcases hy with rfl | rfl | rfl <;> exact fun q => q
noncomputable abbrev p3St (L : Smp) (cap nn cc : Nat) (k : Int) (sm : Bool) (j : Nat) : Smp → AE × AH
  | [] => (mkE [(1, .sy 0 0 L.length cap 0), (7, .si .i64 nn), (8, .si .i64 k), (9, .si .i64 cc), (10, .ptr 1 0), (13, .ptr 2 0), (14, .nsl), (15, .sb sm), (17, .si .i64 ((j : Int) - 1))],
    mkH [(0, .ro (smp L)), (1, .cells (stateCells k (aAll (L.take cc))) true), (2, .cells (stateCells k (aAll (L.take nn))) true)])
  | y :: o => (mkE [(1, .sy 0 0 L.length cap 0), (7, .si .i64 nn), (8, .si .i64 k), (9, .si .i64 cc), (10, .ptr 1 0), (13, .ptr 2 0), (14, .sl 3 0 (o.length + 1) (o.length + 1) 2), (15, .sb sm), (17, .si .i64 ((j : Int) - 1))],
    mkH [(0, .ro (smp L)), (1, .cells (stateCells k (aAll (L.take cc))) true), (2, .cells (stateCells k (aAll (L.take nn))) true), (3, .cells (smp (y :: o)) true)])
theorem p3_cov0 {L : Smp} {cap nn cc j p n : Nat} {k : Int} {sm : Bool} {σ : AE} {H : AH} {l l' : List AV} (hp : p ≤ 3) (e1 : mk (getq (pa 1) σ) = .sy 0 0 L.length cap 0) (e7 : mk (getq (pa 7) σ) = .si .i64 nn) (e8 : mk (getq (pa 8) σ) = .si .i64 k) (e9 : mk (getq (pa 9) σ) = .si .i64 cc)
    (e10 : getq (pa 10) σ = .ptr 1 0) (e13 : getq (pa 13) σ = .ptr 2 0) (e14 : getq (pa 14) σ = .nsl) (e15 : mk (getq (pa 15) σ) = .sb sm) (e17 : mk (getq (pa 17) σ) = .si .i64 ((j : Int) - 1)) (h0 : H.get 0 = some (.ro (smp L))) (h1 : H.get 1 = some (.cells l true)) (hl : l.map mk = stateCells k (aAll (L.take cc)))
    (h2 : H.get 2 = some (.cells l' true)) (hl' : l'.map mk = stateCells k (aAll (L.take nn))) : Cov p σ H n ((p3St L cap nn cc k sm j []).1, (p3St L cap nn cc k sm j []).2, 4) := by
  refine Cov.of (fun b => b) (by omega) (fun b hb => rfl) ?_ ?_ ?_
  · intro x hx
    simp only [List.mem_cons, List.not_mem_nil, or_false] at hx
    rcases hx with rfl | rfl | rfl | rfl | rfl | rfl | rfl | rfl | rfl
    · exact .sy (by decide) e1
    · exact .int e7
    · exact .int e8
    · exact .int e9
    · exact .ptr (by decide) e10
    · exact .ptr (by decide) e13
    · exact .flat rfl (congrArg mk e14)
    · exact .bool e15
    · exact .int e17
  · intro x hx
    simp only [List.mem_cons, List.not_mem_nil, or_false] at hx
    rcases hx with rfl | rfl | rfl
    · exact ⟨by simp, _, h0, SubO.ro_mk (smp_flat L) rfl⟩
    · exact ⟨by simp, _, h1, SubO.cells_mk rfl hl (fun q => q)⟩
    · exact ⟨by simp, _, h2, SubO.cells_mk rfl hl' (fun q => q)⟩
  · intro x hx y hy
    simp only [List.mem_cons, List.not_mem_nil, or_false] at hx hy
    rcases hx with rfl | rfl | rfl <;> rcases hy with rfl | rfl | rfl <;> exact fun q => q
theorem p3_cov {L : Smp} {cap nn cc j p n : Nat} {k : Int} {sm : Bool} {y : Int × Int} {o : Smp} {σ : AE} {H : AH} {l l' l'' : List AV} (hp : p ≤ 3) (e1 : mk (getq (pa 1) σ) = .sy 0 0 L.length cap 0) (e7 : mk (getq (pa 7) σ) = .si .i64 nn) (e8 : mk (getq (pa 8) σ) = .si .i64 k) (e9 : mk (getq (pa 9) σ) = .si .i64 cc)
    (e10 : getq (pa 10) σ = .ptr 1 0) (e13 : getq (pa 13) σ = .ptr 2 0) (e14 : mk (getq (pa 14) σ) = .sy 5 0 (o.length + 1) (o.length + 1) 2) (e15 : mk (getq (pa 15) σ) = .sb sm) (e17 : mk (getq (pa 17) σ) = .si .i64 ((j : Int) - 1)) (h0 : H.get 0 = some (.ro (smp L))) (h1 : H.get 1 = some (.cells l true)) (hl : l.map mk = stateCells k (aAll (L.take cc)))
    (h2 : H.get 2 = some (.cells l' true)) (hl' : l'.map mk = stateCells k (aAll (L.take nn))) (h3 : H.get 5 = some (.cells l'' true)) (hl'' : l''.map mk = smp (y :: o)) : Cov p σ H n ((p3St L cap nn cc k sm j (y :: o)).1, (p3St L cap nn cc k sm j (y :: o)).2, 4) := by
  refine Cov.of (fun b => if b = 3 then 5 else b) (by omega) (fun b hb => by rw [if_neg (by omega)]) ?_ ?_ ?_
  · intro x hx
    simp only [List.mem_cons, List.not_mem_nil, or_false] at hx
    rcases hx with rfl | rfl | rfl | rfl | rfl | rfl | rfl | rfl | rfl
    · exact .sy (by decide) e1
    · exact .int e7
    · exact .int e8
    · exact .int e9
    · exact .ptr (by decide) e10
    · exact .ptr (by decide) e13
    · exact .sl (by decide) e14
    · exact .bool e15
    · exact .int e17
  · intro x hx
    simp only [List.mem_cons, List.not_mem_nil, or_false] at hx
    rcases hx with rfl | rfl | rfl | rfl
    · exact ⟨by simp, _, h0, SubO.ro_mk (smp_flat L) rfl⟩
    · exact ⟨by simp, _, h1, SubO.cells_mk rfl hl (fun q => q)⟩
    · exact ⟨by simp, _, h2, SubO.cells_mk rfl hl' (fun q => q)⟩
    · exact ⟨by simp, _, h3, SubO.cells_mk (smp_flat _) (by rw [hl'', smp_map]) (fun q => q)⟩
  · intro x hx y hy
    simp only [List.mem_cons, List.not_mem_nil, or_false] at hx hy
    rcases hx with rfl | rfl | rfl | rfl <;> rcases hy with rfl | rfl | rfl | rfl <;> simp
theorem aAll_n {L : Smp} (hL : ∀ x ∈ L, In64 x.2) {i : Nat} (hi : i ≤ L.length) (hl : i < 4611686018427387904) : (aAll (L.take i)).n = (i : Int) := by
  have hlen : (L.take i).length = i := by rw [List.length_take]; omega
  have := (num_eq (k := 1) (L := L.take i) (fun x hx => hL x (List.mem_of_mem_take hx)) (by omega)).2.2
  rw [this, hlen]
theorem kind_ok {x : Int} (h : 0 ≤ x ∧ x ≤ 255) : 1 ≤ IntKind.i64.wrap (1 + (IntKind.i64.wrap x).tmod 7) ∧ IntKind.i64.wrap (1 + (IntKind.i64.wrap x).tmod 7) ≤ 7 := by
  rw [wrap_i64_of (x := x) (by omega) (by omega), Int.tmod_eq_emod_of_nonneg h.1]
  have h1 := Int.emod_nonneg x (show (7 : Int) ≠ 0 by omega)
  have h2 := Int.emod_lt_of_pos x (show (0 : Int) < 7 by omega)
  rw [wrap_i64_of (by omega) (by omega)]
  omega
theorem cut_ok {x : Int} {nn : Nat} (h : 0 ≤ x ∧ x ≤ 255) (hn : nn ≤ 40) : ∃ cc : Nat, (IntKind.i64.wrap x).tmod (IntKind.i64.wrap ((nn : Int) + 1)) = (cc : Int) ∧ cc ≤ nn := by
  rw [wrap_i64_of (x := x) (by omega) (by omega), wrap_i64_of (by omega) (by omega), Int.tmod_eq_emod_of_nonneg h.1]
  have h1 := Int.emod_nonneg x (show (nn : Int) + 1 ≠ 0 by omega)
  have h2 := Int.emod_lt_of_pos x (show (0 : Int) < (nn : Int) + 1 by omega)
  exact ⟨(x % ((nn : Int) + 1)).toNat, by omega, by omega⟩
set_option maxHeartbeats 16000000 in
set_option maxRecDepth 100000 in
theorem w_aggParts1 (kind cut : Int) (hkind : 0 ≤ kind ∧ kind ≤ 255) (hcut : 0 ≤ cut ∧ cut ≤ 255) (L : Smp) (cap : Nat) (hin : ∀ x ∈ L, In64 x.1 ∧ In64 x.2) (hne : 0 < L.length) (hcap : L.length ≤ cap) :
    callT FT 4 9 [.si .u8 kind, .sy 0 0 L.length cap 0, .si .u8 cut] (mkH [(0, .ro (smp L))]) 1 fun v _ _ => v = .bool true ∨ v = .sb true := by
  obtain ⟨nn, hnn⟩ : ∃ nn, min L.length 40 = nn := ⟨_, rfl⟩
  have hn1 : min (L.length : Int) 40 = (nn : Int) := by omega
  have hnL : nn ≤ L.length := by omega
  have hn40 : nn ≤ 40 := by omega
  have hL : ∀ x ∈ L, In64 x.2 := fun x hx => (hin x hx).2
  obtain ⟨k, hk⟩ : ∃ k, IntKind.i64.wrap (1 + (IntKind.i64.wrap kind).tmod 7) = k := ⟨_, rfl⟩
  have hk17 : 1 ≤ k ∧ k ≤ 7 := by rw [← hk]; exact kind_ok hkind
  have hr : sRight k = true := by simp only [sRight, decide_eq_true_eq]; exact hk17
  obtain ⟨cc, hcc, hcn⟩ := cut_ok (x := cut) (nn := nn) hcut hn40
  have hcc2 : (IntKind.i64.wrap cut).tmod (IntKind.i64.wrap (min (L.length : Int) 40 + 1)) = (cc : Int) := by rw [hn1]; exact hcc
  conv => whnf
  refine Fork.dec (fun h1 => ?_) (fun h1 => absurd (show (0 : Int) < min (L.length : Int) 40 by omega) h1)
  conv => whnf
  refine And.intro (by show IntKind.i64.wrap (min (L.length : Int) 40 + 1) ≠ 0; rw [wrap_i64_of (by omega) (by omega)]; omega) ?_
  conv => whnf
  refine Fork.nsb (fun h => absurd (show sRight (IntKind.i64.wrap (1 + (IntKind.i64.wrap kind).tmod 7)) = true by rw [hk]; exact hr) (by rw [h]; decide)) (fun _ => ?_)
  conv => whnf
  refine LoopP.mk (_root_.Fin (cc + 1)) 2 (fun a => p1St L cap nn cc k a.val) (fun a => cc - a.val) 0 ?_ ?_
  · refine p1_cov (i := 0) (Nat.le_succ 1) rfl (congrArg (AV.si .i64) hn1) (congrArg (AV.si .i64) hk) (congrArg (AV.si .i64) hcc2) rfl rfl rfl rfl ?_
    exact Eq.trans rfl (congrArg (fun q => stateCells q ss0) hk)
  · intro ⟨i, hi⟩
    conv => whnf
    refine Fork.dec (fun h2 => ?_) (fun h2 => ?_)
    · have h3 : i < cc := Int.ofNat_lt.1 h2
      have h4 : i < L.length := by omega
      have hw : IntKind.i64.wrap ((i : Int) + 1) = ((i + 1 : Nat) : Int) := by rw [wrap_i64_of (x := (i : Int) + 1) (by omega) (by omega)]; omega
      have hlt : cc - (i + 1) < cc - i := by omega
      have ha : ∀ (l : List AV), l.map mk = stateCells k (aAdd (aAll (L.take i)) L[i].2) → l.map mk = stateCells k (aAll (L.take (i + 1))) := fun l e => e.trans (congrArg (stateCells k) (aAll_take h4).symm)
      conv => whnf
      refine Idx.mk i rfl h4 ?_
      conv => whnf
      refine optP_of (smp_nth1 h4 (by show 0 + i * 2 + 1 = i * 2 + 1; omega)) ?_
      conv => whnf
      refine Fork.ndec (fun h => absurd (show (0 : Int) < k by omega) h) (fun _ => ?_)
      conv => whnf
      refine Fork.dec (fun h5 => ?_) (fun h5 => ?_)
      all_goals
        conv => whnf
        refine ⟨⟨i + 1, by omega⟩, hlt, p1_cov (Nat.le_succ 1) rfl rfl rfl rfl rfl (congrArg (AV.si .i64) hw) rfl rfl (ha _ ?_)⟩
        first | exact Eq.trans rfl (congrArg (stateCells k) (aAdd_0 h5).symm) | exact Eq.trans rfl (congrArg (stateCells k) (aAdd_1 h5).symm)
    · have h3 : cc = i := by have : ¬ (i : Int) < (cc : Int) := h2; omega
      subst h3
      conv => whnf
      refine Fork.ndec (fun h => absurd (show (0 : Int) < k by omega) h) (fun _ => ?_)
      conv => whnf
      refine LoopP.mk { i : Nat // cc ≤ i ∧ i ≤ nn } 3 (fun a => p2St L cap nn cc k a.val) (fun a => nn - a.val) ⟨cc, Nat.le_refl _, hcn⟩ ?_ ?_
      · exact p2_cov (i := cc) (by decide) rfl rfl rfl rfl rfl rfl rfl rfl rfl rfl rfl rfl rfl rfl
      · intro ⟨i, hi1, hi2⟩
        conv => whnf
        refine Fork.dec (fun h2 => ?_) (fun h2 => ?_)
        · have h3 : i < nn := Int.ofNat_lt.1 h2
          have h4 : i < L.length := by omega
          have hw : IntKind.i64.wrap ((i : Int) + 1) = ((i + 1 : Nat) : Int) := by rw [wrap_i64_of (x := (i : Int) + 1) (by omega) (by omega)]; omega
          have hlt : nn - (i + 1) < nn - i := by omega
          have ha : ∀ (l : List AV), l.map mk = stateCells k (aAdd (aAll (L.take i)) L[i].2) → l.map mk = stateCells k (aAll (L.take (i + 1))) := fun l e => e.trans (congrArg (stateCells k) (aAll_take h4).symm)
          conv => whnf
          refine Idx.mk i rfl h4 ?_
          conv => whnf
          refine optP_of (smp_nth1 h4 (by show 0 + i * 2 + 1 = i * 2 + 1; omega)) ?_
          conv => whnf
          refine Fork.ndec (fun h => absurd (show (0 : Int) < k by omega) h) (fun _ => ?_)
          conv => whnf
          refine Fork.dec (fun h5 => ?_) (fun h5 => ?_)
          all_goals
            conv => whnf
            refine ⟨⟨i + 1, by omega, by omega⟩, hlt, p2_cov (by decide) rfl rfl rfl rfl rfl rfl rfl rfl (congrArg (AV.si .i64) hw) rfl rfl rfl rfl (ha _ ?_)⟩
            first | exact Eq.trans rfl (congrArg (stateCells k) (aAdd_0 h5).symm) | exact Eq.trans rfl (congrArg (stateCells k) (aAdd_1 h5).symm)
        · have h3 : nn = i := by have : ¬ (i : Int) < (nn : Int) := h2; omega
          subst h3
          have hwn : IntKind.i64.wrap ((nn : Int) - 1) = (nn : Int) - 1 := wrap_i64_of (by omega) (by omega)
          have hMl : (L.take nn).length = nn := by rw [List.length_take]; omega
          conv => whnf
          refine LoopP.mk { q : Smp × Nat // q.1 = ((L.take nn).drop q.2).reverse ∧ q.2 ≤ nn } 4 (fun a => p3St L cap nn cc k (allS ((L.take nn).drop a.val.2)) a.val.2 a.val.1) (fun a => a.val.2) ⟨([], nn), by simp, Nat.le_refl _⟩ ?_ ?_
          · refine p3_cov0 (j := nn) (by decide) rfl rfl rfl rfl rfl rfl rfl (congrArg AV.sb ?_) (congrArg (AV.si .i64) hwn) rfl rfl rfl rfl rfl
            simp [allS]
          · intro ⟨⟨out, j⟩, ho, hj⟩
            dsimp only at ho hj
            cases out with
            | nil =>
              conv => whnf
              refine Fork.dec (fun h6 => ?_) (fun h6 => ?_)
              · obtain ⟨j, rfl⟩ : ∃ q, j = q + 1 := ⟨j - 1, by have : (0 : Int) ≤ (j : Int) - 1 := h6; omega⟩
                have h7 : j < L.length := by omega
                have hix : ((j + 1 : Nat) : Int) - 1 = (j : Int) := by omega
                have hwj : IntKind.i64.wrap (((j + 1 : Nat) : Int) - 1 - 1) = (j : Int) - 1 := by rw [wrap_i64_of (by omega) (by omega)]; omega
                have hM : j < (L.take nn).length := by omega
                have hMj : (L.take nn)[j] = L[j] := List.getElem_take
                have hout : [L[j]] = ((L.take nn).drop j).reverse := by rw [rev_drop hM, hMj, ← ho]; rfl
                have hsm : allS ((L.take nn).drop j) = (smallV L[j].2 && allS ((L.take nn).drop (j + 1))) := by rw [allS_drop hM, hMj]
                conv => whnf
                refine Idx.mk j hix h7 ?_
                conv => whnf
                refine optP_of (smp_sub h7 (by show 0 + j * 2 = j * 2; omega)) ?_
                conv => whnf
                refine Fork.sb (fun h8 => ?_) (fun h8 => ?_)
                · conv => whnf
                  refine Idx.mk j hix h7 ?_
                  conv => whnf
                  refine optP_of (smp_nth1 h7 (by show 0 + j * 2 + 1 = j * 2 + 1; omega)) ?_
                  conv => whnf
                  refine Fork.dec (fun h9 => ?_) (fun h9 => ?_)
                  · conv => whnf
                    refine Idx.mk j hix h7 ?_
                    conv => whnf
                    refine optP_of (smp_nth1 h7 (by show 0 + j * 2 + 1 = j * 2 + 1; omega)) ?_
                    conv => whnf
                    refine ⟨⟨([L[j]], j), hout, by omega⟩, Nat.lt_succ_self j, p3_cov (y := L[j]) (o := []) (by decide) rfl rfl rfl rfl rfl rfl rfl (congrArg AV.sb ?_) (congrArg (AV.si .i64) hwj) rfl rfl rfl rfl rfl rfl rfl⟩
                    · rw [hsm, h8]; simp [smallV, h9]
                  · skip
                    conv => whnf
                    refine ⟨⟨([L[j]], j), hout, by omega⟩, Nat.lt_succ_self j, p3_cov (y := L[j]) (o := []) (by decide) rfl rfl rfl rfl rfl rfl rfl (congrArg AV.sb ?_) (congrArg (AV.si .i64) hwj) rfl rfl rfl rfl rfl rfl rfl⟩
                    · rw [hsm]; simp [smallV, h9]
                · skip
                  conv => whnf
                  refine ⟨⟨([L[j]], j), hout, by omega⟩, Nat.lt_succ_self j, p3_cov (y := L[j]) (o := []) (by decide) rfl rfl rfl rfl rfl rfl rfl (congrArg AV.sb ?_) (congrArg (AV.si .i64) hwj) rfl rfl rfl rfl rfl rfl rfl⟩
                  · rw [hsm, h8]; simp
              · have hj0 : j = 0 := by have : ¬ (0 : Int) ≤ (j : Int) - 1 := h6; omega
                subst hj0
                have hMr : [] = (L.take nn).reverse := by simpa using ho
                exact absurd (congrArg List.length hMr) (by simp only [List.length_nil, List.length_reverse, hMl]; omega)
            | cons y o =>
              conv => whnf
              refine Fork.dec (fun h6 => ?_) (fun h6 => ?_)
              · obtain ⟨j, rfl⟩ : ∃ q, j = q + 1 := ⟨j - 1, by have : (0 : Int) ≤ (j : Int) - 1 := h6; omega⟩
                have h7 : j < L.length := by omega
                have hix : ((j + 1 : Nat) : Int) - 1 = (j : Int) := by omega
                have hwj : IntKind.i64.wrap (((j + 1 : Nat) : Int) - 1 - 1) = (j : Int) - 1 := by rw [wrap_i64_of (by omega) (by omega)]; omega
                have hM : j < (L.take nn).length := by omega
                have hMj : (L.take nn)[j] = L[j] := List.getElem_take
                have hout : y :: (o ++ [L[j]]) = ((L.take nn).drop j).reverse := by rw [rev_drop hM, hMj, ← ho]; rfl
                have hsm : allS ((L.take nn).drop j) = (smallV L[j].2 && allS ((L.take nn).drop (j + 1))) := by rw [allS_drop hM, hMj]
                conv => whnf
                refine Idx.mk j hix h7 ?_
                conv => whnf
                refine optP_of (smp_sub h7 (by show 0 + j * 2 = j * 2; omega)) ?_
                conv => whnf
                refine optP_of (app_grow (k := 1) (by' := 16) (m := 1) (sn := o.length + 1) (c := o.length + 1) rfl rfl rfl rfl rfl rfl rfl rfl (by decide) rfl rfl rfl (by omega) (by have := congrArg List.length ho; simp only [List.length_cons, List.length_reverse, List.length_drop, hMl] at this; omega) (subL_all (smp_length (y :: o)))) ?_
                conv => whnf
                refine Fork.sb (fun h8 => ?_) (fun h8 => ?_)
                · conv => whnf
                  refine Idx.mk j hix h7 ?_
                  conv => whnf
                  refine optP_of (smp_nth1 h7 (by show 0 + j * 2 + 1 = j * 2 + 1; omega)) ?_
                  conv => whnf
                  refine Fork.dec (fun h9 => ?_) (fun h9 => ?_)
                  · conv => whnf
                    refine Idx.mk j hix h7 ?_
                    conv => whnf
                    refine optP_of (smp_nth1 h7 (by show 0 + j * 2 + 1 = j * 2 + 1; omega)) ?_
                    conv => whnf
                    refine ⟨⟨(y :: (o ++ [L[j]]), j), hout, by omega⟩, Nat.lt_succ_self j, p3_cov (L := L) (cap := cap) (nn := nn) (cc := cc) (j := j) (k := k) (sm := allS ((L.take nn).drop j)) (y := y) (o := o ++ [L[j]]) (by decide) rfl rfl rfl rfl rfl rfl ?_ (congrArg AV.sb ?_) (congrArg (AV.si .i64) hwj) rfl rfl rfl rfl rfl rfl (snoc_map (y :: o) L[j].1 L[j].2 (smp_map _))⟩
                    · exact (show mk _ = AV.sy 5 0 (o.length + 1 + 1) (o.length + 1 + 1) 2 from rfl).trans (by simp)
                    · rw [hsm, h8]; simp [smallV, h9]
                  · skip
                    conv => whnf
                    refine ⟨⟨(y :: (o ++ [L[j]]), j), hout, by omega⟩, Nat.lt_succ_self j, p3_cov (L := L) (cap := cap) (nn := nn) (cc := cc) (j := j) (k := k) (sm := allS ((L.take nn).drop j)) (y := y) (o := o ++ [L[j]]) (by decide) rfl rfl rfl rfl rfl rfl ?_ (congrArg AV.sb ?_) (congrArg (AV.si .i64) hwj) rfl rfl rfl rfl rfl rfl (snoc_map (y :: o) L[j].1 L[j].2 (smp_map _))⟩
                    · exact (show mk _ = AV.sy 5 0 (o.length + 1 + 1) (o.length + 1 + 1) 2 from rfl).trans (by simp)
                    · rw [hsm]; simp [smallV, h9]
                · skip
                  conv => whnf
                  refine ⟨⟨(y :: (o ++ [L[j]]), j), hout, by omega⟩, Nat.lt_succ_self j, p3_cov (L := L) (cap := cap) (nn := nn) (cc := cc) (j := j) (k := k) (sm := allS ((L.take nn).drop j)) (y := y) (o := o ++ [L[j]]) (by decide) rfl rfl rfl rfl rfl rfl ?_ (congrArg AV.sb ?_) (congrArg (AV.si .i64) hwj) rfl rfl rfl rfl rfl rfl (snoc_map (y :: o) L[j].1 L[j].2 (smp_map _))⟩
                  · exact (show mk _ = AV.sy 5 0 (o.length + 1 + 1) (o.length + 1 + 1) 2 from rfl).trans (by simp)
                  · rw [hsm, h8]; simp
              · have hj0 : j = 0 := by have : ¬ (0 : Int) ≤ (j : Int) - 1 := h6; omega
                subst hj0
                have hMr : y :: o = (L.take nn).reverse := by simpa using ho
                have hML : ∀ x ∈ L.take nn, In64 x.2 := fun x hx => hL x (List.mem_of_mem_take hx)
                have hol : (y :: o).length = nn := by rw [hMr, List.length_reverse, hMl]
                have G1 : (if (aAll (L.take nn)).n = 0 then 0 else aVal k (aAll (L.take nn))) = aNum k (L.take nn) := by unfold aNum; rw [if_pos hr]
                have G2 : (!decide ((aAll (L.take nn)).n = 0)) = aHas k (L.take nn) := by unfold aHas; rw [hr]; rfl
                have G3 : (aAll (L.take cc)).n = (cc : Int) := aAll_n hL (by omega) (by omega)
                have G4 : (aAll (L.take nn)).n = (nn : Int) := aAll_n hL (by omega) (by omega)
                have G5 : anyK k (allS ((L.take nn).drop 0)) → aNum k (y :: o) = aNum k (L.take nn) := fun q => by rw [hMr]; exact parts_law hML (by omega) q
                conv => whnf
                refine .inr ⟨k, aAll (L.take nn), 2, rfl, ⟨_, .inr ⟨_, rfl⟩, rfl⟩, hk17.1, hk17.2, ?_⟩
                conv => whnf
                refine Ask.mk _ (eslice_to (j := nn) (es := 2) rfl rfl rfl (by omega)) ?_
                conv => whnf
                refine ⟨L.take nn, .inr ⟨0, 0, cap, 0, smp L, smp (L.take nn), (show _ = AV.sl 0 0 nn cap 0 from rfl).trans (by rw [hMl]), .inl rfl, smp_sub0 hnL, smp_map _, by omega⟩, by omega, ?_⟩
                conv => whnf
                refine ⟨y :: o, .inr ⟨3, 0, o.length + 1, 2, smp (y :: o), smp (y :: o), rfl, .inr ⟨_, rfl⟩, smp_whole (y :: o), smp_map _, Nat.le_refl _⟩, by omega, ?_⟩
                repeat' (conv => whnf
                         first
                           | refine Fork.dec (fun _ => ?_) (fun h => absurd G1 h)
                           | refine Fork.dec (fun _ => ?_) (fun h => absurd G2 h)
                           | refine Fork.dec (fun _ => ?_) (fun h => absurd G3 h)
                           | refine Fork.dec (fun _ => ?_) (fun h => absurd G4 h)
                           | refine Fork.dec (fun _ => ?_) (fun h => absurd (G5 (by first | exact .inl (by assumption) | exact .inr (.inl (by assumption)) | exact .inr (.inr (.inl (by assumption))) | exact .inr (.inr (.inr (.inl (by assumption)))) | exact .inr (.inr (.inr (.inr ⟨by assumption, by assumption⟩))))) h)
                           | refine Fork.dec (fun _ => ?_) (fun _ => ?_)
                           | refine Fork.ndec (fun _ => ?_) (fun _ => ?_)
                           | refine Fork.nsb (fun _ => ?_) (fun _ => ?_)
                           | refine Fork.sb (fun _ => ?_) (fun _ => ?_)
                           | exact .inl rfl)
end Go.Proofs.Ytaejmcgcfopmkaa
namespace Go.Proofs.Ytaejmcgcfopmkaa
open Go Go.RowKit
theorem aNum_nil (k : Int) : aNum k [] = 0 := by unfold aNum; split <;> rfl
theorem aHas_nil (k : Int) : aHas k [] = false := by unfold aHas; simp [aAll, ss0]
set_option maxHeartbeats 16000000 in
set_option maxRecDepth 100000 in
theorem w_aggPartsE (kind cut : Int) (hkind : 0 ≤ kind ∧ kind ≤ 255) (cap : Nat) :
    callT FT 4 9 [.si .u8 kind, .sy 0 0 0 cap 0, .si .u8 cut] (mkH [(0, .ro [])]) 1 fun v _ _ => v = .bool true ∨ v = .sb true := by
  obtain ⟨k, hk⟩ : ∃ k, IntKind.i64.wrap (1 + (IntKind.i64.wrap kind).tmod 7) = k := ⟨_, rfl⟩
  have hk17 : 1 ≤ k ∧ k ≤ 7 := by rw [← hk]; exact kind_ok hkind
  have hr : sRight k = true := by simp only [sRight, decide_eq_true_eq]; exact hk17
  conv => whnf
  refine Fork.dec (fun h1 => absurd h1 (by decide)) (fun _ => ?_)
  conv => whnf
  refine Fork.nsb (fun h => absurd (show sRight (IntKind.i64.wrap (1 + (IntKind.i64.wrap kind).tmod 7)) = true by rw [hk]; exact hr) (by rw [h]; decide)) (fun _ => ?_)
  conv => whnf
  refine LoopP.roll 1 ?_
  conv => whnf
  refine Fork.ndec (fun h => absurd (show (0 : Int) < IntKind.i64.wrap (1 + (IntKind.i64.wrap kind).tmod 7) by rw [hk]; omega) h) (fun _ => ?_)
  conv => whnf
  refine LoopP.roll 1 ?_
  conv => whnf
  refine Fork.dec (fun h1 => absurd h1 (by decide)) (fun _ => ?_)
  conv => whnf
  refine LoopP.roll 1 ?_
  conv => whnf
  refine Fork.dec (fun h1 => absurd h1 (by decide)) (fun _ => ?_)
  conv => whnf
  refine .inr ⟨k, ss0, 2, rfl, ⟨_, .inr ⟨_, rfl⟩, Eq.trans rfl (congrArg (fun q => stateCells q ss0) hk)⟩, hk17.1, hk17.2, ?_⟩
  conv => whnf
  refine Ask.mk _ (eslice_to (j := 0) (es := 2) rfl rfl (by decide) (Nat.zero_le _)) ?_
  conv => whnf
  refine ⟨[], .inr ⟨0, 0, cap, 0, [], [], rfl, .inl rfl, rfl, rfl, Nat.zero_le _⟩, by decide, ?_⟩
  conv => whnf
  refine ⟨[], .inl ⟨rfl, rfl⟩, by decide, ?_⟩
  have G1 : (0 : Int) = aNum (IntKind.i64.wrap (1 + (IntKind.i64.wrap kind).tmod 7)) [] := (aNum_nil _).symm
  have G2 : false = aHas (IntKind.i64.wrap (1 + (IntKind.i64.wrap kind).tmod 7)) [] := (aHas_nil _).symm
  repeat' (conv => whnf
           first
             | refine Fork.dec (fun _ => ?_) (fun h => absurd G1 h)
             | refine Fork.dec (fun _ => ?_) (fun h => absurd G2 h)
             | refine Fork.dec (fun _ => ?_) (fun h => absurd rfl h)
             | refine Fork.dec (fun _ => ?_) (fun h => absurd (by decide) h)
             | refine Fork.dec (fun _ => ?_) (fun _ => ?_)
             | refine Fork.ndec (fun _ => ?_) (fun _ => ?_)
             | refine Fork.nsb (fun _ => ?_) (fun _ => ?_)
             | refine Fork.sb (fun _ => ?_) (fun _ => ?_)
             | exact .inl rfl)
set_option maxHeartbeats 16000000 in
set_option maxRecDepth 100000 in
theorem w_aggParts0 (kind : Int) (hkind : 0 ≤ kind ∧ kind ≤ 255) (cut : Int) (_ : 0 ≤ cut ∧ cut ≤ 255) :
    callT FT 4 9 [.si .u8 kind, .nsl, .si .u8 cut] .nil 0 fun v _ _ => v = .bool true ∨ v = .sb true := by
  obtain ⟨k, hk⟩ : ∃ k, IntKind.i64.wrap (1 + (IntKind.i64.wrap kind).tmod 7) = k := ⟨_, rfl⟩
  have hk17 : 1 ≤ k ∧ k ≤ 7 := by rw [← hk]; exact kind_ok hkind
  have hr : sRight k = true := by simp only [sRight, decide_eq_true_eq]; exact hk17
  conv => whnf
  refine Fork.nsb (fun h => absurd (show sRight (IntKind.i64.wrap (1 + (IntKind.i64.wrap kind).tmod 7)) = true by rw [hk]; exact hr) (by rw [h]; decide)) (fun _ => ?_)
  conv => whnf
  refine LoopP.roll 1 ?_
  conv => whnf
  refine Fork.ndec (fun h => absurd (show (0 : Int) < IntKind.i64.wrap (1 + (IntKind.i64.wrap kind).tmod 7) by rw [hk]; omega) h) (fun _ => ?_)
  conv => whnf
  refine LoopP.roll 1 ?_
  conv => whnf
  refine LoopP.roll 1 ?_
  conv => whnf
  refine .inr ⟨k, ss0, 1, rfl, ⟨_, .inr ⟨_, rfl⟩, Eq.trans rfl (congrArg (fun q => stateCells q ss0) hk)⟩, hk17.1, hk17.2, ?_⟩
  conv => whnf
  refine ⟨[], .inl ⟨rfl, rfl⟩, by decide, ?_⟩
  conv => whnf
  refine ⟨[], .inl ⟨rfl, rfl⟩, by decide, ?_⟩
  have G1 : (0 : Int) = aNum (IntKind.i64.wrap (1 + (IntKind.i64.wrap kind).tmod 7)) [] := (aNum_nil _).symm
  have G2 : false = aHas (IntKind.i64.wrap (1 + (IntKind.i64.wrap kind).tmod 7)) [] := (aHas_nil _).symm
  repeat' (conv => whnf
           first
             | refine Fork.dec (fun _ => ?_) (fun h => absurd G1 h)
             | refine Fork.dec (fun _ => ?_) (fun h => absurd G2 h)
             | refine Fork.dec (fun _ => ?_) (fun h => absurd rfl h)
             | refine Fork.dec (fun _ => ?_) (fun h => absurd (by decide) h)
             | refine Fork.dec (fun _ => ?_) (fun _ => ?_)
             | refine Fork.ndec (fun _ => ?_) (fun _ => ?_)
             | refine Fork.nsb (fun _ => ?_) (fun _ => ?_)
             | refine Fork.sb (fun _ => ?_) (fun _ => ?_)
             | exact .inl rfl)
theorem w_aggParts (kind : Int) (hkind : 0 ≤ kind ∧ kind ≤ 255) (L : Smp) (cap : Nat) (cut : Int) (hcut : 0 ≤ cut ∧ cut ≤ 255) (hin : ∀ x ∈ L, In64 x.1 ∧ In64 x.2) (_ : L.length ≤ 8796093022208) (hc : L.length ≤ cap) :
    callT FT 4 9 [.si .u8 kind, .sy 0 0 L.length cap 0, .si .u8 cut] (mkH [(0, .ro (smp L))]) 1 fun v _ _ => v = .bool true ∨ v = .sb true := by
  rcases Nat.eq_zero_or_pos L.length with h | h
  · have : L = [] := List.eq_nil_of_length_eq_zero h
    subst this
    exact w_aggPartsE kind cut hkind cap
  · exact w_aggParts1 kind cut hkind hcut L cap hin h hc
end Go.Proofs.Ytaejmcgcfopmkaa
namespace Go.Proofs.Ytaejmcgcfopmkaa
open Go Go.RowKit
structure CanOk (s a : Int) : Prop where
  s1 : 1 ≤ s
  s2 : s ≤ 1099511627776
  a1 : 0 ≤ a
  a2 : a < s
def InT (t : Int) : Prop := 0 ≤ t ∧ t < 1099511627776
theorem CanOk.can {s a : Int} (h : CanOk s a) : sCan s a = true := by
  obtain ⟨h1, h2, h3, h4⟩ := h
  simp only [sCan, decide_eq_true_eq]; omega
theorem start_at {t s a : Int} (h : CanOk s a) (ht : InT t) : sStart t s a = if a ≤ t then a + s * ((t - a) / s) else 0 := by
  obtain ⟨h1, h2, h3, h4⟩ := h
  unfold InT at ht
  rw [start_eq h1 h2 h3 h4 (by omega) (by omega)]
  have := (mod_facts (t - a) s h1).2.2
  split
  · omega
  · rfl
theorem start_mono {t u s a : Int} (h : CanOk s a) (ht : InT t) (hu : InT u) (hle : t ≤ u) : sStart t s a ≤ sStart u s a := by
  have hb := sStart_bounds (t := u) (s := s) (a := a)
  rw [start_at h ht]
  split
  · rename_i hc
    rw [start_at h hu, if_pos (by omega)]
    have := Int.ediv_le_ediv (show 0 < s by have := h.s1; omega) (show t - a ≤ u - a by omega)
    have := Int.mul_le_mul_of_nonneg_left this (show 0 ≤ s by have := h.s1; omega)
    omega
  · exact hb.1
theorem start_in {t s a : Int} (h : CanOk s a) (ht : InT t) : sStart t s a ≤ t ∧ t < sEnd (sStart t s a) s a ∧ sStart (sStart t s a) s a = sStart t s a := by
  obtain ⟨h1, h2, h3, h4⟩ := h
  obtain ⟨L1, L2, _, L4, _⟩ := times_law (t := t) (s := s) (a := a) ⟨h1, h2, h3, h4, ht.1, ht.2⟩
  exact ⟨L1, L2, L4⟩
theorem start_uniq {t u s a : Int} (h : CanOk s a) (ht : InT t) (hu : InT u) (h1 : sStart u s a ≤ t) (h2 : t < sEnd (sStart u s a) s a) : sStart t s a = sStart u s a := by
  have hb := sStart_bounds (t := u) (s := s) (a := a)
  have hst := (start_in h hu).2.2
  rw [end_eq h.s1 h.s2 h.a1 h.a2 hb.1 hb.2, hst] at h2
  have e := start_at h hu
  have s1 := h.s1
  have a1 := h.a1
  have hu0 : 0 ≤ u := hu.1
  have ht0 : 0 ≤ t := ht.1
  by_cases hc : a ≤ u
  · rw [if_pos hc] at e
    have hq : 0 ≤ (u - a) / s := Int.ediv_nonneg (by omega) (by omega)
    generalize (u - a) / s = q at e hq
    have hsq : 0 ≤ s * q := Int.mul_nonneg (by omega) hq
    rw [e] at h1 h2 ⊢
    rw [if_neg (by omega)] at h2
    rw [start_eq h.s1 h.s2 h.a1 h.a2 ht.1 (by have := ht.2; omega), if_pos (by omega)]
    have : t - a = s * q + (t - a - s * q) := by omega
    rw [this, mod_shift q s (t - a - s * q) h.s1 (by omega) (by omega)]
    omega
  · rw [if_neg hc] at e
    rw [e] at h2 ⊢
    rw [if_pos (by omega)] at h2
    rw [start_eq h.s1 h.s2 h.a1 h.a2 ht.1 (by have := ht.2; omega), if_neg (by omega)]
def hd1 (sz al : Int) (h : Smp) : Int := sStart (h.headD (0, 0)).1 sz al
def Rise (R : Smp) : Prop := R.Pairwise (fun x y => x.1 < y.1) ∧ ∀ x ∈ R, InT x.1
theorem head_mem {h : Smp} (hne : h ≠ []) : h.headD (0, 0) ∈ h := by
  cases h with
  | nil => exact absurd rfl hne
  | cons x h => simp
theorem seg_rise {sz al : Int} (hc : CanOk sz al) : ∀ (gs : List Smp), Rise gs.flatten → (∀ h ∈ gs, SegOk sz al h) → (∀ (i : Nat) (h h' : Smp), gs[i]? = some h → gs[i + 1]? = some h' → ¬ hd1 sz al h = hd1 sz al h') → gs.Pairwise (fun h h' => hd1 sz al h < hd1 sz al h')
  | [], _, _, _ => .nil
  | [g], _, _, _ => by simp
  | g :: g' :: gs, hr, hok, hch => by
    have hr2 : Rise (g' :: gs).flatten := by
      obtain ⟨h1, h2⟩ := hr
      rw [List.flatten_cons] at h1 h2
      exact ⟨(List.pairwise_append.1 h1).2.1, fun x hx => h2 x (List.mem_append_right _ hx)⟩
    have ih := seg_rise hc (g' :: gs) hr2 (fun h hh => hok h (List.mem_cons_of_mem _ hh)) fun i h h' e1 e2 => hch (i + 1) h h' (by simpa using e1) (by simpa using e2)
    refine List.pairwise_cons.2 ⟨fun h hh => ?_, ih⟩
    have le : ∀ h ∈ g' :: gs, hd1 sz al g ≤ hd1 sz al h := fun h hh => by
      have m1 := head_mem (hok g List.mem_cons_self).1
      have m2 := head_mem (hok h (List.mem_cons_of_mem _ hh)).1
      obtain ⟨p1, p2⟩ := hr
      rw [List.flatten_cons] at p1 p2
      have hm : h.headD (0, 0) ∈ (g' :: gs).flatten := List.mem_flatten.2 ⟨h, hh, m2⟩
      have := (List.pairwise_append.1 p1).2.2 _ m1 _ hm
      exact start_mono hc (p2 _ (List.mem_append_left _ m1)) (p2 _ (List.mem_append_right _ hm)) (by omega)
    have h0 : hd1 sz al g < hd1 sz al g' := by
      have := le g' List.mem_cons_self
      have := hch 0 g g' rfl rfl
      omega
    rcases List.mem_cons.1 hh with rfl | hh'
    · exact h0
    · have := (List.pairwise_cons.1 ih).1 h hh'
      omega
theorem filter_none {sz al : Int} {s : Int} : ∀ (gs : List Smp), (∀ h ∈ gs, SegOk sz al h) → (∀ h ∈ gs, ¬ hd1 sz al h = s) → gs.flatten.filter (fun x => decide (sStart x.1 sz al = s)) = []
  | [], _, _ => rfl
  | g :: gs, hok, hne => by
    rw [List.flatten_cons, List.filter_append, filter_none gs (fun h hh => hok h (List.mem_cons_of_mem _ hh)) fun h hh => hne h (List.mem_cons_of_mem _ hh), List.append_nil]
    rw [List.filter_eq_nil_iff]
    intro x hx
    have h1 := (hok g List.mem_cons_self).2 x hx
    have h2 := hne g List.mem_cons_self
    simp only [decide_eq_true_eq]
    rw [h1]; exact h2
theorem filter_seg {sz al : Int} : ∀ (gs : List Smp), (∀ h ∈ gs, SegOk sz al h) → gs.Pairwise (fun h h' => hd1 sz al h < hd1 sz al h') → ∀ (i : Nat) (h : Smp), gs[i]? = some h → gs.flatten.filter (fun x => decide (sStart x.1 sz al = hd1 sz al h)) = h
  | [], _, _, i, h, e => by simp at e
  | g :: gs, hok, hp, 0, h, e => by
    simp only [List.getElem?_cons_zero, Option.some.injEq] at e
    subst e
    rw [List.flatten_cons, List.filter_append, filter_none gs (fun h hh => hok h (List.mem_cons_of_mem _ hh)) fun h hh => by have := (List.pairwise_cons.1 hp).1 h hh; omega, List.append_nil]
    rw [List.filter_eq_self]
    intro x hx
    simp only [decide_eq_true_eq]
    exact (hok g List.mem_cons_self).2 x hx
  | g :: gs, hok, hp, i + 1, h, e => by
    simp only [List.getElem?_cons_succ] at e
    have hm := List.mem_of_getElem? e
    have hlt := (List.pairwise_cons.1 hp).1 h hm
    rw [List.flatten_cons, List.filter_append, filter_seg gs (fun h hh => hok h (List.mem_cons_of_mem _ hh)) (List.pairwise_cons.1 hp).2 i h e]
    have : g.filter (fun x => decide (sStart x.1 sz al = hd1 sz al h)) = [] := by
      rw [List.filter_eq_nil_iff]
      intro x hx
      have h1 := (hok g List.mem_cons_self).2 x hx
      simp only [decide_eq_true_eq]
      intro q
      have : hd1 sz al g = hd1 sz al h := by rw [← q, h1]; rfl
      omega
    rw [this]; rfl
def inB (b sz al : Int) (L : Smp) : Smp := L.filter fun x => decide (b ≤ x.1) && decide (x.1 < sEnd b sz al)
/-- What the law asks of each bucket. -/
structure OneOk (k sz al : Int) (R B : Smp) (gs : List Smp) : Prop where
  flat : gs.flatten = R
  len : B.length = gs.length
  up : ∀ (i : Nat) (h : i + 1 < B.length), (B[i]'(by omega)).1 < B[i + 1].1
  own : ∀ (i : Nat) (h : i < B.length), sStart B[i].1 sz al = B[i].1
  ins : ∀ (i : Nat) (h : i < B.length), inB B[i].1 sz al R = gs[i]'(by omega)
  ne : ∀ (i : Nat) (h : i < gs.length), gs[i] ≠ []
  num : ∀ (i : Nat) (h : i < B.length), aNum k (gs[i]'(by omega)) = B[i].2 ∧ aHas k (gs[i]'(by omega)) = true
theorem one_law {k sz al : Int} {R : Smp} (hr : sRight k = true) (hc : CanOk sz al) (hR : Rise R) (hIn : ∀ x ∈ R, In64 x.2) (hl : R.length ≤ 1000000) : ∃ gs, OneOk k sz al R (bkA k sz al R) gs := by
  have hbk : bkOk R = true := by
    unfold bkOk
    rw [List.all_eq_true]
    intro x hx
    have := hR.2 x hx
    unfold InT at this
    simp only [sTime, decide_eq_true_eq]; omega
  obtain ⟨gs, hf, he, hok, hch⟩ := segs (k := k) hr hc.can hbk
  have hp := seg_rise hc gs (by rw [hf]; exact hR) hok hch
  have hInT : ∀ h ∈ gs, InT (h.headD (0, 0)).1 := fun h hh => hR.2 _ (mem_seg hf hh (head_mem (hok h hh).1))
  have hlen : (bkA k sz al R).length = gs.length := by rw [he, List.length_map]
  have hat : ∀ (i : Nat) (h : i < (bkA k sz al R).length), (bkA k sz al R)[i] = segF k sz al (gs[i]'(by omega)) := fun i h => by
    simp only [he, List.getElem_map]
  refine ⟨gs, hf, hlen, fun i h => ?_, fun i h => ?_, fun i h => ?_, fun i h => (hok _ (List.getElem_mem h)).1, fun i h => ?_⟩
  · rw [hat i (by omega), hat (i + 1) h]
    exact List.pairwise_iff_getElem.1 hp i (i + 1) (by omega) (by omega) (by omega)
  · rw [hat i h]
    exact (start_in hc (hInT _ (List.getElem_mem _))).2.2
  · rw [hat i h]
    have hm : gs[i]'(by omega) ∈ gs := List.getElem_mem _
    have h2 := filter_seg gs hok hp i _ (List.getElem?_eq_getElem (by omega))
    rw [hf] at h2
    refine Eq.trans ?_ h2
    unfold inB
    refine List.filter_congr fun x hx => ?_
    have hx2 := hR.2 x hx
    show (decide (hd1 sz al (gs[i]'(by omega)) ≤ x.1) && decide (x.1 < sEnd (hd1 sz al (gs[i]'(by omega))) sz al)) = decide (sStart x.1 sz al = hd1 sz al (gs[i]'(by omega)))
    rw [Bool.eq_iff_iff]
    simp only [Bool.and_eq_true, decide_eq_true_eq]
    constructor
    · rintro ⟨q1, q2⟩
      exact start_uniq hc hx2 (hInT _ hm) q1 q2
    · intro q
      have := start_in hc hx2
      rw [q] at this
      exact ⟨this.1, this.2.1⟩
  · have hm : gs[i]'(by omega) ∈ gs := List.getElem_mem _
    have hne := (hok _ hm).1
    have hi2 : ∀ x ∈ gs[i]'(by omega), In64 x.2 := fun x hx => hIn x (mem_seg hf hm hx)
    have hl2 := len_seg hf hm
    rw [hat i h]
    obtain ⟨n1, n2, n3⟩ := num_eq (k := k) hi2 (by omega)
    refine ⟨?_, ?_⟩
    · rw [n1, num_v hr hi2 (by omega)]; rfl
    · rw [n2]
      unfold rHas
      rw [hr]
      cases hv : vals (gs[i]'(by omega)) with
      | nil => exact absurd hv (vals_ne hne)
      | cons _ _ => rfl
end Go.Proofs.Ytaejmcgcfopmkaa
namespace Go.Proofs.Ytaejmcgcfopmkaa
open Go Go.RowKit
def d_aggOne : DT := [(15, [(some 0, [14]), (some 0, [94]), (some 0, [95]), (some 0, [12, 96]), (some 0, [14, 96]), (some 0, [98, 96]), (some 0, [97, 99, 96]), (some 0, [100, 96]), (some 0, [101, 96]), (some 0, [12, 96]), (some 0, [14, 96]), (some 0, [103, 104, 96]), (some 0, [105, 96]), (some 0, [106, 96]), (some 0, [102, 107, 96]), (some 0, [96, 108]), (some 0, [109]), (some 0, [12, 110]), (some 0, [14, 110]), (some 0, [111, 112, 110]), (some 0, [113, 110]), (some 0, [114, 110]), (some 0, [8, 110]), (some 0, [9, 110]), (none, [115, 116, 117, 110]), (some 1, [12, 110]), (some 2, [14, 110]), (some 3, [119, 120, 110]), (some 4, [121, 110]), (some 5, [122, 110]), (some 0, [118, 123, 110]), (some 0, [110, 124])]),
  (21, [(some 0, [10]), (some 0, [16]), (some 0, [132, 133]), (some 0, [134]), (some 0, [135]), (some 0, [12]), (some 0, [14]), (some 0, [137, 138]), (some 0, [139]), (some 0, [140]), (some 0, [136, 141]), (some 0, [142]), (some 0, [10, 143]), (some 0, [16, 143]), (some 0, [144, 145, 143]), (some 0, [146, 143]), (some 0, [147, 143]), (some 0, [12, 143]), (some 0, [14, 143]), (some 0, [149, 150, 143]), (some 0, [151, 143]), (some 0, [152, 143]), (some 0, [8, 143]), (some 0, [9, 143]), (none, [153, 154, 155, 143]), (some 0, [148, 156, 143]), (some 0, [143, 157])])]
noncomputable def FO : FuncId → EP := withD 7 d_aggOne FT
theorem FO_ok : TabP FO := withD_ok FT_ok (by kernel_rfl) (by kernel_rfl)
theorem rise_one {x : Int × Int} (h : InT x.1) : Rise [x] := ⟨by simp, fun y hy => by simp only [List.mem_singleton] at hy; subst hy; exact h⟩
theorem rise_snoc {y x : Int × Int} {o : Smp} (h : Rise (y :: o)) (hl : ((y :: o)[o.length]'(by simp)).1 < x.1) (hx : InT x.1) : Rise (y :: (o ++ [x])) := by
  obtain ⟨h1, h2⟩ := h
  refine ⟨?_, fun z hz => ?_⟩
  · rw [← List.cons_append]
    refine List.pairwise_append.2 ⟨h1, by simp, fun z hz w hw => ?_⟩
    simp only [List.mem_singleton] at hw
    subst hw
    obtain ⟨i, hi, rfl⟩ := List.mem_iff_getElem.1 hz
    simp only [List.length_cons] at hi
    by_cases q : i = o.length
    · subst q; exact hl
    · have := List.pairwise_iff_getElem.1 h1 i o.length (by simp; omega) (by simp) (by omega)
      omega
  · rw [← List.cons_append] at hz
    rcases List.mem_append.1 hz with hz | hz
    · exact h2 z hz
    · simp only [List.mem_singleton] at hz
      subst hz; exact hx
theorem inB_yes {b sz al : Int} {R : Smp} {j : Nat} (h : j < R.length) (h1 : b ≤ R[j].1) (h2 : R[j].1 < sEnd b sz al) : inB b sz al (R.take (j + 1)) = inB b sz al (R.take j) ++ [R[j]] := by
  unfold inB
  rw [List.take_succ_eq_append_getElem h, List.filter_append]
  simp [h1, h2]
theorem inB_no {b sz al : Int} {R : Smp} {j : Nat} (h : j < R.length) (h1 : ¬ (b ≤ R[j].1 ∧ R[j].1 < sEnd b sz al)) : inB b sz al (R.take (j + 1)) = inB b sz al (R.take j) := by
  unfold inB
  rw [List.take_succ_eq_append_getElem h, List.filter_append]
  simp only [List.filter_cons, List.filter_nil]
  rw [if_neg (by simpa using h1)]
  simp
noncomputable abbrev oSt (L : Smp) (cap : Nat) (k sz al : Int) (i : Nat) : Smp → AE × AH
  | [] => (mkE [(2, .sy 0 0 L.length cap 0), (7, .si .i64 k), (8, .si .i64 sz), (9, .si .i64 al), (10, .nsl), (11, .si .i64 i)], mkH [(0, .ro (smp L))])
  | y :: o => (mkE [(2, .sy 0 0 L.length cap 0), (7, .si .i64 k), (8, .si .i64 sz), (9, .si .i64 al), (10, .sl 1 0 (o.length + 1) (o.length + 1) 2), (11, .si .i64 i)], mkH [(0, .ro (smp L)), (1, .cells (smp (y :: o)) true)])
theorem o_cov0 {p n : Nat} {σ : AE} {H : AH} {L : Smp} {cap i : Nat} {k sz al : Int} (hp : p ≤ 1) (e2 : mk (getq (pa 2) σ) = .sy 0 0 L.length cap 0) (e7 : mk (getq (pa 7) σ) = .si .i64 k) (e8 : mk (getq (pa 8) σ) = .si .i64 sz) (e9 : mk (getq (pa 9) σ) = .si .i64 al) (e10 : getq (pa 10) σ = .nsl) (e11 : mk (getq (pa 11) σ) = .si .i64 i) (h0 : H.get 0 = some (.ro (smp L))) : Cov p σ H n ((oSt L cap k sz al i []).1, (oSt L cap k sz al i []).2, 2) := by
  refine Cov.of (fun b => b) (by omega) (fun b hb => rfl) ?_ ?_ ?_
  · intro x hx
    simp only [List.mem_cons, List.not_mem_nil, or_false] at hx
    rcases hx with rfl | rfl | rfl | rfl | rfl | rfl
    · exact .sy (by decide) e2
    · exact .int e7
    · exact .int e8
    · exact .int e9
    · exact .flat rfl (congrArg mk e10)
    · exact .int e11
  · intro x hx
    simp only [List.mem_cons, List.not_mem_nil, or_false] at hx
    subst hx
    · exact ⟨by simp, _, h0, SubO.ro_mk (smp_flat _) rfl⟩
  · intro x hx y hy
    simp only [List.mem_cons, List.not_mem_nil, or_false] at hx hy
    subst hx hy
    exact fun q => q
theorem o_cov {p n : Nat} {σ : AE} {H : AH} {l1 : List AV} {L : Smp} {cap i : Nat} {k sz al : Int} {y : Int × Int} {o : Smp} (j1 : Nat) (hj : j1 ≠ 0) (hp : p ≤ 1) (e2 : mk (getq (pa 2) σ) = .sy 0 0 L.length cap 0) (e7 : mk (getq (pa 7) σ) = .si .i64 k) (e8 : mk (getq (pa 8) σ) = .si .i64 sz) (e9 : mk (getq (pa 9) σ) = .si .i64 al) (e10 : mk (getq (pa 10) σ) = .sy j1 0 (o.length + 1) (o.length + 1) 2) (e11 : mk (getq (pa 11) σ) = .si .i64 i) (h0 : H.get 0 = some (.ro (smp L))) (h1 : H.get j1 = some (.cells l1 true)) (hl1 : l1.map mk = smp (y :: o)) : Cov p σ H n ((oSt L cap k sz al i (y :: o)).1, (oSt L cap k sz al i (y :: o)).2, 2) := by
  refine Cov.of (fun b => if b = 0 then 0 else j1) (by omega) (fun b hb => by rw [if_pos (by omega)]; omega) ?_ ?_ ?_
  · intro x hx
    simp only [List.mem_cons, List.not_mem_nil, or_false] at hx
    rcases hx with rfl | rfl | rfl | rfl | rfl | rfl
    · exact .sy (by decide) e2
    · exact .int e7
    · exact .int e8
    · exact .int e9
    · exact .sl (by decide) e10
    · exact .int e11
  · intro x hx
    simp only [List.mem_cons, List.not_mem_nil, or_false] at hx
    rcases hx with rfl | rfl
    · exact ⟨by simp, _, h0, SubO.ro_mk (smp_flat _) rfl⟩
    · exact ⟨by simp, _, h1, SubO.cells_mk (smp_flat _) (by rw [hl1, smp_map]) (fun q => q)⟩
  · intro x hx y hy
    simp only [List.mem_cons, List.not_mem_nil, or_false] at hx hy
    rcases hx with rfl | rfl <;> rcases hy with rfl | rfl <;> simp <;> omega
noncomputable def bSt (m : Nat) (R C : Smp) (k sz al q : Int) (i : Nat) : AE × AH := (mkE [(7, .si .i64 k), (8, .si .i64 sz), (9, .si .i64 al), (10, .sl 1 0 m m 2), (12, .sl 2 0 C.length C.length 2), (13, .si .i64 q), (14, .si .i64 i)], mkH [(1, .cells (smp R) true), (2, .cells (smp C) true)])
theorem b_cov {p n : Nat} {σ : AE} {H : AH} {l1 l2 : List AV} {m i : Nat} {R C : Smp} {k sz al q : Int} (hp : p ≤ 1) (e7 : mk (getq (pa 7) σ) = .si .i64 k) (e8 : mk (getq (pa 8) σ) = .si .i64 sz) (e9 : mk (getq (pa 9) σ) = .si .i64 al) (e10 : mk (getq (pa 10) σ) = .sy 1 0 m m 2) (e12 : mk (getq (pa 12) σ) = .sy 2 0 C.length C.length 2) (e13 : mk (getq (pa 13) σ) = .si .i64 q) (e14 : mk (getq (pa 14) σ) = .si .i64 i) (h1 : H.get 1 = some (.cells l1 true)) (hl1 : l1.map mk = smp R) (h2 : H.get 2 = some (.cells l2 true)) (hl2 : l2.map mk = smp C) : Cov p σ H n ((bSt m R C k sz al q i).1, (bSt m R C k sz al q i).2, 3) := by
  refine Cov.of (fun b => b) (by omega) (fun b hb => rfl) ?_ ?_ ?_
  · intro x hx
    simp only [List.mem_cons, List.not_mem_nil, or_false] at hx
    rcases hx with rfl | rfl | rfl | rfl | rfl | rfl | rfl
    · exact .int e7
    · exact .int e8
    · exact .int e9
    · exact .sl (by decide) e10
    · exact .sl (by decide) e12
    · exact .int e13
    · exact .int e14
  · intro x hx
    simp only [List.mem_cons, List.not_mem_nil, or_false] at hx
    rcases hx with rfl | rfl
    · exact ⟨by simp, _, h1, SubO.cells_mk (smp_flat _) (by rw [hl1, smp_map]) (fun q => q)⟩
    · exact ⟨by simp, _, h2, SubO.cells_mk (smp_flat _) (by rw [hl2, smp_map]) (fun q => q)⟩
  · intro x hx y hy
    simp only [List.mem_cons, List.not_mem_nil, or_false] at hx hy
    rcases hx with rfl | rfl <;> rcases hy with rfl | rfl <;> exact fun q => q
noncomputable abbrev iSt (m : Nat) (R C : Smp) (k sz al q : Int) (i j : Nat) : Smp → AE × AH
  | [] => (mkE [(7, .si .i64 k), (8, .si .i64 sz), (9, .si .i64 al), (10, .sl 1 0 m m 2), (12, .sl 2 0 C.length C.length 2), (13, .si .i64 q), (14, .si .i64 i), (15, .nsl), (16, .si .i64 j)], mkH [(1, .cells (smp R) true), (2, .cells (smp C) true)])
  | y :: o => (mkE [(7, .si .i64 k), (8, .si .i64 sz), (9, .si .i64 al), (10, .sl 1 0 m m 2), (12, .sl 2 0 C.length C.length 2), (13, .si .i64 q), (14, .si .i64 i), (15, .sl 3 0 (o.length + 1) (o.length + 1) 2), (16, .si .i64 j)], mkH [(1, .cells (smp R) true), (2, .cells (smp C) true), (3, .cells (smp (y :: o)) true)])
theorem i_cov0 {p n : Nat} {σ : AE} {H : AH} {l1 l2 : List AV} {m i j : Nat} {R C : Smp} {k sz al q : Int} (hp : p ≤ 1) (e7 : mk (getq (pa 7) σ) = .si .i64 k) (e8 : mk (getq (pa 8) σ) = .si .i64 sz) (e9 : mk (getq (pa 9) σ) = .si .i64 al) (e10 : mk (getq (pa 10) σ) = .sy 1 0 m m 2) (e12 : mk (getq (pa 12) σ) = .sy 2 0 C.length C.length 2) (e13 : mk (getq (pa 13) σ) = .si .i64 q) (e14 : mk (getq (pa 14) σ) = .si .i64 i) (e15 : getq (pa 15) σ = .nsl) (e16 : mk (getq (pa 16) σ) = .si .i64 j) (h1 : H.get 1 = some (.cells l1 true)) (hl1 : l1.map mk = smp R) (h2 : H.get 2 = some (.cells l2 true)) (hl2 : l2.map mk = smp C) : Cov p σ H n ((iSt m R C k sz al q i j []).1, (iSt m R C k sz al q i j []).2, 4) := by
  refine Cov.of (fun b => b) (by omega) (fun b hb => rfl) ?_ ?_ ?_
  · intro x hx
    simp only [List.mem_cons, List.not_mem_nil, or_false] at hx
    rcases hx with rfl | rfl | rfl | rfl | rfl | rfl | rfl | rfl | rfl
    · exact .int e7
    · exact .int e8
    · exact .int e9
    · exact .sl (by decide) e10
    · exact .sl (by decide) e12
    · exact .int e13
    · exact .int e14
    · exact .flat rfl (congrArg mk e15)
    · exact .int e16
  · intro x hx
    simp only [List.mem_cons, List.not_mem_nil, or_false] at hx
    rcases hx with rfl | rfl
    · exact ⟨by simp, _, h1, SubO.cells_mk (smp_flat _) (by rw [hl1, smp_map]) (fun q => q)⟩
    · exact ⟨by simp, _, h2, SubO.cells_mk (smp_flat _) (by rw [hl2, smp_map]) (fun q => q)⟩
  · intro x hx y hy
    simp only [List.mem_cons, List.not_mem_nil, or_false] at hx hy
    rcases hx with rfl | rfl <;> rcases hy with rfl | rfl <;> exact fun q => q
theorem i_cov {p n : Nat} {σ : AE} {H : AH} {l1 l2 l3 : List AV} {m i j : Nat} {R C : Smp} {k sz al q : Int} {y : Int × Int} {o : Smp} (j1 : Nat) (hj : 2 < j1) (hp : p ≤ 1) (e7 : mk (getq (pa 7) σ) = .si .i64 k) (e8 : mk (getq (pa 8) σ) = .si .i64 sz) (e9 : mk (getq (pa 9) σ) = .si .i64 al) (e10 : mk (getq (pa 10) σ) = .sy 1 0 m m 2) (e12 : mk (getq (pa 12) σ) = .sy 2 0 C.length C.length 2) (e13 : mk (getq (pa 13) σ) = .si .i64 q) (e14 : mk (getq (pa 14) σ) = .si .i64 i) (e15 : mk (getq (pa 15) σ) = .sy j1 0 (o.length + 1) (o.length + 1) 2) (e16 : mk (getq (pa 16) σ) = .si .i64 j) (h1 : H.get 1 = some (.cells l1 true)) (hl1 : l1.map mk = smp R) (h2 : H.get 2 = some (.cells l2 true)) (hl2 : l2.map mk = smp C) (h3 : H.get j1 = some (.cells l3 true)) (hl3 : l3.map mk = smp (y :: o)) : Cov p σ H n ((iSt m R C k sz al q i j (y :: o)).1, (iSt m R C k sz al q i j (y :: o)).2, 4) := by
  refine Cov.of (fun b => if b = 3 then j1 else b) (by omega) (fun b hb => if_neg (by omega)) ?_ ?_ ?_
  · intro x hx
    simp only [List.mem_cons, List.not_mem_nil, or_false] at hx
    rcases hx with rfl | rfl | rfl | rfl | rfl | rfl | rfl | rfl | rfl
    · exact .int e7
    · exact .int e8
    · exact .int e9
    · exact .sl (by decide) e10
    · exact .sl (by decide) e12
    · exact .int e13
    · exact .int e14
    · exact .sl (by decide) e15
    · exact .int e16
  · intro x hx
    simp only [List.mem_cons, List.not_mem_nil, or_false] at hx
    rcases hx with rfl | rfl | rfl
    · exact ⟨by simp, _, h1, SubO.cells_mk (smp_flat _) (by rw [hl1, smp_map]) (fun q => q)⟩
    · exact ⟨by simp, _, h2, SubO.cells_mk (smp_flat _) (by rw [hl2, smp_map]) (fun q => q)⟩
    · exact ⟨by simp, _, h3, SubO.cells_mk (smp_flat _) (by rw [hl3, smp_map]) (fun q => q)⟩
  · intro x hx y hy
    simp only [List.mem_cons, List.not_mem_nil, or_false] at hx hy
    rcases hx with rfl | rfl | rfl <;> rcases hy with rfl | rfl | rfl <;> simp <;> omega
end Go.Proofs.Ytaejmcgcfopmkaa
namespace Go.Proofs.Ytaejmcgcfopmkaa
open Go Go.RowKit
set_option maxHeartbeats 32000000 in
set_option maxRecDepth 100000 in
theorem w_aggOne (kind : Int) (hkind : 0 ≤ kind ∧ kind ≤ 255) (x0 x1 : Int) (hx0 : 0 ≤ x0 ∧ x0 ≤ 255) (hx1 : 0 ≤ x1 ∧ x1 ≤ 255) (L : Smp) (cap : Nat) (hin : ∀ x ∈ L, In64 x.1 ∧ In64 x.2) (_ : L.length ≤ 8796093022208) (hc : L.length ≤ cap) :
    callT FO 4 7 [.si .u8 kind, .agg [.si .u8 x0, .si .u8 x1], .sy 0 0 L.length cap 0] (mkH [(0, .ro (smp L))]) 1 fun v _ _ => v = .bool true ∨ v = .sb true := by
  have hs := size_eq hx0
  have hca := align_ok hx0 hx1
  obtain ⟨al, hal⟩ : ∃ al, (IntKind.i64.wrap x1).tmod (1 + x0) = al := ⟨_, rfl⟩
  have hal2 : (IntKind.i64.wrap x1).tmod (IntKind.i64.wrap (1 + IntKind.i64.wrap x0)) = al := by rw [hs]; exact hal
  rw [hal] at hca
  have hcan : CanOk (1 + x0) al := by
    simp only [sCan, decide_eq_true_eq] at hca
    exact ⟨hca.1, hca.2.1, hca.2.2.1, hca.2.2.2⟩
  obtain ⟨k, hk⟩ : ∃ k, IntKind.i64.wrap (1 + (IntKind.i64.wrap kind).tmod 7) = k := ⟨_, rfl⟩
  have hk17 : 1 ≤ k ∧ k ≤ 7 := by rw [← hk]; exact kind_ok hkind
  have hr : sRight k = true := by simp only [sRight, decide_eq_true_eq]; exact hk17
  conv => whnf
  refine And.intro (by rw [hs]; omega) ?_
  conv => whnf
  refine LoopP.mk { q : Smp × Nat // Rise q.1 ∧ (∀ x ∈ q.1, x ∈ L) ∧ q.1.length ≤ q.2 ∧ q.2 ≤ L.length ∧ q.2 ≤ 60 } 2 (fun a => oSt L cap k (1 + x0) al a.val.2 a.val.1) (fun a => L.length - a.val.2) ⟨([], 0), ⟨by simp, (fun x hx => by cases hx)⟩, (fun x hx => by cases hx), Nat.le_refl _, Nat.zero_le _, Nat.zero_le _⟩ ?_ ?_
  · exact o_cov0 (i := 0) (Nat.le_refl 1) rfl (congrArg (AV.si .i64) hk) (congrArg (AV.si .i64) hs) (congrArg (AV.si .i64) hal2) rfl rfl rfl
  · intro ⟨⟨out, i⟩, hR, hmem, hol, hi, hi60⟩
    dsimp only at hR hmem hol hi hi60
    cases out with
    | nil =>
      conv => whnf
      refine Fork.dec (fun h1 => ?_) (fun h1 => ?_)
      have h2 : i < L.length := Int.ofNat_lt.1 h1
      have hlt : L.length - (i + 1) < L.length - i := by omega
      have hw : IntKind.i64.wrap ((i : Int) + 1) = ((i + 1 : Nat) : Int) := by rw [wrap_i64_of (x := (i : Int) + 1) (by omega) (by omega)]; omega
      conv => whnf
      refine Fork.dec (fun h60 => ?_) (fun h60 => ?_)
      · have h60 : (i : Int) < 60 := h60
        conv => whnf
        refine Idx.mk i rfl h2 ?_
        conv => whnf
        refine optP_of (smp_nth0 h2 (by show 0 + i * 2 + 0 = i * 2; omega)) ?_
        conv => whnf
        refine Fork.dec (fun h3 => ?_) (fun h3 => ?_)
        · conv => whnf
          refine Idx.mk i rfl h2 ?_
          conv => whnf
          refine optP_of (smp_nth0 h2 (by show 0 + i * 2 + 0 = i * 2; omega)) ?_
          conv => whnf
          refine Fork.dec (fun h4 => ?_) (fun h4 => ?_)
          · have ht : InT L[i].1 := ⟨h3, h4⟩
            conv => whnf
            refine Idx.mk i rfl h2 ?_
            conv => whnf
            refine optP_of (smp_sub h2 (by show 0 + i * 2 = i * 2; omega)) ?_
            conv => whnf
            exact ⟨⟨([L[i]], i + 1), rise_one ht, fun x hx => by simp only [List.mem_singleton] at hx; subst hx; exact List.getElem_mem _, by simp, by omega, by omega⟩, hlt, o_cov (y := L[i]) (o := []) 3 (by decide) (Nat.le_refl 1) rfl rfl rfl rfl rfl (congrArg (AV.si .i64) hw) rfl rfl rfl⟩
          · conv => whnf
            exact ⟨⟨([], i + 1), hR, hmem, Nat.le_succ_of_le hol, by omega, by omega⟩, hlt, o_cov0 (Nat.le_refl 1) rfl rfl rfl rfl rfl (congrArg (AV.si .i64) hw) rfl⟩
        · conv => whnf
          exact ⟨⟨([], i + 1), hR, hmem, Nat.le_succ_of_le hol, by omega, by omega⟩, hlt, o_cov0 (Nat.le_refl 1) rfl rfl rfl rfl rfl (congrArg (AV.si .i64) hw) rfl⟩
      all_goals
        conv => whnf
        refine ⟨[], .inl ⟨rfl, rfl⟩, by decide, fun _ => ?_, fun hn => absurd bkA_nil hn⟩
        conv => whnf
        refine LoopP.roll 1 ?_
        repeat' (conv => whnf
                 first | refine Fork.dec (fun _ => ?_) (fun h => absurd rfl h) | exact .inl rfl)
    | cons y o =>
      have hlw : IntKind.i64.wrap (((o.length + 1 : Nat) : Int) - 1) = (o.length : Int) := by simp only [List.length_cons] at hol; rw [wrap_i64_of (by omega) (by omega)]; omega
      conv => whnf
      refine Fork.dec (fun h1 => ?_) (fun h1 => ?_)
      have h2 : i < L.length := Int.ofNat_lt.1 h1
      have hlt : L.length - (i + 1) < L.length - i := by omega
      have hw : IntKind.i64.wrap ((i : Int) + 1) = ((i + 1 : Nat) : Int) := by rw [wrap_i64_of (x := (i : Int) + 1) (by omega) (by omega)]; omega
      conv => whnf
      refine Fork.dec (fun h60 => ?_) (fun h60 => ?_)
      · have h60 : (i : Int) < 60 := h60
        conv => whnf
        refine Idx.mk i rfl h2 ?_
        conv => whnf
        refine optP_of (smp_nth0 h2 (by show 0 + i * 2 + 0 = i * 2; omega)) ?_
        conv => whnf
        refine Fork.dec (fun h3 => ?_) (fun h3 => ?_)
        · conv => whnf
          refine Idx.mk i rfl h2 ?_
          conv => whnf
          refine optP_of (smp_nth0 h2 (by show 0 + i * 2 + 0 = i * 2; omega)) ?_
          conv => whnf
          refine Fork.dec (fun h4 => ?_) (fun h4 => ?_)
          · have ht : InT L[i].1 := ⟨h3, h4⟩
            conv => whnf
            refine optP_of (eix_of rfl hlw (Nat.lt_succ_self _)) ?_
            conv => whnf
            refine optP_of (smp_nth0 (L := y :: o) (i := o.length) (by simp) (by show 0 + o.length * 2 + 0 = o.length * 2; omega)) ?_
            conv => whnf
            refine Idx.mk i rfl h2 ?_
            conv => whnf
            refine optP_of (smp_nth0 h2 (by show 0 + i * 2 + 0 = i * 2; omega)) ?_
            conv => whnf
            refine Fork.dec (fun h5 => ?_) (fun h5 => ?_)
            · conv => whnf
              refine Idx.mk i rfl h2 ?_
              conv => whnf
              refine optP_of (smp_sub h2 (by show 0 + i * 2 = i * 2; omega)) ?_
              conv => whnf
              refine optP_of (app_grow (k := 1) (by' := 16) (m := 1) (sn := o.length + 1) (c := o.length + 1) rfl rfl rfl rfl rfl rfl rfl rfl (by decide) rfl rfl rfl (by omega) (by simp only [List.length_cons] at hol; omega) (subL_all (smp_length (y :: o)))) ?_
              conv => whnf
              refine ⟨⟨(y :: (o ++ [L[i]]), i + 1), rise_snoc hR h5 ht, fun x hx => ?_, by simp only [List.length_cons, List.length_append, List.length_nil] at hol ⊢; omega, by omega, by omega⟩, hlt, o_cov (L := L) (cap := cap) (i := i + 1) (k := k) (sz := 1 + x0) (al := al) (y := y) (o := o ++ [L[i]]) 3 (by decide) (Nat.le_refl 1) rfl rfl rfl rfl ?_ (congrArg (AV.si .i64) hw) rfl rfl (snoc_map (y :: o) L[i].1 L[i].2 (smp_map _))⟩
              · rw [← List.cons_append] at hx
                rcases List.mem_append.1 hx with hx | hx
                · exact hmem x hx
                · simp only [List.mem_singleton] at hx
                  subst hx; exact List.getElem_mem _
              · exact (show mk _ = AV.sy 3 0 (o.length + 1 + 1) (o.length + 1 + 1) 2 from rfl).trans (by simp)
            · conv => whnf
              exact ⟨⟨(y :: o, i + 1), hR, hmem, Nat.le_succ_of_le hol, by omega, by omega⟩, hlt, o_cov 1 (by decide) (Nat.le_refl 1) rfl rfl rfl rfl rfl (congrArg (AV.si .i64) hw) rfl rfl (smp_map _)⟩
          · conv => whnf
            exact ⟨⟨(y :: o, i + 1), hR, hmem, Nat.le_succ_of_le hol, by omega, by omega⟩, hlt, o_cov 1 (by decide) (Nat.le_refl 1) rfl rfl rfl rfl rfl (congrArg (AV.si .i64) hw) rfl rfl (smp_map _)⟩
        · conv => whnf
          exact ⟨⟨(y :: o, i + 1), hR, hmem, Nat.le_succ_of_le hol, by omega, by omega⟩, hlt, o_cov 1 (by decide) (Nat.le_refl 1) rfl rfl rfl rfl rfl (congrArg (AV.si .i64) hw) rfl rfl (smp_map _)⟩
      all_goals
        have hl6 : (y :: o).length ≤ 1000000 := by omega
        have hIn : ∀ x ∈ y :: o, In64 x.2 := fun x hx => (hin x (hmem x hx)).2
        obtain ⟨gs, hG⟩ := one_law (k := k) hr hcan hR hIn hl6
        have hbk : bkOk (y :: o) = true := by
          unfold bkOk
          rw [List.all_eq_true]
          intro x hx
          have := hR.2 x hx
          unfold InT at this
          simp only [sTime, decide_eq_true_eq]; omega
        have hC := bkA_ne hr hca hbk (show (y :: o) ≠ [] by simp)
        have hCl := bkA_len (k := k) (sz := 1 + x0) (al := al) (y :: o)
        conv => whnf
        refine ⟨y :: o, .inr ⟨1, 0, o.length + 1, 2, smp (y :: o), smp (y :: o), rfl, .inr ⟨_, rfl⟩, smp_whole (y :: o), smp_map _, Nat.le_refl _⟩, hl6, fun hn => absurd hn hC, fun _ => ⟨⟨rfl, by decide⟩, ?_⟩⟩
        conv => whnf
        refine LoopP.mk (_root_.Fin ((bkA k (1 + x0) al (y :: o)).length + 1)) 3 (fun a => bSt (o.length + 1) (y :: o) (bkA k (1 + x0) al (y :: o)) k (1 + x0) al (((gs.take a.val).flatten.length : Nat) : Int) a.val) (fun a => (bkA k (1 + x0) al (y :: o)).length - a.val) 0 ?_ ?_
        · exact b_cov (i := 0) (Nat.le_refl 1) rfl rfl rfl rfl rfl rfl rfl rfl (smp_map _) rfl (smp_map _)
        · intro ⟨i, hi2⟩
          conv => whnf
          refine Fork.dec (fun h5 => ?_) (fun h5 => ?_)
          · have hiC : i < (bkA k (1 + x0) al (y :: o)).length := Int.ofNat_lt.1 h5
            have hltC : (bkA k (1 + x0) al (y :: o)).length - (i + 1) < (bkA k (1 + x0) al (y :: o)).length - i := by omega
            have hwC : IntKind.i64.wrap ((i : Int) + 1) = ((i + 1 : Nat) : Int) := by rw [wrap_i64_of (x := (i : Int) + 1) (by omega) (by omega)]; omega
            have hown := hG.own i hiC
            have hinl : ∀ j, (inB (bkA k (1 + x0) al (y :: o))[i].1 (1 + x0) al ((y :: o).take j)).length ≤ 1000000 := fun j => Nat.le_trans (List.length_filter_le _ _) (by rw [List.length_take]; omega)
            conv => whnf
            refine Fork.dec (fun h6 => ?_) (fun h6 => ?_)
            have h6p : 0 < i := by have : (0 : Int) < (i : Int) := h6; omega
            have hup : ((bkA k (1 + x0) al (y :: o))[i - 1]'(by omega)).1 < (bkA k (1 + x0) al (y :: o))[i].1 := by
              have := hG.up (i - 1) (by omega)
              simp only [Nat.sub_add_cancel h6p] at this
              exact this
            have hwm : IntKind.i64.wrap ((i : Int) - 1) = ((i - 1 : Nat) : Int) := by rw [wrap_i64_of (x := (i : Int) - 1) (by omega) (by omega)]; omega
            conv => whnf
            refine Idx.mk (i - 1) hwm (by omega) ?_
            conv => whnf
            refine optP_of (smp_nth0 (i := i - 1) (by omega) (by show 0 + (i - 1) * 2 + 0 = (i - 1) * 2; omega)) ?_
            conv => whnf
            refine Idx.mk i rfl hiC ?_
            conv => whnf
            refine optP_of (smp_nth0 hiC (by show 0 + i * 2 + 0 = i * 2; omega)) ?_
            conv => whnf
            refine Fork.dec (fun h => absurd hup (Int.not_lt.2 h)) (fun _ => ?_)
            all_goals
              conv => whnf
              refine Idx.mk i rfl hiC ?_
              conv => whnf
              refine optP_of (smp_nth0 hiC (by show 0 + i * 2 + 0 = i * 2; omega)) ?_
              conv => whnf
              refine Idx.mk i rfl hiC ?_
              conv => whnf
              refine optP_of (smp_nth0 hiC (by show 0 + i * 2 + 0 = i * 2; omega)) ?_
              conv => whnf
              refine Fork.ndec (fun h => absurd hown h) (fun _ => ?_)
              conv => whnf
              refine LoopP.mk { q : Smp × Nat // q.1 = inB (bkA k (1 + x0) al (y :: o))[i].1 (1 + x0) al ((y :: o).take q.2) ∧ q.2 ≤ (y :: o).length } 4 (fun a => iSt (o.length + 1) (y :: o) (bkA k (1 + x0) al (y :: o)) k (1 + x0) al (((gs.take i).flatten.length : Nat) : Int) i a.val.2 a.val.1) (fun a => (y :: o).length - a.val.2) ⟨([], 0), rfl, Nat.zero_le _⟩ ?_ ?_
              · exact i_cov0 (j := 0) (Nat.le_refl 1) rfl rfl rfl rfl rfl rfl rfl rfl rfl rfl (smp_map _) rfl (smp_map _)
              · intro ⟨⟨inn, j⟩, hq, hj⟩
                dsimp only at hq hj
                cases inn with
                | nil =>
                  conv => whnf
                  refine Fork.dec (fun g1 => ?_) (fun g1 => ?_)
                  · have g2 : j < (y :: o).length := Int.ofNat_lt.1 g1
                    have hltj : (y :: o).length - (j + 1) < (y :: o).length - j := by omega
                    have hwj : IntKind.i64.wrap ((j : Int) + 1) = ((j + 1 : Nat) : Int) := by rw [wrap_i64_of (x := (j : Int) + 1) (by omega) (by omega)]; omega
                    conv => whnf
                    refine Idx.mk j rfl g2 ?_
                    conv => whnf
                    refine optP_of (smp_nth0 g2 (by show 0 + j * 2 + 0 = j * 2; omega)) ?_
                    conv => whnf
                    refine Idx.mk i rfl hiC ?_
                    conv => whnf
                    refine optP_of (smp_nth0 hiC (by show 0 + i * 2 + 0 = i * 2; omega)) ?_
                    conv => whnf
                    refine Fork.dec (fun g3 => ?_) (fun g3 => ?_)
                    · conv => whnf
                      refine Idx.mk j rfl g2 ?_
                      conv => whnf
                      refine optP_of (smp_nth0 g2 (by show 0 + j * 2 + 0 = j * 2; omega)) ?_
                      conv => whnf
                      refine Idx.mk i rfl hiC ?_
                      conv => whnf
                      refine optP_of (smp_nth0 hiC (by show 0 + i * 2 + 0 = i * 2; omega)) ?_
                      conv => whnf
                      refine Fork.dec (fun g4 => ?_) (fun g4 => ?_)
                      · have hin2 := inB_yes (sz := 1 + x0) (al := al) g2 g3 g4
                        conv => whnf
                        refine Idx.mk j rfl g2 ?_
                        conv => whnf
                        refine optP_of (smp_sub g2 (by show 0 + j * 2 = j * 2; omega)) ?_
                        conv => whnf
                        exact ⟨⟨([(y :: o)[j]], j + 1), (congrArg (· ++ [(y :: o)[j]]) hq).trans hin2.symm, by omega⟩, hltj, i_cov (y := (y :: o)[j]) (o := []) 5 (by decide) (Nat.le_refl 1) rfl rfl rfl rfl rfl rfl rfl rfl (congrArg (AV.si .i64) hwj) rfl (smp_map _) rfl (smp_map _) rfl rfl⟩
                      · have hin2 := inB_no (b := (bkA k (1 + x0) al (y :: o))[i].1) (sz := 1 + x0) (al := al) g2 (fun q => g4 q.2)
                        conv => whnf
                        exact ⟨⟨([], j + 1), hq.trans hin2.symm, by omega⟩, hltj, i_cov0 (Nat.le_refl 1) rfl rfl rfl rfl rfl rfl rfl rfl (congrArg (AV.si .i64) hwj) rfl (smp_map _) rfl (smp_map _)⟩
                    · have hin2 := inB_no (b := (bkA k (1 + x0) al (y :: o))[i].1) (sz := 1 + x0) (al := al) g2 (fun q => g3 q.1)
                      conv => whnf
                      exact ⟨⟨([], j + 1), hq.trans hin2.symm, by omega⟩, hltj, i_cov0 (Nat.le_refl 1) rfl rfl rfl rfl rfl rfl rfl rfl (congrArg (AV.si .i64) hwj) rfl (smp_map _) rfl (smp_map _)⟩
                  · have hj2 : j = (y :: o).length := by have : ¬ (j : Int) < (((y :: o).length : Nat) : Int) := g1; omega
                    subst hj2
                    rw [List.take_length, hG.ins i hiC] at hq
                    exact absurd hq.symm (hG.ne i (by rw [← hG.len]; exact hiC))
                | cons z w =>
                  conv => whnf
                  refine Fork.dec (fun g1 => ?_) (fun g1 => ?_)
                  · have g2 : j < (y :: o).length := Int.ofNat_lt.1 g1
                    have hltj : (y :: o).length - (j + 1) < (y :: o).length - j := by omega
                    have hwj : IntKind.i64.wrap ((j : Int) + 1) = ((j + 1 : Nat) : Int) := by rw [wrap_i64_of (x := (j : Int) + 1) (by omega) (by omega)]; omega
                    conv => whnf
                    refine Idx.mk j rfl g2 ?_
                    conv => whnf
                    refine optP_of (smp_nth0 g2 (by show 0 + j * 2 + 0 = j * 2; omega)) ?_
                    conv => whnf
                    refine Idx.mk i rfl hiC ?_
                    conv => whnf
                    refine optP_of (smp_nth0 hiC (by show 0 + i * 2 + 0 = i * 2; omega)) ?_
                    conv => whnf
                    refine Fork.dec (fun g3 => ?_) (fun g3 => ?_)
                    · conv => whnf
                      refine Idx.mk j rfl g2 ?_
                      conv => whnf
                      refine optP_of (smp_nth0 g2 (by show 0 + j * 2 + 0 = j * 2; omega)) ?_
                      conv => whnf
                      refine Idx.mk i rfl hiC ?_
                      conv => whnf
                      refine optP_of (smp_nth0 hiC (by show 0 + i * 2 + 0 = i * 2; omega)) ?_
                      conv => whnf
                      refine Fork.dec (fun g4 => ?_) (fun g4 => ?_)
                      · have hin2 := inB_yes (sz := 1 + x0) (al := al) g2 g3 g4
                        conv => whnf
                        refine Idx.mk j rfl g2 ?_
                        conv => whnf
                        refine optP_of (smp_sub g2 (by show 0 + j * 2 = j * 2; omega)) ?_
                        conv => whnf
                        refine optP_of (app_grow (k := 1) (by' := 16) (m := 1) (sn := w.length + 1) (c := w.length + 1) rfl rfl rfl rfl rfl rfl rfl rfl (by decide) rfl rfl rfl (by omega) (by have := congrArg List.length hq; have := hinl j; simp only [List.length_cons] at *; omega) (subL_all (smp_length (z :: w)))) ?_
                        conv => whnf
                        refine ⟨⟨(z :: (w ++ [(y :: o)[j]]), j + 1), (congrArg (· ++ [(y :: o)[j]]) hq).trans hin2.symm, by omega⟩, hltj, i_cov (m := o.length + 1) (i := i) (j := j + 1) (R := y :: o) (C := bkA k (1 + x0) al (y :: o)) (k := k) (sz := 1 + x0) (al := al) (q := (((gs.take i).flatten.length : Nat) : Int)) (y := z) (o := w ++ [(y :: o)[j]]) 5 (by decide) (Nat.le_refl 1) rfl rfl rfl rfl rfl rfl rfl ?_ (congrArg (AV.si .i64) hwj) rfl (smp_map _) rfl (smp_map _) rfl (snoc_map (z :: w) (y :: o)[j].1 (y :: o)[j].2 (smp_map _))⟩
                        exact (show mk _ = AV.sy 5 0 (w.length + 1 + 1) (w.length + 1 + 1) 2 from rfl).trans (by simp)
                      · have hin2 := inB_no (b := (bkA k (1 + x0) al (y :: o))[i].1) (sz := 1 + x0) (al := al) g2 (fun q => g4 q.2)
                        conv => whnf
                        exact ⟨⟨(z :: w, j + 1), hq.trans hin2.symm, by omega⟩, hltj, i_cov 3 (by decide) (Nat.le_refl 1) rfl rfl rfl rfl rfl rfl rfl rfl (congrArg (AV.si .i64) hwj) rfl (smp_map _) rfl (smp_map _) rfl (smp_map _)⟩
                    · have hin2 := inB_no (b := (bkA k (1 + x0) al (y :: o))[i].1) (sz := 1 + x0) (al := al) g2 (fun q => g3 q.1)
                      conv => whnf
                      exact ⟨⟨(z :: w, j + 1), hq.trans hin2.symm, by omega⟩, hltj, i_cov 3 (by decide) (Nat.le_refl 1) rfl rfl rfl rfl rfl rfl rfl rfl (congrArg (AV.si .i64) hwj) rfl (smp_map _) rfl (smp_map _) rfl (smp_map _)⟩
                  · have hj2 : j = (y :: o).length := by have : ¬ (j : Int) < (((y :: o).length : Nat) : Int) := g1; omega
                    subst hj2
                    rw [List.take_length, hG.ins i hiC] at hq
                    obtain ⟨n1, n2⟩ := hG.num i hiC
                    rw [← hq] at n1 n2
                    have hwl : (z :: w).length ≤ 1000000 := by
                      have := len_seg hG.flat (List.getElem_mem (show i < gs.length by rw [← hG.len]; exact hiC))
                      rw [← hq] at this
                      omega
                    have hsum : IntKind.i64.wrap ((((gs.take i).flatten.length : Nat) : Int) + ((w.length + 1 : Nat) : Int)) = (((gs.take (i + 1)).flatten.length : Nat) : Int) := by
                      have hig : i < gs.length := by rw [← hG.len]; exact hiC
                      have e : (gs.take (i + 1)).flatten.length = (gs.take i).flatten.length + (w.length + 1) := by
                        rw [List.take_succ_eq_append_getElem hig, List.flatten_append, List.length_append, ← hq]; simp
                      have e2 : (gs.take (i + 1)).flatten.length ≤ gs.flatten.length := by
                        have := congrArg (fun l : List Smp => l.flatten.length) (List.take_append_drop (i + 1) gs)
                        simp only [List.flatten_append, List.length_append] at this
                        omega
                      rw [hG.flat] at e2
                      rw [wrap_i64_of (by omega) (by omega), e]; omega
                    conv => whnf
                    refine ⟨z :: w, .inr ⟨3, 0, w.length + 1, 2, smp (z :: w), smp (z :: w), rfl, .inr ⟨_, rfl⟩, smp_whole (z :: w), smp_map _, Nat.le_refl _⟩, by omega, ?_⟩
                    conv => whnf
                    refine Fork.nsb (fun h => absurd h (by rw [n2]; decide)) (fun _ => ?_)
                    conv => whnf
                    refine Idx.mk i rfl hiC ?_
                    conv => whnf
                    refine optP_of (smp_nth1 hiC (by show 0 + i * 2 + 1 = i * 2 + 1; omega)) ?_
                    conv => whnf
                    refine Fork.ndec (fun h => absurd n1 h) (fun _ => ?_)
                    conv => whnf
                    exact ⟨⟨i + 1, by omega⟩, hltC, b_cov (Nat.le_refl 1) rfl rfl rfl rfl rfl (congrArg (AV.si .i64) hsum) (congrArg (AV.si .i64) hwC) rfl (smp_map _) rfl (smp_map _)⟩
          · have h6 : i = (bkA k (1 + x0) al (y :: o)).length := by have : ¬ (i : Int) < ((bkA k (1 + x0) al (y :: o)).length : Int) := h5; omega
            have hfin : (((gs.take i).flatten.length : Nat) : Int) = ((o.length + 1 : Nat) : Int) := by
              rw [h6, hG.len, List.take_length, hG.flat]; rfl
            conv => whnf
            refine Fork.dec (fun _ => ?_) (fun h => absurd hfin h)
            conv => whnf
            exact .inl rfl
set_option maxHeartbeats 8000000 in
set_option maxRecDepth 100000 in
theorem w_aggOne0 (kind : Int) (_ : 0 ≤ kind ∧ kind ≤ 255) (x0 x1 : Int) (hx0 : 0 ≤ x0 ∧ x0 ≤ 255) (_ : 0 ≤ x1 ∧ x1 ≤ 255) : callT FO 4 7 [.si .u8 kind, .agg [.si .u8 x0, .si .u8 x1], .nsl] .nil 0 fun v _ _ => v = .bool true ∨ v = .sb true := by
  have hs := size_eq hx0
  conv => whnf
  refine And.intro (by rw [hs]; omega) ?_
  conv => whnf
  refine LoopP.roll 1 ?_
  conv => whnf
  refine ⟨[], .inl ⟨rfl, rfl⟩, by decide, fun _ => ?_, fun hn => absurd bkA_nil hn⟩
  conv => whnf
  refine LoopP.roll 1 ?_
  repeat' (conv => whnf
           first | refine Fork.dec (fun _ => ?_) (fun h => absurd rfl h) | exact .inl rfl)
end Go.Proofs.Ytaejmcgcfopmkaa
