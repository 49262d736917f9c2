/- Texts of our own, joined: the engine, the machine that runs code, and what is known of the functions. -/
import Derived.Test.YtkhfdjhohfebgaaJg
namespace Go.Proofs.Ytkhfdjhohfebgaa
open Go Go.RowKit
theorem smp_subE {X : Smp} {n o : Nat} {b v : Int} (h : n < X.length) (ho : o = n * 2) (e : X[n] = (b, v)) : subL (smp X) o 2 = some [.si .i64 b, .si .i64 v] := by rw [smp_sub h ho, e]
theorem smp_subA {X : Smp} {n o : Nat} (h : n < X.length) (ho : o = n * 2) : subL (smp X) o 2 = some [.si .i64 (atS X n).1, .si .i64 (atS X n).2] := by rw [smp_sub h ho, atS_eq h]
theorem snoc_mapG (o : Smp) {b v : Int} {x y : AV} {l : List AV} (h : l.map mk = smp o) (hx : mk x = .si .i64 b) (hy : mk y = .si .i64 v) : (l ++ [x, y]).map mk = smp (o ++ [(b, v)]) := by
  rw [List.map_append, h]
  simp [smp, hx, hy]
theorem smp_one1 (L : Smp) : (smp L).all one1 = true := by
  induction L with
  | nil => rfl
  | cons x L ih => exact ih
theorem app_nil {P : Program} {t u e e2 : TypeId} {s x : AV} {H : AH} {n k by' m : Nat} {z : Value} {new : List AV} (hs : s = .nsl) (hu : P.underlying t = some (.slice e)) (hu2 : P.underlying u = some (.slice e2))
    (hk : tySize P e = some (k + 1)) (hby : tyBytes P e = some by') (hz : tyZero P e = some z) (hzc : z.cells.size = k + 1) (hb0 : 0 < by') (hsrc : esrc H (k + 1) x = some (m, new)) (hm : m ≠ 0) (hnew : new.length = m * (k + 1)) (hone : new.all one1 = true) (hbig : m * by' ≤ 140737488355328) :
    eappend P t u s x H n = some (.sl n 0 m m (k + 1), H.set (some (.cells new true)) depthH n, n + 1) := by
  subst hs
  simp only [eappend, hu, hu2, hk, hby, hz, hsrc]
  rw [if_pos ⟨hzc, hb0, Nat.succ_pos k, hnew, hone⟩]
  cases m with
  | zero => exact absurd rfl hm
  | succ m => exact if_pos hbig
theorem app_nil0 {P : Program} {t u e e2 : TypeId} {s x : AV} {H : AH} {n k by' : Nat} {z : Value} (hs : s = .nsl) (hu : P.underlying t = some (.slice e)) (hu2 : P.underlying u = some (.slice e2))
    (hk : tySize P e = some (k + 1)) (hby : tyBytes P e = some by') (hz : tyZero P e = some z) (hzc : z.cells.size = k + 1) (hb0 : 0 < by') (hsrc : esrc H (k + 1) x = some (0, [])) : eappend P t u s x H n = some (.nsl, H, n) := by
  subst hs
  simp only [eappend, hu, hu2, hk, hby, hz, hsrc]
  rw [if_pos ⟨hzc, hb0, Nat.succ_pos k, by simp, rfl⟩]
theorem rowNum_nil {F : Smp × Int} {e : Int} {r w : AV} {H' : AH} (h : F = ([], e)) (h1 : r = .nsl) (h2 : mk w = .si .i64 e) : RowNum F.1 F.2 (.tup [r, w]) H' := by
  subst h
  exact ⟨r, w, rfl, h2, .inl ⟨rfl, by rw [h1]; rfl⟩⟩
theorem rowNum_full {F : Smp × Int} {X : Smp} {e : Int} {r w : AV} {H' : AH} {b c : Nat} {l : List AV} (h : F = (X, e)) (hne : X ≠ []) (h1 : hd r = .sl b 0 X.length c 2) (hc : X.length ≤ c) (h2 : mk w = .si .i64 e) (hb : H'.get b = some (.cells l true)) (hl : l.map mk = smp X) : RowNum F.1 F.2 (.tup [r, w]) H' := by
  subst h
  exact ⟨r, w, rfl, h2, .full hne h1 hc hb hl⟩
noncomputable def flO0 (k s a : Int) (L : Smp) (cap : Nat) : AE × AH := (mkE [(0, .si .i64 (k)), (1, .si .i64 (s)), (2, .si .i64 (a)), (10, .nsl), (42, .sy 0 0 L.length cap 0), (43, .si .i64 (L.length)), (44, .si .i64 ((0 : Nat)))], mkH [(0, .ro (smp (L)))])
theorem flO0_cov {k s a : Int} {L : Smp} {cap : Nat} {p n : Nat} {σ : AE} {H : AH} (hp : p ≤ 1) (e0 : mk (getq (pa 0) σ) = .si .i64 (k)) (e1 : mk (getq (pa 1) σ) = .si .i64 (s)) (e2 : mk (getq (pa 2) σ) = .si .i64 (a)) (e10 : getq (pa 10) σ = .nsl) (e42 : mk (getq (pa 42) σ) = .sy 0 0 L.length cap 0) (e43 : mk (getq (pa 43) σ) = .si .i64 (L.length)) (e44 : mk (getq (pa 44) σ) = .si .i64 ((0 : Nat))) (h0 : H.get 0 = some (.ro (smp (L)))) : Cov p σ H n ((flO0 k s a L cap).1, (flO0 k s a L cap).2, 2) := by
  refine Cov.ofR (fun b => b) (by omega) (fun b hb => rfl) ?_ ?_ ?_
  · intro x hx
    simp only [List.mem_cons, List.not_mem_nil, or_false] at hx
    rcases hx with rfl | rfl | rfl | rfl | rfl | rfl | rfl
    · exact .int e0
    · exact .int e1
    · exact .int e2
    · exact .flat rfl (congrArg mk e10)
    · exact .sy (by decide) e42
    · exact .int e43
    · exact .int e44
  · intro x hx
    simp only [List.mem_cons, List.not_mem_nil, or_false] at hx
    subst hx
    exact ⟨by simp, .inl ⟨_, h0, SubO.ro_mk (smp_flat _) rfl⟩⟩
  · intro x hx y hy
    simp only [List.mem_cons, List.not_mem_nil, or_false] at hx hy
    subst hx hy
    exact fun q => rfl
noncomputable def flO (k s a : Int) (L : Smp) (cap i : Nat) (X : Smp) : AE × AH := (mkE [(0, .si .i64 (k)), (1, .si .i64 (s)), (2, .si .i64 (a)), (10, .sy 1 0 X.length X.length 2), (42, .sy 0 0 L.length cap 0), (43, .si .i64 (L.length)), (44, .si .i64 (i))], mkH [(0, .ro (smp (L))), (1, .cells (smp (X)) true)])
theorem flO_cov {k s a : Int} {L : Smp} {cap i : Nat} {X : Smp} {p n : Nat} {σ : AE} {H : AH} {l1 : List AV} (j1 : Nat) (hj : j1 ≠ 0) (hp : p ≤ 1) (e0 : mk (getq (pa 0) σ) = .si .i64 (k)) (e1 : mk (getq (pa 1) σ) = .si .i64 (s)) (e2 : mk (getq (pa 2) σ) = .si .i64 (a)) (e10 : mk (getq (pa 10) σ) = .sy j1 0 X.length X.length 2) (e42 : mk (getq (pa 42) σ) = .sy 0 0 L.length cap 0) (e43 : mk (getq (pa 43) σ) = .si .i64 (L.length)) (e44 : mk (getq (pa 44) σ) = .si .i64 (i)) (h0 : H.get 0 = some (.ro (smp (L)))) (h1 : H.get j1 = some (.cells l1 true)) (g1 : l1.map mk = smp (X)) : Cov p σ H n ((flO k s a L cap i X).1, (flO k s a L cap i X).2, 2) := by
  refine Cov.ofR (fun b => if b = 1 then j1 else b) (by omega) (fun b hb => by repeat' rw [if_neg (by omega)]) ?_ ?_ ?_
  · intro x hx
    simp only [List.mem_cons, List.not_mem_nil, or_false] at hx
    rcases hx with rfl | rfl | rfl | rfl | rfl | rfl | rfl
    · exact .int e0
    · exact .int e1
    · exact .int e2
    · exact .sy (by decide) e10
    · exact .sy (by decide) e42
    · exact .int e43
    · exact .int e44
  · intro x hx
    simp only [List.mem_cons, List.not_mem_nil, or_false] at hx
    rcases hx with rfl | rfl
    · exact ⟨by simp, .inl ⟨_, h0, SubO.ro_mk (smp_flat _) rfl⟩⟩
    · exact ⟨by simp, .inl ⟨_, h1, SubO.cells_mk (smp_flat _) (by rw [g1, smp_map]) (fun q => q)⟩⟩
  · intro x hx y hy
    simp only [List.mem_cons, List.not_mem_nil, or_false] at hx hy
    rcases hx with rfl | rfl <;> rcases hy with rfl | rfl <;> simp <;> omega
noncomputable def flI (k s a : Int) (L : Smp) (cap i : Nat) (X : Smp) : AE × AH := (mkE [(0, .si .i64 (k)), (1, .si .i64 (s)), (2, .si .i64 (a)), (10, .sy 1 0 X.length X.length 2), (11, .si .i64 (i)), (12, .ptr 2 (0)), (42, .sy 0 0 L.length cap 0), (43, .si .i64 (L.length)), (44, .si .i64 (i))], mkH [(0, .ro (smp (L))), (1, .cells (smp (X)) true), (2, .cells (smp ([atS L i])) true)])
theorem flI_cov {k s a : Int} {L : Smp} {cap i : Nat} {X : Smp} {p n : Nat} {σ : AE} {H : AH} {l1 l2 : List AV} (j1 : Nat) (j2 : Nat) (hj : j1 ≠ 0 ∧ j1 ≠ j2 ∧ j2 ≠ 0) (hp : p ≤ 1) (e0 : mk (getq (pa 0) σ) = .si .i64 (k)) (e1 : mk (getq (pa 1) σ) = .si .i64 (s)) (e2 : mk (getq (pa 2) σ) = .si .i64 (a)) (e10 : mk (getq (pa 10) σ) = .sy j1 0 X.length X.length 2) (e11 : mk (getq (pa 11) σ) = .si .i64 (i)) (e12 : getq (pa 12) σ = .ptr j2 (0)) (e42 : mk (getq (pa 42) σ) = .sy 0 0 L.length cap 0) (e43 : mk (getq (pa 43) σ) = .si .i64 (L.length)) (e44 : mk (getq (pa 44) σ) = .si .i64 (i)) (h0 : H.get 0 = some (.ro (smp (L)))) (h1 : H.get j1 = some (.cells l1 true)) (g1 : l1.map mk = smp (X)) (h2 : H.get j2 = some (.cells l2 true)) (g2 : l2.map mk = smp ([atS L i])) : Cov p σ H n ((flI k s a L cap i X).1, (flI k s a L cap i X).2, 3) := by
  refine Cov.ofR (fun b => if b = 1 then j1 else if b = 2 then j2 else b) (by omega) (fun b hb => by repeat' rw [if_neg (by omega)]) ?_ ?_ ?_
  · intro x hx
    simp only [List.mem_cons, List.not_mem_nil, or_false] at hx
    rcases hx with rfl | rfl | rfl | rfl | rfl | rfl | rfl | rfl | rfl
    · exact .int e0
    · exact .int e1
    · exact .int e2
    · exact .sy (by decide) e10
    · exact .int e11
    · exact .ptr (by decide) e12
    · exact .sy (by decide) e42
    · exact .int e43
    · exact .int e44
  · intro x hx
    simp only [List.mem_cons, List.not_mem_nil, or_false] at hx
    rcases hx with rfl | rfl | rfl
    · exact ⟨by simp, .inl ⟨_, h0, SubO.ro_mk (smp_flat _) rfl⟩⟩
    · exact ⟨by simp, .inl ⟨_, h1, SubO.cells_mk (smp_flat _) (by rw [g1, smp_map]) (fun q => q)⟩⟩
    · exact ⟨by simp, .inl ⟨_, h2, SubO.cells_mk (smp_flat _) (by rw [g2, smp_map]) (fun q => q)⟩⟩
  · intro x hx y hy
    simp only [List.mem_cons, List.not_mem_nil, or_false] at hx hy
    rcases hx with rfl | rfl | rfl <;> rcases hy with rfl | rfl | rfl <;> simp <;> omega
noncomputable abbrev flSt (k s a : Int) (L : Smp) (cap : Nat) : Nat → AE × AH
  | 0 => flO0 k s a L cap
  | i + 1 => flO k s a L cap (i + 1) (fillG k s a L (i + 1))
theorem flI_at {k s a : Int} {L : Smp} {cap i p n : Nat} {X Y : Smp} {σ : AE} {H : AH} (h : X = Y) (c : Cov p σ H n ((flI k s a L cap i Y).1, (flI k s a L cap i Y).2, 3)) : Cov p σ H n ((flI k s a L cap i X).1, (flI k s a L cap i X).2, 3) := h ▸ c
theorem flO_at {k s a : Int} {L : Smp} {cap i p n : Nat} {X Y : Smp} {σ : AE} {H : AH} (h : X = Y) (c : Cov p σ H n ((flO k s a L cap i Y).1, (flO k s a L cap i Y).2, 2)) : Cov p σ H n ((flO k s a L cap i X).1, (flO k s a L cap i X).2, 2) := h ▸ c
theorem isGap_no {k : Int} (h : ¬ k = 1) (h2 : ¬ k = 4) (h3 : ¬ k = 6) : isGap k = false := by simp [isGap, h, h2, h3]
set_option maxHeartbeats 8000000 in
set_option maxRecDepth 100000 in
theorem fl_run (k s a : Int) (L : Smp) (cap : Nat) (hL : L.length ≤ 1000000) (hcap : L.length ≤ cap) : callT G7 3 35 [.si .i64 k, .si .i64 s, .si .i64 a, .sy 0 0 L.length cap 0] (mkH [(0, .ro (smp L))]) 1 fun u H' _ => RowNum (fillF k s a L).1 (fillF k s a L).2 u H' := by
  conv => whnf
  refine Fork.nsb (fun hr => ?_) (fun hr => ?_)
  · conv => whnf
    exact rowNum_nil (fill_bad (.inl hr)) rfl rfl
  conv => whnf
  refine Fork.nsb (fun hc => ?_) (fun hc => ?_)
  · conv => whnf
    exact rowNum_nil (fill_bad (.inr (.inl hc))) rfl rfl
  conv => whnf
  refine ⟨L, .inr (.inr ⟨0, 0, cap, 0, smp L, smp L, rfl, .inl rfl, smp_whole L, smp_map L, hcap⟩), hL, ?_⟩
  conv => whnf
  refine Fork.nsb (fun hb => ?_) (fun hb => ?_)
  · conv => whnf
    exact rowNum_nil (fill_bad (.inr (.inr hb))) rfl rfl
  have hkey : isGap k = true ∨ (¬ k = 1 ∧ ¬ k = 4 ∧ ¬ k = 6) := by
    by_cases h1 : k = 1
    · exact .inl (by simp [isGap, h1])
    by_cases h2 : k = 4
    · exact .inl (by simp [isGap, h2])
    by_cases h3 : k = 6
    · exact .inl (by simp [isGap, h3])
    exact .inr ⟨h1, h2, h3⟩
  rcases hkey with hg | ⟨n1, n4, n6⟩
  rotate_left 1
  · conv => whnf
    refine Fork.ndec (fun _ => ?_) (fun h => absurd h n1)
    conv => whnf
    refine Fork.ndec (fun _ => ?_) (fun h => absurd h n4)
    conv => whnf
    refine Fork.ndec (fun _ => ?_) (fun h => absurd h n6)
    have hF := fill_same hr hc hb (isGap_no n1 n4 n6)
    conv => whnf
    by_cases hl0 : L = []
    · subst hl0
      refine Ask.mk _ (app_nil0 rfl rfl rfl rfl rfl rfl rfl (by decide) rfl) ?_
      conv => whnf
      exact rowNum_nil hF rfl rfl
    · refine Ask.mk _ (app_nil (k := 1) (by' := 16) (m := L.length) (new := smp L) rfl rfl rfl rfl rfl rfl rfl (by decide) (Eq.trans rfl (congrArg (Option.map (Prod.mk L.length)) (smp_whole L))) (fun q => hl0 (List.eq_nil_of_length_eq_zero q)) (smp_length L) (smp_one1 L) (by omega)) ?_
      conv => whnf
      exact rowNum_full (b := 1) (c := L.length) hF hl0 rfl (Nat.le_refl _) rfl rfl (smp_map L)
  obtain ⟨c1, c2, c3, c4⟩ := can_facts hc
  have hkk : k = 1 ∨ k = 4 ∨ k = 6 := by simpa only [isGap, decide_eq_true_eq] using hg
  repeat' (conv => whnf
           first | refine Fork.ndec (fun _ => ?_) (fun _ => ?_) | fail)
  · exfalso; omega
  all_goals
    conv => whnf
    refine LoopP.mk { i : Nat // i ≤ L.length ∧ (fillG k s a L i).length ≤ 10000 + i } 2 (fun q => flSt k s a L cap q.val) (fun q => L.length - q.val) ⟨0, Nat.zero_le _, Nat.zero_le _⟩ ?_ ?_
    · exact flO0_cov (Nat.le_refl 1) rfl rfl rfl rfl rfl rfl rfl rfl
    · intro ⟨i, hi, hl⟩
      cases i with
      | zero =>
        conv => whnf
        refine Fork.dec (fun h1 => ?_) (fun h1 => ?_)
        · have h2 : 0 < L.length := Int.ofNat_lt.1 h1
          have hlt : L.length - 1 < L.length - 0 := by omega
          have hl1 : (fillG k s a L 1).length ≤ 10000 + 1 := by
            show ([atS L 0] : Smp).length ≤ 10001
            simp
          conv => whnf
          refine Idx.mk 0 rfl h2 ?_
          conv => whnf
          refine optP_of (smp_subA h2 rfl) ?_
          conv => whnf
          refine LoopP.roll 1 ?_
          conv => whnf
          refine Fork.dec (fun h => absurd h (by decide)) (fun _ => ?_)
          conv => whnf
          exact ⟨⟨1, h2, hl1⟩, hlt, flO_cov (i := 1) (X := [atS L 0]) 4 (by decide) (Nat.le_refl 1) rfl rfl rfl rfl rfl rfl rfl rfl rfl rfl⟩
        · have h2 : L = [] := List.eq_nil_of_length_eq_zero (by have : ¬ (0 : Int) < (L.length : Int) := h1; omega)
          subst h2
          conv => whnf
          exact rowNum_nil (fill_all hr hc hb hg (show ¬ 10000 < (0 : Nat) from by decide)) rfl rfl
      | succ i =>
        have hne : fillG k s a L (i + 1) ≠ [] := by intro q; have := congrArg List.length q; rw [fillG_succ] at this; simp at this
        conv => whnf
        refine Fork.dec (fun h1 => ?_) (fun h1 => ?_)
        · have h2 : i + 1 < L.length := Int.ofNat_lt.1 h1
          have hlt : L.length - (i + 1 + 1) < L.length - (i + 1) := by omega
          have hw := iwrap h2 hL
          conv => whnf
          refine Idx.mk (i + 1) rfl h2 ?_
          conv => whnf
          refine optP_of (smp_subA h2 (by show 0 + (i + 1) * 2 = (i + 1) * 2; omega)) ?_
          conv => whnf
          refine LoopP.mk { j : Nat // j ≤ gapN (gE s a L (i + 1)) s (atS L (i + 1)).1 ∧ (fillX k s a L (i + 1) j).length ≤ 10000 + (i + 1) } 3 (fun q => flI k s a L cap (i + 1) (fillX k s a L (i + 1) q.val)) (fun q => gapN (gE s a L (i + 1)) s (atS L (i + 1)).1 - q.val) ⟨0, Nat.zero_le _, by rw [fillX_zero]; exact hl⟩ ?_ ?_
          · exact flI_at fillX_zero (flI_cov 1 2 (by decide) (Nat.le_refl 1) rfl rfl rfl rfl rfl rfl rfl rfl rfl rfl rfl (smp_map _) rfl rfl)
          · intro ⟨j, hj, hx⟩
            obtain ⟨m, hm⟩ : ∃ m, m = (fillX k s a L (i + 1) j).length - 1 := ⟨_, rfl⟩
            obtain ⟨b, v, hml, hX, hE, hV⟩ := fillX_last hc hb h2 hj hm
            have hmw : IntKind.i64.wrap (((fillX k s a L (i + 1) j).length : Int) - 1) = (m : Int) := by rw [wrap_i64_of (by omega) (by omega)]; omega
            conv => whnf
            refine Fork.dec (fun _ => ?_) (fun h => absurd (show (0 : Int) < ((i + 1 : Nat) : Int) by omega) h)
            conv => whnf
            refine Idx.mk m hmw hml ?_
            conv => whnf
            refine optP_of (smp_subE hml (by show 0 + m * 2 = m * 2; omega) hX) ?_
            conv => whnf
            refine Fork.dec (fun h3 => ?_) (fun h3 => ?_)
            · have h3 : (atS L (i + 1)).1 ≤ sEnd b s a := h3
              have hjn : j = gapN (gE s a L (i + 1)) s (atS L (i + 1)).1 := by
                rcases Nat.lt_or_ge j (gapN (gE s a L (i + 1)) s (atS L (i + 1)).1) with q | q
                · have := (gap_iff (e := gE s a L (i + 1)) (t := (atS L (i + 1)).1) c1 j).2 q
                  omega
                · omega
              have hG : fillG k s a L (i + 1 + 1) = fillX k s a L (i + 1) j ++ [atS L (i + 1)] := by rw [fillX_all (Nat.succ_ne_zero i), ← hjn]
              have hGl : (fillG k s a L (i + 1 + 1)).length = (fillX k s a L (i + 1) j).length + 1 := by rw [hG, List.length_append]; rfl
              conv => whnf
              refine Ask.mk _ (app_grow (k := 1) (by' := 16) (m := 1) (sn := (fillX k s a L (i + 1) j).length) (c := (fillX k s a L (i + 1) j).length) rfl rfl rfl rfl rfl rfl rfl rfl (by decide) rfl rfl rfl (by omega) (by omega) (subL_all (smp_length _))) ?_
              conv => whnf
              refine ⟨⟨i + 1 + 1, h2, by omega⟩, hlt, flO_at hG (flO_cov (i := i + 1 + 1) (X := fillX k s a L (i + 1) j ++ [atS L (i + 1)]) 5 (by decide) (Nat.le_refl 1) rfl rfl rfl ?_ rfl rfl (congrArg (AV.si .i64) hw) rfl rfl (snoc_map _ _ _ (smp_map _)))⟩
              exact (show mk _ = AV.sy 5 0 ((fillX k s a L (i + 1) j).length + 1) ((fillX k s a L (i + 1) j).length + 1) 2 from rfl).trans (by rw [List.length_append]; rfl)
            · have h3 : ¬ (atS L (i + 1)).1 ≤ sEnd b s a := h3
              have hjn : j < gapN (gE s a L (i + 1)) s (atS L (i + 1)).1 := (gap_iff (e := gE s a L (i + 1)) (t := (atS L (i + 1)).1) c1 j).1 (by omega)
              have hXs := fillX_succ (k := k) (s := s) (a := a) (L := L) (i := i + 1) (j := j)
              have hXl : (fillX k s a L (i + 1) (j + 1)).length = (fillX k s a L (i + 1) j).length + 1 := by rw [hXs, List.length_append]; rfl
              have hlt2 : gapN (gE s a L (i + 1)) s (atS L (i + 1)).1 - (j + 1) < gapN (gE s a L (i + 1)) s (atS L (i + 1)).1 - j := by omega
              conv => whnf
              refine Fork.ndec (fun h6 => ?_) (fun h6 => ?_)
              all_goals
                have hval : gV k L (i + 1) = (if k = 6 then v else 0) := by
                  first
                    | (rw [if_pos h6]; exact (hV h6).symm)
                    | (rw [if_neg h6]; exact if_neg h6)
                have hnew : fillX k s a L (i + 1) (j + 1) = fillX k s a L (i + 1) j ++ [(sEnd b s a, if k = 6 then v else 0)] := by rw [hXs, hE, hval]
                first | rw [if_pos h6] at hnew | rw [if_neg h6] at hnew
                conv => whnf
                refine Ask.mk _ (app_grow (k := 1) (by' := 16) (m := 1) (sn := (fillX k s a L (i + 1) j).length) (c := (fillX k s a L (i + 1) j).length) rfl rfl rfl rfl rfl rfl rfl rfl (by decide) rfl rfl rfl (by omega) (by omega) (subL_all (smp_length _))) ?_
                conv => whnf
                refine Fork.dec (fun h7 => ?_) (fun h7 => ?_)
                · have h7 : (10000 : Int) < (((fillX k s a L (i + 1) j).length + 1 : Nat) : Int) := h7
                  conv => whnf
                  refine Fork.dec (fun _ => ?_) (fun h => absurd h7 h)
                  conv => whnf
                  exact rowNum_nil (fill_big hr hc hb hg (big_of (i := i + 1) (j := j + 1) (Nat.succ_ne_zero i) h2 hjn (by omega))) rfl rfl
                · have h7 : ¬ (10000 : Int) < (((fillX k s a L (i + 1) j).length + 1 : Nat) : Int) := h7
                  have hx' : (fillX k s a L (i + 1) (j + 1)).length ≤ 10000 + (i + 1) := by omega
                  conv => whnf
                  refine ⟨⟨j + 1, hjn, hx'⟩, hlt2, flI_at hnew (flI_cov 5 2 (by decide) (Nat.le_refl 1) rfl rfl rfl ?_ rfl rfl rfl rfl rfl rfl rfl (snoc_mapG _ (smp_map _) rfl rfl) rfl rfl)⟩
                  exact (show mk _ = AV.sy 5 0 ((fillX k s a L (i + 1) j).length + 1) ((fillX k s a L (i + 1) j).length + 1) 2 from rfl).trans (by rw [List.length_append]; rfl)
        · have h2 : i + 1 = L.length := by have : ¬ ((i + 1 : Nat) : Int) < (L.length : Int) := h1; omega
          conv => whnf
          refine Fork.dec (fun h3 => ?_) (fun h3 => ?_)
          · have h3 : (10000 : Int) < ((fillG k s a L (i + 1)).length : Int) := h3
            conv => whnf
            exact rowNum_nil (fill_big hr hc hb hg (by rw [← h2]; omega)) rfl rfl
          · have h3 : ¬ (10000 : Int) < ((fillG k s a L (i + 1)).length : Int) := h3
            conv => whnf
            exact rowNum_full (b := 1) (c := (fillG k s a L (i + 1)).length) (X := fillG k s a L (i + 1)) ((fill_all hr hc hb hg (by rw [← h2]; omega)).trans (by rw [← h2])) hne rfl (Nat.le_refl _) rfl rfl (smp_map _)
end Go.Proofs.Ytkhfdjhohfebgaa
namespace Go.Proofs.Ytkhfdjhohfebgaa
open Go Go.RowKit
set_option maxHeartbeats 4000000 in
set_option maxRecDepth 100000 in
theorem fl_nil (k s a : Int) : callT G7 3 35 [.si .i64 k, .si .i64 s, .si .i64 a, .nsl] .nil 0 fun u H' _ => RowNum (fillF k s a []).1 (fillF k s a []).2 u H' := by
  conv => whnf
  refine Fork.nsb (fun hr => ?_) (fun hr => ?_)
  · conv => whnf
    exact rowNum_nil (fill_bad (.inl hr)) rfl rfl
  conv => whnf
  refine Fork.nsb (fun hc => ?_) (fun hc => ?_)
  · conv => whnf
    exact rowNum_nil (fill_bad (.inr (.inl hc))) rfl rfl
  conv => whnf
  refine ⟨[], .inl ⟨rfl, rfl⟩, by decide, ?_⟩
  conv => whnf
  refine Fork.nsb (fun hb => absurd hb (show ¬ (true : Bool) = false from by decide)) (fun _ => ?_)
  have hF : fillF k s a [] = ([], 0) := by
    unfold fillF
    rw [if_pos ⟨hr, hc, rfl⟩]
    split
    · exact if_neg (show ¬ 10000 < (0 : Nat) from by decide)
    · rfl
  repeat' (conv => whnf
           first | refine Fork.ndec (fun _ => ?_) (fun _ => ?_) | refine LoopP.roll 1 ?_ | exact rowNum_nil hF rfl rfl)
theorem n_fill : NatP 35 (natFl 1000000 fillF) := natFl_ok G7_ok (by kernel_rfl) fl_nil fl_run
noncomputable def G8 : FuncId → EP := withS 35 (natFl 1000000 fillF) G7
theorem G8_ok : TabP G8 := withS_ok G7_ok n_fill singFl
def aliasF (k s a : Int) (L : Smp) : Bool := sRight k && (sCan s a && (bktF s a L && !isGap k))
theorem alias_bad {k s a : Int} {L : Smp} (h : sRight k = false ∨ sCan s a = false ∨ bktF s a L = false) : aliasF k s a L = false := by
  unfold aliasF
  rcases h with h | h | h <;> simp [h]
theorem alias_gap {k s a : Int} {L : Smp} (h : isGap k = true) : aliasF k s a L = false := by unfold aliasF; simp [h]
theorem alias_yes {k s a : Int} {L : Smp} (h1 : sRight k = true) (h2 : sCan s a = true) (h3 : bktF s a L = true) (h4 : isGap k = false) : aliasF k s a L = true := by unfold aliasF; simp [h1, h2, h3, h4]
theorem smp_nthA0 {L : Smp} {i o : Nat} (h : i < L.length) (ho : o = i * 2) : nth (smp L) o = some (.si .i64 (atS L i).1) := by rw [smp_nth0 h ho, atS_eq h]
theorem smp_nthA1 {L : Smp} {i o : Nat} (h : i < L.length) (ho : o = i * 2 + 1) : nth (smp L) o = some (.si .i64 (atS L i).2) := by rw [smp_nth1 h ho, atS_eq h]
noncomputable def rfA (k s a : Int) (L : Smp) (cap i : Nat) : AE × AH := (mkE [(0, .si .i64 (k)), (1, .si .i64 (s)), (2, .si .i64 (a)), (3, .sy 0 0 L.length cap 0), (10, .si .i64 (i))], mkH [(0, .ro (smp (L)))])
theorem rfA_cov {k s a : Int} {L : Smp} {cap i : Nat} {p n : Nat} {σ : AE} {H : AH} (hp : p ≤ 1) (e0 : mk (getq (pa 0) σ) = .si .i64 (k)) (e1 : mk (getq (pa 1) σ) = .si .i64 (s)) (e2 : mk (getq (pa 2) σ) = .si .i64 (a)) (e3 : mk (getq (pa 3) σ) = .sy 0 0 L.length cap 0) (e10 : mk (getq (pa 10) σ) = .si .i64 (i)) (h0 : H.get 0 = some (.ro (smp (L)))) : Cov p σ H n ((rfA k s a L cap i).1, (rfA k s a L cap i).2, 1) := by
  refine Cov.ofR (fun b => b) (by omega) (fun b hb => rfl) ?_ ?_ ?_
  · intro x hx
    simp only [List.mem_cons, List.not_mem_nil, or_false] at hx
    rcases hx with rfl | rfl | rfl | rfl | rfl
    · exact .int e0
    · exact .int e1
    · exact .int e2
    · exact .sy (by decide) e3
    · exact .int e10
  · intro x hx
    simp only [List.mem_cons, List.not_mem_nil, or_false] at hx
    subst hx
    exact ⟨by simp, .inl ⟨_, h0, SubO.ro_mk (smp_flat _) rfl⟩⟩
  · intro x hx y hy
    simp only [List.mem_cons, List.not_mem_nil, or_false] at hx hy
    subst hx hy
    exact fun q => rfl
noncomputable def rfO0 (k s a : Int) (L : Smp) (cap : Nat) : AE × AH := (mkE [(0, .si .i64 (k)), (1, .si .i64 (s)), (2, .si .i64 (a)), (3, .sy 0 0 L.length cap 0), (12, .nsl), (13, .si .i64 ((0 : Nat)))], mkH [(0, .ro (smp (L)))])
theorem rfO0_cov {k s a : Int} {L : Smp} {cap : Nat} {p n : Nat} {σ : AE} {H : AH} (hp : p ≤ 1) (e0 : mk (getq (pa 0) σ) = .si .i64 (k)) (e1 : mk (getq (pa 1) σ) = .si .i64 (s)) (e2 : mk (getq (pa 2) σ) = .si .i64 (a)) (e3 : mk (getq (pa 3) σ) = .sy 0 0 L.length cap 0) (e12 : getq (pa 12) σ = .nsl) (e13 : mk (getq (pa 13) σ) = .si .i64 ((0 : Nat))) (h0 : H.get 0 = some (.ro (smp (L)))) : Cov p σ H n ((rfO0 k s a L cap).1, (rfO0 k s a L cap).2, 2) := by
  refine Cov.ofR (fun b => b) (by omega) (fun b hb => rfl) ?_ ?_ ?_
  · intro x hx
    simp only [List.mem_cons, List.not_mem_nil, or_false] at hx
    rcases hx with rfl | rfl | rfl | rfl | rfl | rfl
    · exact .int e0
    · exact .int e1
    · exact .int e2
    · exact .sy (by decide) e3
    · exact .flat rfl (congrArg mk e12)
    · exact .int e13
  · intro x hx
    simp only [List.mem_cons, List.not_mem_nil, or_false] at hx
    subst hx
    exact ⟨by simp, .inl ⟨_, h0, SubO.ro_mk (smp_flat _) rfl⟩⟩
  · intro x hx y hy
    simp only [List.mem_cons, List.not_mem_nil, or_false] at hx hy
    subst hx hy
    exact fun q => rfl
noncomputable def rfO (k s a : Int) (L : Smp) (cap i : Nat) (X : Smp) : AE × AH := (mkE [(0, .si .i64 (k)), (1, .si .i64 (s)), (2, .si .i64 (a)), (3, .sy 0 0 L.length cap 0), (12, .sy 1 0 X.length X.length 2), (13, .si .i64 (i))], mkH [(0, .ro (smp (L))), (1, .cells (smp (X)) true)])
theorem rfO_cov {k s a : Int} {L : Smp} {cap i : Nat} {X : Smp} {p n : Nat} {σ : AE} {H : AH} {l1 : List AV} (j1 : Nat) (hj : j1 ≠ 0) (hp : p ≤ 1) (e0 : mk (getq (pa 0) σ) = .si .i64 (k)) (e1 : mk (getq (pa 1) σ) = .si .i64 (s)) (e2 : mk (getq (pa 2) σ) = .si .i64 (a)) (e3 : mk (getq (pa 3) σ) = .sy 0 0 L.length cap 0) (e12 : mk (getq (pa 12) σ) = .sy j1 0 X.length X.length 2) (e13 : mk (getq (pa 13) σ) = .si .i64 (i)) (h0 : H.get 0 = some (.ro (smp (L)))) (h1 : H.get j1 = some (.cells l1 true)) (g1 : l1.map mk = smp (X)) : Cov p σ H n ((rfO k s a L cap i X).1, (rfO k s a L cap i X).2, 2) := by
  refine Cov.ofR (fun b => if b = 1 then j1 else b) (by omega) (fun b hb => by repeat' rw [if_neg (by omega)]) ?_ ?_ ?_
  · intro x hx
    simp only [List.mem_cons, List.not_mem_nil, or_false] at hx
    rcases hx with rfl | rfl | rfl | rfl | rfl | rfl
    · exact .int e0
    · exact .int e1
    · exact .int e2
    · exact .sy (by decide) e3
    · exact .sy (by decide) e12
    · exact .int e13
  · intro x hx
    simp only [List.mem_cons, List.not_mem_nil, or_false] at hx
    rcases hx with rfl | rfl
    · exact ⟨by simp, .inl ⟨_, h0, SubO.ro_mk (smp_flat _) rfl⟩⟩
    · exact ⟨by simp, .inl ⟨_, h1, SubO.cells_mk (smp_flat _) (by rw [g1, smp_map]) (fun q => q)⟩⟩
  · intro x hx y hy
    simp only [List.mem_cons, List.not_mem_nil, or_false] at hx hy
    rcases hx with rfl | rfl <;> rcases hy with rfl | rfl <;> simp <;> omega
noncomputable def rfI (k s a : Int) (L : Smp) (cap i : Nat) (b : Int) (X : Smp) : AE × AH := (mkE [(0, .si .i64 (k)), (1, .si .i64 (s)), (2, .si .i64 (a)), (3, .sy 0 0 L.length cap 0), (12, .sy 1 0 X.length X.length 2), (13, .si .i64 (i)), (14, .si .i64 (b))], mkH [(0, .ro (smp (L))), (1, .cells (smp (X)) true)])
theorem rfI_cov {k s a : Int} {L : Smp} {cap i : Nat} {b : Int} {X : Smp} {p n : Nat} {σ : AE} {H : AH} {l1 : List AV} (j1 : Nat) (hj : j1 ≠ 0) (hp : p ≤ 1) (e0 : mk (getq (pa 0) σ) = .si .i64 (k)) (e1 : mk (getq (pa 1) σ) = .si .i64 (s)) (e2 : mk (getq (pa 2) σ) = .si .i64 (a)) (e3 : mk (getq (pa 3) σ) = .sy 0 0 L.length cap 0) (e12 : mk (getq (pa 12) σ) = .sy j1 0 X.length X.length 2) (e13 : mk (getq (pa 13) σ) = .si .i64 (i)) (e14 : mk (getq (pa 14) σ) = .si .i64 (b)) (h0 : H.get 0 = some (.ro (smp (L)))) (h1 : H.get j1 = some (.cells l1 true)) (g1 : l1.map mk = smp (X)) : Cov p σ H n ((rfI k s a L cap i b X).1, (rfI k s a L cap i b X).2, 2) := by
  refine Cov.ofR (fun b => if b = 1 then j1 else b) (by omega) (fun b hb => by repeat' rw [if_neg (by omega)]) ?_ ?_ ?_
  · intro x hx
    simp only [List.mem_cons, List.not_mem_nil, or_false] at hx
    rcases hx with rfl | rfl | rfl | rfl | rfl | rfl | rfl
    · exact .int e0
    · exact .int e1
    · exact .int e2
    · exact .sy (by decide) e3
    · exact .sy (by decide) e12
    · exact .int e13
    · exact .int e14
  · intro x hx
    simp only [List.mem_cons, List.not_mem_nil, or_false] at hx
    rcases hx with rfl | rfl
    · exact ⟨by simp, .inl ⟨_, h0, SubO.ro_mk (smp_flat _) rfl⟩⟩
    · exact ⟨by simp, .inl ⟨_, h1, SubO.cells_mk (smp_flat _) (by rw [g1, smp_map]) (fun q => q)⟩⟩
  · intro x hx y hy
    simp only [List.mem_cons, List.not_mem_nil, or_false] at hx hy
    rcases hx with rfl | rfl <;> rcases hy with rfl | rfl <;> simp <;> omega
theorem rfI_at {k s a : Int} {L : Smp} {cap i p n : Nat} {b b' : Int} {X Y : Smp} {σ : AE} {H : AH} (hb : b = b') (h : X = Y) (c : Cov p σ H n ((rfI k s a L cap i b' Y).1, (rfI k s a L cap i b' Y).2, 2)) : Cov p σ H n ((rfI k s a L cap i b X).1, (rfI k s a L cap i b X).2, 2) := hb ▸ h ▸ c
theorem rfO_at {k s a : Int} {L : Smp} {cap i p n : Nat} {X Y : Smp} {σ : AE} {H : AH} (h : X = Y) (c : Cov p σ H n ((rfO k s a L cap i Y).1, (rfO k s a L cap i Y).2, 2)) : Cov p σ H n ((rfO k s a L cap i X).1, (rfO k s a L cap i X).2, 2) := h ▸ c
noncomputable abbrev rfSt (k s a : Int) (L : Smp) (cap : Nat) : Nat → AE × AH
  | 0 => rfO0 k s a L cap
  | i + 1 => rfO k s a L cap (i + 1) (fillG k s a L (i + 1))
/-- What is yielded. -/
def FaP (k s a : Int) (L : Smp) (r0 : AV) (u : AV) (H' : AH) : Prop := (aliasF k s a L = true ∧ ∃ r w, u = .tup [r, w] ∧ mk w = .si .i64 0 ∧ r = r0) ∨ (aliasF k s a L = false ∧ RowNum (fillF k s a L).1 (fillF k s a L).2 u H')
theorem FaP.bad {k s a : Int} {L : Smp} {r0 r w : AV} {H' : AH} (h : sRight k = false ∨ sCan s a = false ∨ bktF s a L = false) (h1 : r = .nsl) (h2 : mk w = .si .i64 1) : FaP k s a L r0 (.tup [r, w]) H' := .inr ⟨alias_bad h, rowNum_nil (fill_bad h) h1 h2⟩
theorem FaP.al {k s a : Int} {L : Smp} {r0 r w : AV} {H' : AH} (h : aliasF k s a L = true) (h1 : r = r0) (h2 : mk w = .si .i64 0) : FaP k s a L r0 (.tup [r, w]) H' := .inl ⟨h, r, w, rfl, h2, h1⟩
theorem FaP.of {k s a : Int} {L : Smp} {r0 u : AV} {H' : AH} (h : isGap k = true) (h1 : RowNum (fillF k s a L).1 (fillF k s a L).2 u H') : FaP k s a L r0 u H' := .inr ⟨alias_gap h, h1⟩
theorem pwrap {i m : Nat} (h : i + 1 < m) (hm : m ≤ 1000000) : IntKind.i64.wrap (((i + 1 : Nat) : Int) - 1) = (i : Int) := by rw [wrap_i64_of (by omega) (by omega)]; omega
set_option maxHeartbeats 16000000 in
set_option maxRecDepth 100000 in
theorem rf_run (k s a : Int) (L : Smp) (cap : Nat) (hL : L.length ≤ 1000000) (_ : L.length ≤ cap) : callT G8 3 36 [.si .i64 k, .si .i64 s, .si .i64 a, .sy 0 0 L.length cap 0] (mkH [(0, .ro (smp L))]) 1 fun u H' _ => FaP k s a L (.sy 0 0 L.length cap 0) u H' := by
  have hnr := name_right k
  conv => whnf
  refine Fork.sb (fun hr => ?_) (fun hr => ?_)
  · have hr : sRight k = false := name_empty hr
    conv => whnf
    exact FaP.bad (.inl hr) rfl rfl
  have hr : sRight k = true := name_full hr
  conv => whnf
  refine Fork.nsb (fun hc => ?_) (fun hc => ?_)
  · conv => whnf
    exact FaP.bad (.inr (.inl hc)) rfl rfl
  obtain ⟨c1, c2, c3, c4⟩ := can_facts hc
  conv => whnf
  refine LoopP.mk { i : Nat // i ≤ L.length ∧ bktTo s a L i = true } 1 (fun q => rfA k s a L cap q.val) (fun q => L.length - q.val) ⟨0, Nat.zero_le _, rfl⟩ ?_ ?_
  · exact rfA_cov (i := 0) (Nat.le_refl 1) rfl rfl rfl rfl rfl rfl
  intro ⟨i, hi, hh⟩
  conv => whnf
  refine Fork.dec (fun h1 => ?_) (fun h1 => ?_)
  · have h2 : i < L.length := Int.ofNat_lt.1 h1
    have hlt : L.length - (i + 1) < L.length - i := by omega
    have hw := iwrap h2 hL
    conv => whnf
    refine Idx.mk i rfl h2 ?_
    conv => whnf
    refine optP_of (smp_nthA0 h2 (by show 0 + i * 2 + 0 = i * 2; omega)) ?_
    cases i with
    | zero =>
      repeat' (conv => whnf
               first | refine Fork.dec (fun _ => ?_) (fun _ => ?_) | refine Fork.ndec (fun _ => ?_) (fun _ => ?_) | refine FaP.bad (.inr (.inr (bkt_no h2 ?_))) rfl rfl | refine ⟨⟨1, h2, ?_⟩, hlt, rfA_cov (Nat.le_refl 1) rfl rfl rfl rfl (congrArg (AV.si .i64) hw) rfl⟩ | fail)
      all_goals first
        | (simp only [bktC, ahead]
           simp_all <;> (intros; omega))
        | (rw [bktTo_succ]
           simp only [bktC, ahead]
           simp_all <;> omega)
    | succ i =>
      have hp := bkt_pos hh
      have hpi : i < L.length := by omega
      have hpw := pwrap h2 hL
      repeat' (conv => whnf
               first | refine Fork.dec (fun _ => ?_) (fun _ => ?_) | refine Fork.ndec (fun _ => ?_) (fun _ => ?_) | refine Idx.mk i hpw hpi ?_ | refine optP_of (smp_nthA0 hpi (by show 0 + i * 2 + 0 = i * 2; omega)) ?_ | refine FaP.bad (.inr (.inr (bkt_no h2 ?_))) rfl rfl | refine ⟨⟨i + 1 + 1, h2, ?_⟩, hlt, rfA_cov (Nat.le_refl 1) rfl rfl rfl rfl (congrArg (AV.si .i64) hw) rfl⟩ | fail)
      all_goals first
        | (simp only [bktC, ahead, Nat.add_sub_cancel]
           simp_all <;> (intros; omega))
        | (rw [bktTo_succ, hh, Bool.true_and]
           simp only [bktC, ahead, Nat.add_sub_cancel]
           simp_all <;> omega)
        | (exfalso; omega)
  have hiL : i = L.length := by have : ¬ (i : Int) < (L.length : Int) := h1; omega
  have hb : bktF s a L = true := by unfold bktF; rw [← hiL]; exact hh
  have hkey : isGap k = true ∨ (¬ k = 1 ∧ ¬ k = 4 ∧ ¬ k = 6) := by
    by_cases h1 : k = 1
    · exact .inl (by simp [isGap, h1])
    by_cases h2 : k = 4
    · exact .inl (by simp [isGap, h2])
    by_cases h3 : k = 6
    · exact .inl (by simp [isGap, h3])
    exact .inr ⟨h1, h2, h3⟩
  rcases hkey with hg | ⟨n1, n4, n6⟩
  rotate_left 1
  · conv => whnf
    refine Fork.ndec (fun _ => ?_) (fun h => absurd h n1)
    conv => whnf
    refine Fork.ndec (fun _ => ?_) (fun h => absurd h n4)
    conv => whnf
    refine Fork.ndec (fun _ => ?_) (fun h => absurd h n6)
    conv => whnf
    exact FaP.al (alias_yes hr hc hb (isGap_no n1 n4 n6)) rfl rfl
  have hkk : k = 1 ∨ k = 4 ∨ k = 6 := by simpa only [isGap, decide_eq_true_eq] using hg
  repeat' (conv => whnf
           first | refine Fork.ndec (fun _ => ?_) (fun _ => ?_) | fail)
  · exfalso; omega
  all_goals
    conv => whnf
    refine LoopP.mk { i : Nat // i ≤ L.length ∧ (fillG k s a L i).length ≤ 10000 } 2 (fun q => rfSt k s a L cap q.val) (fun q => L.length - q.val) ⟨0, Nat.zero_le _, Nat.zero_le _⟩ ?_ ?_
    · exact rfO0_cov (Nat.le_refl 1) rfl rfl rfl rfl rfl rfl rfl
    · intro ⟨i, hi, hl⟩
      cases i with
      | zero =>
        conv => whnf
        refine Fork.dec (fun h1 => ?_) (fun h1 => ?_)
        · have h2 : 0 < L.length := Int.ofNat_lt.1 h1
          have hlt : L.length - 1 < L.length - 0 := by omega
          have hl1 : (fillG k s a L 1).length ≤ 10000 := by
            show ([atS L 0] : Smp).length ≤ 10000
            simp
          conv => whnf
          refine Fork.dec (fun h => absurd h (by decide)) (fun _ => ?_)
          conv => whnf
          refine Idx.mk 0 rfl h2 ?_
          conv => whnf
          refine optP_of (smp_subA h2 rfl) ?_
          conv => whnf
          exact ⟨⟨1, h2, hl1⟩, hlt, rfO_cov (i := 1) (X := [atS L 0]) 3 (by decide) (Nat.le_refl 1) rfl rfl rfl rfl rfl rfl rfl rfl rfl⟩
        · have h2 : L = [] := List.eq_nil_of_length_eq_zero (by have : ¬ (0 : Int) < (L.length : Int) := h1; omega)
          subst h2
          conv => whnf
          exact FaP.of hg (rowNum_nil (fill_all hr hc hb hg (show ¬ 10000 < (0 : Nat) from by decide)) rfl rfl)
      | succ i =>
        have hne : fillG k s a L (i + 1) ≠ [] := by intro q; have := congrArg List.length q; rw [fillG_succ] at this; simp at this
        conv => whnf
        refine Fork.dec (fun h1 => ?_) (fun h1 => ?_)
        · have h2 : i + 1 < L.length := Int.ofNat_lt.1 h1
          have hlt : L.length - (i + 1 + 1) < L.length - (i + 1) := by omega
          have hw := iwrap h2 hL
          have hpi : i < L.length := by omega
          have hpw := pwrap h2 hL
          have hf := bkt_fact hb hpi
          have hf2 := bkt_fact hb h2
          have he := end_fact hc hf.1 hf.2.1 hf.2.2.1
          conv => whnf
          refine Fork.dec (fun _ => ?_) (fun h => absurd (show (0 : Int) < ((i + 1 : Nat) : Int) by omega) h)
          conv => whnf
          refine Idx.mk i hpw hpi ?_
          conv => whnf
          refine optP_of (smp_nthA0 hpi (by show 0 + i * 2 + 0 = i * 2; omega)) ?_
          conv => whnf
          refine LoopP.mk { j : Nat // j ≤ gapN (gE s a L (i + 1)) s (atS L (i + 1)).1 ∧ (fillX k s a L (i + 1) j).length ≤ 10000 } 2 (fun q => rfI k s a L cap (i + 1) (gE s a L (i + 1) + (q.val : Int) * s) (fillX k s a L (i + 1) q.val)) (fun q => gapN (gE s a L (i + 1)) s (atS L (i + 1)).1 - q.val) ⟨0, Nat.zero_le _, by rw [fillX_zero]; exact hl⟩ ?_ ?_
          · exact rfI_at (b' := sEnd (atS L i).1 s a) (by show sEnd (atS L (i + 1 - 1)).1 s a + ((0 : Nat) : Int) * s = _; simp) fillX_zero (rfI_cov 1 (by decide) (Nat.le_refl 1) rfl rfl rfl rfl rfl rfl rfl rfl rfl (smp_map _))
          · intro ⟨j, hj, hx⟩
            conv => whnf
            refine Idx.mk (i + 1) rfl h2 ?_
            conv => whnf
            refine optP_of (smp_nthA0 h2 (by show 0 + (i + 1) * 2 + 0 = (i + 1) * 2; omega)) ?_
            conv => whnf
            refine Fork.dec (fun h3 => ?_) (fun h3 => ?_)
            · have h3 : gE s a L (i + 1) + (j : Int) * s < (atS L (i + 1)).1 := h3
              have hjn : j < gapN (gE s a L (i + 1)) s (atS L (i + 1)).1 := (gap_iff (e := gE s a L (i + 1)) (t := (atS L (i + 1)).1) c1 j).1 h3
              have hgm := gap_mod (e := gE s a L (i + 1)) (j := j) c1 he.1 he.2.1
              have hXs := fillX_succ (k := k) (s := s) (a := a) (L := L) (i := i + 1) (j := j)
              have hXl : (fillX k s a L (i + 1) (j + 1)).length = (fillX k s a L (i + 1) j).length + 1 := by rw [hXs, List.length_append]; rfl
              have hlt2 : gapN (gE s a L (i + 1)) s (atS L (i + 1)).1 - (j + 1) < gapN (gE s a L (i + 1)) s (atS L (i + 1)).1 - j := by omega
              have hbw : gE s a L (i + 1) + ((j + 1 : Nat) : Int) * s = IntKind.i64.wrap (gE s a L (i + 1) + (j : Int) * s + s) := by
                rw [wrap_i64_of (by omega) (by omega), show ((j + 1 : Nat) : Int) = (j : Int) + 1 from by omega, Int.add_mul]; omega
              conv => whnf
              refine Fork.dec (fun h6 => ?_) (fun h6 => ?_)
              all_goals
                first
                  | (have hval : gV k L (i + 1) = (atS L i).2 := if_pos h6
                     conv => whnf
                     refine Idx.mk i hpw hpi ?_
                     conv => whnf
                     refine optP_of (smp_nthA1 hpi (by show 0 + i * 2 + 1 = i * 2 + 1; omega)) ?_)
                  | have hval : gV k L (i + 1) = 0 := if_neg h6
                rw [hval] at hXs
                conv => whnf
                refine Ask.mk _ (app_grow (k := 1) (by' := 16) (m := 1) (sn := (fillX k s a L (i + 1) j).length) (c := (fillX k s a L (i + 1) j).length) rfl rfl rfl rfl rfl rfl rfl rfl (by decide) rfl rfl rfl (by omega) (by omega) (subL_all (smp_length _))) ?_
                conv => whnf
                refine Fork.dec (fun h7 => ?_) (fun h7 => ?_)
                · have h7 : (10000 : Int) < (((fillX k s a L (i + 1) j).length + 1 : Nat) : Int) := h7
                  conv => whnf
                  exact FaP.of hg (rowNum_nil (fill_big hr hc hb hg (big_of (i := i + 1) (j := j + 1) (Nat.succ_ne_zero i) h2 hjn (by omega))) rfl rfl)
                · have h7 : ¬ (10000 : Int) < (((fillX k s a L (i + 1) j).length + 1 : Nat) : Int) := h7
                  have hx' : (fillX k s a L (i + 1) (j + 1)).length ≤ 10000 := by omega
                  conv => whnf
                  refine ⟨⟨j + 1, hjn, hx'⟩, hlt2, rfI_at hbw hXs (rfI_cov 3 (by decide) (Nat.le_refl 1) rfl rfl rfl rfl ?_ rfl rfl rfl rfl (snoc_mapG _ (smp_map _) rfl rfl))⟩
                  exact (show mk _ = AV.sy 3 0 ((fillX k s a L (i + 1) j).length + 1) ((fillX k s a L (i + 1) j).length + 1) 2 from rfl).trans (by rw [List.length_append]; rfl)
            · have h3 : ¬ gE s a L (i + 1) + (j : Int) * s < (atS L (i + 1)).1 := h3
              have hjn : j = gapN (gE s a L (i + 1)) s (atS L (i + 1)).1 := by
                rcases Nat.lt_or_ge j (gapN (gE s a L (i + 1)) s (atS L (i + 1)).1) with q | q
                · exact absurd ((gap_iff (e := gE s a L (i + 1)) (t := (atS L (i + 1)).1) c1 j).2 q) h3
                · omega
              have hG : fillG k s a L (i + 1 + 1) = fillX k s a L (i + 1) j ++ [atS L (i + 1)] := by rw [fillX_all (Nat.succ_ne_zero i), ← hjn]
              have hGl : (fillG k s a L (i + 1 + 1)).length = (fillX k s a L (i + 1) j).length + 1 := by rw [hG, List.length_append]; rfl
              have hGm := fillG_mono (k := k) (s := s) (a := a) (L := L) (i := i + 1 + 1) (j := L.length) h2
              conv => whnf
              refine Idx.mk (i + 1) rfl h2 ?_
              conv => whnf
              refine optP_of (smp_subA h2 (by show 0 + (i + 1) * 2 = (i + 1) * 2; omega)) ?_
              conv => whnf
              refine Ask.mk _ (app_grow (k := 1) (by' := 16) (m := 1) (sn := (fillX k s a L (i + 1) j).length) (c := (fillX k s a L (i + 1) j).length) rfl rfl rfl rfl rfl rfl rfl rfl (by decide) rfl rfl rfl (by omega) (by omega) (subL_all (smp_length _))) ?_
              conv => whnf
              refine Fork.dec (fun h7 => ?_) (fun h7 => ?_)
              · have h7 : (10000 : Int) < (((fillX k s a L (i + 1) j).length + 1 : Nat) : Int) := h7
                conv => whnf
                exact FaP.of hg (rowNum_nil (fill_big hr hc hb hg (by omega)) rfl rfl)
              · have h7 : ¬ (10000 : Int) < (((fillX k s a L (i + 1) j).length + 1 : Nat) : Int) := h7
                have hx' : (fillG k s a L (i + 1 + 1)).length ≤ 10000 := by omega
                conv => whnf
                refine ⟨⟨i + 1 + 1, h2, hx'⟩, hlt, rfO_at hG (rfO_cov (i := i + 1 + 1) (X := fillX k s a L (i + 1) j ++ [atS L (i + 1)]) 3 (by decide) (Nat.le_refl 1) rfl rfl rfl rfl ?_ (congrArg (AV.si .i64) hw) rfl rfl (snoc_map _ _ _ (smp_map _)))⟩
                exact (show mk _ = AV.sy 3 0 ((fillX k s a L (i + 1) j).length + 1) ((fillX k s a L (i + 1) j).length + 1) 2 from rfl).trans (by rw [List.length_append]; rfl)
        · have h2 : i + 1 = L.length := by have : ¬ ((i + 1 : Nat) : Int) < (L.length : Int) := h1; omega
          conv => whnf
          exact FaP.of hg (rowNum_full (b := 1) (c := (fillG k s a L (i + 1)).length) (X := fillG k s a L (i + 1)) ((fill_all hr hc hb hg (by rw [← h2]; omega)).trans (by rw [← h2])) hne rfl (Nat.le_refl _) rfl rfl (smp_map _))
set_option maxHeartbeats 4000000 in
set_option maxRecDepth 100000 in
theorem rf_nil (k s a : Int) : callT G8 3 36 [.si .i64 k, .si .i64 s, .si .i64 a, .nsl] .nil 0 fun u H' _ => FaP k s a [] .nsl u H' := by
  conv => whnf
  refine Fork.sb (fun hr => ?_) (fun hr => ?_)
  · have hr : sRight k = false := name_empty hr
    conv => whnf
    exact FaP.bad (.inl hr) rfl rfl
  have hr : sRight k = true := name_full hr
  conv => whnf
  refine Fork.nsb (fun hc => ?_) (fun hc => ?_)
  · conv => whnf
    exact FaP.bad (.inr (.inl hc)) rfl rfl
  conv => whnf
  refine LoopP.roll 1 ?_
  have hkey : isGap k = true ∨ (¬ k = 1 ∧ ¬ k = 4 ∧ ¬ k = 6) := by
    by_cases h1 : k = 1
    · exact .inl (by simp [isGap, h1])
    by_cases h2 : k = 4
    · exact .inl (by simp [isGap, h2])
    by_cases h3 : k = 6
    · exact .inl (by simp [isGap, h3])
    exact .inr ⟨h1, h2, h3⟩
  rcases hkey with hg | ⟨n1, n4, n6⟩
  · have hkk : k = 1 ∨ k = 4 ∨ k = 6 := by simpa only [isGap, decide_eq_true_eq] using hg
    repeat' (conv => whnf
             first | refine Fork.ndec (fun _ => ?_) (fun _ => ?_) | fail)
    · exfalso; omega
    all_goals
      conv => whnf
      refine LoopP.roll 1 ?_
      conv => whnf
      exact FaP.of hg (rowNum_nil (fill_all hr hc rfl hg (show ¬ 10000 < (0 : Nat) from by decide)) rfl rfl)
  · conv => whnf
    refine Fork.ndec (fun _ => ?_) (fun h => absurd h n1)
    conv => whnf
    refine Fork.ndec (fun _ => ?_) (fun h => absurd h n4)
    conv => whnf
    refine Fork.ndec (fun _ => ?_) (fun h => absurd h n6)
    conv => whnf
    exact FaP.al (alias_yes hr hc rfl (isGap_no n1 n4 n6)) rfl rfl
theorem n_rfill : NatP 36 (natFa 1000000 aliasF fillF) := natFa_ok G8_ok (by kernel_rfl) rf_nil rf_run
noncomputable def G9 : FuncId → EP := withS 36 (natFa 1000000 aliasF fillF) G8
theorem G9_ok : TabP G9 := withS_ok G8_ok n_rfill singFa
end Go.Proofs.Ytkhfdjhohfebgaa
namespace Go.Proofs.Ytkhfdjhohfebgaa
open Go Go.RowKit
section
variable {φ ψ : Ph} {H : AH} {n : Nat} {h0 hp : Hp}
/-- What is looked at lies at a place, or there is none of it. -/
def RoO (hp : Hp) (p : Option Pl) (l : List AV) : Prop := match p with
  | none => l = []
  | some p => RoAt hp p l
def pho (ps : List (Option Pl)) : Ph := fun b => (ps[b]?).getD none
def memR (ls : List (List AV)) (k : Nat) : List (Nat × AO) := match ls with
  | [] => []
  | l :: ls => (k, .ro l) :: memR ls (k + 1)
theorem memR_mem : ∀ {ls : List (List AV)} {k b : Nat} {o : AO}, (b, o) ∈ memR ls k → ∃ i l, b = k + i ∧ ls[i]? = some l ∧ o = .ro l
  | [], k, b, o, h => by cases h
  | l :: ls, k, b, o, h => by
    rcases List.mem_cons.1 h with h | h
    · injection h with h1 h2; exact ⟨0, l, h1, rfl, h2⟩
    · obtain ⟨i, l', h1, h2, h3⟩ := memR_mem h
      exact ⟨i + 1, l', by omega, h2, h3⟩
theorem HR.ros (hw : Wf hp) {ps : List (Option Pl)} {ls : List (List AV)} (hl : ps.length = ls.length) (h : ∀ (i : Nat) p l, ps[i]? = some p → ls[i]? = some l → RoO hp p l) : HR (pho ps) (mkH (memR ls 0)) ps.length hp hp := by
  refine ⟨fun b q e => ?_, fun b o e => ?_, fun b b' o o' q q' e _ hw' => ?_, fun b o e => ⟨hw b o e, e⟩, Nat.le_refl _⟩
  · simp only [pho] at e
    cases hb : ps[b]? with
    | none => rw [hb] at e; cases e
    | some p =>
      rw [hb] at e
      have e : p = some q := e
      subst e
      have hlt := (List.getElem?_eq_some_iff.1 hb).1
      obtain ⟨c, t, fz, h1, _⟩ := h b (some q) _ hb (List.getElem?_eq_getElem (by omega))
      exact ⟨hlt, hw _ _ h1⟩
  · obtain ⟨i, l, hb, hl2, rfl⟩ := memR_mem (mkH_get e)
    have hb : b = i := by omega
    subst hb
    have hlt := (List.getElem?_eq_some_iff.1 hl2).1
    have h2 := h b _ l (List.getElem?_eq_getElem (by omega)) hl2
    have hφ : pho ps b = ps[b]'(by omega) := by simp only [pho]; rw [List.getElem?_eq_getElem (by omega)]; rfl
    cases hp2 : ps[b]'(by omega) with
    | none =>
      rw [hp2] at h2 hφ
      have h2 : l = [] := h2
      subst h2
      exact .inl ⟨hφ, rfl⟩
    | some p =>
      rw [hp2] at h2 hφ
      obtain ⟨c, t, fz, h1, h3, h4, h5⟩ := h2
      exact .inr ⟨p, _, hφ, h1, h1, c, t, fz, rfl, h3, h4, h5 _⟩
  · obtain ⟨i, l, _, _, rfl⟩ := memR_mem (mkH_get e)
    cases hw'
theorem HR.rosE (hw : Wf hp) {φ0 : Ph} {M : List (Nat × AO)} {m : Nat} {ps : List (Option Pl)} {ls : List (List AV)} (hl : ps.length = ls.length) (h : ∀ (i : Nat) p l, ps[i]? = some p → ls[i]? = some l → RoO hp p l) (e1 : φ0 = pho ps) (e2 : M = memR ls 0) (e3 : m = ps.length) : HR φ0 (mkH M) m hp hp := by
  subst e1 e2 e3; exact HR.ros hw hl h
theorem ros1 {p : Option Pl} {l : List AV} (h : RoO hp p l) : ∀ (i : Nat) q m, [p][i]? = some q → [l][i]? = some m → RoO hp q m := fun i q m h1 h2 => by
  cases i with
  | zero => injection h1 with h1; injection h2 with h2; subst h1 h2; exact h
  | succ i => simp at h1
theorem ros2 {p q : Option Pl} {l m : List AV} (h : RoO hp p l) (k : RoO hp q m) : ∀ (i : Nat) r s, [p, q][i]? = some r → [l, m][i]? = some s → RoO hp r s := fun i r s h1 h2 => by
  cases i with
  | zero => injection h1 with h1; injection h2 with h2; subst h1 h2; exact h
  | succ i => exact ros1 k i r s h1 h2
theorem ros3 {p q r : Option Pl} {l m o : List AV} (h : RoO hp p l) (k : RoO hp q m) (j : RoO hp r o) : ∀ (i : Nat) x s, [p, q, r][i]? = some x → [l, m, o][i]? = some s → RoO hp x s := fun i x s h1 h2 => by
  cases i with
  | zero => injection h1 with h1; injection h2 with h2; subst h1 h2; exact h
  | succ i => exact ros2 k j i x s h1 h2
/-- A row, as one that may be none. -/
theorem row_open (hr : HR φ H n h0 hp) {a : AV} {v : Value} {es m : Nat} {l : List AV} (hl : l.all flat.flat1 = true) (hm : l.length = m * es) (hes : es ≠ 0) (hv : VR φ a v)
    (hS : (hd a = .nsl ∧ m = 0) ∨ (∃ b o x l' r, (a = .rw b o m es x ∧ x ≠ 4) ∧ (H.get b = some (.ro l') ∨ ∃ z, H.get b = some (.cells l' z)) ∧ subL l' o (m * es) = some r ∧ r.map mk = l.map mk) ∨ ∃ b o c k l' r, hd a = .sl b o m c k ∧ (H.get b = some (.ro l') ∨ ∃ z, H.get b = some (.cells l' z)) ∧ subL l' o (m * es) = some r ∧ r.map mk = l.map mk ∧ m ≤ c) :
    ∃ po, RoO hp po l ∧ ∀ χ b, χ b = po → VR χ (.rw b 0 m es 2) v := by
  have emp : m = 0 → l = [] := fun q => List.eq_nil_of_length_eq_zero (by rw [hm, q, Nat.zero_mul])
  rcases hS with ⟨ey, h0⟩ | ⟨b, o, x, l', r, ⟨rfl, hx4⟩, hb, hsub, hmk⟩ | ⟨b, o, c, kk, l', r, ey, hb, hsub, hmk, hlc⟩
  · have e6 := hv.hd
    rw [ey] at e6
    exact ⟨none, emp h0, fun χ b _ => by rw [e6.nsl_inv, h0]; exact .rwn⟩
  · rcases hv.rw_inv with ⟨h1, hem⟩ | ⟨p, y, C, hpb, rfl, h2, h3, h4, h5, _, _⟩
    · have := hem.nil hx4
      subst this
      exact ⟨none, emp h1, fun χ b _ => by rw [h1]; exact .rwn⟩
    · by_cases hm0 : m = 0
      · have := emp hm0
        subst this
        exact ⟨some ⟨p.B, y, 0⟩, RoAt.emp hr hb hpb h3 (by rw [hm0, Nat.zero_mul] at h5; exact h5), fun χ b hχ => .rwx (p := ⟨p.B, y, 0⟩) hχ (fun q => absurd hm0 q) (Nat.le_refl _) h4 (by rw [hm0, Nat.zero_mul]; exact Nat.le_refl _) (fun q => by omega) (fun q => by cases q)⟩
      · have := h2 hm0
        subst this
        have hro := RoAt.of (s := l) hr hb hpb hsub hmk hl
        exact ⟨some ⟨p.B, p.s + o, m * es⟩, hro, fun χ b hχ => .rwx (p := ⟨p.B, p.s + o, m * es⟩) hχ (fun _ => rfl) (Nat.le_refl _) h4 (Nat.le_refl _) (fun q => by omega) (fun q => by cases q)⟩
  · have e6 := hv.hd
    rw [ey] at e6
    obtain ⟨p, C, hpb, rfl, hC0, hC1⟩ := e6.sl_inv
    have hlC : m ≤ C := by
      by_cases hk0 : kk = 0
      · rw [hC0 hk0]; exact hlc
      · exact Nat.le_trans hlc (hC1 hk0).1
    have hro := RoAt.of (s := l) hr hb hpb hsub hmk hl
    exact ⟨some ⟨p.B, p.s + o, m * es⟩, hro, fun χ b hχ => .rwx (p := ⟨p.B, p.s + o, m * es⟩) hχ (fun _ => rfl) (Nat.le_refl _) hlC (Nat.le_refl _) (fun q => by omega) (fun q => by cases q)⟩
theorem SmpAt.openR (hr : HR φ H n h0 hp) {a : AV} {L : Smp} {v : Value} (hS : SmpAt H a L) (hv : VR φ a v) : ∃ po, RoO hp po (smp L) ∧ ∀ χ b, χ b = po → VR χ (.rw b 0 L.length 2 2) v := by
  refine row_open hr (smp_flat L) (smp_length L) (by decide) hv ?_
  rcases hS with ⟨h1, rfl⟩ | ⟨b, o, x, l, r, h1, h2, h3, h4⟩ | ⟨b, o, c, k, l, r, h1, h2, h3, h4, h5⟩
  · exact .inl ⟨h1, rfl⟩
  · exact .inr (.inl ⟨b, o, x, l, r, h1, h2, h3, by rw [h4, smp_map]⟩)
  · exact .inr (.inr ⟨b, o, c, k, l, r, h1, h2, h3, by rw [h4, smp_map], h5⟩)
theorem IntAt.openR (hr : HR φ H n h0 hp) {a : AV} {V : List Int} {v : Value} (hS : IntAt H a V) (hv : VR φ a v) : ∃ po, RoO hp po (ints V) ∧ ∀ χ b, χ b = po → VR χ (.rw b 0 V.length 1 2) v := by
  refine row_open hr (ints_flat V) (by rw [ints_length, Nat.mul_one]) (by decide) hv ?_
  rcases hS with ⟨h1, rfl⟩ | ⟨b, o, x, l, r, h1, h2, h3, h4⟩ | ⟨b, o, c, k, l, r, h1, h2, h3, h4, h5⟩
  · exact .inl ⟨h1, rfl⟩
  · exact .inr (.inl ⟨b, o, x, l, r, h1, h2, by rw [Nat.mul_one]; exact h3, by rw [h4, ints_map]⟩)
  · exact .inr (.inr ⟨b, o, c, k, l, r, h1, h2, by rw [Nat.mul_one]; exact h3, by rw [h4, ints_map], h5⟩)
def qRw (b : Nat) (Q : Qry) : AV := .agg (qCells Q (.rw b 0 Q.times.length 1 2))
theorem QryAt.openR (hr : HR φ H n h0 hp) {a : AV} {Q : Qry} {v : Value} (hq : QryAt H a Q) (hv : VR φ a v) : ∃ po, RoO hp po (ints Q.times) ∧ ∀ χ b, χ b = po → VR χ (qRw b Q) v := by
  obtain ⟨a8, v8, hI, h8, key⟩ := hq.core hr hv
  obtain ⟨po, h1, h2⟩ := hI.openR hr h8
  exact ⟨po, h1, fun χ b hχ => key χ _ (h2 χ b hχ)⟩
theorem SmpAt.row {H : AH} {a : AV} {b x : Nat} {L : Smp} {l : List AV} {z : Bool} (h1 : a = .rw b 0 L.length 2 x) (h2 : H.get b = some (.cells l z)) (h3 : l.map mk = smp L) (hx : x ≠ 4 := by decide) : SmpAt H a L :=
  .inr (.inl ⟨b, 0, x, l, l, ⟨h1, hx⟩, .inr ⟨z, h2⟩, subL_all (by have := congrArg List.length h3; rw [List.length_map, smp_length] at this; exact this), h3⟩)
theorem SmpAt.rowO {H : AH} {a : AV} {b x : Nat} {L : Smp} {l : List AV} (h1 : a = .rw b 0 L.length 2 x) (h2 : H.get b = some (.ro l)) (h3 : l.map mk = smp L) (hx : x ≠ 4 := by decide) : SmpAt H a L :=
  .inr (.inl ⟨b, 0, x, l, l, ⟨h1, hx⟩, .inl h2, subL_all (by have := congrArg List.length h3; rw [List.length_map, smp_length] at this; exact this), h3⟩)
theorem IntAt.rowO {H : AH} {a : AV} {b x : Nat} {L : List Int} {l : List AV} (h1 : a = .rw b 0 L.length 1 x) (h2 : H.get b = some (.ro l)) (h3 : l.map mk = ints L) (hx : x ≠ 4 := by decide) : IntAt H a L :=
  .inr (.inl ⟨b, 0, x, l, l, ⟨h1, hx⟩, .inl h2, subL_all (by have := congrArg List.length h3; rw [List.length_map, ints_length] at this; exact this), h3⟩)
theorem SubO.qcellsR {m : Nat} {r : Nat → Nat} {b : Nat} {Q : Qry} {z : Bool} (hb : b < m) (hr : r b = b) : SubO H m r (.cells (qCells Q (.rw b 0 Q.times.length 1 2)) z) (.cells (qCells Q (.rw b 0 Q.times.length 1 2)) z) :=
  SubO.cells (Nat.le_refl _) (fun q => q) fun _ a' hi => ⟨a', hi, by
    have ha := List.mem_of_getElem? hi
    simp only [qCells, List.mem_cons, List.not_mem_nil, or_false] at ha
    rcases ha with rfl | rfl | rfl | rfl | rfl | rfl | rfl | rfl | rfl | rfl | rfl | rfl
    all_goals first | exact .same rfl | exact SubV.rw hb (by rw [hr])⟩
theorem mk_rw {a : AV} {b o n k x : Nat} (h : mk a = .rw b o n k x) : a = .rw b o n k x := by
  cases a <;> first | exact h | cases h
theorem SubO.qcellsM {m : Nat} {r : Nat → Nat} {b : Nat} {Q : Qry} {z : Bool} {l : List AV} (hb : b < m) (hr : r b = b) (hl : l.map mk = qCells Q (.rw b 0 Q.times.length 1 2)) : SubO H m r (.cells l z) (.cells (qCells Q (.rw b 0 Q.times.length 1 2)) z) := by
  refine SubO.cells (by have := congrArg List.length hl; rw [List.length_map] at this; omega) (fun q => q) fun i a' hi => ?_
  have e := congrArg (fun x : List AV => x[i]?) hl
  simp only [List.getElem?_map, hi] at e
  rw [Option.map_eq_some_iff] at e
  obtain ⟨a, h1, h2⟩ := e
  refine ⟨a, h1, ?_⟩
  have ha := List.mem_of_getElem? hi
  simp only [qCells, List.mem_cons, List.not_mem_nil, or_false] at ha
  rcases ha with rfl | rfl | rfl | rfl | rfl | rfl | rfl | rfl | rfl | rfl | rfl | rfl
  all_goals first | exact .flat rfl (h2.trans rfl) | exact SubV.rw hb (by rw [hr]; exact mk_rw h2)
theorem SmpAt.rowN {H : AH} {a : AV} {b x k : Nat} {L : Smp} {l : List AV} {z : Bool} (h1 : a = .rw b 0 k 2 x) (hk : k = L.length) (h2 : H.get b = some (.cells l z)) (h3 : l.map mk = smp L) (hx : x ≠ 4 := by decide) : SmpAt H a L := by
  subst hk; exact SmpAt.row h1 h2 h3 hx
theorem qatR {H : AH} {b : Nat} {Q : Qry} (h : H.get b = some (.ro (ints Q.times))) : QryAt H (qRw b Q) Q := ⟨_, _, _, _, _, _, _, _, _, _, _, _, rfl, IntAt.rowO rfl h (ints_map _), rfl⟩
theorem rowNum_rw {F : Smp × Int} {X : Smp} {e : Int} {r w : AV} {H' : AH} {b x : Nat} {l : List AV} (h : F = (X, e)) (h1 : r = .rw b 0 X.length 2 x) (h2 : mk w = .si .i64 e) (hb : H'.get b = some (.cells l true)) (hl : l.map mk = smp X) (hx : x < 2 := by decide) : RowNum F.1 F.2 (.tup [r, w]) H' := by
  subst h
  exact ⟨r, w, rfl, h2, .rw h1 hb (subL_all (by have := congrArg List.length hl; rw [List.length_map, smp_length] at this; exact this)) hl hx⟩
theorem natTl_okR {B : Nat} {F : FuncId → EP} (hF : TabP F) {d : Nat} {f : FuncId} {g : Smp → Qry → Smp × Int} (hic : isCall Try.prog f = true)
    (h : ∀ L (Q : Qry), L.length ≤ B → Q.times.length ≤ 1000000 → callT F d f [.rw 0 0 L.length 2 2, qRw 1 Q] (mkH [(0, .ro (smp L)), (1, .ro (ints Q.times))]) 2 fun u H' _ => RowNum (g L Q).1 (g L Q).2 u H') : NatP f (natTl B g) := fun args H n κ hs φ h0' hp vs K hr hargs hk => by
  unfold natTl at hs
  split at hs
  · obtain ⟨x, y, rfl, e1, e2⟩ := vs2 hargs
    obtain ⟨L, Q, hS, hq, hL, hT, hs⟩ := hs
    obtain ⟨p, hp1, hv⟩ := hS.openR hr e1
    obtain ⟨q, hq1, hw⟩ := hq.openR hr e2
    exact smallNewE hF (fun _ _ h => h) (h L Q hL hT) hs hr hk hic (fun hw => HR.rosE (ps := [p, q]) (ls := [smp L, ints Q.times]) hw rfl (ros2 hp1 hq1) rfl rfl rfl) (.cons (hv _ 0 rfl) (.cons (hw _ 1 rfl) .nil))
  · exact hs.elim
/-- One sample more, behind what a row has. -/
theorem RApp.one {t u : TypeId} {s x : AV} {H : AH} {n : Nat} {κ : PK} {by' b o sn : Nat} {z : Bool} {l old new : List AV} (ty : RTy t u 2 by') (hs : s = .rw b o sn 2 0) (hb : H.get b = some (.cells l z)) (hold : subL l o (sn * 2) = some old) (src : esrc H 2 (hd x) = some (1, new)) (hnew : new.length = 1 * 2) (hone : new.all one1 = true) (big : (sn + 1) * by' ≤ 140737488355328)
    (k : κ (.rw n 0 (sn + 1) 2 0) ((H.set none depthH b).set (some (.cells (old ++ new) z)) depthH n) (n + 1)) : RApp t u s x H n κ := by
  subst hs
  exact .grow 2 by' 1 sn new old _ z ty (.old src) hnew hone (.rw hb hold) big k
end
end Go.Proofs.Ytkhfdjhohfebgaa
namespace Go.Proofs.Ytkhfdjhohfebgaa
open Go Go.RowKit
def t1 (bk : Int → Int → Int → Smp → Smp) (Q : Qry) (R : Smp) : Smp := if Q.kind ≠ 0 then bk Q.kind Q.size Q.align R else R
def t2 (Q : Qry) (R : Smp) : Smp × Int := if Q.empty = true then fillF Q.kind Q.size Q.align R else (R, 0)
def t3 (Q : Qry) (R : Smp) : Smp := if Q.back = true then R.reverse else R
def t5 (Q : Qry) (R : Smp) : Smp := if 0 < Q.count ∧ Q.count < (R.length : Int) then R.take Q.count.toNat else R
noncomputable def tellG (bk : Int → Int → Int → Smp → Smp) (L : Smp) (Q : Qry) : Smp × Int :=
  if qRight Q ≠ 0 then ([], qRight Q) else if (t2 Q (t1 bk Q (L.filter (qPass Q)))).2 ≠ 0 then ([], (t2 Q (t1 bk Q (L.filter (qPass Q)))).2) else (t5 Q (t3 Q (t2 Q (t1 bk Q (L.filter (qPass Q)))).1), 0)
noncomputable def tellF : Smp → Qry → Smp × Int := tellG bkA
noncomputable def tellR : Smp → Qry → Smp × Int := tellG rbA
section
variable {bk : Int → Int → Int → Smp → Smp} {L R0 R1 R2 R3 R4 : Smp} {Q : Qry}
theorem tell_bad (h : ¬ qRight Q = 0) : tellG bk L Q = ([], qRight Q) := if_pos h
theorem tell_err {e : Int} (hb : qRight Q = 0) (h0 : L.filter (qPass Q) = R0) (h1 : t1 bk Q R0 = R1) (h2 : (t2 Q R1).2 = e) (he : ¬ e = 0) : tellG bk L Q = ([], e) := by
  unfold tellG
  rw [if_neg (by rw [hb]; simp), h0, h1, h2, if_pos he]
theorem tell_ok (hb : qRight Q = 0) (h0 : L.filter (qPass Q) = R0) (h1 : t1 bk Q R0 = R1) (h2 : t2 Q R1 = (R2, 0)) (h3 : t3 Q R2 = R3) (h4 : t5 Q R3 = R4) : tellG bk L Q = (R4, 0) := by
  unfold tellG
  rw [if_neg (by rw [hb]; simp), h0, h1, h2, if_neg (by simp), h3, h4]
theorem t1_yes (h : Q.kind ≠ 0) : t1 bk Q R0 = bk Q.kind Q.size Q.align R0 := if_pos h
theorem t1_no (h : Q.kind = 0) : t1 bk Q R0 = R0 := if_neg (fun q => q h)
theorem t2_err (h : Q.empty = true) : (t2 Q R1).2 = (fillF Q.kind Q.size Q.align R1).2 := by unfold t2; rw [if_pos h]
theorem t2_yes (h : Q.empty = true) (he : (fillF Q.kind Q.size Q.align R1).2 = 0) (hn : (fillF Q.kind Q.size Q.align R1).1 = R2) : t2 Q R1 = (R2, 0) := by
  unfold t2
  rw [if_pos h]
  exact Prod.ext hn he
theorem t2_no (h : Q.empty = false) : t2 Q R1 = (R1, 0) := by unfold t2; rw [if_neg (by rw [h]; decide)]
theorem t3_yes (h : Q.back = true) : t3 Q R2 = R2.reverse := by unfold t3; rw [if_pos h]
theorem t3_no (h : Q.back = false) : t3 Q R2 = R2 := by unfold t3; rw [if_neg (by rw [h]; decide)]
theorem t5_no (h : ¬ 0 < Q.count) : t5 Q R3 = R3 := if_neg (fun q => h q.1)
theorem t5_no2 (h : ¬ Q.count < (R3.length : Int)) : t5 Q R3 = R3 := if_neg (fun q => h q.2)
theorem t5_yes {j : Nat} (h : 0 < Q.count) (h2 : Q.count < (R3.length : Int)) (hj : Q.count = (j : Int)) : t5 Q R3 = R3.take j := by
  unfold t5
  rw [if_pos ⟨h, h2⟩]
  congr 1
  omega
theorem good_kind (h : qRight Q = 0) (hk : ¬ 0 < Q.kind) : Q.kind = 0 := by
  unfold qRight at h
  split at h
  · cases h
  · rename_i hb
    by_cases h0 : Q.kind = 0
    · exact h0
    · exfalso
      apply hb
      refine .inr (.inr (.inr ⟨h0, .inl ?_⟩))
      simp only [sRight, decide_eq_false_iff_not]
      omega
end
theorem fill_len {k s a : Int} {L : Smp} : (fillF k s a L).1.length ≤ 10000 + L.length := by
  unfold fillF
  repeat' split
  all_goals simp
  all_goals omega
theorem filt_yes {Q : Qry} {L : Smp} {i : Nat} (h : i < L.length) (ht : qPass Q L[i] = true) : (L.take (i + 1)).filter (qPass Q) = (L.take i).filter (qPass Q) ++ [L[i]] := by
  rw [List.take_succ_eq_append_getElem h, List.filter_append]
  simp [ht]
theorem filt_no {Q : Qry} {L : Smp} {i : Nat} (h : i < L.length) (ht : qPass Q L[i] = false) : (L.take (i + 1)).filter (qPass Q) = (L.take i).filter (qPass Q) := by
  rw [List.take_succ_eq_append_getElem h, List.filter_append]
  simp [ht]
theorem alias_is {k s a : Int} {L : Smp} (h : aliasF k s a L = true) : fillF k s a L = (L, 0) := by
  unfold aliasF at h
  simp only [Bool.and_eq_true, Bool.not_eq_true'] at h
  exact fill_same h.1 h.2.1 h.2.2.1 h.2.2.2
theorem t2_al {Q : Qry} {R1 : Smp} (h : Q.empty = true) (hF : fillF Q.kind Q.size Q.align R1 = (R1, 0)) : t2 Q R1 = (R1, 0) := by unfold t2; rw [if_pos h, hF]
theorem rb_len {k sz al : Int} {L : Smp} : ∀ i, (rb k sz al L i).1.length ≤ i
  | 0 => Nat.le_refl _
  | i + 1 => by
    have ih := rb_len (k := k) (sz := sz) (al := al) (L := L) i
    show (rbStep k sz al L i (rb k sz al L i)).1.length ≤ i + 1
    unfold rbStep
    split
    · simp; exact ih
    · omega
theorem rbA_len {k sz al : Int} (L : Smp) : (rbA k sz al L).length ≤ L.length := by
  unfold rbA
  split
  · exact rb_len _
  · exact Nat.zero_le _
theorem ebnd_i {i : Int} {k : IntKind} {j d : Nat} (h : i = (j : Int)) : ebnd (some (AV.int k i)) d = some j := by subst h; rfl
theorem tyS : RTy 26 26 2 16 := ⟨_, _, _, rfl, rfl, (fun q h => by cases h), rfl, rfl, rfl, rfl, by decide, by decide⟩
theorem rowNum_cutR {F : Smp × Int} {X : Smp} {j b x : Nat} {r w : AV} {H' : AH} {l : List AV} (h : F = (X.take j, 0)) (hj : j ≤ X.length) (h1 : r = .rw b 0 j 2 x) (h2 : mk w = .si .i64 0) (hb : H'.get b = some (.cells l true)) (hl : l.map mk = smp X) (hx : x < 2 := by decide) : RowNum F.1 F.2 (.tup [r, w]) H' := by
  subst h
  have hlen : (X.take j).length = j := by rw [List.length_take]; omega
  have hll : l.length = X.length * 2 := by have := congrArg List.length hl; rw [List.length_map, smp_length] at this; exact this
  refine ⟨r, w, rfl, h2, .rw (b := b) (o := 0) (x := x) (r := l.take (j * 2)) (by rw [hlen]; exact h1) hb ?_ (by rw [List.map_take, hl, smp_take]) hx⟩
  rw [hlen]
  unfold subL
  rw [Nat.zero_add, Nat.ble_eq_true_of_le (by omega)]
  simp
noncomputable def tlS (L : Smp) (Q : Qry) (i : Nat) (R : Smp) : AE × AH := (mkE [(3, .ptr 2 (0)), (7, .rw 3 0 R.length 2 0), (17, .rw 0 0 L.length 2 2), (18, .si .i64 (L.length)), (19, .si .i64 (i))], mkH [(0, .ro (smp (L))), (1, .ro (ints (Q.times))), (2, .cells (qCells Q (.rw 1 0 Q.times.length 1 2)) true), (3, .cells (smp (R)) true)])
theorem tlS_cov {L : Smp} {Q : Qry} {i : Nat} {R : Smp} {p n : Nat} {σ : AE} {H : AH} {l2 : List AV} (j3 : Nat) (hj : j3 ≠ 0 ∧ j3 ≠ 1 ∧ j3 ≠ 2) (hp : p ≤ 2) (e3 : getq (pa 3) σ = .ptr 2 (0)) (e7 : SubV H 4 (fun b => if b = 3 then j3 else b) (getq (pa 7) σ) (.rw 3 0 R.length 2 0)) (e17 : SubV H 4 (fun b => if b = 3 then j3 else b) (getq (pa 17) σ) (.rw 0 0 L.length 2 2)) (e18 : mk (getq (pa 18) σ) = .si .i64 (L.length)) (e19 : mk (getq (pa 19) σ) = .si .i64 (i)) (h0 : H.get 0 = some (.ro (smp (L)))) (h1 : H.get 1 = some (.ro (ints (Q.times)))) (h2 : H.get 2 = some (.cells l2 true)) (g2 : l2.map mk = qCells Q (.rw 1 0 Q.times.length 1 2)) (h3 : (∃ l, H.get j3 = some (.cells l true) ∧ l.map mk = smp (R)) ∨ ((R) = [] ∧ n ≤ j3)) : Cov p σ H n ((tlS L Q i R).1, (tlS L Q i R).2, 4) := by
  refine Cov.ofR (fun b => if b = 3 then j3 else b) (by omega) (fun b hb => by repeat' rw [if_neg (by omega)]) ?_ ?_ ?_
  · intro x hx
    simp only [List.mem_cons, List.not_mem_nil, or_false] at hx
    rcases hx with rfl | rfl | rfl | rfl | rfl
    · exact .ptr (by decide) e3
    · exact e7
    · exact e17
    · exact .int e18
    · exact .int e19
  · intro x hx
    simp only [List.mem_cons, List.not_mem_nil, or_false] at hx
    rcases hx with rfl | rfl | rfl | rfl
    · exact ⟨by simp, .inl ⟨_, h0, SubO.ro_mk (smp_flat _) rfl⟩⟩
    · exact ⟨by simp, .inl ⟨_, h1, SubO.ro_mk (ints_flat _) rfl⟩⟩
    · exact ⟨by simp, .inl ⟨_, h2, SubO.qcellsM (by decide) rfl g2⟩⟩
    · exact ⟨by simp, h3.elim (fun ⟨l, h, g⟩ => .inl ⟨_, h, SubO.cells_mk (smp_flat _) (by rw [g, smp_map]) (fun q => q)⟩) (fun h => .inr ⟨by rw [h.1]; rfl, h.2⟩)⟩
  · intro x hx y hy
    simp only [List.mem_cons, List.not_mem_nil, or_false] at hx hy
    rcases hx with rfl | rfl | rfl | rfl <;> rcases hy with rfl | rfl | rfl | rfl <;> simp <;> omega
set_option maxHeartbeats 16000000 in
set_option maxRecDepth 100000 in
theorem tl_run (L : Smp) (Q : Qry) (hL : L.length ≤ 1000) (hT : Q.times.length ≤ 1000000) : callT G9 4 28 [.rw 0 0 L.length 2 2, qRw 1 Q] (mkH [(0, .ro (smp L)), (1, .ro (ints Q.times))]) 2 fun u H' _ => RowNum (tellF L Q).1 (tellF L Q).2 u H' := by
  conv => whnf
  refine ⟨Q, qatR rfl, ?_⟩
  conv => whnf
  refine Fork.ndec (fun hbad => ?_) (fun hgood => ?_)
  · conv => whnf
    exact rowNum_nil (tell_bad hbad) rfl rfl
  conv => whnf
  refine LoopP.mk { q : Smp × Nat // q.1 = (L.take q.2).filter (qPass Q) ∧ q.2 ≤ L.length } 4 (fun a => tlS L Q a.val.2 a.val.1) (fun a => L.length - a.val.2) ⟨([], 0), rfl, Nat.zero_le _⟩ ?_ ?_
  · exact tlS_cov 3 (by decide) (Nat.le_refl 2) rfl (.nslRw rfl) (.rw (by decide) rfl) rfl rfl rfl rfl rfl rfl (.inr ⟨rfl, Nat.le_refl 3⟩)
  · intro ⟨⟨R, i⟩, hI⟩
    obtain ⟨ho, hi⟩ := id hI
    dsimp only at ho hi
    have hol : R.length ≤ 1000 := by rw [ho]; exact Nat.le_trans (List.length_filter_le _ _) (by rw [List.length_take]; omega)
    conv => whnf
    refine Fork.dec (fun h1 => ?_) (fun h1 => ?_)
    · have h2 : i < L.length := Int.ofNat_lt.1 h1
      have hlt : L.length - (i + 1) < L.length - i := by omega
      have hw := iwrap h2 (show L.length ≤ 1000000 by omega)
      conv => whnf
      refine Idx.mk i rfl h2 ?_
      conv => whnf
      refine optP_of (smp_sub h2 (by show 0 + i * 2 = i * 2; omega)) ?_
      conv => whnf
      refine ⟨Q, L[i].1, L[i].2, qatR rfl, ⟨_, _, rfl, rfl, rfl⟩, hT, ?_⟩
      conv => whnf
      refine Fork.sb (fun h3 => ?_) (fun h3 => ?_)
      · have h3 : qPass Q L[i] = true := h3
        conv => whnf
        refine RApp.one tyS rfl rfl (subL_all (smp_length R)) rfl rfl rfl (show (R.length + 1) * 16 ≤ 140737488355328 by omega) ?_
        conv => whnf
        refine ⟨⟨(R ++ [L[i]], i + 1), (congrArg (· ++ [L[i]]) ho).trans (filt_yes h2 h3).symm, by omega⟩, hlt, tlS_cov 6 (by decide) (Nat.le_refl 2) rfl (.rw (by decide) rfl) (.rw (by decide) rfl) rfl (congrArg (AV.si .i64) hw) rfl rfl rfl rfl (.inl ⟨_, rfl, snoc_map R L[i].1 L[i].2 (smp_map _)⟩)⟩
      · have h3 : qPass Q L[i] = false := h3
        conv => whnf
        exact ⟨⟨(R, i + 1), ho.trans (filt_no h2 h3).symm, by omega⟩, hlt, tlS_cov 3 (by decide) (Nat.le_refl 2) rfl (.rw (by decide) rfl) (.rw (by decide) rfl) rfl (congrArg (AV.si .i64) hw) rfl rfl rfl rfl (.inl ⟨_, rfl, smp_map _⟩)⟩
    · have h2 : i = L.length := by have : ¬ (i : Int) < (L.length : Int) := h1; omega
      have h0 : L.filter (qPass Q) = R := by rw [ho, h2, List.take_length]
      have hll : R.length ≤ 1000000 := by omega
      have hlk := @bkA_len Q.kind Q.size Q.align R
      conv => whnf
      refine Fork.dec (fun hk => ?_) (fun hk => ?_)
      · have hk0 : Q.kind ≠ 0 := (by omega)
        conv => whnf
        have hbl : (bkA Q.kind Q.size Q.align R).length ≤ 1000000 := Nat.le_trans (bkA_len R) hll
        refine ⟨R, SmpAt.row rfl rfl (smp_map _), hll, ⟨rfl, by decide⟩, ?_⟩
        conv => whnf
        refine Fork.sb (fun hem => ?_) (fun hem => ?_)
        · have hfl := fill_len (k := Q.kind) (s := Q.size) (a := Q.align) (L := bkA Q.kind Q.size Q.align R)
          conv => whnf
          refine ⟨bkA Q.kind Q.size Q.align R, SmpAt.row rfl rfl (smp_map _), hbl, ⟨rfl, by decide⟩, ?_⟩
          conv => whnf
          refine Fork.ndec (fun he => ?_) (fun he => ?_)
          · conv => whnf
            exact rowNum_nil (tell_err hgood h0 (t1_yes hk0) (t2_err hem) he) rfl rfl
          · skip
            conv => whnf
            refine Fork.sb (fun hbk => ?_) (fun hbk => ?_)
            · conv => whnf
              refine ⟨(fillF Q.kind Q.size Q.align (bkA Q.kind Q.size Q.align R)).1, SmpAt.row rfl rfl (smp_map _), (by omega), ⟨rfl, by decide⟩, ?_⟩
              conv => whnf
              refine Fork.dec (fun hq => ?_) (fun hq => ?_)
              · conv => whnf
                refine Fork.dec (fun hd => ?_) (fun hd => ?_)
                · have hd : Q.count < ((((fillF Q.kind Q.size Q.align (bkA Q.kind Q.size Q.align R)).1).reverse).length : Int) := hd
                  obtain ⟨j, hj⟩ : ∃ j : Nat, Q.count = (j : Int) := ⟨Q.count.toNat, by omega⟩
                  conv => whnf
                  refine .mk 0 j rfl (ebnd_i hj) (.inr ⟨rfl, ebnd_i hj⟩) (Nat.zero_le _) (by omega) ?_
                  conv => whnf
                  exact rowNum_cutR (x := 1) (j := j) (b := 6) (X := ((fillF Q.kind Q.size Q.align (bkA Q.kind Q.size Q.align R)).1).reverse) (tell_ok hgood h0 (t1_yes hk0) (t2_yes hem he rfl) (t3_yes hbk) (t5_yes hq hd hj)) (by omega) rfl rfl rfl (smp_map _)
                · conv => whnf
                  exact rowNum_rw (x := 0) (b := 6) (X := ((fillF Q.kind Q.size Q.align (bkA Q.kind Q.size Q.align R)).1).reverse) (tell_ok hgood h0 (t1_yes hk0) (t2_yes hem he rfl) (t3_yes hbk) (t5_no2 hd)) rfl rfl rfl (smp_map _)
              · conv => whnf
                exact rowNum_rw (x := 0) (b := 6) (X := ((fillF Q.kind Q.size Q.align (bkA Q.kind Q.size Q.align R)).1).reverse) (tell_ok hgood h0 (t1_yes hk0) (t2_yes hem he rfl) (t3_yes hbk) (t5_no hq)) rfl rfl rfl (smp_map _)
            · skip
              conv => whnf
              refine Fork.dec (fun hq => ?_) (fun hq => ?_)
              · conv => whnf
                refine Fork.dec (fun hd => ?_) (fun hd => ?_)
                · have hd : Q.count < (((fillF Q.kind Q.size Q.align (bkA Q.kind Q.size Q.align R)).1).length : Int) := hd
                  obtain ⟨j, hj⟩ : ∃ j : Nat, Q.count = (j : Int) := ⟨Q.count.toNat, by omega⟩
                  conv => whnf
                  refine .mk 0 j rfl (ebnd_i hj) (.inr ⟨rfl, ebnd_i hj⟩) (Nat.zero_le _) (by omega) ?_
                  conv => whnf
                  exact rowNum_cutR (x := 1) (j := j) (b := 5) (X := (fillF Q.kind Q.size Q.align (bkA Q.kind Q.size Q.align R)).1) (tell_ok hgood h0 (t1_yes hk0) (t2_yes hem he rfl) (t3_no hbk) (t5_yes hq hd hj)) (by omega) rfl rfl rfl (smp_map _)
                · conv => whnf
                  exact rowNum_rw (x := 0) (b := 5) (X := (fillF Q.kind Q.size Q.align (bkA Q.kind Q.size Q.align R)).1) (tell_ok hgood h0 (t1_yes hk0) (t2_yes hem he rfl) (t3_no hbk) (t5_no2 hd)) rfl rfl rfl (smp_map _)
              · conv => whnf
                exact rowNum_rw (x := 0) (b := 5) (X := (fillF Q.kind Q.size Q.align (bkA Q.kind Q.size Q.align R)).1) (tell_ok hgood h0 (t1_yes hk0) (t2_yes hem he rfl) (t3_no hbk) (t5_no hq)) rfl rfl rfl (smp_map _)
        · skip
          conv => whnf
          refine Fork.sb (fun hbk => ?_) (fun hbk => ?_)
          · conv => whnf
            refine ⟨bkA Q.kind Q.size Q.align R, SmpAt.row rfl rfl (smp_map _), hbl, ⟨rfl, by decide⟩, ?_⟩
            conv => whnf
            refine Fork.dec (fun hq => ?_) (fun hq => ?_)
            · conv => whnf
              refine Fork.dec (fun hd => ?_) (fun hd => ?_)
              · have hd : Q.count < (((bkA Q.kind Q.size Q.align R).reverse).length : Int) := hd
                obtain ⟨j, hj⟩ : ∃ j : Nat, Q.count = (j : Int) := ⟨Q.count.toNat, by omega⟩
                conv => whnf
                refine .mk 0 j rfl (ebnd_i hj) (.inr ⟨rfl, ebnd_i hj⟩) (Nat.zero_le _) (by omega) ?_
                conv => whnf
                exact rowNum_cutR (x := 1) (j := j) (b := 5) (X := (bkA Q.kind Q.size Q.align R).reverse) (tell_ok hgood h0 (t1_yes hk0) (t2_no hem) (t3_yes hbk) (t5_yes hq hd hj)) (by omega) rfl rfl rfl (smp_map _)
              · conv => whnf
                exact rowNum_rw (x := 0) (b := 5) (X := (bkA Q.kind Q.size Q.align R).reverse) (tell_ok hgood h0 (t1_yes hk0) (t2_no hem) (t3_yes hbk) (t5_no2 hd)) rfl rfl rfl (smp_map _)
            · conv => whnf
              exact rowNum_rw (x := 0) (b := 5) (X := (bkA Q.kind Q.size Q.align R).reverse) (tell_ok hgood h0 (t1_yes hk0) (t2_no hem) (t3_yes hbk) (t5_no hq)) rfl rfl rfl (smp_map _)
          · skip
            conv => whnf
            refine Fork.dec (fun hq => ?_) (fun hq => ?_)
            · conv => whnf
              refine Fork.dec (fun hd => ?_) (fun hd => ?_)
              · have hd : Q.count < ((bkA Q.kind Q.size Q.align R).length : Int) := hd
                obtain ⟨j, hj⟩ : ∃ j : Nat, Q.count = (j : Int) := ⟨Q.count.toNat, by omega⟩
                conv => whnf
                refine .mk 0 j rfl (ebnd_i hj) (.inr ⟨rfl, ebnd_i hj⟩) (Nat.zero_le _) (by omega) ?_
                conv => whnf
                exact rowNum_cutR (x := 1) (j := j) (b := 4) (X := bkA Q.kind Q.size Q.align R) (tell_ok hgood h0 (t1_yes hk0) (t2_no hem) (t3_no hbk) (t5_yes hq hd hj)) (by omega) rfl rfl rfl (smp_map _)
              · conv => whnf
                exact rowNum_rw (x := 0) (b := 4) (X := bkA Q.kind Q.size Q.align R) (tell_ok hgood h0 (t1_yes hk0) (t2_no hem) (t3_no hbk) (t5_no2 hd)) rfl rfl rfl (smp_map _)
            · conv => whnf
              exact rowNum_rw (x := 0) (b := 4) (X := bkA Q.kind Q.size Q.align R) (tell_ok hgood h0 (t1_yes hk0) (t2_no hem) (t3_no hbk) (t5_no hq)) rfl rfl rfl (smp_map _)
      · have hk0 : Q.kind = 0 := good_kind hgood hk
        conv => whnf
        refine Fork.sb (fun hem => ?_) (fun hem => ?_)
        · have hfl := fill_len (k := Q.kind) (s := Q.size) (a := Q.align) (L := R)
          conv => whnf
          refine ⟨R, SmpAt.row rfl rfl (smp_map _), hll, ⟨rfl, by decide⟩, ?_⟩
          conv => whnf
          refine Fork.ndec (fun he => ?_) (fun he => ?_)
          · conv => whnf
            exact rowNum_nil (tell_err hgood h0 (t1_no hk0) (t2_err hem) he) rfl rfl
          · skip
            conv => whnf
            refine Fork.sb (fun hbk => ?_) (fun hbk => ?_)
            · conv => whnf
              refine ⟨(fillF Q.kind Q.size Q.align (R)).1, SmpAt.row rfl rfl (smp_map _), (by omega), ⟨rfl, by decide⟩, ?_⟩
              conv => whnf
              refine Fork.dec (fun hq => ?_) (fun hq => ?_)
              · conv => whnf
                refine Fork.dec (fun hd => ?_) (fun hd => ?_)
                · have hd : Q.count < ((((fillF Q.kind Q.size Q.align (R)).1).reverse).length : Int) := hd
                  obtain ⟨j, hj⟩ : ∃ j : Nat, Q.count = (j : Int) := ⟨Q.count.toNat, by omega⟩
                  conv => whnf
                  refine .mk 0 j rfl (ebnd_i hj) (.inr ⟨rfl, ebnd_i hj⟩) (Nat.zero_le _) (by omega) ?_
                  conv => whnf
                  exact rowNum_cutR (x := 1) (j := j) (b := 5) (X := ((fillF Q.kind Q.size Q.align (R)).1).reverse) (tell_ok hgood h0 (t1_no hk0) (t2_yes hem he rfl) (t3_yes hbk) (t5_yes hq hd hj)) (by omega) rfl rfl rfl (smp_map _)
                · conv => whnf
                  exact rowNum_rw (x := 0) (b := 5) (X := ((fillF Q.kind Q.size Q.align (R)).1).reverse) (tell_ok hgood h0 (t1_no hk0) (t2_yes hem he rfl) (t3_yes hbk) (t5_no2 hd)) rfl rfl rfl (smp_map _)
              · conv => whnf
                exact rowNum_rw (x := 0) (b := 5) (X := ((fillF Q.kind Q.size Q.align (R)).1).reverse) (tell_ok hgood h0 (t1_no hk0) (t2_yes hem he rfl) (t3_yes hbk) (t5_no hq)) rfl rfl rfl (smp_map _)
            · skip
              conv => whnf
              refine Fork.dec (fun hq => ?_) (fun hq => ?_)
              · conv => whnf
                refine Fork.dec (fun hd => ?_) (fun hd => ?_)
                · have hd : Q.count < (((fillF Q.kind Q.size Q.align (R)).1).length : Int) := hd
                  obtain ⟨j, hj⟩ : ∃ j : Nat, Q.count = (j : Int) := ⟨Q.count.toNat, by omega⟩
                  conv => whnf
                  refine .mk 0 j rfl (ebnd_i hj) (.inr ⟨rfl, ebnd_i hj⟩) (Nat.zero_le _) (by omega) ?_
                  conv => whnf
                  exact rowNum_cutR (x := 1) (j := j) (b := 4) (X := (fillF Q.kind Q.size Q.align (R)).1) (tell_ok hgood h0 (t1_no hk0) (t2_yes hem he rfl) (t3_no hbk) (t5_yes hq hd hj)) (by omega) rfl rfl rfl (smp_map _)
                · conv => whnf
                  exact rowNum_rw (x := 0) (b := 4) (X := (fillF Q.kind Q.size Q.align (R)).1) (tell_ok hgood h0 (t1_no hk0) (t2_yes hem he rfl) (t3_no hbk) (t5_no2 hd)) rfl rfl rfl (smp_map _)
              · conv => whnf
                exact rowNum_rw (x := 0) (b := 4) (X := (fillF Q.kind Q.size Q.align (R)).1) (tell_ok hgood h0 (t1_no hk0) (t2_yes hem he rfl) (t3_no hbk) (t5_no hq)) rfl rfl rfl (smp_map _)
        · skip
          conv => whnf
          refine Fork.sb (fun hbk => ?_) (fun hbk => ?_)
          · conv => whnf
            refine ⟨R, SmpAt.row rfl rfl (smp_map _), hll, ⟨rfl, by decide⟩, ?_⟩
            conv => whnf
            refine Fork.dec (fun hq => ?_) (fun hq => ?_)
            · conv => whnf
              refine Fork.dec (fun hd => ?_) (fun hd => ?_)
              · have hd : Q.count < (((R).reverse).length : Int) := hd
                obtain ⟨j, hj⟩ : ∃ j : Nat, Q.count = (j : Int) := ⟨Q.count.toNat, by omega⟩
                conv => whnf
                refine .mk 0 j rfl (ebnd_i hj) (.inr ⟨rfl, ebnd_i hj⟩) (Nat.zero_le _) (by omega) ?_
                conv => whnf
                exact rowNum_cutR (x := 1) (j := j) (b := 4) (X := (R).reverse) (tell_ok hgood h0 (t1_no hk0) (t2_no hem) (t3_yes hbk) (t5_yes hq hd hj)) (by omega) rfl rfl rfl (smp_map _)
              · conv => whnf
                exact rowNum_rw (x := 0) (b := 4) (X := (R).reverse) (tell_ok hgood h0 (t1_no hk0) (t2_no hem) (t3_yes hbk) (t5_no2 hd)) rfl rfl rfl (smp_map _)
            · conv => whnf
              exact rowNum_rw (x := 0) (b := 4) (X := (R).reverse) (tell_ok hgood h0 (t1_no hk0) (t2_no hem) (t3_yes hbk) (t5_no hq)) rfl rfl rfl (smp_map _)
          · skip
            conv => whnf
            refine Fork.dec (fun hq => ?_) (fun hq => ?_)
            · conv => whnf
              refine Fork.dec (fun hd => ?_) (fun hd => ?_)
              · have hd : Q.count < ((R).length : Int) := hd
                obtain ⟨j, hj⟩ : ∃ j : Nat, Q.count = (j : Int) := ⟨Q.count.toNat, by omega⟩
                conv => whnf
                refine .mk 0 j rfl (ebnd_i hj) (.inr ⟨rfl, ebnd_i hj⟩) (Nat.zero_le _) (by omega) ?_
                conv => whnf
                exact rowNum_cutR (x := 1) (j := j) (b := 3) (X := R) (tell_ok hgood h0 (t1_no hk0) (t2_no hem) (t3_no hbk) (t5_yes hq hd hj)) (by omega) rfl rfl rfl (smp_map _)
              · conv => whnf
                exact rowNum_rw (x := 0) (b := 3) (X := R) (tell_ok hgood h0 (t1_no hk0) (t2_no hem) (t3_no hbk) (t5_no2 hd)) rfl rfl rfl (smp_map _)
            · conv => whnf
              exact rowNum_rw (x := 0) (b := 3) (X := R) (tell_ok hgood h0 (t1_no hk0) (t2_no hem) (t3_no hbk) (t5_no hq)) rfl rfl rfl (smp_map _)
theorem n_tell : NatP 28 (natTl 1000 tellF) := natTl_okR G9_ok (by kernel_rfl) tl_run
noncomputable def G10 : FuncId → EP := withS 28 (natTl 1000 tellF) (withD 29 [(8, [(some 0, [3]), (some 0, [0]), (some 0, [8]), (some 0, [23, 24]), (some 0, [25]), (none, [22, 26])])] G9)
theorem G10_ok : TabP G10 := withS_ok (withD_ok G9_ok (by kernel_rfl) (by kernel_rfl)) n_tell singTl
noncomputable def rtS (L : Smp) (Q : Qry) (i : Nat) (R : Smp) : AE × AH := (mkE [(3, .ptr 2 (0)), (7, .rw 3 0 R.length 2 0), (0, .rw 0 0 L.length 2 2), (8, .si .i64 (i))], mkH [(0, .ro (smp (L))), (1, .ro (ints (Q.times))), (2, .cells (qCells Q (.rw 1 0 Q.times.length 1 2)) true), (3, .cells (smp (R)) true)])
theorem rtS_cov {L : Smp} {Q : Qry} {i : Nat} {R : Smp} {p n : Nat} {σ : AE} {H : AH} {l2 : List AV} (j3 : Nat) (hj : j3 ≠ 0 ∧ j3 ≠ 1 ∧ j3 ≠ 2) (hp : p ≤ 2) (e3 : getq (pa 3) σ = .ptr 2 (0)) (e7 : SubV H 4 (fun b => if b = 3 then j3 else b) (getq (pa 7) σ) (.rw 3 0 R.length 2 0)) (e0 : SubV H 4 (fun b => if b = 3 then j3 else b) (getq (pa 0) σ) (.rw 0 0 L.length 2 2)) (e8 : mk (getq (pa 8) σ) = .si .i64 (i)) (h0 : H.get 0 = some (.ro (smp (L)))) (h1 : H.get 1 = some (.ro (ints (Q.times)))) (h2 : H.get 2 = some (.cells l2 true)) (g2 : l2.map mk = qCells Q (.rw 1 0 Q.times.length 1 2)) (h3 : (∃ l, H.get j3 = some (.cells l true) ∧ l.map mk = smp (R)) ∨ ((R) = [] ∧ n ≤ j3)) : Cov p σ H n ((rtS L Q i R).1, (rtS L Q i R).2, 4) := by
  refine Cov.ofR (fun b => if b = 3 then j3 else b) (by omega) (fun b hb => by repeat' rw [if_neg (by omega)]) ?_ ?_ ?_
  · intro x hx
    simp only [List.mem_cons, List.not_mem_nil, or_false] at hx
    rcases hx with rfl | rfl | rfl | rfl
    · exact .ptr (by decide) e3
    · exact e7
    · exact e0
    · exact .int e8
  · intro x hx
    simp only [List.mem_cons, List.not_mem_nil, or_false] at hx
    rcases hx with rfl | rfl | rfl | rfl
    · exact ⟨by simp, .inl ⟨_, h0, SubO.ro_mk (smp_flat _) rfl⟩⟩
    · exact ⟨by simp, .inl ⟨_, h1, SubO.ro_mk (ints_flat _) rfl⟩⟩
    · exact ⟨by simp, .inl ⟨_, h2, SubO.qcellsM (by decide) rfl g2⟩⟩
    · exact ⟨by simp, h3.elim (fun ⟨l, h, g⟩ => .inl ⟨_, h, SubO.cells_mk (smp_flat _) (by rw [g, smp_map]) (fun q => q)⟩) (fun h => .inr ⟨by rw [h.1]; rfl, h.2⟩)⟩
  · intro x hx y hy
    simp only [List.mem_cons, List.not_mem_nil, or_false] at hx hy
    rcases hx with rfl | rfl | rfl | rfl <;> rcases hy with rfl | rfl | rfl | rfl <;> simp <;> omega
set_option maxHeartbeats 16000000 in
set_option maxRecDepth 100000 in
theorem rt_run (L : Smp) (Q : Qry) (hL : L.length ≤ 1000) (hT : Q.times.length ≤ 1000000) : callT G10 4 29 [.rw 0 0 L.length 2 2, qRw 1 Q] (mkH [(0, .ro (smp L)), (1, .ro (ints Q.times))]) 2 fun u H' _ => RowNum (tellR L Q).1 (tellR L Q).2 u H' := by
  conv => whnf
  refine ⟨Q, qatR rfl, ?_⟩
  conv => whnf
  refine Fork.ndec (fun hbad => ?_) (fun hgood => ?_)
  · conv => whnf
    exact rowNum_nil (tell_bad hbad) rfl rfl
  conv => whnf
  refine LoopP.mk { q : Smp × Nat // q.1 = (L.take q.2).filter (qPass Q) ∧ q.2 ≤ L.length } 4 (fun a => rtS L Q a.val.2 a.val.1) (fun a => L.length - a.val.2) ⟨([], 0), rfl, Nat.zero_le _⟩ ?_ ?_
  · exact rtS_cov 3 (by decide) (Nat.le_refl 2) rfl (.nslRw rfl) (.rw (by decide) rfl) rfl rfl rfl rfl rfl (.inr ⟨rfl, Nat.le_refl 3⟩)
  · intro ⟨⟨R, i⟩, hI⟩
    obtain ⟨ho, hi⟩ := id hI
    dsimp only at ho hi
    have hol : R.length ≤ 1000 := by rw [ho]; exact Nat.le_trans (List.length_filter_le _ _) (by rw [List.length_take]; omega)
    conv => whnf
    refine Fork.dec (fun h1 => ?_) (fun h1 => ?_)
    · have h2 : i < L.length := Int.ofNat_lt.1 h1
      have hlt : L.length - (i + 1) < L.length - i := by omega
      have hw := iwrap h2 (show L.length ≤ 1000000 by omega)
      conv => whnf
      refine Idx.mk i rfl h2 ?_
      conv => whnf
      refine optP_of (smp_sub h2 (by show 0 + i * 2 = i * 2; omega)) ?_
      conv => whnf
      refine ⟨Q, L[i].1, L[i].2, qatR rfl, ⟨_, _, rfl, rfl, rfl⟩, hT, ?_⟩
      conv => whnf
      refine Fork.sb (fun h3 => ?_) (fun h3 => ?_)
      · have h3 : qPass Q L[i] = true := h3
        conv => whnf
        refine Idx.mk i rfl h2 ?_
        conv => whnf
        refine optP_of (smp_sub h2 (by show 0 + i * 2 = i * 2; omega)) ?_
        conv => whnf
        refine RApp.one tyS rfl rfl (subL_all (smp_length R)) rfl rfl rfl (show (R.length + 1) * 16 ≤ 140737488355328 by omega) ?_
        conv => whnf
        refine ⟨⟨(R ++ [L[i]], i + 1), (congrArg (· ++ [L[i]]) ho).trans (filt_yes h2 h3).symm, by omega⟩, hlt, rtS_cov 5 (by decide) (Nat.le_refl 2) rfl (.rw (by decide) rfl) (.rw (by decide) rfl) (congrArg (AV.si .i64) hw) rfl rfl rfl rfl (.inl ⟨_, rfl, snoc_map R L[i].1 L[i].2 (smp_map _)⟩)⟩
      · have h3 : qPass Q L[i] = false := h3
        conv => whnf
        exact ⟨⟨(R, i + 1), ho.trans (filt_no h2 h3).symm, by omega⟩, hlt, rtS_cov 3 (by decide) (Nat.le_refl 2) rfl (.rw (by decide) rfl) (.rw (by decide) rfl) (congrArg (AV.si .i64) hw) rfl rfl rfl rfl (.inl ⟨_, rfl, smp_map _⟩)⟩
    · have h2 : i = L.length := by have : ¬ (i : Int) < (L.length : Int) := h1; omega
      have h0 : L.filter (qPass Q) = R := by rw [ho, h2, List.take_length]
      have hll : R.length ≤ 1000000 := by omega
      have hlk := @rbA_len Q.kind Q.size Q.align R
      conv => whnf
      refine Fork.ndec (fun hk => ?_) (fun hk => ?_)
      · have hk0 : Q.kind ≠ 0 := hk
        conv => whnf
        have hbl : (rbA Q.kind Q.size Q.align R).length ≤ 1000000 := Nat.le_trans (rbA_len R) hll
        refine ⟨R, SmpAt.row rfl rfl (smp_map _), hll, ⟨rfl, by decide⟩, ?_⟩
        conv => whnf
        refine Fork.sb (fun hem => ?_) (fun hem => ?_)
        · have hfl := fill_len (k := Q.kind) (s := Q.size) (a := Q.align) (L := rbA Q.kind Q.size Q.align R)
          conv => whnf
          refine ⟨rbA Q.kind Q.size Q.align R, SmpAt.row rfl rfl (smp_map _), hbl, fun ha => ?_, fun ha => ⟨⟨rfl, by decide⟩, ?_⟩⟩
          · have hF := alias_is ha
            conv => whnf
            refine Fork.ndec (fun he => absurd rfl he) (fun _ => ?_)
            conv => whnf
            refine Fork.sb (fun hbk => ?_) (fun hbk => ?_)
            · conv => whnf
              refine ⟨rbA Q.kind Q.size Q.align R, SmpAt.row rfl rfl (smp_map _), hbl, ⟨rfl, by decide⟩, ?_⟩
              conv => whnf
              refine Fork.dec (fun hq => ?_) (fun hq => ?_)
              · conv => whnf
                refine Fork.dec (fun hd => ?_) (fun hd => ?_)
                · have hd : Q.count < (((rbA Q.kind Q.size Q.align R).reverse).length : Int) := hd
                  obtain ⟨j, hj⟩ : ∃ j : Nat, Q.count = (j : Int) := ⟨Q.count.toNat, by omega⟩
                  conv => whnf
                  refine .mk 0 j rfl (ebnd_i hj) (.inl rfl) (Nat.zero_le _) (by omega) ?_
                  conv => whnf
                  exact rowNum_cutR (x := 0) (j := j) (b := 5) (X := (rbA Q.kind Q.size Q.align R).reverse) (tell_ok hgood h0 (t1_yes hk0) (t2_al hem hF) (t3_yes hbk) (t5_yes hq hd hj)) (by omega) rfl rfl rfl (smp_map _)
                · conv => whnf
                  exact rowNum_rw (x := 0) (b := 5) (X := (rbA Q.kind Q.size Q.align R).reverse) (tell_ok hgood h0 (t1_yes hk0) (t2_al hem hF) (t3_yes hbk) (t5_no2 hd)) rfl rfl rfl (smp_map _)
              · conv => whnf
                exact rowNum_rw (x := 0) (b := 5) (X := (rbA Q.kind Q.size Q.align R).reverse) (tell_ok hgood h0 (t1_yes hk0) (t2_al hem hF) (t3_yes hbk) (t5_no hq)) rfl rfl rfl (smp_map _)
            · skip
              conv => whnf
              refine Fork.dec (fun hq => ?_) (fun hq => ?_)
              · conv => whnf
                refine Fork.dec (fun hd => ?_) (fun hd => ?_)
                · have hd : Q.count < ((rbA Q.kind Q.size Q.align R).length : Int) := hd
                  obtain ⟨j, hj⟩ : ∃ j : Nat, Q.count = (j : Int) := ⟨Q.count.toNat, by omega⟩
                  conv => whnf
                  refine .mk 0 j rfl (ebnd_i hj) (.inl rfl) (Nat.zero_le _) (by omega) ?_
                  conv => whnf
                  exact rowNum_cutR (x := 0) (j := j) (b := 4) (X := rbA Q.kind Q.size Q.align R) (tell_ok hgood h0 (t1_yes hk0) (t2_al hem hF) (t3_no hbk) (t5_yes hq hd hj)) (by omega) rfl rfl rfl (smp_map _)
                · conv => whnf
                  exact rowNum_rw (x := 0) (b := 4) (X := rbA Q.kind Q.size Q.align R) (tell_ok hgood h0 (t1_yes hk0) (t2_al hem hF) (t3_no hbk) (t5_no2 hd)) rfl rfl rfl (smp_map _)
              · conv => whnf
                exact rowNum_rw (x := 0) (b := 4) (X := rbA Q.kind Q.size Q.align R) (tell_ok hgood h0 (t1_yes hk0) (t2_al hem hF) (t3_no hbk) (t5_no hq)) rfl rfl rfl (smp_map _)
          conv => whnf
          refine Fork.ndec (fun he => ?_) (fun he => ?_)
          · conv => whnf
            exact rowNum_nil (tell_err hgood h0 (t1_yes hk0) (t2_err hem) he) rfl rfl
          · skip
            conv => whnf
            refine Fork.sb (fun hbk => ?_) (fun hbk => ?_)
            · conv => whnf
              refine ⟨(fillF Q.kind Q.size Q.align (rbA Q.kind Q.size Q.align R)).1, SmpAt.row rfl rfl (smp_map _), (by omega), ⟨rfl, by decide⟩, ?_⟩
              conv => whnf
              refine Fork.dec (fun hq => ?_) (fun hq => ?_)
              · conv => whnf
                refine Fork.dec (fun hd => ?_) (fun hd => ?_)
                · have hd : Q.count < ((((fillF Q.kind Q.size Q.align (rbA Q.kind Q.size Q.align R)).1).reverse).length : Int) := hd
                  obtain ⟨j, hj⟩ : ∃ j : Nat, Q.count = (j : Int) := ⟨Q.count.toNat, by omega⟩
                  conv => whnf
                  refine .mk 0 j rfl (ebnd_i hj) (.inl rfl) (Nat.zero_le _) (by omega) ?_
                  conv => whnf
                  exact rowNum_cutR (x := 0) (j := j) (b := 6) (X := ((fillF Q.kind Q.size Q.align (rbA Q.kind Q.size Q.align R)).1).reverse) (tell_ok hgood h0 (t1_yes hk0) (t2_yes hem he rfl) (t3_yes hbk) (t5_yes hq hd hj)) (by omega) rfl rfl rfl (smp_map _)
                · conv => whnf
                  exact rowNum_rw (x := 0) (b := 6) (X := ((fillF Q.kind Q.size Q.align (rbA Q.kind Q.size Q.align R)).1).reverse) (tell_ok hgood h0 (t1_yes hk0) (t2_yes hem he rfl) (t3_yes hbk) (t5_no2 hd)) rfl rfl rfl (smp_map _)
              · conv => whnf
                exact rowNum_rw (x := 0) (b := 6) (X := ((fillF Q.kind Q.size Q.align (rbA Q.kind Q.size Q.align R)).1).reverse) (tell_ok hgood h0 (t1_yes hk0) (t2_yes hem he rfl) (t3_yes hbk) (t5_no hq)) rfl rfl rfl (smp_map _)
            · skip
              conv => whnf
              refine Fork.dec (fun hq => ?_) (fun hq => ?_)
              · conv => whnf
                refine Fork.dec (fun hd => ?_) (fun hd => ?_)
                · have hd : Q.count < (((fillF Q.kind Q.size Q.align (rbA Q.kind Q.size Q.align R)).1).length : Int) := hd
                  obtain ⟨j, hj⟩ : ∃ j : Nat, Q.count = (j : Int) := ⟨Q.count.toNat, by omega⟩
                  conv => whnf
                  refine .mk 0 j rfl (ebnd_i hj) (.inl rfl) (Nat.zero_le _) (by omega) ?_
                  conv => whnf
                  exact rowNum_cutR (x := 0) (j := j) (b := 5) (X := (fillF Q.kind Q.size Q.align (rbA Q.kind Q.size Q.align R)).1) (tell_ok hgood h0 (t1_yes hk0) (t2_yes hem he rfl) (t3_no hbk) (t5_yes hq hd hj)) (by omega) rfl rfl rfl (smp_map _)
                · conv => whnf
                  exact rowNum_rw (x := 0) (b := 5) (X := (fillF Q.kind Q.size Q.align (rbA Q.kind Q.size Q.align R)).1) (tell_ok hgood h0 (t1_yes hk0) (t2_yes hem he rfl) (t3_no hbk) (t5_no2 hd)) rfl rfl rfl (smp_map _)
              · conv => whnf
                exact rowNum_rw (x := 0) (b := 5) (X := (fillF Q.kind Q.size Q.align (rbA Q.kind Q.size Q.align R)).1) (tell_ok hgood h0 (t1_yes hk0) (t2_yes hem he rfl) (t3_no hbk) (t5_no hq)) rfl rfl rfl (smp_map _)
        · skip
          conv => whnf
          refine Fork.sb (fun hbk => ?_) (fun hbk => ?_)
          · conv => whnf
            refine ⟨rbA Q.kind Q.size Q.align R, SmpAt.row rfl rfl (smp_map _), hbl, ⟨rfl, by decide⟩, ?_⟩
            conv => whnf
            refine Fork.dec (fun hq => ?_) (fun hq => ?_)
            · conv => whnf
              refine Fork.dec (fun hd => ?_) (fun hd => ?_)
              · have hd : Q.count < (((rbA Q.kind Q.size Q.align R).reverse).length : Int) := hd
                obtain ⟨j, hj⟩ : ∃ j : Nat, Q.count = (j : Int) := ⟨Q.count.toNat, by omega⟩
                conv => whnf
                refine .mk 0 j rfl (ebnd_i hj) (.inl rfl) (Nat.zero_le _) (by omega) ?_
                conv => whnf
                exact rowNum_cutR (x := 0) (j := j) (b := 5) (X := (rbA Q.kind Q.size Q.align R).reverse) (tell_ok hgood h0 (t1_yes hk0) (t2_no hem) (t3_yes hbk) (t5_yes hq hd hj)) (by omega) rfl rfl rfl (smp_map _)
              · conv => whnf
                exact rowNum_rw (x := 0) (b := 5) (X := (rbA Q.kind Q.size Q.align R).reverse) (tell_ok hgood h0 (t1_yes hk0) (t2_no hem) (t3_yes hbk) (t5_no2 hd)) rfl rfl rfl (smp_map _)
            · conv => whnf
              exact rowNum_rw (x := 0) (b := 5) (X := (rbA Q.kind Q.size Q.align R).reverse) (tell_ok hgood h0 (t1_yes hk0) (t2_no hem) (t3_yes hbk) (t5_no hq)) rfl rfl rfl (smp_map _)
          · skip
            conv => whnf
            refine Fork.dec (fun hq => ?_) (fun hq => ?_)
            · conv => whnf
              refine Fork.dec (fun hd => ?_) (fun hd => ?_)
              · have hd : Q.count < ((rbA Q.kind Q.size Q.align R).length : Int) := hd
                obtain ⟨j, hj⟩ : ∃ j : Nat, Q.count = (j : Int) := ⟨Q.count.toNat, by omega⟩
                conv => whnf
                refine .mk 0 j rfl (ebnd_i hj) (.inl rfl) (Nat.zero_le _) (by omega) ?_
                conv => whnf
                exact rowNum_cutR (x := 0) (j := j) (b := 4) (X := rbA Q.kind Q.size Q.align R) (tell_ok hgood h0 (t1_yes hk0) (t2_no hem) (t3_no hbk) (t5_yes hq hd hj)) (by omega) rfl rfl rfl (smp_map _)
              · conv => whnf
                exact rowNum_rw (x := 0) (b := 4) (X := rbA Q.kind Q.size Q.align R) (tell_ok hgood h0 (t1_yes hk0) (t2_no hem) (t3_no hbk) (t5_no2 hd)) rfl rfl rfl (smp_map _)
            · conv => whnf
              exact rowNum_rw (x := 0) (b := 4) (X := rbA Q.kind Q.size Q.align R) (tell_ok hgood h0 (t1_yes hk0) (t2_no hem) (t3_no hbk) (t5_no hq)) rfl rfl rfl (smp_map _)
      · have hk0 : Q.kind = 0 := hk
        conv => whnf
        refine Fork.sb (fun hem => ?_) (fun hem => ?_)
        · have hfl := fill_len (k := Q.kind) (s := Q.size) (a := Q.align) (L := R)
          conv => whnf
          refine ⟨R, SmpAt.row rfl rfl (smp_map _), hll, fun ha => ?_, fun ha => ⟨⟨rfl, by decide⟩, ?_⟩⟩
          · have hF := alias_is ha
            conv => whnf
            refine Fork.ndec (fun he => absurd rfl he) (fun _ => ?_)
            conv => whnf
            refine Fork.sb (fun hbk => ?_) (fun hbk => ?_)
            · conv => whnf
              refine ⟨R, SmpAt.row rfl rfl (smp_map _), hll, ⟨rfl, by decide⟩, ?_⟩
              conv => whnf
              refine Fork.dec (fun hq => ?_) (fun hq => ?_)
              · conv => whnf
                refine Fork.dec (fun hd => ?_) (fun hd => ?_)
                · have hd : Q.count < (((R).reverse).length : Int) := hd
                  obtain ⟨j, hj⟩ : ∃ j : Nat, Q.count = (j : Int) := ⟨Q.count.toNat, by omega⟩
                  conv => whnf
                  refine .mk 0 j rfl (ebnd_i hj) (.inl rfl) (Nat.zero_le _) (by omega) ?_
                  conv => whnf
                  exact rowNum_cutR (x := 0) (j := j) (b := 4) (X := (R).reverse) (tell_ok hgood h0 (t1_no hk0) (t2_al hem hF) (t3_yes hbk) (t5_yes hq hd hj)) (by omega) rfl rfl rfl (smp_map _)
                · conv => whnf
                  exact rowNum_rw (x := 0) (b := 4) (X := (R).reverse) (tell_ok hgood h0 (t1_no hk0) (t2_al hem hF) (t3_yes hbk) (t5_no2 hd)) rfl rfl rfl (smp_map _)
              · conv => whnf
                exact rowNum_rw (x := 0) (b := 4) (X := (R).reverse) (tell_ok hgood h0 (t1_no hk0) (t2_al hem hF) (t3_yes hbk) (t5_no hq)) rfl rfl rfl (smp_map _)
            · skip
              conv => whnf
              refine Fork.dec (fun hq => ?_) (fun hq => ?_)
              · conv => whnf
                refine Fork.dec (fun hd => ?_) (fun hd => ?_)
                · have hd : Q.count < ((R).length : Int) := hd
                  obtain ⟨j, hj⟩ : ∃ j : Nat, Q.count = (j : Int) := ⟨Q.count.toNat, by omega⟩
                  conv => whnf
                  refine .mk 0 j rfl (ebnd_i hj) (.inl rfl) (Nat.zero_le _) (by omega) ?_
                  conv => whnf
                  exact rowNum_cutR (x := 0) (j := j) (b := 3) (X := R) (tell_ok hgood h0 (t1_no hk0) (t2_al hem hF) (t3_no hbk) (t5_yes hq hd hj)) (by omega) rfl rfl rfl (smp_map _)
                · conv => whnf
                  exact rowNum_rw (x := 0) (b := 3) (X := R) (tell_ok hgood h0 (t1_no hk0) (t2_al hem hF) (t3_no hbk) (t5_no2 hd)) rfl rfl rfl (smp_map _)
              · conv => whnf
                exact rowNum_rw (x := 0) (b := 3) (X := R) (tell_ok hgood h0 (t1_no hk0) (t2_al hem hF) (t3_no hbk) (t5_no hq)) rfl rfl rfl (smp_map _)
          conv => whnf
          refine Fork.ndec (fun he => ?_) (fun he => ?_)
          · conv => whnf
            exact rowNum_nil (tell_err hgood h0 (t1_no hk0) (t2_err hem) he) rfl rfl
          · skip
            conv => whnf
            refine Fork.sb (fun hbk => ?_) (fun hbk => ?_)
            · conv => whnf
              refine ⟨(fillF Q.kind Q.size Q.align (R)).1, SmpAt.row rfl rfl (smp_map _), (by omega), ⟨rfl, by decide⟩, ?_⟩
              conv => whnf
              refine Fork.dec (fun hq => ?_) (fun hq => ?_)
              · conv => whnf
                refine Fork.dec (fun hd => ?_) (fun hd => ?_)
                · have hd : Q.count < ((((fillF Q.kind Q.size Q.align (R)).1).reverse).length : Int) := hd
                  obtain ⟨j, hj⟩ : ∃ j : Nat, Q.count = (j : Int) := ⟨Q.count.toNat, by omega⟩
                  conv => whnf
                  refine .mk 0 j rfl (ebnd_i hj) (.inl rfl) (Nat.zero_le _) (by omega) ?_
                  conv => whnf
                  exact rowNum_cutR (x := 0) (j := j) (b := 5) (X := ((fillF Q.kind Q.size Q.align (R)).1).reverse) (tell_ok hgood h0 (t1_no hk0) (t2_yes hem he rfl) (t3_yes hbk) (t5_yes hq hd hj)) (by omega) rfl rfl rfl (smp_map _)
                · conv => whnf
                  exact rowNum_rw (x := 0) (b := 5) (X := ((fillF Q.kind Q.size Q.align (R)).1).reverse) (tell_ok hgood h0 (t1_no hk0) (t2_yes hem he rfl) (t3_yes hbk) (t5_no2 hd)) rfl rfl rfl (smp_map _)
              · conv => whnf
                exact rowNum_rw (x := 0) (b := 5) (X := ((fillF Q.kind Q.size Q.align (R)).1).reverse) (tell_ok hgood h0 (t1_no hk0) (t2_yes hem he rfl) (t3_yes hbk) (t5_no hq)) rfl rfl rfl (smp_map _)
            · skip
              conv => whnf
              refine Fork.dec (fun hq => ?_) (fun hq => ?_)
              · conv => whnf
                refine Fork.dec (fun hd => ?_) (fun hd => ?_)
                · have hd : Q.count < (((fillF Q.kind Q.size Q.align (R)).1).length : Int) := hd
                  obtain ⟨j, hj⟩ : ∃ j : Nat, Q.count = (j : Int) := ⟨Q.count.toNat, by omega⟩
                  conv => whnf
                  refine .mk 0 j rfl (ebnd_i hj) (.inl rfl) (Nat.zero_le _) (by omega) ?_
                  conv => whnf
                  exact rowNum_cutR (x := 0) (j := j) (b := 4) (X := (fillF Q.kind Q.size Q.align (R)).1) (tell_ok hgood h0 (t1_no hk0) (t2_yes hem he rfl) (t3_no hbk) (t5_yes hq hd hj)) (by omega) rfl rfl rfl (smp_map _)
                · conv => whnf
                  exact rowNum_rw (x := 0) (b := 4) (X := (fillF Q.kind Q.size Q.align (R)).1) (tell_ok hgood h0 (t1_no hk0) (t2_yes hem he rfl) (t3_no hbk) (t5_no2 hd)) rfl rfl rfl (smp_map _)
              · conv => whnf
                exact rowNum_rw (x := 0) (b := 4) (X := (fillF Q.kind Q.size Q.align (R)).1) (tell_ok hgood h0 (t1_no hk0) (t2_yes hem he rfl) (t3_no hbk) (t5_no hq)) rfl rfl rfl (smp_map _)
        · skip
          conv => whnf
          refine Fork.sb (fun hbk => ?_) (fun hbk => ?_)
          · conv => whnf
            refine ⟨R, SmpAt.row rfl rfl (smp_map _), hll, ⟨rfl, by decide⟩, ?_⟩
            conv => whnf
            refine Fork.dec (fun hq => ?_) (fun hq => ?_)
            · conv => whnf
              refine Fork.dec (fun hd => ?_) (fun hd => ?_)
              · have hd : Q.count < (((R).reverse).length : Int) := hd
                obtain ⟨j, hj⟩ : ∃ j : Nat, Q.count = (j : Int) := ⟨Q.count.toNat, by omega⟩
                conv => whnf
                refine .mk 0 j rfl (ebnd_i hj) (.inl rfl) (Nat.zero_le _) (by omega) ?_
                conv => whnf
                exact rowNum_cutR (x := 0) (j := j) (b := 4) (X := (R).reverse) (tell_ok hgood h0 (t1_no hk0) (t2_no hem) (t3_yes hbk) (t5_yes hq hd hj)) (by omega) rfl rfl rfl (smp_map _)
              · conv => whnf
                exact rowNum_rw (x := 0) (b := 4) (X := (R).reverse) (tell_ok hgood h0 (t1_no hk0) (t2_no hem) (t3_yes hbk) (t5_no2 hd)) rfl rfl rfl (smp_map _)
            · conv => whnf
              exact rowNum_rw (x := 0) (b := 4) (X := (R).reverse) (tell_ok hgood h0 (t1_no hk0) (t2_no hem) (t3_yes hbk) (t5_no hq)) rfl rfl rfl (smp_map _)
          · skip
            conv => whnf
            refine Fork.dec (fun hq => ?_) (fun hq => ?_)
            · conv => whnf
              refine Fork.dec (fun hd => ?_) (fun hd => ?_)
              · have hd : Q.count < ((R).length : Int) := hd
                obtain ⟨j, hj⟩ : ∃ j : Nat, Q.count = (j : Int) := ⟨Q.count.toNat, by omega⟩
                conv => whnf
                refine .mk 0 j rfl (ebnd_i hj) (.inl rfl) (Nat.zero_le _) (by omega) ?_
                conv => whnf
                exact rowNum_cutR (x := 0) (j := j) (b := 3) (X := R) (tell_ok hgood h0 (t1_no hk0) (t2_no hem) (t3_no hbk) (t5_yes hq hd hj)) (by omega) rfl rfl rfl (smp_map _)
              · conv => whnf
                exact rowNum_rw (x := 0) (b := 3) (X := R) (tell_ok hgood h0 (t1_no hk0) (t2_no hem) (t3_no hbk) (t5_no2 hd)) rfl rfl rfl (smp_map _)
            · conv => whnf
              exact rowNum_rw (x := 0) (b := 3) (X := R) (tell_ok hgood h0 (t1_no hk0) (t2_no hem) (t3_no hbk) (t5_no hq)) rfl rfl rfl (smp_map _)
theorem n_rtell : NatP 29 (natTl 1000 tellR) := natTl_okR G10_ok (by kernel_rfl) rt_run
noncomputable def G11 : FuncId → EP := withS 29 (natTl 1000 tellR) G10
theorem G11_ok : TabP G11 := withS_ok G10_ok n_rtell singTl
end Go.Proofs.Ytkhfdjhohfebgaa
namespace Go.Proofs.Ytkhfdjhohfebgaa
open Go Go.RowKit Go.ChangeShapes Go.WideShapes
/-! ### things without places -/
inductive Kd where
  | int (k : IntKind)
  | bool
  | str
  | sl (t : TypeId)
def Kd.isFlat : Kd → Bool
  | .sl _ => false
  | _ => true
noncomputable def fieldsT (P : Program) (k : TypeId → Option (List Kd)) : List Field → List Kd → Option (List Kd)
  | [], l => some l
  | f :: fs, l => (match k f.type with
    | some m => if f.offset = l.length ∧ m.length = P.cellsOf f.type then fieldsT P k fs (l ++ m) else none
    | none => none)
def repL' {α : Type} (m : List α) : Nat → List α
  | 0 => []
  | n + 1 => repL' m n ++ m
noncomputable def kdsT (P : Program) : Nat → TypeId → Option (List Kd)
  | 0, _ => none
  | d + 1, t => (match P.underlying t with
    | some (.int k) => some [.int k]
    | some .bool => some [.bool]
    | some .string => some [.str]
    | some (.slice _) => some [.sl t]
    | some (.struct fs) => (fieldsT P (kdsT P d) fs.toList []).bind fun l => if l.length = P.cellsOf t then some l else none
    | some (.array n e) => (kdsT P d e).bind fun m => if m.length = P.cellsOf e ∧ n * m.length = P.cellsOf t then some (repL' m n) else none
    | _ => none)
def Prim (Tr : TypeId → Value → Prop) : Kd → Value → Prop
  | .int k, v => ∃ z, v = .int k z ∧ (Lit.int k z).wf = true
  | .bool, v => ∃ b, v = .bool b
  | .str, v => ∃ s, v = .string s ∧ s.size ≤ maxLen
  | .sl t, v => Tr t v
def Prims (Tr : TypeId → Value → Prop) (ks : List Kd) (cs : List Value) : Prop := ks.length = cs.length ∧ ∀ (j : Nat) k v, ks[j]? = some k → cs[j]? = some v → Prim Tr k v
def avOf : Value → AV
  | .int k z => .si k z
  | .bool b => .sb b
  | .string s => .ss (s.data.toList.map UInt8.toNat)
  | _ => .bad
section
variable {Tr : TypeId → Value → Prop}
theorem Prim.av {k : Kd} {v : Value} (h : Prim Tr k v) (hf : k.isFlat = true) (χ : Ph) : VR χ (avOf v) v := by
  cases k with
  | sl t => cases hf
  | int k => obtain ⟨z, rfl, _⟩ := h; exact .si k z
  | bool => obtain ⟨b, rfl⟩ := h; exact .sb b
  | str => obtain ⟨s, rfl, _⟩ := h; exact vr_string s
theorem Prim.flat {k : Kd} {v : Value} (h : Prim Tr k v) (hf : k.isFlat = true) : flat.flat1 (avOf v) = true := by
  cases k with
  | sl t => cases hf
  | int k => obtain ⟨z, rfl, _⟩ := h; rfl
  | bool => obtain ⟨b, rfl⟩ := h; rfl
  | str => obtain ⟨s, rfl, _⟩ := h; rfl
theorem Prim.mk {k : Kd} {v : Value} (h : Prim Tr k v) (hf : k.isFlat = true) : Go.Proofs.Ytkhfdjhohfebgaa.mk (avOf v) = avOf v := by
  cases k with
  | sl t => cases hf
  | int k => obtain ⟨z, rfl, _⟩ := h; rfl
  | bool => obtain ⟨b, rfl⟩ := h; rfl
  | str => obtain ⟨s, rfl, _⟩ := h; rfl
theorem Prims.one {k : Kd} {v : Value} (h : Prim Tr k v) : Prims Tr [k] [v] := ⟨rfl, fun j k' v' h1 h2 => by
  cases j with
  | zero => injection h1 with h1; injection h2 with h2; subst h1 h2; exact h
  | succ j => simp at h1⟩
theorem Prims.app {ks ms : List Kd} {cs ds : List Value} (h : Prims Tr ks cs) (k : Prims Tr ms ds) : Prims Tr (ks ++ ms) (cs ++ ds) := ⟨by simp [h.1, k.1], fun j a v h1 h2 => by
  by_cases hj : j < ks.length
  · rw [List.getElem?_append_left hj] at h1
    rw [List.getElem?_append_left (by rw [← h.1]; exact hj)] at h2
    exact h.2 j a v h1 h2
  · rw [List.getElem?_append_right (by omega)] at h1
    rw [List.getElem?_append_right (by rw [← h.1]; omega), ← h.1] at h2
    exact k.2 _ a v h1 h2⟩
theorem Prims.vr {ks : List Kd} {cs : List Value} (h : Prims Tr ks cs) (hf : ks.all Kd.isFlat = true) (χ : Ph) : VRs χ (cs.map avOf) cs := by
  induction cs generalizing ks with
  | nil => exact .nil
  | cons c cs ih =>
    obtain ⟨h1, h2⟩ := h
    cases ks with
    | nil => simp at h1
    | cons k ks =>
      simp only [List.all_cons, Bool.and_eq_true] at hf
      exact .cons ((h2 0 k c rfl rfl).av hf.1 χ) (ih ⟨by simpa using h1, fun j a v q r => h2 (j + 1) a v q r⟩ hf.2)
end
def TrS {H : Type} (enc : TypeId × Value → H) (P : Program) (W : World) (base : Nat) (sp : Nat → Bool) (held : Bool) (t : TypeId) (v : Value) : Prop := ∃ fuel x, DataW.trod enc P W base sp held fuel t [v] = some x
section
variable {H : Type} {enc : TypeId × Value → H} {P : Program} {W : World} {base : Nat} {sp : Nat → Bool} {held : Bool}
theorem fieldsT_trod {k : TypeId → Option (List Kd)} {cs : List Value} {n : Nat} (ih : ∀ t ks cs x, k t = some ks → DataW.trod enc P W base sp held n t cs = some x → Prims (TrS enc P W base sp held) ks cs) : ∀ (fs : List Field) (l r : List Kd), Prims (TrS enc P W base sp held) l (cs.take l.length) → (∀ f ∈ fs, ∃ x, DataW.trod enc P W base sp held n f.type ((cs.drop f.offset).take (P.cellsOf f.type)) = some x) →
    fieldsT P k fs l = some r → Prims (TrS enc P W base sp held) r (cs.take r.length)
  | [], l, r, h, _, e => by injection e with e; subst e; exact h
  | f :: fs, l, r, h, hf, e => by
    unfold fieldsT at e
    split at e
    · rename_i m hk
      split at e
      · rename_i ho
        obtain ⟨ho, hm⟩ := ho
        obtain ⟨x, hx⟩ := hf f List.mem_cons_self
        have hp := ih _ _ _ _ hk hx
        refine fieldsT_trod ih fs (l ++ m) r ?_ (fun g hg => hf g (List.mem_cons_of_mem _ hg)) e
        have e2 : cs.take (l ++ m).length = cs.take l.length ++ ((cs.drop f.offset).take (P.cellsOf f.type)) := by
          rw [List.length_append, List.take_add, ho, hm]
        rw [e2]
        exact h.app hp
      · cases e
    · cases e
theorem repL_trod {Tr : TypeId → Value → Prop} {m : List Kd} {c : Nat} {cs : List Value} (hc : m.length = c) : ∀ n, (∀ i, i < n → Prims Tr m ((cs.drop (i * c)).take c)) → Prims Tr (repL' m n) (cs.take (n * c))
  | 0, _ => ⟨by simp [repL'], fun j k v h => by simp [repL'] at h⟩
  | n + 1, h => by
    have e : cs.take ((n + 1) * c) = cs.take (n * c) ++ (cs.drop (n * c)).take c := by rw [Nat.add_mul, Nat.one_mul, List.take_add]
    rw [e]
    exact (repL_trod hc n fun i hi => h i (by omega)).app (h n (by omega))
theorem repL_length {α : Type} (m : List α) : ∀ n, (repL' m n).length = n * m.length
  | 0 => by simp [repL']
  | n + 1 => by simp [repL', repL_length m n, Nat.add_mul]
theorem kds_trod : ∀ (d : Nat) (t : TypeId) (ks : List Kd) (fuel : Nat) (cs : List Value) (x : DataW H × List MemPlace), kdsT P d t = some ks → DataW.trod enc P W base sp held fuel t cs = some x → Prims (TrS enc P W base sp held) ks cs
  | 0, t, ks, fuel, cs, x, h, _ => by cases h
  | d + 1, t, ks, fuel, cs, x, h, hx => by
    unfold kdsT at h
    split at h
    · rename_i k hu
      injection h with h; subst h
      obtain ⟨z, rfl, _, hw⟩ := DataW.trod_int hu hx
      exact .one ⟨z, rfl, hw⟩
    · rename_i hu
      injection h with h; subst h
      obtain ⟨b, rfl, _⟩ := DataW.trod_bool hu hx
      exact .one ⟨b, rfl⟩
    · rename_i hu
      injection h with h; subst h
      obtain ⟨s, rfl, _, hs⟩ := DataW.trod_string hu hx
      exact .one ⟨s, rfl, hs⟩
    · rename_i e hu
      injection h with h; subst h
      rcases DataW.trod_slice hu hx with ⟨rfl, _⟩ | ⟨a, len, cap, _, _, _, _, rfl, _⟩
      · exact .one ⟨_, _, hx⟩
      · exact .one ⟨_, _, hx⟩
    · rename_i fs hu
      obtain ⟨xs, n, rfl, _, hl, hxl, hf⟩ := DataW.trod_struct hu hx
      rw [Option.bind_eq_some_iff] at h
      obtain ⟨l, h1, h2⟩ := h
      split at h2
      · rename_i hc
        injection h2 with h2; subst h2
        have := fieldsT_trod (enc := enc) (W := W) (base := base) (sp := sp) (held := held) (n := n) (cs := cs) (fun t ks cs x h hx => kds_trod d t ks n cs x h hx) fs.toList [] l ⟨by simp, fun j k v h => by simp at h⟩ (fun f hfm => by
          obtain ⟨i, hi, e⟩ := List.mem_iff_getElem.1 hfm
          have hi2 : i < fs.size := by simpa using hi
          have hg : fs[i]? = some f := by rw [Array.getElem?_eq_getElem hi2]; simpa using e
          have := hf i f hg
          rw [List.getElem?_eq_getElem (by omega)] at this
          exact ⟨_, this⟩) h1
        rw [hc, ← hl, List.take_length] at this
        exact this
      · cases h2
    · rename_i n e hu
      rw [Option.bind_eq_some_iff] at h
      obtain ⟨m, h1, h2⟩ := h
      split at h2
      · rename_i hc
        obtain ⟨hc1, hc2⟩ := hc
        injection h2 with h2; subst h2
        cases fuel with
        | zero => simp [DataW.trod] at hx
        | succ q =>
          rw [DataW.trod_step] at hx
          unfold DataW.trodStep at hx
          simp only [hu] at hx
          split at hx
          · rename_i hlen
            simp only [Option.map_eq_some_iff] at hx
            obtain ⟨ys, hy, _⟩ := hx
            have hyl := mapM_some_length hy
            have := repL_trod (cs := cs) hc1 n (fun i hi => by
              have h3 := mapM_some_get hy i i (by simp [hi])
              rw [List.getElem?_eq_getElem (by rw [hyl]; simpa using hi)] at h3
              exact kds_trod d e m q _ _ h1 h3)
            rw [← hc1, hc2, ← hlen, List.take_length] at this
            exact this
          · cases hx
      · cases h2
    · cases h
theorem flat_at {α : Type} {c : Nat} : ∀ (rows : List (List α)), (∀ r ∈ rows, r.length = c) → ∀ i q, q < c → rows.flatten[i * c + q]? = (rows[i]?).bind (·[q]?)
  | [], _, i, q, _ => by simp
  | r :: rows, h, 0, q, hq => by
    have := h r List.mem_cons_self
    rw [List.flatten_cons, Nat.zero_mul, Nat.zero_add, List.getElem?_append_left (by omega)]; rfl
  | r :: rows, h, i + 1, q, hq => by
    have h1 := h r List.mem_cons_self
    rw [List.flatten_cons, List.getElem?_append_right (by rw [Nat.add_mul]; omega), show (i + 1) * c + q - r.length = i * c + q from by rw [Nat.add_mul]; omega]
    exact flat_at rows (fun x hx => h x (List.mem_cons_of_mem _ hx)) i q hq
theorem flat_len {α : Type} {c : Nat} : ∀ (rows : List (List α)), (∀ r ∈ rows, r.length = c) → rows.flatten.length = rows.length * c
  | [], _ => by simp
  | r :: rows, h => by
    rw [List.flatten_cons, List.length_append, flat_len rows (fun x hx => h x (List.mem_cons_of_mem _ hx)), h r List.mem_cons_self, List.length_cons, Nat.add_mul]; omega
theorem cell_inv {a : Addr} {v : Value} (h : W.cell? a = some v) : ∃ c u fz, W.heap[a.block]? = some (.cells c u fz) ∧ a.spot = none ∧ c[a.off]? = some v := by
  unfold World.cell? at h
  split at h
  · rename_i c u fz hb
    split at h
    · cases h
    · rename_i hs
      exact ⟨c, u, fz, hb, by simpa using hs, h⟩
  · cases h
/-- A row of things without places. -/
theorem open_row {t e : TypeId} {ks : List Kd} {d c fuel : Nat} {v : Value} {D : DataW H} {ps : List MemPlace} (ht : P.underlying t = some (.slice e)) (hk : kdsT P d e = some ks) (hc : ks.length = c) (hc2 : P.cellsOf e = c) (hc0 : c ≠ 0) (hfl0 : ks.all Kd.isFlat = true)
    (hf : DataW.trod enc P W 0 (fun _ => true) held fuel t [v] = some (D, ps)) : ∃ (rows : List (List Value)) (po : Option Pl), (∀ r ∈ rows, Prims (TrS enc P W 0 (fun _ => true) held) ks r) ∧ RoO (wholeHp W) po ((rows.map fun r => r.map avOf).flatten) ∧ (∀ χ b, χ b = po → VR χ (.rw b 0 rows.length c 4) v) ∧
      (∀ a l cap, v = .slice a l cap → l = rows.length ∧ l ≤ cap) ∧ (rows = [] ∨ ∃ E F, D = .slice ((List.range rows.length).map F) E) ∧ rows.length ≤ maxLen := by
  rcases Go.Deep.open_slice ht hf with ⟨h0, h1⟩ | ⟨a, len, cap, m, n, Df, Pf, h1, _, hl, hm, hmm, hx, hel⟩
  · injection h0 with h0
    subst h0
    exact ⟨[], none, (fun r h => by cases h), rfl, fun χ b _ => .rwn, (fun a l cap q => by cases q; exact ⟨rfl, Nat.le_refl _⟩), .inl rfl, Nat.zero_le _⟩
  · injection h1 with h1
    subst h1
    have hmc : m = cap := hmm
    subst hmc
    by_cases hcap : m = 0
    · have : len = 0 := by omega
      subst this hcap
      exact ⟨[], none, (fun r h => by cases h), rfl, fun χ b _ => .rwe rfl (.inr ⟨rfl, a, rfl⟩), (fun a l cap q => by cases q; exact ⟨rfl, Nat.le_refl _⟩), .inl rfl, Nat.zero_le _⟩
    · have hcells : ∀ i, i < m → ∃ cs', cs'.length = c ∧ Prims (TrS enc P W 0 (fun _ => true) held) ks cs' ∧ ∀ q, q < c → W.cell? ((a.add (i * c)).add q) = cs'[q]? := fun i hi => by
        obtain ⟨cs', g1, g2⟩ := hel i hi
        rw [hc2] at g1
        obtain ⟨_, g3, g4⟩ := World.cells?_some g1
        exact ⟨cs', g3, kds_trod d e ks n cs' _ hk g2, fun q hq => g4 q hq⟩
      obtain ⟨R, hR⟩ := Go.Deep.choose_lt hcells
      have hspot : a.spot = none ∧ ∃ cc u fz, W.heap[a.block]? = some (.cells cc u fz) := by
        obtain ⟨g1, _, g3⟩ := hR 0 (by omega)
        have g4 := g3 0 (by omega)
        rw [List.getElem?_eq_getElem (by omega)] at g4
        obtain ⟨cc, u, fz, g5, g6, _⟩ := cell_inv g4
        have e0 : (a.add (0 * c)).add 0 = a := by simp [Addr.add]
        rw [e0] at g5 g6
        exact ⟨g6, cc, u, fz, g5⟩
      obtain ⟨hs, cc, u, fz, hb⟩ := hspot
      obtain ⟨b, off, sp⟩ := a
      simp only at hs hb
      subst hs
      have hget : ∀ i q, i < m → q < c → cc[off + i * c + q]? = (R i)[q]? := fun i q hi hq => by
        have g := (hR i hi).2.2 q hq
        have e0 : ((⟨b, off, none⟩ : Addr).add (i * c)).add q = (⟨b, off, none⟩ : Addr).add (i * c + q) := Go.Deep.add_add _ _ _
        rw [e0, List.getElem?_eq_getElem (by rw [(hR i hi).1]; exact hq)] at g
        have := cell_at hb g
        rw [Nat.add_assoc, this, List.getElem?_eq_getElem (by rw [(hR i hi).1]; exact hq)]
      let rows := (List.range len).map R
      have hrl : rows.length = len := by simp [rows]
      have hmem : ∀ r ∈ rows, ∃ i, i < len ∧ r = R i := fun r hr => by
        simp only [rows, List.mem_map, List.mem_range] at hr
        obtain ⟨i, hi, rfl⟩ := hr
        exact ⟨i, hi, rfl⟩
      have hrc : ∀ r ∈ rows.map (fun r => r.map avOf), r.length = c := fun r hr => by
        simp only [List.mem_map] at hr
        obtain ⟨r', hr', rfl⟩ := hr
        obtain ⟨i, hi, rfl⟩ := hmem r' hr'
        simp [(hR i (by omega)).1]
      have hfl := flat_len _ hrc
      rw [List.length_map, hrl] at hfl
      refine ⟨rows, some ⟨b, off, len * c⟩, fun r hr => ?_, ⟨cc, u, fz, hb, Nat.le_of_eq hfl, ?_, fun ψ i v' hi => ?_⟩, fun χ b' hχ => ?_, (fun a l cap q => by cases q; exact ⟨hrl.symm, hl⟩), .inr ?_, ?_⟩
      · obtain ⟨i, hi, rfl⟩ := hmem r hr
        exact (hR i (by omega)).2.1
      · simp only
        by_cases hl0 : len = 0
        · subst hl0
          have g := hget 0 0 (by omega) (by omega)
          rw [List.getElem?_eq_getElem (by rw [(hR 0 (by omega)).1]; omega)] at g
          have := (Array.getElem?_eq_some_iff.1 g).1
          omega
        · have g := hget (len - 1) (c - 1) (by omega) (by omega)
          rw [List.getElem?_eq_getElem (by rw [(hR _ (by omega)).1]; omega)] at g
          have := (Array.getElem?_eq_some_iff.1 g).1
          have e1 : (len - 1) * c + c = len * c := by rw [← Nat.succ_mul]; congr 1; omega
          omega
      · have hi2 := (List.getElem?_eq_some_iff.1 hi).1
        rw [hfl] at hi2
        have h0 := Nat.div_add_mod i c
        have hq := Nat.mod_lt i (Nat.pos_of_ne_zero hc0)
        have hj : i / c < len := (Nat.div_lt_iff_lt_mul (Nat.pos_of_ne_zero hc0)).2 hi2
        have ei : i = i / c * c + i % c := by rw [Nat.mul_comm]; omega
        rw [ei, flat_at _ hrc _ _ hq] at hi
        have e2 : (rows.map fun r => r.map avOf)[i / c]? = some ((R (i / c)).map avOf) := by simp [rows, hj]
        rw [e2, Option.bind_some, List.getElem?_map, List.getElem?_eq_getElem (by rw [(hR _ (by omega)).1]; exact hq)] at hi
        injection hi with hi
        subst hi
        refine ⟨(R (i / c))[i % c]'(by rw [(hR _ (by omega)).1]; exact hq), ?_, ?_⟩
        · have := hget (i / c) (i % c) (by omega) hq
          rw [List.getElem?_eq_getElem (by rw [(hR _ (by omega)).1]; exact hq), Nat.add_assoc, ← ei] at this
          exact this
        · obtain ⟨g1, g2⟩ := (hR (i / c) (by omega)).2.1
          refine Prim.av (k := ks[i % c]'(by rw [hc]; exact hq)) (g2 (i % c) _ _ (List.getElem?_eq_getElem _) (List.getElem?_eq_getElem _)) (List.all_eq_true.1 hfl0 _ (List.getElem_mem _)) ψ
      · rw [hrl]
        exact .rwx (p := ⟨b, off, len * c⟩) (o := 0) hχ (fun _ => rfl) (Nat.le_refl _) hl (Nat.le_refl _) (fun q => by omega) (fun q => by cases q)
      · injection hx with hx _
        exact ⟨_, Df, by rw [hrl]; exact hx⟩
      · rw [hrl]; omega
/-- .. that is an argument. -/
theorem open_rowT {t e : TypeId} {ks : List Kd} {d c fuel : Nat} {v : Value} {D : DataW H} {ps : List MemPlace} (ht : P.underlying t = some (.slice e)) (hk : kdsT P d e = some ks) (hc : ks.length = c) (hc2 : P.cellsOf e = c) (hc0 : c ≠ 0) (hfl0 : ks.all Kd.isFlat = true)
    (hval : v = .slice none 0 0 ∨ ∃ b off len cap cc u fz, v = .slice (some ⟨b, off, none⟩) len cap ∧ W.heap[b]? = some (.cells cc u fz) ∧ off ≤ cc.size) (hf : DataW.trod enc P W 0 (fun _ => true) held fuel t [v] = some (D, ps)) : ∃ (rows : List (List Value)) (po : Option Pl), (∀ r ∈ rows, Prims (TrS enc P W 0 (fun _ => true) held) ks r) ∧ RoO (wholeHp W) po ((rows.map fun r => r.map avOf).flatten) ∧ (∀ χ b, χ b = po → VR χ (.rw b 0 rows.length c 2) v) ∧
      (rows = [] ∨ ∃ E F, D = .slice ((List.range rows.length).map F) E) ∧ rows.length ≤ maxLen := by
  obtain ⟨rows, po, h1, h2, h3, h4, h5, h6⟩ := open_row ht hk hc hc2 hc0 hfl0 hf
  rcases hval with rfl | ⟨b, off, len, cap, cc, u, fz, rfl, hb, hoff⟩
  · obtain ⟨g1, _⟩ := h4 _ _ _ rfl
    have : rows = [] := List.eq_nil_of_length_eq_zero g1.symm
    subst this
    exact ⟨[], none, h1, rfl, fun χ b _ => .rwn, .inl rfl, h6⟩
  · obtain ⟨g1, g2⟩ := h4 _ _ _ rfl
    by_cases hr : rows = []
    · subst hr
      have : len = 0 := g1
      subst this
      exact ⟨[], some ⟨b, off, 0⟩, h1, ⟨cc, u, fz, hb, Nat.le_refl _, by simp only; omega, fun ψ i a h => by simp at h⟩, fun χ b' hχ => .rwx (p := ⟨b, off, 0⟩) hχ (fun q => absurd rfl q) (Nat.le_refl _) g2 (by simp) (fun q => by omega) (fun q => by cases q), .inl rfl, h6⟩
    · refine ⟨rows, po, h1, h2, fun χ b' hχ => ?_, h5, h6⟩
      have hl : rows.length ≠ 0 := fun q => hr (List.eq_nil_of_length_eq_zero q)
      rcases (h3 χ b' hχ).rw_inv with ⟨q, _⟩ | ⟨p, a, C, k1, k2, k3, k4, k5, k6, k7, k8⟩
      · exact absurd q hl
      · rw [k2]
        exact .rwx k1 k3 k4 k5 k6 (fun q => by omega) (fun q => by cases q)
/-! ### rows of numbers, of pairs -/
def pairOf : List Value → Int × Int
  | [.int _ a, .int _ b] => (a, b)
  | _ => (0, 0)
theorem smp_rows {Tr : TypeId → Value → Prop} : ∀ {rows : List (List Value)}, (∀ r ∈ rows, Prims Tr [.int .i64, .int .i64] r) → (rows.map fun r => r.map avOf).flatten = smp (rows.map pairOf) ∧ ∀ x ∈ rows.map pairOf, In64 x.1 ∧ In64 x.2
  | [], _ => ⟨rfl, fun x h => by cases h⟩
  | r :: rows, h => by
    obtain ⟨h1, h2⟩ := smp_rows (rows := rows) fun x hx => h x (List.mem_cons_of_mem _ hx)
    obtain ⟨g1, g2⟩ := h r List.mem_cons_self
    match r, g1, g2 with
    | [v, w], _, g2 =>
      obtain ⟨a, rfl, ha⟩ := g2 0 _ v rfl rfl
      obtain ⟨b, rfl, hb⟩ := g2 1 _ w rfl rfl
      refine ⟨by simp only [List.map_cons, List.flatten_cons, h1]; rfl, fun x hx => ?_⟩
      rcases List.mem_cons.1 hx with rfl | hx
      · simp [Lit.wf, IntKind.min, IntKind.max, IntKind.signed, IntKind.bits] at ha hb
        unfold In64 pairOf; dsimp only; omega
      · exact h2 x hx
def intAt : List Value → Int
  | [.int _ a] => a
  | _ => 0
theorem int_rows {Tr : TypeId → Value → Prop} : ∀ {rows : List (List Value)}, (∀ r ∈ rows, Prims Tr [.int .i64] r) → (rows.map fun r => r.map avOf).flatten = ints (rows.map intAt) ∧ ∀ x ∈ rows.map intAt, In64 x
  | [], _ => ⟨rfl, fun x h => by cases h⟩
  | r :: rows, h => by
    obtain ⟨h1, h2⟩ := int_rows (rows := rows) fun x hx => h x (List.mem_cons_of_mem _ hx)
    obtain ⟨g1, g2⟩ := h r List.mem_cons_self
    match r, g1, g2 with
    | [v], _, g2 =>
      obtain ⟨a, rfl, ha⟩ := g2 0 _ v rfl rfl
      refine ⟨by simp only [List.map_cons, List.flatten_cons, h1]; rfl, fun x hx => ?_⟩
      rcases List.mem_cons.1 hx with rfl | hx
      · simp [Lit.wf, IntKind.min, IntKind.max, IntKind.signed, IntKind.bits] at ha
        show -9223372036854775808 ≤ _ ∧ _ ≤ 9223372036854775807
        omega
      · exact h2 x hx
/-- Samples that are an argument. -/
theorem arg_samples {b0 : Nat} {t e : TypeId} {d : Nat} {v : Value} {D : DataW H} {ps : List MemPlace} (ht : P.underlying t = some (.slice e)) (hk : kdsT P d e = some [.int .i64, .int .i64]) (hc2 : P.cellsOf e = 2) (hval : Value.okWide P W .any b0 t v) (hd : DataW.Trod enc P W 0 (fun _ => true) held t v D ps) :
    ∃ (L : Smp) (po : Option Pl), (∀ x ∈ L, In64 x.1 ∧ In64 x.2) ∧ RoO (wholeHp W) po (smp L) ∧ (∀ χ b, χ b = po → VR χ (.rw b 0 L.length 2 2) v) ∧ L.length ≤ maxLen := by
  obtain ⟨fuel, hf⟩ := hd
  have hv := okWide_slice_at ht hval
  have hcell : v.cells.toList = [v] := by rcases hv with rfl | ⟨b, off, len, cap, cc, u, fz, rfl, _⟩ <;> rfl
  rw [hcell] at hf
  obtain ⟨rows, po, h1, h2, h3, h4, h5⟩ := open_rowT ht hk rfl hc2 (by decide) rfl hv hf
  obtain ⟨g1, g2⟩ := smp_rows h1
  refine ⟨rows.map pairOf, po, g2, g1 ▸ h2, fun χ b hχ => by rw [List.length_map]; exact h3 χ b hχ, by rw [List.length_map]; exact h5⟩
theorem arg_ints {b0 : Nat} {t e : TypeId} {d : Nat} {v : Value} {D : DataW H} {ps : List MemPlace} (ht : P.underlying t = some (.slice e)) (hk : kdsT P d e = some [.int .i64]) (hc2 : P.cellsOf e = 1) (hval : Value.okWide P W .any b0 t v) (hd : DataW.Trod enc P W 0 (fun _ => true) held t v D ps) :
    ∃ (V : List Int) (po : Option Pl), (∀ x ∈ V, In64 x) ∧ RoO (wholeHp W) po (ints V) ∧ (∀ χ b, χ b = po → VR χ (.rw b 0 V.length 1 2) v) ∧ V.length ≤ maxLen := by
  obtain ⟨fuel, hf⟩ := hd
  have hv := okWide_slice_at ht hval
  have hcell : v.cells.toList = [v] := by rcases hv with rfl | ⟨b, off, len, cap, cc, u, fz, rfl, _⟩ <;> rfl
  rw [hcell] at hf
  obtain ⟨rows, po, h1, h2, h3, h4, h5⟩ := open_rowT ht hk rfl hc2 (by decide) rfl hv hf
  obtain ⟨g1, g2⟩ := int_rows h1
  refine ⟨rows.map intAt, po, g2, g1 ▸ h2, fun χ b hχ => by rw [List.length_map]; exact h3 χ b hχ, by rw [List.length_map]; exact h5⟩
/-- Cells without places that are an argument. -/
theorem arg_cells {b0 : Nat} {t : TypeId} {ks : List Kd} {d : Nat} {v : Value} {D : DataW H} {ps : List MemPlace} (hk : kdsT P d t = some ks) (hd : DataW.Trod enc P W 0 (fun _ => true) held t v D ps) (hv : ∃ cs, v = .agg cs) : ∃ cs, v = .agg cs ∧ Prims (TrS enc P W 0 (fun _ => true) held) ks cs.toList := by
  obtain ⟨fuel, hf⟩ := hd
  obtain ⟨cs, rfl⟩ := hv
  exact ⟨cs, rfl, kds_trod d t ks fuel _ _ hk hf⟩
theorem In64.of {z : Int} (h : (Lit.int .i64 z).wf = true) : In64 z := by
  simp [Lit.wf, IntKind.min, IntKind.max, IntKind.signed, IntKind.bits] at h
  unfold In64; omega
def Qry.In64 (Q : Qry) : Prop := Go.Proofs.Ytkhfdjhohfebgaa.In64 Q.f ∧ Go.Proofs.Ytkhfdjhohfebgaa.In64 Q.t ∧ Go.Proofs.Ytkhfdjhohfebgaa.In64 Q.count ∧ Go.Proofs.Ytkhfdjhohfebgaa.In64 Q.kind ∧ Go.Proofs.Ytkhfdjhohfebgaa.In64 Q.size ∧ Go.Proofs.Ytkhfdjhohfebgaa.In64 Q.align ∧ Go.Proofs.Ytkhfdjhohfebgaa.In64 Q.low ∧ Go.Proofs.Ytkhfdjhohfebgaa.In64 Q.high ∧ ∀ x ∈ Q.times, Go.Proofs.Ytkhfdjhohfebgaa.In64 x
/-- A query that is an argument. -/
theorem arg_query {b0 : Nat} {t e ei : TypeId} {d : Nat} {v : Value} {D : DataW H} {ps : List MemPlace} {fs : Array Field} {ts : List TypeId} (hu : P.underlying t = some (.struct fs)) (hk : kdsT P d t = some [.int .i64, .int .i64, .bool, .int .i64, .int .i64, .int .i64, .int .i64, .bool, .sl e, .bool, .int .i64, .int .i64])
    (he : P.underlying e = some (.slice ei)) (hke : kdsT P d ei = some [.int .i64]) (hc2 : P.cellsOf ei = 1) (hct : P.cellTypes P.depth t = some ts) (hts : ts[8 % ts.length]? = some e) (hval : Value.okWide P W .any b0 t v) (hd : DataW.Trod enc P W 0 (fun _ => true) held t v D ps) :
    ∃ (Q : Qry) (po : Option Pl), Q.In64 ∧ RoO (wholeHp W) po (ints Q.times) ∧ (∀ χ b, χ b = po → VR χ (qRw b Q) v) ∧ Q.times.length ≤ maxLen := by
  simp only [Value.okWide, hu] at hval
  obtain ⟨cs, rfl, _, ts', h1, _, h2⟩ := hval
  rw [hct] at h1
  injection h1 with h1
  subst h1
  obtain ⟨fuel, hf⟩ := hd
  obtain ⟨g1, g2⟩ := kds_trod d t _ fuel _ _ hk hf
  obtain ⟨l⟩ := cs
  simp only [Value.cells] at g1 g2
  match l, g1, g2, h2 with
  | [v0, v1, v2, v3, v4, v5, v6, v7, v8, v9, v10, v11], _, g2, h2 =>
    obtain ⟨z0, rfl, w0⟩ := g2 0 _ v0 rfl rfl
    obtain ⟨z1, rfl, w1⟩ := g2 1 _ v1 rfl rfl
    obtain ⟨z2, rfl⟩ := g2 2 _ v2 rfl rfl
    obtain ⟨z3, rfl, w3⟩ := g2 3 _ v3 rfl rfl
    obtain ⟨z4, rfl, w4⟩ := g2 4 _ v4 rfl rfl
    obtain ⟨z5, rfl, w5⟩ := g2 5 _ v5 rfl rfl
    obtain ⟨z6, rfl, w6⟩ := g2 6 _ v6 rfl rfl
    obtain ⟨z7, rfl⟩ := g2 7 _ v7 rfl rfl
    obtain ⟨f8, ⟨D8, P8⟩, h8⟩ := g2 8 _ v8 rfl rfl
    obtain ⟨z9, rfl⟩ := g2 9 _ v9 rfl rfl
    obtain ⟨z10, rfl, w10⟩ := g2 10 _ v10 rfl rfl
    obtain ⟨z11, rfl, w11⟩ := g2 11 _ v11 rfl rfl
    obtain ⟨u, hu8, ho8⟩ := h2 8 v8 rfl
    rw [hts] at hu8
    injection hu8 with hu8
    subst hu8
    have hv8 : Value.okWide P W .any b0 e v8 := by simp only [Value.okWide, he]; exact ho8
    have hv := okWide_slice_at he hv8
    obtain ⟨rows, po, q1, q2, q3, _, q5⟩ := open_rowT he hke rfl hc2 (by decide) rfl hv h8
    obtain ⟨k1, k2⟩ := int_rows q1
    refine ⟨⟨z0, z1, z2, z3, z4, z5, z6, z7, rows.map intAt, z9, z10, z11⟩, po, ⟨.of w0, .of w1, .of w3, .of w4, .of w5, .of w6, .of w10, .of w11, k2⟩, k1 ▸ q2, fun χ b hχ => ?_, by simpa using q5⟩
    have hr : VR χ (.rw b 0 (rows.map intAt).length 1 2) v8 := by rw [List.length_map]; exact q3 χ b hχ
    exact .agg (.cons (.si _ _) (.cons (.si _ _) (.cons (.sb _) (.cons (.si _ _) (.cons (.si _ _) (.cons (.si _ _) (.cons (.si _ _) (.cons (.sb _) (.cons hr (.cons (.sb _) (.cons (.si _ _) (.cons (.si _ _) .nil))))))))))))
/-- A sample that is an argument. -/
theorem arg_pair {b0 : Nat} {t : TypeId} {d : Nat} {v : Value} {D : DataW H} {ps : List MemPlace} {fs : Array Field} (hu : P.underlying t = some (.struct fs)) (hk : kdsT P d t = some [.int .i64, .int .i64]) (hval : Value.okWide P W .any b0 t v) (hd : DataW.Trod enc P W 0 (fun _ => true) held t v D ps) :
    ∃ x y : Int, In64 x ∧ In64 y ∧ ∀ χ, VR χ (.agg [.si .i64 x, .si .i64 y]) v := by
  simp only [Value.okWide, hu] at hval
  obtain ⟨cs, rfl, _⟩ := hval
  obtain ⟨fuel, hf⟩ := hd
  obtain ⟨g1, g2⟩ := kds_trod d t _ fuel _ _ hk hf
  obtain ⟨l⟩ := cs
  simp only [Value.cells] at g1 g2
  match l, g1, g2 with
  | [v0, v1], _, g2 =>
    obtain ⟨z0, rfl, w0⟩ := g2 0 _ v0 rfl rfl
    obtain ⟨z1, rfl, w1⟩ := g2 1 _ v1 rfl rfl
    exact ⟨z0, z1, .of w0, .of w1, fun χ => .agg (.cons (.si _ _) (.cons (.si _ _) .nil))⟩
end
end Go.Proofs.Ytkhfdjhohfebgaa
namespace Go.Proofs.Ytkhfdjhohfebgaa
open Go Go.RowKit
/-! ### the query as the reference's -/
def det1 : AV → Bool
  | .si _ _ => true
  | .sb _ => true
  | .any _ => true
  | _ => false
theorem det1_eq {φ ψ : Ph} {a : AV} {v w : Value} (h : det1 a = true) (h1 : VR φ a v) (h2 : VR ψ a w) : v = w := by
  cases a <;> first | (cases h; done) | skip
  case any u => rw [h1.any_inv, h2.any_inv]
  case si => rw [h1.si_inv, h2.si_inv]
  case sb => rw [h1.sb_inv, h2.sb_inv]
theorem dets_eq {φ ψ : Ph} : ∀ {l : List AV} {vs ws : List Value}, l.all det1 = true → VRs φ l vs → VRs ψ l ws → vs = ws
  | [], vs, ws, _, h1, h2 => by rw [h1.nil_inv, h2.nil_inv]
  | a :: l, vs, ws, h, h1, h2 => by
    obtain ⟨v, us, rfl, g1, g2⟩ := h1.cons_inv
    obtain ⟨w, us', rfl, g3, g4⟩ := h2.cons_inv
    simp only [List.all_cons, Bool.and_eq_true] at h
    rw [det1_eq h.1 g1 g3, dets_eq h.2 g2 g4]
def natPl (args : List AV) (H : AH) (n : Nat) (κ : PK) : Prop := match args with
  | [q] => ∃ Q, QryAt H q Q ∧ κ q H n
  | _ => False
theorem singPl : SingG natPl := .pure fun args H n κ hs => by
  unfold natPl at *
  split at hs
  · obtain ⟨Q, h1, h2⟩ := hs
    exact ⟨_, h2, fun κ' h => ⟨Q, h1, h⟩⟩
  · exact hs.elim
set_option maxHeartbeats 4000000 in
set_option maxRecDepth 100000 in
theorem plain_run (Q : Qry) (a : Option Addr) (n c : Nat) : callT G11 3 30 [.agg (qCells Q (.any (.slice a n c)))] .nil 0 fun u _ _ => u = .agg (qCells Q (.any (.slice a n c))) := by
  conv => whnf
  exact rfl
theorem n_plain : NatP 30 natPl := fun args H n κ hs φ h0 hp vs K hr hargs hk => by
  unfold natPl at hs
  split at hs
  · rename_i q
    obtain ⟨x, rfl, e1⟩ := vs1 hargs
    obtain ⟨Q, hq, hs⟩ := hs
    obtain ⟨a8, v8, hI, h8, key⟩ := hq.core hr e1
    have hv8 : ∃ a m c, v8 = .slice a m c := by
      rcases hI with ⟨h1, _⟩ | ⟨b, o, y, l, r, ⟨rfl, _⟩, _⟩ | ⟨b, o, c, k, l, r, h1, _⟩
      · have := h8.hd; rw [h1] at this; exact ⟨_, _, _, this.nsl_inv⟩
      · rcases h8.rw_inv with ⟨_, he⟩ | ⟨p, y, C, _, rfl, _⟩
        · obtain ⟨a, rfl⟩ := he.is; exact ⟨_, _, _, rfl⟩
        · exact ⟨_, _, _, rfl⟩
      · have := h8.hd; rw [h1] at this
        obtain ⟨p, C, _, rfl, _⟩ := this.sl_inv
        exact ⟨_, _, _, rfl⟩
    obtain ⟨a, m, c, rfl⟩ := hv8
    have hv : ∀ χ, VR χ (.agg (qCells Q (.any (.slice a m c)))) x := fun χ => key χ _ (.any _)
    have key2 : Wf hp → CallF Try.prog 30 #[x] hp K := fun hw => callT_sound (by kernel_rfl) G11_ok 3 _ _ .nil 0 _ (plain_run Q a m c) (fun _ => none) hp hp #[x] K (start_none hw) (.cons (hv _) .nil) fun ψ u H' n' w g _ hg hu he => by
      have hg2 : HR φ H n h0 g := hr.grow (fun b o hb => (hg.base b o hb).2) hg.size
      subst he
      obtain ⟨cs, rfl, g1⟩ := hu.agg_inv
      obtain ⟨cs', rfl, g2⟩ := (hv φ).agg_inv
      have : cs = cs' := by
        have := dets_eq (by rfl) g1 g2
        cases cs; cases cs'; simp_all
      subst this
      exact hk φ _ H n _ g (PLe.refl _) hg2 e1 hs
    exact ⟨by kernel_rfl, fun w hi => (key2 hi.wf).2 w hi⟩
  · exact hs.elim
/-! ### the fixed calls -/
def kL : Smp := [(1, 5), (4, -2), (35, 7)]
def kQ1 : Qry := ⟨0, 100, false, 0, 1, 10, 0, true, [], false, 0, 0⟩
def kQ2 : Qry := ⟨0, 100, true, 2, 0, 0, 0, false, [], false, 0, 0⟩
def kQ3 : Qry := ⟨2, 100, false, 0, 0, 0, 0, false, [4, 35], true, 0, 9⟩
def kQ4 : Qry := ⟨0, 0, false, 0, 0, 0, 0, true, [], false, 0, 0⟩
def kQ5 : Qry := ⟨0, 5, false, 0, 0, 0, 0, false, [], false, 0, 0⟩
def kQ0 : Qry := ⟨0, 0, false, 0, 0, 0, 0, false, [], false, 0, 0⟩
theorem kT1 : tellF kL kQ1 = ([(0, 3), (10, 0), (20, 0), (30, 7)], 0) := by kernel_rfl
theorem kT2 : tellF kL kQ2 = ([(35, 7), (4, -2)], 0) := by kernel_rfl
theorem kT3 : tellF kL kQ3 = ([(35, 7)], 0) := by kernel_rfl
theorem kT4 : tellF kL kQ4 = ([], 1) := by kernel_rfl
theorem kF1 : fillF 1 1 0 [(0, 0), (20000, 0)] = ([], 13) := fill_big rfl rfl (by kernel_rfl) rfl (big_of (i := 1) (j := 10001) (by decide) (by decide) (by decide +kernel) (by rw [fillX_len]; omega))
theorem kF2 : fillF 6 10 3 [(0, 4), (23, 9)] = ([(0, 4), (3, 4), (13, 4), (23, 9)], 0) := by kernel_rfl
set_option maxHeartbeats 8000000 in
set_option maxRecDepth 100000 in
theorem known7_run : callT G11 5 27 [] .nil 0 fun u H' n' => u = .sb true := by
  conv => whnf
  refine ⟨kL, kQ1, .inr (.inr ⟨0, 0, 3, 0, _, _, rfl, .inr ⟨_, rfl⟩, rfl, rfl, by decide⟩), ⟨_, _, _, _, _, _, _, _, _, _, _, _, rfl, .inl ⟨rfl, rfl⟩, rfl⟩, by decide, by decide, ⟨rfl, by decide⟩, ?_⟩
  conv => whnf
  refine ⟨kL, kQ2, .inr (.inr ⟨0, 0, 3, 0, _, _, rfl, .inr ⟨_, rfl⟩, rfl, rfl, by decide⟩), ⟨_, _, _, _, _, _, _, _, _, _, _, _, rfl, .inl ⟨rfl, rfl⟩, rfl⟩, by decide, by decide, ⟨rfl, by decide⟩, ?_⟩
  conv => whnf
  refine ⟨kL, kQ3, .inr (.inr ⟨0, 0, 3, 0, _, _, rfl, .inr ⟨_, rfl⟩, rfl, rfl, by decide⟩), ⟨_, _, _, _, _, _, _, _, _, _, _, _, rfl, .inr (.inr ⟨3, 0, 2, 0, _, _, rfl, .inr ⟨_, rfl⟩, rfl, rfl, by decide⟩), rfl⟩, by decide, by decide, ⟨rfl, by decide⟩, ?_⟩
  conv => whnf
  refine ⟨kL, kQ4, .inr (.inr ⟨0, 0, 3, 0, _, _, rfl, .inr ⟨_, rfl⟩, rfl, rfl, by decide⟩), ⟨_, _, _, _, _, _, _, _, _, _, _, _, rfl, .inl ⟨rfl, rfl⟩, rfl⟩, by decide, by decide, ⟨rfl, by decide⟩, ?_⟩
  conv => whnf
  refine ⟨[(0, 0), (20000, 0)], .inr (.inr ⟨6, 0, 2, 0, _, _, rfl, .inr ⟨_, rfl⟩, rfl, rfl, by decide⟩), by decide, ⟨rfl, by decide⟩, ?_⟩
  conv => whnf
  refine ⟨[(0, 4), (23, 9)], .inr (.inr ⟨8, 0, 2, 0, _, _, rfl, .inr ⟨_, rfl⟩, rfl, rfl, by decide⟩), by decide, ⟨rfl, by decide⟩, ?_⟩
  conv => whnf
  refine ⟨(tellF kL kQ1).1, [(0, 3), (10, 0), (20, 0), (30, 7)], SmpAt.row (b := 1) rfl rfl (smp_map _), .inr (.inr ⟨10, 0, 4, 0, _, _, rfl, .inr ⟨_, rfl⟩, rfl, rfl, by decide⟩), by rw [kT1]; decide, by decide, ?_⟩
  conv => whnf
  refine Fork.sb (fun _ => ?_) (fun h => absurd h (by rw [kT1]; decide))
  conv => whnf
  refine Fork.dec (fun _ => ?_) (fun h => absurd (congrArg Prod.snd kT1) h)
  conv => whnf
  refine ⟨(tellF kL kQ2).1, [(35, 7), (4, -2)], SmpAt.row (b := 2) rfl rfl (smp_map _), .inr (.inr ⟨11, 0, 2, 0, _, _, rfl, .inr ⟨_, rfl⟩, rfl, rfl, by decide⟩), by rw [kT2]; decide, by decide, ?_⟩
  conv => whnf
  refine Fork.sb (fun _ => ?_) (fun h => absurd h (by rw [kT2]; decide))
  conv => whnf
  refine Fork.dec (fun _ => ?_) (fun h => absurd (congrArg Prod.snd kT2) h)
  conv => whnf
  refine ⟨(tellF kL kQ3).1, [(35, 7)], SmpAt.row (b := 4) rfl rfl (smp_map _), .inr (.inr ⟨0, 4, 1, 0, _, _, rfl, .inr ⟨_, rfl⟩, rfl, rfl, by decide⟩), by rw [kT3]; decide, by decide, ?_⟩
  conv => whnf
  refine Fork.sb (fun _ => ?_) (fun h => absurd h (by rw [kT3]; decide))
  conv => whnf
  refine Fork.dec (fun _ => ?_) (fun h => absurd (congrArg Prod.snd kT3) h)
  conv => whnf
  refine Fork.dec (fun _ => ?_) (fun h => absurd (congrArg Prod.snd kT4) h)
  conv => whnf
  refine Fork.dec (fun _ => ?_) (fun h => absurd (congrArg Prod.snd kF1) h)
  conv => whnf
  refine ⟨(fillF 6 10 3 [(0, 4), (23, 9)]).1, [(0, 4), (3, 4), (13, 4), (23, 9)], SmpAt.row (b := 9) rfl rfl (smp_map _), .inr (.inr ⟨12, 0, 4, 0, _, _, rfl, .inr ⟨_, rfl⟩, rfl, rfl, by decide⟩), by rw [kF2]; decide, by decide, ?_⟩
  conv => whnf
  refine Fork.sb (fun _ => ?_) (fun h => absurd h (by rw [kF2]; decide))
  conv => whnf
  refine Fork.dec (fun _ => ?_) (fun h => absurd (congrArg Prod.snd kF2) h)
  conv => whnf
  refine ⟨kQ0, ⟨_, _, _, _, _, _, _, _, _, _, _, _, rfl, .inl ⟨rfl, rfl⟩, rfl⟩, ?_⟩
  conv => whnf
  refine Fork.dec (fun _ => ?_) (fun h => absurd (show qRight kQ0 = 0 by decide) h)
  conv => whnf
  refine ⟨kQ5, 1, 5, ⟨_, _, _, _, _, _, _, _, _, _, _, _, rfl, .inl ⟨rfl, rfl⟩, rfl⟩, ⟨_, _, rfl, rfl, rfl⟩, by decide, ?_⟩
  conv => whnf
  refine Fork.sb (fun _ => ?_) (fun h => absurd h (by decide))
  conv => whnf
  refine ⟨kQ5, 35, 7, ⟨_, _, _, _, _, _, _, _, _, _, _, _, rfl, .inl ⟨rfl, rfl⟩, rfl⟩, ⟨_, _, rfl, rfl, rfl⟩, by decide, ?_⟩
  conv => whnf
  exact rfl
theorem n_known7 : NatP 27 (natQ trueN) := fun args H n κ hs φ h0 hp vs K hr hargs hk => by
  cases args with
  | cons _ _ => exact hs.elim
  | nil =>
    have hv : vs = #[] := by
      have := hargs.nil_inv
      cases vs; simp_all
    subst hv
    have key2 : Wf hp → CallF Try.prog 27 #[] hp K := fun hw => callT_sound (by kernel_rfl) G11_ok 5 _ _ .nil 0 _ known7_run (fun _ => none) hp hp #[] K (start_none hw) .nil fun ψ u H' n' w g _ hg hu he => by
      have hg2 : HR φ H n h0 g := hr.grow (fun b o hb => (hg.base b o hb).2) hg.size
      subst he
      rw [hu.sb_inv]
      exact hk φ _ H n _ g (PLe.refl _) hg2 (.bool true) hs
    exact ⟨by kernel_rfl, fun w hi => (key2 hi.wf).2 w hi⟩
noncomputable def G12 : FuncId → EP := withS 27 (natQ trueN) (withS 30 natPl G11)
theorem G12_ok : TabP G12 := withS_ok (withS_ok G11_ok n_plain singPl) n_known7 singTrue
theorem tellG_len {bk : Int → Int → Int → Smp → Smp} (hb : ∀ k s a R, (bk k s a R).length ≤ R.length) {L : Smp} {Q : Qry} : (tellG bk L Q).1.length ≤ 10000 + L.length := by
  have h0 : (L.filter (qPass Q)).length ≤ L.length := List.length_filter_le _ _
  have h1 : (t1 bk Q (L.filter (qPass Q))).length ≤ L.length := by
    unfold t1; split
    · exact Nat.le_trans (hb _ _ _ _) h0
    · exact h0
  have h2 : (t2 Q (t1 bk Q (L.filter (qPass Q)))).1.length ≤ 10000 + L.length := by
    unfold t2; split
    · exact Nat.le_trans fill_len (by omega)
    · simp only; omega
  unfold tellG
  split
  · simp
  · split
    · simp
    · simp only [t5, t3]
      split <;> split <;> simp <;> omega
theorem tellF_len (L : Smp) (Q : Qry) : (tellF L Q).1.length ≤ 10000 + L.length := tellG_len fun k s a R => bkA_len R
theorem tellR_len (L : Smp) (Q : Qry) : (tellR L Q).1.length ≤ 10000 + L.length := tellG_len fun k s a R => rbA_len R
theorem tell_eq {L : Smp} {Q : Qry} (hL : ∀ y ∈ L, In64 y.2) (hl : L.length ≤ 1000000) : tellF L Q = tellR L Q := by
  have e : bkA Q.kind Q.size Q.align (L.filter (qPass Q)) = rbA Q.kind Q.size Q.align (L.filter (qPass Q)) :=
    buckets_eq (fun y hy => hL y ((List.mem_filter.1 hy).1)) (Nat.le_trans (List.length_filter_le _ _) hl)
  unfold tellF tellR tellG t1
  rw [e]
def d_tachographlaw07RowsTells : DT := [(5, [(some 0, [7]), (some 0, [9]), (none, [34, 35]), (some 0, [36]), (some 0, [8, 37]), (some 0, [10, 37]), (some 0, [38, 39, 37]), (some 0, [37, 40]), (some 0, [41]), (some 0, [4, 42]), (none, [43, 42]), (some 1, [4, 42]), (none, [45, 42]), (none, [46, 42]), (some 0, [44, 47, 42]), (some 0, [42, 48]), (some 0, [49]), (some 0, [4, 50]), (some 0, [5, 50]), (none, [51, 52, 50]), (some 1, [4, 50]), (none, [54, 50]), (some 3, [5, 50]), (none, [55, 56, 50]), (some 0, [53, 57, 50]), (some 0, [50, 58]), (some 0, [59]), (none, [60]), (some 0, [60, 61]), (some 0, [62])])]
noncomputable def G13 : FuncId → EP := withD 8 d_tachographlaw07RowsTells G12
theorem G13_ok : TabP G13 := withD_ok G12_ok (by kernel_rfl) (by kernel_rfl)
theorem sameS_refl (L : Smp) : sameS L L = true := by simp [sameS]
set_option maxHeartbeats 8000000 in
set_option maxRecDepth 100000 in
theorem w_rowsTells (L : Smp) (Q : Qry) (x v : Int) (hin : ∀ x ∈ L, In64 x.1 ∧ In64 x.2) (_ : L.length ≤ maxLen) (_ : Q.In64) (_ : Q.times.length ≤ maxLen) (_ : In64 x) (_ : In64 v) : callT G13 5 8 [.rw 0 0 L.length 2 2, qRw 1 Q, .agg [.si .i64 x, .si .i64 v]] (mkH [(0, .ro (smp L)), (1, .ro (ints Q.times))]) 2 fun v _ _ => v = .bool true ∨ v = .sb true := by
  conv => whnf
  refine Fork.dec (fun h1 => ?_) (fun h1 => ?_)
  · conv => whnf
    exact .inl rfl
  have hl : L.length ≤ 60 := by have : ¬ (60 : Int) < (L.length : Int) := h1; omega
  conv => whnf
  refine Fork.dec (fun h2 => ?_) (fun h2 => ?_)
  · conv => whnf
    exact .inl rfl
  have ht : Q.times.length ≤ 60 := by have : ¬ (60 : Int) < (Q.times.length : Int) := h2; omega
  have hE := tell_eq (Q := Q) (fun y hy => (hin y hy).2) (show L.length ≤ 1000000 by omega)
  have hF := tellF_len L Q
  have hR := tellR_len L Q
  conv => whnf
  refine ⟨L, Q, SmpAt.rowO rfl rfl (smp_map _), qatR rfl, by omega, by omega, ⟨rfl, by decide⟩, ?_⟩
  conv => whnf
  refine ⟨Q, qatR rfl, ?_⟩
  conv => whnf
  refine ⟨L, Q, SmpAt.rowO rfl rfl (smp_map _), qatR rfl, by omega, by omega, ⟨rfl, by decide⟩, ?_⟩
  conv => whnf
  refine ⟨(tellF L Q).1, (tellR L Q).1, SmpAt.row rfl rfl (smp_map _), SmpAt.row rfl rfl (smp_map _), by omega, by omega, ?_⟩
  conv => whnf
  refine Fork.sb (fun _ => ?_) (fun h => absurd h (by rw [hE, sameS_refl]; decide))
  conv => whnf
  refine Fork.dec (fun _ => ?_) (fun h => absurd (congrArg Prod.snd hE) h)
  conv => whnf
  refine ⟨Q, qatR rfl, ?_⟩
  conv => whnf
  refine ⟨Q, qatR rfl, ?_⟩
  conv => whnf
  refine ⟨Q, qatR rfl, ?_⟩
  conv => whnf
  refine Fork.dec (fun _ => ?_) (fun h => absurd rfl h)
  conv => whnf
  refine ⟨Q, x, v, qatR rfl, ⟨_, _, rfl, rfl, rfl⟩, by omega, ?_⟩
  conv => whnf
  refine ⟨Q, qatR rfl, ?_⟩
  conv => whnf
  refine ⟨Q, x, v, qatR rfl, ⟨_, _, rfl, rfl, rfl⟩, by omega, ?_⟩
  conv => whnf
  refine Fork.sb (fun _ => ?_) (fun h => ?_)
  · conv => whnf
    exact .inl rfl
  · exfalso
    simp at h
end Go.Proofs.Ytkhfdjhohfebgaa
namespace Go.Proofs.Ytkhfdjhohfebgaa
open Go Go.RowKit
set_option maxHeartbeats 8000000 in
set_option maxRecDepth 100000 in
theorem w_rowsFills (k x y : Int) (L : Smp) (_ : In64 k) (_ : In64 x) (_ : In64 y) (_ : ∀ x ∈ L, In64 x.1 ∧ In64 x.2) (_ : L.length ≤ maxLen) : callT G12 5 9 [.si .i64 k, .agg [.si .i64 x, .si .i64 y], .rw 0 0 L.length 2 2] (mkH [(0, .ro (smp L))]) 1 fun v _ _ => v = .bool true ∨ v = .sb true := by
  conv => whnf
  refine Fork.dec (fun h1 => ?_) (fun h1 => ?_)
  · conv => whnf
    exact .inl rfl
  have hl : L.length ≤ 60 := by have : ¬ (60 : Int) < (L.length : Int) := h1; omega
  have hF := fill_len (k := k) (s := x) (a := y) (L := L)
  conv => whnf
  refine ⟨L, SmpAt.rowO rfl rfl (smp_map _), by omega, ⟨rfl, by decide⟩, ?_⟩
  conv => whnf
  refine ⟨L, SmpAt.rowO rfl rfl (smp_map _), by omega, fun ha => ?_, fun ha => ⟨⟨rfl, by decide⟩, ?_⟩⟩
  · have hE := alias_is ha
    conv => whnf
    refine ⟨(fillF k x y L).1, L, SmpAt.row rfl rfl (smp_map _), SmpAt.rowO rfl rfl (smp_map _), by omega, by omega, ?_⟩
    conv => whnf
    refine Fork.sb (fun _ => ?_) (fun h => absurd h (by rw [hE, sameS_refl]; decide))
    conv => whnf
    refine Fork.dec (fun _ => ?_) (fun h => absurd (congrArg Prod.snd hE) h)
    conv => whnf
    exact .inl rfl
  · conv => whnf
    refine ⟨(fillF k x y L).1, (fillF k x y L).1, SmpAt.row rfl rfl (smp_map _), SmpAt.row rfl rfl (smp_map _), by omega, by omega, ?_⟩
    conv => whnf
    refine Fork.sb (fun _ => ?_) (fun h => absurd h (by rw [sameS_refl]; decide))
    conv => whnf
    refine Fork.dec (fun _ => ?_) (fun h => absurd rfl h)
    conv => whnf
    exact .inl rfl
/-! ### cuts -/
def qAll (Q : Qry) : Qry := { Q with count := 0 }
def qTurn (Q : Qry) : Qry := { Q with count := 0, back := !Q.back }
section
variable {bk : Int → Int → Int → Smp → Smp} {L : Smp} {Q : Qry}
def tX (bk : Int → Int → Int → Smp → Smp) (L : Smp) (Q : Qry) : Smp × Int := t2 Q (t1 bk Q (L.filter (qPass Q)))
theorem tell_is : tellG bk L Q = if qRight Q ≠ 0 then ([], qRight Q) else if (tX bk L Q).2 ≠ 0 then ([], (tX bk L Q).2) else (t5 Q (t3 Q (tX bk L Q).1), 0) := rfl
theorem right_all (h : qRight (qAll Q) ≠ 0) : qRight Q ≠ 0 := by
  unfold qRight at h ⊢
  have hb : qBad (qAll Q) := by
    by_cases q : qBad (qAll Q)
    · exact q
    · rw [if_neg q] at h; exact absurd rfl h
  rw [if_pos]
  · decide
  · rcases hb with h | h | h | h
    · exact absurd h (by show ¬ (0 : Int) < 0; decide)
    · exact .inr (.inl h)
    · exact .inr (.inr (.inl h))
    · exact .inr (.inr (.inr h))
theorem right_turn : qRight (qTurn Q) = qRight (qAll Q) := rfl
theorem x_all : tX bk L (qAll Q) = tX bk L Q := rfl
theorem x_turn : tX bk L (qTurn Q) = tX bk L Q := rfl
theorem t5_all {X : Smp} : t5 (qAll Q) X = X := if_neg (fun q => absurd q.1 (by show ¬ (0 : Int) < 0; decide))
theorem t5_turn {X : Smp} : t5 (qTurn Q) X = X := if_neg (fun q => absurd q.1 (by show ¬ (0 : Int) < 0; decide))
theorem tell_none (h : (tellG bk L Q).2 ≠ 0) : (tellG bk L Q).1 = [] := by
  rw [tell_is] at h ⊢
  split
  · rfl
  · rename_i h1
    rw [if_neg h1] at h
    split
    · rfl
    · rename_i h2
      rw [if_neg h2] at h
      exact absurd rfl h
theorem cut_err (h : (tellG bk L (qAll Q)).2 ≠ 0) : (tellG bk L Q).2 ≠ 0 ∧ (tellG bk L (qTurn Q)).2 ≠ 0 := by
  by_cases h1 : qRight (qAll Q) ≠ 0
  · have e1 : (tellG bk L Q).2 = qRight Q := by rw [tell_is, if_pos (right_all h1)]
    have e2 : (tellG bk L (qTurn Q)).2 = qRight (qAll Q) := by rw [tell_is, right_turn, if_pos h1]
    rw [e1, e2]
    exact ⟨right_all h1, h1⟩
  · have e0 : tellG bk L (qAll Q) = if (tX bk L Q).2 ≠ 0 then ([], (tX bk L Q).2) else (t5 (qAll Q) (t3 (qAll Q) (tX bk L Q).1), 0) := by rw [tell_is, if_neg h1, x_all]
    rw [e0] at h
    by_cases h2 : (tX bk L Q).2 ≠ 0
    · have e2 : (tellG bk L (qTurn Q)).2 = (tX bk L Q).2 := by rw [tell_is, right_turn, if_neg h1, x_turn, if_pos h2]
      refine ⟨?_, by rw [e2]; exact h2⟩
      rw [tell_is]
      split
      · assumption
      · exact h2
    · rw [if_neg h2] at h
      exact absurd rfl h
theorem cut_ok (h0 : (tellG bk L (qAll Q)).2 = 0) (h1 : (tellG bk L Q).2 = 0) : (tellG bk L Q).1 = t5 Q (tellG bk L (qAll Q)).1 ∧ tellG bk L (qTurn Q) = ((tellG bk L (qAll Q)).1.reverse, 0) := by
  rw [tell_is] at h1 ⊢
  split at h1
  · rename_i h; exact absurd h1 h
  · rename_i hr
    split at h1
    · rename_i h; exact absurd h1 h
    · rename_i he
      have hr0 : ¬ qRight (qAll Q) ≠ 0 := fun q => right_all q (by simpa using hr)
      have e0 : tellG bk L (qAll Q) = (t3 Q (tX bk L Q).1, 0) := by
        rw [tell_is, if_neg hr0, x_all, if_neg he, t5_all]; rfl
      have e1 : tellG bk L (qTurn Q) = (t3 (qTurn Q) (tX bk L Q).1, 0) := by
        rw [tell_is, right_turn, if_neg hr0, x_turn, if_neg he, t5_turn]
      rw [e0, e1, if_neg hr, if_neg he]
      refine ⟨rfl, ?_⟩
      have : t3 (qTurn Q) (tX bk L Q).1 = (t3 Q (tX bk L Q).1).reverse := by
        unfold t3 qTurn
        cases hb : Q.back <;> simp
      rw [this]
end
theorem tell_noneF {L : Smp} {Q : Qry} (h : (tellF L Q).2 ≠ 0) : (tellF L Q).1 = [] := by unfold tellF at *; exact tell_none h
theorem cut_errF {L : Smp} {Q : Qry} (h : (tellF L (qAll Q)).2 ≠ 0) : (tellF L Q).2 ≠ 0 ∧ (tellF L (qTurn Q)).2 ≠ 0 := by unfold tellF at *; exact cut_err h
theorem cut_okF {L : Smp} {Q : Qry} (h0 : (tellF L (qAll Q)).2 = 0) (h1 : (tellF L Q).2 = 0) : (tellF L Q).1 = t5 Q (tellF L (qAll Q)).1 ∧ tellF L (qTurn Q) = ((tellF L (qAll Q)).1.reverse, 0) := by unfold tellF at *; exact cut_ok h0 h1
theorem t5_min {Q : Qry} {X : Smp} {j : Nat} (h : 0 < Q.count) (hj : (j : Int) = min (X.length : Int) Q.count) : t5 Q X = X.take j := by
  unfold t5
  split
  · rename_i h2
    congr 1
    omega
  · rename_i h2
    rw [List.take_of_length_le]
    omega
theorem SmpAt.cut {H : AH} {a : AV} {b x j : Nat} {X : Smp} {l : List AV} {z : Bool} (h1 : a = .rw b 0 j 2 x) (hj : j ≤ X.length) (h2 : H.get b = some (.cells l z)) (h3 : l.map mk = smp X) (hx : x ≠ 4 := by decide) : SmpAt H a (X.take j) := by
  have hlen : (X.take j).length = j := by rw [List.length_take]; omega
  have hll : l.length = X.length * 2 := by have := congrArg List.length h3; rw [List.length_map, smp_length] at this; exact this
  refine .inr (.inl ⟨b, 0, x, l, l.take (j * 2), ⟨by rw [hlen]; exact h1, hx⟩, .inr ⟨z, h2⟩, ?_, by rw [List.map_take, h3, smp_take]⟩)
  rw [hlen]
  unfold subL
  rw [Nat.zero_add, Nat.ble_eq_true_of_le (by omega)]
  simp
end Go.Proofs.Ytkhfdjhohfebgaa
