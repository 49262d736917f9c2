/- Texts of our own, joined: the engine, the machine that runs code, and what is known of the functions. -/
import Derived.Test.YtkhfdjhohfebgaaJh
import Derived.Test.YtkhfdjhohfebgaaJg
namespace Go.Proofs.Ytkhfdjhohfebgaa
open Go Go.RowKit
def cutN (X : Smp) (Q : Qry) : Nat := (min (X.length : Int) Q.count).toNat
theorem cutN_le {X : Smp} {Q : Qry} (h : 0 < Q.count) : cutN X Q ≤ X.length := by unfold cutN; omega
theorem take_le {X : Smp} {j B : Nat} (h : X.length ≤ B) : (X.take j).length ≤ B := by rw [List.length_take]; omega
theorem rev_le {X : Smp} {B : Nat} (h : X.length ≤ B) : X.reverse.length ≤ B := by rw [List.length_reverse]; exact h
theorem cutN_is {X : Smp} {Q : Qry} (h : 0 < Q.count) : (cutN X Q : Int) = min (X.length : Int) Q.count := by unfold cutN; omega
set_option maxHeartbeats 1000000 in
set_option maxRecDepth 100000 in
theorem w_rowsCuts (L : Smp) (Q : Qry) (_ : ∀ x ∈ L, In64 x.1 ∧ In64 x.2) (_ : L.length ≤ maxLen) (_ : Q.In64) (_ : Q.times.length ≤ maxLen) : callT G12 5 10 [.rw 0 0 L.length 2 2, qRw 1 Q] (mkH [(0, .ro (smp L)), (1, .ro (ints Q.times))]) 2 fun v _ _ => v = .bool true ∨ v = .sb true := by
  conv => whnf
  refine Fork.dec (fun h1 => ?_) (fun h1 => ?_)
  · conv => whnf
    exact .inl rfl
  have hl : L.length ≤ 60 := by have : ¬ (60 : Int) < (L.length : Int) := h1; omega
  conv => whnf
  refine Fork.dec (fun h2 => ?_) (fun h2 => ?_)
  · conv => whnf
    exact .inl rfl
  have ht : Q.times.length ≤ 60 := by have : ¬ (60 : Int) < (Q.times.length : Int) := h2; omega
  have hA := tellF_len L Q
  have hB := tellF_len L (qAll Q)
  have hC := tellF_len L (qTurn Q)
  have mA : (tellF L Q).1.length ≤ 1000000 := by omega
  have mB : (tellF L (qAll Q)).1.length ≤ 1000000 := by omega
  have mC : (tellF L (qTurn Q)).1.length ≤ 1000000 := by omega
  conv => whnf
  refine ⟨L, Q, SmpAt.rowO rfl rfl (smp_map _), qatR rfl, by omega, by omega, ⟨rfl, by decide⟩, ?_⟩
  conv => whnf
  refine ⟨L, qAll Q, SmpAt.rowO rfl rfl (smp_map _), ⟨_, _, _, _, _, _, _, _, _, _, _, _, rfl, IntAt.rowO rfl rfl (ints_map _), rfl⟩, by omega, Nat.le_trans ht (by decide), ⟨rfl, by decide⟩, ?_⟩
  conv => whnf
  refine ⟨L, qTurn Q, SmpAt.rowO rfl rfl (smp_map _), ⟨_, _, _, _, _, _, _, _, _, _, _, _, rfl, IntAt.rowO rfl rfl (ints_map _), rfl⟩, by omega, Nat.le_trans ht (by decide), ⟨rfl, by decide⟩, ?_⟩
  conv => whnf
  refine Fork.ndec (fun hB0 => ?_) (fun hB0 => ?_)
  · have hB0 : (tellF L (qAll Q)).2 ≠ 0 := hB0
    have hAC := cut_errF hB0
    have hA1 := hAC.1
    have hC1 := hAC.2
    have hAn : (tellF L Q).1 = [] := tell_noneF hA1
    conv => whnf
    refine Fork.dec (fun h => absurd h hB0) (fun _ => ?_)
    conv => whnf
    refine Fork.ndec (fun _ => ?_) (fun h => absurd h hA1)
    conv => whnf
    refine Fork.ndec (fun _ => ?_) (fun h => absurd h hC1)
    conv => whnf
    refine Fork.dec (fun _ => ?_) (fun h => absurd (show ((tellF L Q).1.length : Int) = 0 by rw [hAn]; rfl) h)
    conv => whnf
    exact .inl rfl
  have hB0 : (tellF L (qAll Q)).2 = 0 := hB0
  conv => whnf
  refine Fork.ndec (fun hA1 => ?_) (fun hA1 => ?_)
  · have hA1 : (tellF L Q).2 ≠ 0 := hA1
    have hAn : (tellF L Q).1 = [] := tell_noneF hA1
    conv => whnf
    refine Fork.dec (fun _ => ?_) (fun h => absurd hB0 h)
    conv => whnf
    refine Fork.dec (fun _ => ?_) (fun h => absurd (show ((tellF L Q).1.length : Int) = 0 by rw [hAn]; rfl) h)
    conv => whnf
    exact .inl rfl
  have hA1 : (tellF L Q).2 = 0 := hA1
  have hE12 := cut_okF hB0 hA1
  have e1 := hE12.1
  have e2 := hE12.2
  conv => whnf
  refine Fork.dec (fun hc => ?_) (fun hc => ?_)
  · have hc : 0 < Q.count := hc
    have hj := cutN_is (X := (tellF L (qAll Q)).1) hc
    have e3 := t5_min (X := (tellF L (qAll Q)).1) hc hj
    have hjl := cutN_le (X := (tellF L (qAll Q)).1) hc
    conv => whnf
    refine Fork.dec (fun _ => ?_) (fun h => absurd (congrArg Prod.snd e2) h)
    conv => whnf
    refine .mk 0 (cutN (tellF L (qAll Q)).1 Q) rfl (ebnd_i hj.symm) (.inl rfl) (Nat.zero_le _) hjl ?_
    conv => whnf
    refine ⟨(tellF L Q).1, (tellF L (qAll Q)).1.take (cutN (tellF L (qAll Q)).1 Q), SmpAt.row rfl rfl (smp_map _), SmpAt.cut (x := 0) rfl hjl rfl (smp_map _), mA, take_le mB, ?_⟩
    conv => whnf
    refine Fork.sb (fun _ => ?_) (fun h => absurd h (by rw [e1, e3, sameS_refl]; decide))
    conv => whnf
    refine ⟨(tellF L (qAll Q)).1, SmpAt.row rfl rfl (smp_map _), mB, ⟨rfl, by decide⟩, ?_⟩
    conv => whnf
    refine ⟨(tellF L (qTurn Q)).1, (tellF L (qAll Q)).1.reverse, SmpAt.row rfl rfl (smp_map _), SmpAt.row rfl rfl (smp_map _), mC, rev_le mB, ?_⟩
    conv => whnf
    refine Fork.sb (fun _ => ?_) (fun h => absurd h (by rw [e2, sameS_refl]; decide))
    conv => whnf
    exact .inl rfl
  · have hc : ¬ 0 < Q.count := hc
    have e3 : t5 Q (tellF L (qAll Q)).1 = (tellF L (qAll Q)).1.take (tellF L (qAll Q)).1.length := by rw [t5_no hc, List.take_length]
    have hj : (((tellF L (qAll Q)).1.length : Nat) : Int) = ((tellF L (qAll Q)).1.length : Int) := rfl
    have hjl := Nat.le_refl (tellF L (qAll Q)).1.length
    conv => whnf
    refine Fork.dec (fun _ => ?_) (fun h => absurd (congrArg Prod.snd e2) h)
    conv => whnf
    refine .mk 0 (tellF L (qAll Q)).1.length rfl (ebnd_i hj.symm) (.inl rfl) (Nat.zero_le _) hjl ?_
    conv => whnf
    refine ⟨(tellF L Q).1, (tellF L (qAll Q)).1.take (tellF L (qAll Q)).1.length, SmpAt.row rfl rfl (smp_map _), SmpAt.cut (x := 0) rfl hjl rfl (smp_map _), mA, take_le mB, ?_⟩
    conv => whnf
    refine Fork.sb (fun _ => ?_) (fun h => absurd h (by rw [e1, e3, sameS_refl]; decide))
    conv => whnf
    refine ⟨(tellF L (qAll Q)).1, SmpAt.row rfl rfl (smp_map _), mB, ⟨rfl, by decide⟩, ?_⟩
    conv => whnf
    refine ⟨(tellF L (qTurn Q)).1, (tellF L (qAll Q)).1.reverse, SmpAt.row rfl rfl (smp_map _), SmpAt.row rfl rfl (smp_map _), mC, rev_le mB, ?_⟩
    conv => whnf
    refine Fork.sb (fun _ => ?_) (fun h => absurd h (by rw [e2, sameS_refl]; decide))
    conv => whnf
    exact .inl rfl
end Go.Proofs.Ytkhfdjhohfebgaa
namespace Go.Proofs.Ytkhfdjhohfebgaa
open Go Go.RowKit
/-! ### rising samples -/
def lastT (R : Smp) : Int := (atS R (R.length - 1)).1
def riseStep (R : Smp) (x : Int × Int) : Smp := if R.length = 0 ∨ lastT R < x.1 then R ++ [x] else R
def riseF (L : Smp) : Smp := L.foldl riseStep []
theorem rise_take {L : Smp} {i : Nat} (h : i < L.length) : riseF (L.take (i + 1)) = riseStep (riseF (L.take i)) L[i] := foldl_take h
abbrev Rises (R : Smp) : Prop := R.Pairwise fun x y => x.1 < y.1
theorem rises_last {R : Smp} (h : Rises R) : ∀ a ∈ R, a.1 ≤ lastT R := by
  intro a ha
  obtain ⟨i, hi, rfl⟩ := List.mem_iff_getElem.1 ha
  have hl : R.length - 1 < R.length := by omega
  unfold lastT
  rw [← atS_eq hl]
  by_cases e : i = R.length - 1
  · subst e; exact Int.le_refl _
  · exact Int.le_of_lt (List.pairwise_iff_getElem.1 h i (R.length - 1) hi hl (by omega))
theorem rises_step {R : Smp} {x : Int × Int} (h : Rises R) : Rises (riseStep R x) := by
  unfold riseStep
  split
  · rename_i hc
    refine List.pairwise_append.2 ⟨h, by simp, fun a ha b hb => ?_⟩
    rw [List.mem_singleton.1 hb]
    rcases hc with hc | hc
    · rw [List.eq_nil_of_length_eq_zero hc] at ha; cases ha
    · have := rises_last h a ha; omega
  · exact h
theorem rise_rises (L : Smp) : Rises (riseF L) := by
  have : ∀ (L R : Smp), Rises R → Rises (L.foldl riseStep R) := fun L => by
    induction L with
    | nil => exact fun R h => h
    | cons x L ih => exact fun R h => ih _ (rises_step h)
  exact this L [] List.Pairwise.nil
theorem rise_len (L : Smp) : (riseF L).length ≤ L.length := by
  have : ∀ (L R : Smp), (L.foldl riseStep R).length ≤ R.length + L.length := fun L => by
    induction L with
    | nil => exact fun R => Nat.le_refl _
    | cons x L ih =>
      intro R
      refine Nat.le_trans (ih _) ?_
      have : (riseStep R x).length ≤ R.length + 1 := by unfold riseStep; split <;> simp
      simp only [List.length_cons]; omega
  exact Nat.le_trans (this L []) (by simp)
theorem riseStep_yes {R : Smp} {x : Int × Int} (h : R.length = 0 ∨ lastT R < x.1) : riseStep R x = R ++ [x] := if_pos h
theorem riseStep_no {R : Smp} {x : Int × Int} (h : ¬ R.length = 0) (h2 : ¬ lastT R < x.1) : riseStep R x = R := if_neg (fun q => q.elim h h2)
theorem split_rises {p : Int × Int → Bool} {c : Int} : ∀ {l : Smp}, Rises l → (l.filter fun x => p x && decide (x.1 ≤ c)) ++ (l.filter fun x => p x && decide (c < x.1)) = l.filter p
  | [], _ => rfl
  | x :: l, h => by
    obtain ⟨h1, h2⟩ := List.pairwise_cons.1 h
    have ih := split_rises (p := p) (c := c) h2
    by_cases hc : x.1 ≤ c
    · have hn : ¬ c < x.1 := by omega
      cases hp : p x
      · simp only [List.filter_cons, hp, Bool.false_and]; exact ih
      · simp only [List.filter_cons, hp, Bool.true_and, decide_eq_true hc, decide_eq_false hn, if_true, List.cons_append]; simp; exact ih
    · have hn : c < x.1 := by omega
      have e1 : (l.filter fun x => p x && decide (x.1 ≤ c)) = [] := by
        rw [List.filter_eq_nil_iff]
        intro y hy
        have := h1 y hy
        have : ¬ y.1 ≤ c := by omega
        simp [this]
      rw [e1, List.nil_append] at ih
      cases hp : p x
      · simp only [List.filter_cons, hp, Bool.false_and]; simpa [e1] using ih
      · simp only [List.filter_cons, hp, Bool.true_and, decide_eq_false hc, decide_eq_true hn, if_true, e1, ih]; simp
theorem filt_at {p : Int × Int → Bool} {l : Smp} {i : Nat} (h : i < l.length) (hp : p l[i] = true) : ∃ h2 : ((l.take i).filter p).length < (l.filter p).length, (l.filter p)[((l.take i).filter p).length] = l[i] := by
  have e : l.filter p = (l.take i).filter p ++ (l[i] :: (l.drop (i + 1)).filter p) := by
    have : l = l.take i ++ (l[i] :: l.drop (i + 1)) := by rw [← List.drop_eq_getElem_cons h, List.take_append_drop]
    rw [List.filter_congr (fun x _ => rfl), ← List.filter_cons_of_pos (p := p) hp, ← List.filter_append, ← this]
  have h2 : ((l.take i).filter p).length < (l.filter p).length := by rw [e]; simp
  refine ⟨h2, ?_⟩
  have : ∀ (Y : Smp) (hY : Y = (l.take i).filter p ++ (l[i] :: (l.drop (i + 1)).filter p)) (h : ((l.take i).filter p).length < Y.length), Y[((l.take i).filter p).length] = l[i] := fun Y hY h => by
    subst hY; simp
  exact this _ e h2
/-! ### bare queries -/
def qBare (Q : Qry) : Qry := { Q with kind := 0, empty := false, count := 0, back := false }
def qTo (Q : Qry) (c : Int) : Qry := { qBare Q with t := c }
def qFrom (Q : Qry) (c : Int) : Qry := { qBare Q with f := c }
theorem bare_right {Q : Qry} (hk : Q.kind = 0) (he : Q.empty = false) (hc : Q.count = 0) (ht : Q.times.length ≤ 32) : qRight Q = 0 := by
  unfold qRight
  rw [if_neg]
  rintro (h | h | ⟨_, h⟩ | ⟨h, _⟩)
  · omega
  · omega
  · rw [he] at h; cases h
  · exact h hk
theorem bare_tell {L : Smp} {Q : Qry} (hk : Q.kind = 0) (he : Q.empty = false) (hc : Q.count = 0) (hb : Q.back = false) (ht : Q.times.length ≤ 32) : tellF L Q = (L.filter (qPass Q), 0) := by
  unfold tellF
  exact tell_ok (bare_right hk he hc ht) rfl (t1_no hk) (t2_no he) (t3_no hb) (t5_no (by omega))
theorem pass_to {Q : Qry} {c : Int} (h : c < Q.t) (x : Int × Int) : qPass (qTo Q c) x = (qPass (qBare Q) x && decide (x.1 ≤ c)) := by
  show ((decide (Q.f ≤ x.1) && decide (x.1 ≤ c) && _) && _) = ((((decide (Q.f ≤ x.1) && decide (x.1 ≤ Q.t) && _) && _) && _))
  by_cases h1 : x.1 ≤ c
  · have : x.1 ≤ Q.t := by omega
    simp [h1, this, qTo, qBare]
    rfl
  · simp [h1]
theorem pass_from {Q : Qry} {c : Int} (h : ¬ c < Q.f) (x : Int × Int) : qPass (qFrom Q (c + 1)) x = (qPass (qBare Q) x && decide (c < x.1)) := by
  show ((decide (c + 1 ≤ x.1) && decide (x.1 ≤ Q.t) && _) && _) = ((((decide (Q.f ≤ x.1) && decide (x.1 ≤ Q.t) && _) && _) && _))
  by_cases h1 : c < x.1
  · have h2 : Q.f ≤ x.1 := by omega
    have h3 : c + 1 ≤ x.1 := by omega
    simp [h1, h2, h3, qFrom, qBare]
    rfl
  · have h3 : ¬ c + 1 ≤ x.1 := by omega
    simp [h1, h3]
theorem parts_eq {F : Smp} {Q : Qry} {c : Int} (h1 : ¬ c < Q.f) (h2 : c < Q.t) (hr : Rises F) : F.filter (qPass (qTo Q c)) ++ F.filter (qPass (qFrom Q (c + 1))) = F.filter (qPass (qBare Q)) := by
  rw [List.filter_congr (fun x _ => pass_to h2 x), List.filter_congr (fun x _ => pass_from h1 x)]
  exact split_rises hr
end Go.Proofs.Ytkhfdjhohfebgaa
namespace Go.Proofs.Ytkhfdjhohfebgaa
open Go Go.RowKit
def d_tachographlaw07RowsParts : DT := [(12, [(some 0, [8]), (some 0, [54]), (some 0, [55]), (some 0, [56]), (some 0, [8, 57]), (some 0, [8, 57]), (some 0, [59, 57]), (some 0, [60, 57]), (some 0, [58, 61, 57]), (some 0, [62, 57]), (some 0, [63, 57]), (some 0, [0, 57]), (some 0, [9, 57]), (some 0, [65, 66, 57]), (some 0, [67, 57]), (some 0, [68, 57]), (some 0, [64, 69, 57]), (some 0, [57, 70])]),
  (25, [(some 0, [7]), (some 0, [8]), (some 0, [19]), (some 0, [111, 112]), (some 0, [113]), (none, [110, 114])]),
  (26, [(some 0, [18]), (some 0, [16]), (some 0, [117]), (some 0, [116, 118]), (some 0, [119]), (some 0, [16, 120]), (some 0, [18, 120]), (some 0, [121, 122, 120]), (some 0, [123, 120]), (some 0, [8, 120]), (some 0, [19, 120]), (some 0, [125, 126, 120]), (some 0, [127, 120]), (some 0, [124, 128, 120]), (some 0, [120, 129])])]
noncomputable def G14 : FuncId → EP := withD 11 d_tachographlaw07RowsParts G12
theorem G14_ok : TabP G14 := withD_ok G12_ok (by kernel_rfl) (by kernel_rfl)
theorem ebin_ne2 {P : Program} {t : TypeId} {H : AH} {a b c d : Int} (hp : eqPlan P t = some [(0, 0), (0, 1)]) : ebin P .neq t (.agg [.int .i64 a, .int .i64 b]) (.agg [.int .i64 c, .int .i64 d]) H = some (.bool (!(decide (a = c) && (decide (b = d) && true)))) := ebin_agg2 hp
theorem pairs_eq {x y : Int × Int} (h : x = y) : (decide (x.1 = y.1) && (decide (x.2 = y.2) && true)) = true := by subst h; simp
noncomputable def paS (L : Smp) (Q : Qry) (cut : Int) (i : Nat) (R : Smp) : AE × AH := (mkE [(0, .rw 0 0 L.length 2 2), (2, .si .i64 (cut)), (7, .ptr 2 (0)), (8, .rw 3 0 R.length 2 0), (9, .si .i64 (i))], mkH [(0, .ro (smp (L))), (1, .ro (ints (Q.times))), (2, .cells (qCells (qBare Q) (.rw 1 0 (qBare Q).times.length 1 2)) true), (3, .cells (smp (R)) true)])
theorem paS_cov {L : Smp} {Q : Qry} {cut : Int} {i : Nat} {R : Smp} {p n : Nat} {σ : AE} {H : AH} {l2 : List AV} (j2 : Nat) (j3 : Nat) (hj : j2 ≠ 0 ∧ j2 ≠ 1 ∧ j2 ≠ j3 ∧ j3 ≠ 0 ∧ j3 ≠ 1) (hp : p ≤ 2) (e0 : SubV H 4 (fun b => if b = 2 then j2 else if b = 3 then j3 else b) (getq (pa 0) σ) (.rw 0 0 L.length 2 2)) (e2 : mk (getq (pa 2) σ) = .si .i64 (cut)) (e7 : getq (pa 7) σ = .ptr j2 (0)) (e8 : SubV H 4 (fun b => if b = 2 then j2 else if b = 3 then j3 else b) (getq (pa 8) σ) (.rw 3 0 R.length 2 0)) (e9 : mk (getq (pa 9) σ) = .si .i64 (i)) (h0 : H.get 0 = some (.ro (smp (L)))) (h1 : H.get 1 = some (.ro (ints (Q.times)))) (h2 : H.get j2 = some (.cells l2 true)) (g2 : l2.map mk = qCells (qBare Q) (.rw 1 0 (qBare Q).times.length 1 2)) (h3 : (∃ l, H.get j3 = some (.cells l true) ∧ l.map mk = smp (R)) ∨ ((R) = [] ∧ n ≤ j3)) : Cov p σ H n ((paS L Q cut i R).1, (paS L Q cut i R).2, 4) := by
  refine Cov.ofR (fun b => if b = 2 then j2 else if b = 3 then j3 else b) (by omega) (fun b hb => by repeat' rw [if_neg (by omega)]) ?_ ?_ ?_
  · intro x hx
    simp only [List.mem_cons, List.not_mem_nil, or_false] at hx
    rcases hx with rfl | rfl | rfl | rfl | rfl
    · exact e0
    · exact .int e2
    · exact .ptr (by decide) e7
    · exact e8
    · exact .int e9
  · intro x hx
    simp only [List.mem_cons, List.not_mem_nil, or_false] at hx
    rcases hx with rfl | rfl | rfl | rfl
    · exact ⟨by simp, .inl ⟨_, h0, SubO.ro_mk (smp_flat _) rfl⟩⟩
    · exact ⟨by simp, .inl ⟨_, h1, SubO.ro_mk (ints_flat _) rfl⟩⟩
    · exact ⟨by simp, .inl ⟨_, h2, SubO.qcellsM (by decide) rfl g2⟩⟩
    · exact ⟨by simp, h3.elim (fun ⟨l, h, g⟩ => .inl ⟨_, h, SubO.cells_mk (smp_flat _) (by rw [g, smp_map]) (fun q => q)⟩) (fun h => .inr ⟨by rw [h.1]; rfl, h.2⟩)⟩
  · intro x hx y hy
    simp only [List.mem_cons, List.not_mem_nil, or_false] at hx hy
    rcases hx with rfl | rfl | rfl | rfl <;> rcases hy with rfl | rfl | rfl | rfl <;> simp <;> omega
noncomputable def pbS (L : Smp) (Q : Qry) (F X Y Z : Smp) (e : Int) (m i : Nat) : AE × AH := (mkE [(7, .ptr 2 (0)), (8, .rw 3 0 F.length 2 0), (12, .rw 4 0 X.length 2 0), (14, .rw 5 0 Y.length 2 0), (16, .rw 6 0 Z.length 2 0), (17, .si .i64 (e)), (18, .si .i64 (m)), (19, .si .i64 (i))], mkH [(0, .ro (smp (L))), (1, .ro (ints (Q.times))), (2, .cells (qCells (qBare Q) (.rw 1 0 (qBare Q).times.length 1 2)) true), (3, .cells (smp (F)) true), (4, .cells (smp (X)) true), (5, .cells (smp (Y)) true), (6, .cells (smp (Z)) true)])
theorem pbS_cov {L : Smp} {Q : Qry} {F X Y Z : Smp} {e : Int} {m i : Nat} {p n : Nat} {σ : AE} {H : AH} {l2 : List AV} (j2 : Nat) (j3 : Nat) (j4 : Nat) (j5 : Nat) (j6 : Nat) (hj : j2 ≠ 0 ∧ j2 ≠ 1 ∧ j2 ≠ j3 ∧ j2 ≠ j4 ∧ j2 ≠ j5 ∧ j2 ≠ j6 ∧ j3 ≠ 0 ∧ j3 ≠ 1 ∧ j3 ≠ j4 ∧ j3 ≠ j5 ∧ j3 ≠ j6 ∧ j4 ≠ 0 ∧ j4 ≠ 1 ∧ j4 ≠ j5 ∧ j4 ≠ j6 ∧ j5 ≠ 0 ∧ j5 ≠ 1 ∧ j5 ≠ j6 ∧ j6 ≠ 0 ∧ j6 ≠ 1) (hp : p ≤ 2) (e7 : getq (pa 7) σ = .ptr j2 (0)) (e8 : SubV H 7 (fun b => if b = 2 then j2 else if b = 3 then j3 else if b = 4 then j4 else if b = 5 then j5 else if b = 6 then j6 else b) (getq (pa 8) σ) (.rw 3 0 F.length 2 0)) (e12 : SubV H 7 (fun b => if b = 2 then j2 else if b = 3 then j3 else if b = 4 then j4 else if b = 5 then j5 else if b = 6 then j6 else b) (getq (pa 12) σ) (.rw 4 0 X.length 2 0)) (e14 : SubV H 7 (fun b => if b = 2 then j2 else if b = 3 then j3 else if b = 4 then j4 else if b = 5 then j5 else if b = 6 then j6 else b) (getq (pa 14) σ) (.rw 5 0 Y.length 2 0)) (e16 : SubV H 7 (fun b => if b = 2 then j2 else if b = 3 then j3 else if b = 4 then j4 else if b = 5 then j5 else if b = 6 then j6 else b) (getq (pa 16) σ) (.rw 6 0 Z.length 2 0)) (e17 : mk (getq (pa 17) σ) = .si .i64 (e)) (e18 : mk (getq (pa 18) σ) = .si .i64 (m)) (e19 : mk (getq (pa 19) σ) = .si .i64 (i)) (h0 : H.get 0 = some (.ro (smp (L)))) (h1 : H.get 1 = some (.ro (ints (Q.times)))) (h2 : H.get j2 = some (.cells l2 true)) (g2 : l2.map mk = qCells (qBare Q) (.rw 1 0 (qBare Q).times.length 1 2)) (h3 : (∃ l, H.get j3 = some (.cells l true) ∧ l.map mk = smp (F)) ∨ ((F) = [] ∧ n ≤ j3)) (h4 : (∃ l, H.get j4 = some (.cells l true) ∧ l.map mk = smp (X)) ∨ ((X) = [] ∧ n ≤ j4)) (h5 : (∃ l, H.get j5 = some (.cells l true) ∧ l.map mk = smp (Y)) ∨ ((Y) = [] ∧ n ≤ j5)) (h6 : (∃ l, H.get j6 = some (.cells l true) ∧ l.map mk = smp (Z)) ∨ ((Z) = [] ∧ n ≤ j6)) : Cov p σ H n ((pbS L Q F X Y Z e m i).1, (pbS L Q F X Y Z e m i).2, 7) := by
  refine Cov.ofR (fun b => if b = 2 then j2 else if b = 3 then j3 else if b = 4 then j4 else if b = 5 then j5 else if b = 6 then j6 else b) (by omega) (fun b hb => by repeat' rw [if_neg (by omega)]) ?_ ?_ ?_
  · intro x hx
    simp only [List.mem_cons, List.not_mem_nil, or_false] at hx
    rcases hx with rfl | rfl | rfl | rfl | rfl | rfl | rfl | rfl
    · exact .ptr (by decide) e7
    · exact e8
    · exact e12
    · exact e14
    · exact e16
    · exact .int e17
    · exact .int e18
    · exact .int e19
  · intro x hx
    simp only [List.mem_cons, List.not_mem_nil, or_false] at hx
    rcases hx with rfl | rfl | rfl | rfl | rfl | rfl | rfl
    · exact ⟨by simp, .inl ⟨_, h0, SubO.ro_mk (smp_flat _) rfl⟩⟩
    · exact ⟨by simp, .inl ⟨_, h1, SubO.ro_mk (ints_flat _) rfl⟩⟩
    · exact ⟨by simp, .inl ⟨_, h2, SubO.qcellsM (by decide) rfl g2⟩⟩
    · exact ⟨by simp, h3.elim (fun ⟨l, h, g⟩ => .inl ⟨_, h, SubO.cells_mk (smp_flat _) (by rw [g, smp_map]) (fun q => q)⟩) (fun h => .inr ⟨by rw [h.1]; rfl, h.2⟩)⟩
    · exact ⟨by simp, h4.elim (fun ⟨l, h, g⟩ => .inl ⟨_, h, SubO.cells_mk (smp_flat _) (by rw [g, smp_map]) (fun q => q)⟩) (fun h => .inr ⟨by rw [h.1]; rfl, h.2⟩)⟩
    · exact ⟨by simp, h5.elim (fun ⟨l, h, g⟩ => .inl ⟨_, h, SubO.cells_mk (smp_flat _) (by rw [g, smp_map]) (fun q => q)⟩) (fun h => .inr ⟨by rw [h.1]; rfl, h.2⟩)⟩
    · exact ⟨by simp, h6.elim (fun ⟨l, h, g⟩ => .inl ⟨_, h, SubO.cells_mk (smp_flat _) (by rw [g, smp_map]) (fun q => q)⟩) (fun h => .inr ⟨by rw [h.1]; rfl, h.2⟩)⟩
  · intro x hx y hy
    simp only [List.mem_cons, List.not_mem_nil, or_false] at hx hy
    rcases hx with rfl | rfl | rfl | rfl | rfl | rfl | rfl <;> rcases hy with rfl | rfl | rfl | rfl | rfl | rfl | rfl <;> simp <;> omega
theorem nwrap {m : Nat} (hm : m ≤ 1000000) : IntKind.i64.wrap ((m : Int) + 1) = ((m + 1 : Nat) : Int) := by rw [wrap_i64_of (by omega) (by omega)]; omega
theorem subwrap {m : Nat} (h0 : m ≠ 0) (hm : m ≤ 1000000) : IntKind.i64.wrap ((m : Int) - 1) = ((m - 1 : Nat) : Int) := by rw [wrap_i64_of (by omega) (by omega)]; omega
theorem filt_lt {l : Smp} {q : Int × Int → Bool} {i : Nat} : ((l.take i).filter q).length ≤ i := Nat.le_trans (List.length_filter_le _ _) (by rw [List.length_take]; omega)
theorem filt_one {l : Smp} {q : Int × Int → Bool} {i : Nat} (h : i < l.length) (hq : q l[i] = true) : ((l.take (i + 1)).filter q).length = ((l.take i).filter q).length + 1 := by
  rw [List.take_succ_eq_append_getElem h, List.filter_append]; simp [hq]
theorem filt_same {l : Smp} {q : Int × Int → Bool} {i : Nat} (h : i < l.length) (hq : q l[i] = false) : ((l.take (i + 1)).filter q).length = ((l.take i).filter q).length := by
  rw [List.take_succ_eq_append_getElem h, List.filter_append]; simp [hq]
theorem zat {R Z : Smp} {q : Int × Int → Bool} {n k : Nat} (hZ : Z = R.filter q) (hn : n = ((R.take k).filter q).length) (hk : k < R.length) (hq : q R[k] = true) {h : n < Z.length} : Z[n] = R[k] := by
  subst hZ hn
  exact (filt_at hk hq).2
theorem smp_append (X Y : Smp) : smp X ++ smp Y = smp (X ++ Y) := by simp [smp]
set_option maxHeartbeats 2000000 in
set_option maxRecDepth 100000 in
theorem w_rowsParts (L : Smp) (Q : Qry) (cut : Int) (_ : ∀ x ∈ L, In64 x.1 ∧ In64 x.2) (_ : L.length ≤ maxLen) (hQ : Q.In64) (_ : Q.times.length ≤ maxLen) (hcut : In64 cut) : callT G14 5 11 [.rw 0 0 L.length 2 2, qRw 1 Q, .si .i64 cut] (mkH [(0, .ro (smp L)), (1, .ro (ints Q.times))]) 2 fun v _ _ => v = .bool true ∨ v = .sb true := by
  conv => whnf
  refine Fork.dec (fun h1 => ?_) (fun h1 => ?_)
  · conv => whnf
    exact .inl rfl
  have hl : L.length ≤ 60 := by have : ¬ (60 : Int) < (L.length : Int) := h1; omega
  conv => whnf
  refine Fork.dec (fun h2 => ?_) (fun h2 => ?_)
  · conv => whnf
    exact .inl rfl
  have ht : Q.times.length ≤ 32 := by have : ¬ (32 : Int) < (Q.times.length : Int) := h2; omega
  conv => whnf
  refine Fork.dec (fun h3 => ?_) (fun h3 => ?_)
  · conv => whnf
    exact .inl rfl
  have hc1 : ¬ cut < Q.f := h3
  conv => whnf
  refine Fork.dec (fun h4 => ?_) (fun h4 => ?_)
  · conv => whnf
    exact .inl rfl
  have hc2 : cut < Q.t := by have : ¬ Q.t ≤ cut := h4; omega
  conv => whnf
  refine LoopP.mk { q : Smp × Nat // q.1 = riseF (L.take q.2) ∧ q.2 ≤ L.length } 4 (fun a => paS L Q cut a.val.2 a.val.1) (fun a => L.length - a.val.2) ⟨([], 0), rfl, Nat.zero_le _⟩ ?_ ?_
  · exact paS_cov 3 4 (by decide) (Nat.le_refl 2) (.rw (by decide) rfl) rfl rfl (.nslRw rfl) rfl rfl rfl rfl rfl (.inr ⟨rfl, by decide⟩)
  intro ⟨⟨R, i⟩, hI⟩
  have ho : R = riseF (L.take i) := hI.1
  have hi : i ≤ L.length := hI.2
  have hol : R.length ≤ i := by rw [ho]; exact Nat.le_trans (rise_len _) (by rw [List.length_take]; omega)
  conv => whnf
  refine Fork.dec (fun h5 => ?_) (fun h5 => ?_)
  · have h6 : i < L.length := Int.ofNat_lt.1 h5
    have hlt : L.length - (i + 1) < L.length - i := by omega
    have hw := iwrap h6 (show L.length ≤ 1000000 by omega)
    have hbig : (R.length + 1) * 16 ≤ 140737488355328 := by omega
    conv => whnf
    refine Fork.dec (fun h7 => ?_) (fun h7 => ?_)
    · have h7 : R.length = 0 := Int.ofNat.inj h7
      conv => whnf
      refine Idx.mk i rfl h6 ?_
      conv => whnf
      refine optP_of (smp_sub h6 (by show 0 + i * 2 = i * 2; omega)) ?_
      conv => whnf
      refine RApp.one tyS rfl rfl (subL_all (smp_length R)) rfl rfl rfl hbig ?_
      conv => whnf
      refine ⟨⟨(R ++ [L[i]], i + 1), ?_, h6⟩, hlt, paS_cov 2 5 (by decide) (Nat.le_refl 2) (.rw (by decide) rfl) rfl rfl (.rw (by decide) rfl) (congrArg (AV.si .i64) hw) rfl rfl rfl rfl (.inl ⟨_, rfl, snoc_map R L[i].1 L[i].2 (smp_map _)⟩)⟩
      exact (riseStep_yes (.inl h7)).symm.trans ((congrArg (riseStep · L[i]) ho).trans (rise_take h6).symm)
    have h7 : ¬ R.length = 0 := fun q => h7 (congrArg Int.ofNat q)
    have hlr : R.length - 1 < R.length := by omega
    have hsw := subwrap h7 (show R.length ≤ 1000000 by omega)
    conv => whnf
    refine Idx.mk (R.length - 1) hsw hlr ?_
    conv => whnf
    refine optP_of (smp_nth0 hlr (by show 0 + (R.length - 1) * 2 + 0 = (R.length - 1) * 2; omega)) ?_
    conv => whnf
    refine Idx.mk i rfl h6 ?_
    conv => whnf
    refine optP_of (smp_nth0 h6 (by show 0 + i * 2 + 0 = i * 2; omega)) ?_
    conv => whnf
    refine Fork.dec (fun h8 => ?_) (fun h8 => ?_)
    · have h8 : R[R.length - 1].1 < L[i].1 := h8
      have h9 : lastT R < L[i].1 := by unfold lastT; rw [← atS_eq hlr]; exact h8
      conv => whnf
      refine Idx.mk i rfl h6 ?_
      conv => whnf
      refine optP_of (smp_sub h6 (by show 0 + i * 2 = i * 2; omega)) ?_
      conv => whnf
      refine RApp.one tyS rfl rfl (subL_all (smp_length R)) rfl rfl rfl hbig ?_
      conv => whnf
      refine ⟨⟨(R ++ [L[i]], i + 1), ?_, h6⟩, hlt, paS_cov 2 5 (by decide) (Nat.le_refl 2) (.rw (by decide) rfl) rfl rfl (.rw (by decide) rfl) (congrArg (AV.si .i64) hw) rfl rfl rfl rfl (.inl ⟨_, rfl, snoc_map R L[i].1 L[i].2 (smp_map _)⟩)⟩
      exact (riseStep_yes (.inr h9)).symm.trans ((congrArg (riseStep · L[i]) ho).trans (rise_take h6).symm)
    · have h8 : ¬ R[R.length - 1].1 < L[i].1 := h8
      have h9 : ¬ lastT R < L[i].1 := by unfold lastT; rw [← atS_eq hlr]; exact h8
      conv => whnf
      exact ⟨⟨(R, i + 1), (riseStep_no h7 h9).symm.trans ((congrArg (riseStep · L[i]) ho).trans (rise_take h6).symm), h6⟩, hlt, paS_cov 2 3 (by decide) (Nat.le_refl 2) (.rw (by decide) rfl) rfl rfl (.rw (by decide) rfl) (congrArg (AV.si .i64) hw) rfl rfl rfl rfl (.inl ⟨_, rfl, smp_map _⟩)⟩
  have hiL : i = L.length := by have : ¬ (i : Int) < (L.length : Int) := h5; omega
  have hRF : R = riseF L := by rw [ho, hiL, List.take_length]
  have hRr : Rises R := by rw [hRF]; exact rise_rises L
  have hRl : R.length ≤ 1000 := by omega
  have hcw : IntKind.i64.wrap (cut + 1) = cut + 1 := by have h := hQ.2.1; unfold In64 at h hcut; exact wrap_i64_of (by omega) (by omega)
  have eA := bare_tell (L := R) (Q := qTo Q cut) rfl rfl rfl rfl ht
  have eB := bare_tell (L := R) (Q := qFrom Q (cut + 1)) rfl rfl rfl rfl ht
  have eC := bare_tell (L := R) (Q := qBare Q) rfl rfl rfl rfl ht
  have eP := parts_eq hc1 hc2 hRr
  have lA := List.length_filter_le (qPass (qTo Q cut)) R
  have lB := List.length_filter_le (qPass (qFrom Q (cut + 1))) R
  have lC := List.length_filter_le (qPass (qBare Q)) R
  have tA : (tellF R (qTo Q cut)).1 = R.filter (qPass (qTo Q cut)) := congrArg Prod.fst eA
  have tB : (tellF R (qFrom Q (cut + 1))).1 = R.filter (qPass (qFrom Q (cut + 1))) := congrArg Prod.fst eB
  have tC : (tellF R (qBare Q)).1 = R.filter (qPass (qBare Q)) := congrArg Prod.fst eC
  have zC : (tellF R (qBare Q)).2 = 0 := congrArg Prod.snd eC
  conv => whnf
  refine ⟨R, qTo Q cut, SmpAt.row rfl rfl (smp_map _), ⟨_, _, _, _, _, _, _, _, _, _, _, _, rfl, IntAt.rowO rfl rfl (ints_map _), rfl⟩, hRl, Nat.le_trans ht (by decide), ⟨rfl, by decide⟩, ?_⟩
  conv => whnf
  refine ⟨R, qFrom Q (cut + 1), SmpAt.row rfl rfl (smp_map _), ⟨_, _, _, _, _, _, _, _, _, _, _, _, rfl, IntAt.rowO rfl rfl (ints_map _), (congrArg (fun z => [AV.si .i64 z, .si .i64 Q.t, .sb false, .si .i64 0, .si .i64 0, .si .i64 Q.size, .si .i64 Q.align, .sb false, .sb Q.vals, .si .i64 Q.low, .si .i64 Q.high]) hcw)⟩, hRl, Nat.le_trans ht (by decide), ⟨rfl, by decide⟩, ?_⟩
  conv => whnf
  refine ⟨R, qBare Q, SmpAt.row rfl rfl (smp_map _), ⟨_, _, _, _, _, _, _, _, _, _, _, _, rfl, IntAt.rowO rfl rfl (ints_map _), rfl⟩, hRl, Nat.le_trans ht (by decide), ⟨rfl, by decide⟩, ?_⟩
  conv => whnf
  refine LoopP.mk { q : Nat × Nat // q.1 = ((R.take q.2).filter (qPass (qBare Q))).length ∧ q.2 ≤ R.length } 7 (fun a => pbS L Q R (tellF R (qTo Q cut)).1 (tellF R (qFrom Q (cut + 1))).1 (tellF R (qBare Q)).1 (tellF R (qBare Q)).2 a.val.1 a.val.2) (fun a => R.length - a.val.2) ⟨(0, 0), rfl, Nat.zero_le _⟩ ?_ ?_
  · exact pbS_cov 2 3 6 7 8 (by decide) (Nat.le_refl 2) rfl (.rw (by decide) rfl) (.rw (by decide) rfl) (.rw (by decide) rfl) (.rw (by decide) rfl) rfl rfl rfl rfl rfl rfl rfl (.inl ⟨_, rfl, smp_map _⟩) (.inl ⟨_, rfl, smp_map _⟩) (.inl ⟨_, rfl, smp_map _⟩) (.inl ⟨_, rfl, smp_map _⟩)
  intro ⟨⟨n, k⟩, hJ⟩
  have hn : n = ((R.take k).filter (qPass (qBare Q))).length := hJ.1
  have hk : k ≤ R.length := hJ.2
  have hnk : n ≤ k := by rw [hn]; exact filt_lt
  conv => whnf
  refine Fork.dec (fun h7 => ?_) (fun h7 => ?_)
  · have h8 : k < R.length := Int.ofNat_lt.1 h7
    have hlt : R.length - (k + 1) < R.length - k := by omega
    have hw := iwrap h8 (show R.length ≤ 1000000 by omega)
    have hwn := nwrap (show n ≤ 1000000 by omega)
    conv => whnf
    refine Idx.mk k rfl h8 ?_
    conv => whnf
    refine optP_of (smp_sub h8 (by show 0 + k * 2 = k * 2; omega)) ?_
    conv => whnf
    refine ⟨qBare Q, R[k].1, R[k].2, qatR (b := 1) (Q := qBare Q) rfl, ⟨_, _, rfl, rfl, rfl⟩, Nat.le_trans ht (by decide), ?_⟩
    conv => whnf
    refine Fork.sb (fun h9 => ?_) (fun h9 => ?_)
    · have h9 : qPass (qBare Q) R[k] = true := h9
      have hz := filt_at h8 h9
      have hzl : n < ((tellF R (qBare Q)).1).length := by rw [tC, hn]; exact hz.1
      have hze : ((tellF R (qBare Q)).1)[n] = R[k] := zat tC hn h8 h9
      conv => whnf
      refine Fork.dec (fun h => absurd (Int.ofNat_le.1 (show ((tellF R (qBare Q)).1.length : Int) ≤ (n : Int) from h)) (Nat.not_le.2 hzl)) (fun _ => ?_)
      conv => whnf
      refine Idx.mk n rfl hzl ?_
      conv => whnf
      refine optP_of (smp_sub hzl (by show 0 + n * 2 = n * 2; omega)) ?_
      conv => whnf
      refine Idx.mk k rfl h8 ?_
      conv => whnf
      refine optP_of (smp_sub h8 (by show 0 + k * 2 = k * 2; omega)) ?_
      conv => whnf
      refine optP_of (ebin_ne2 plan39) ?_
      conv => whnf
      refine Fork.nsb (fun h => absurd ((pairs_eq hze).symm.trans h) (by decide)) (fun _ => ?_)
      conv => whnf
      exact ⟨⟨(n + 1, k + 1), (congrArg (· + 1) hn).trans (filt_one h8 h9).symm, h8⟩, hlt, pbS_cov 2 3 4 5 6 (by decide) (Nat.le_refl 2) rfl (.rw (by decide) rfl) (.rw (by decide) rfl) (.rw (by decide) rfl) (.rw (by decide) rfl) rfl (congrArg (AV.si .i64) hwn) (congrArg (AV.si .i64) hw) rfl rfl rfl rfl (.inl ⟨_, rfl, smp_map _⟩) (.inl ⟨_, rfl, smp_map _⟩) (.inl ⟨_, rfl, smp_map _⟩) (.inl ⟨_, rfl, smp_map _⟩)⟩
    · have h9 : qPass (qBare Q) R[k] = false := h9
      conv => whnf
      exact ⟨⟨(n, k + 1), hn.trans (filt_same h8 h9).symm, h8⟩, hlt, pbS_cov 2 3 4 5 6 (by decide) (Nat.le_refl 2) rfl (.rw (by decide) rfl) (.rw (by decide) rfl) (.rw (by decide) rfl) (.rw (by decide) rfl) rfl rfl (congrArg (AV.si .i64) hw) rfl rfl rfl rfl (.inl ⟨_, rfl, smp_map _⟩) (.inl ⟨_, rfl, smp_map _⟩) (.inl ⟨_, rfl, smp_map _⟩) (.inl ⟨_, rfl, smp_map _⟩)⟩
  have hkR : k = R.length := by have : ¬ (k : Int) < (R.length : Int) := h7; omega
  have hnC : n = ((tellF R (qBare Q)).1).length := by rw [tC, hn, hkR, List.take_length]
  have mA : ((tellF R (qTo Q cut)).1).length ≤ 1000 := by rw [tA]; omega
  have mB : ((tellF R (qFrom Q (cut + 1))).1).length ≤ 1000 := by rw [tB]; omega
  have mC : ((tellF R (qBare Q)).1).length ≤ 1000 := by rw [tC]; omega
  have hAB : (tellF R (qTo Q cut)).1 ++ (tellF R (qFrom Q (cut + 1))).1 = (tellF R (qBare Q)).1 := by rw [tA, tB, tC]; exact eP
  have hABl : 0 + ((tellF R (qTo Q cut)).1).length + ((tellF R (qFrom Q (cut + 1))).1).length = ((tellF R (qTo Q cut)).1 ++ (tellF R (qFrom Q (cut + 1))).1).length := by rw [List.length_append]; omega
  have hABm : ((tellF R (qTo Q cut)).1 ++ (tellF R (qFrom Q (cut + 1))).1).length ≤ 1000000 := by rw [List.length_append]; omega
  have bA : (0 + ((tellF R (qTo Q cut)).1).length) * 16 ≤ 140737488355328 := by omega
  have bB : (0 + ((tellF R (qTo Q cut)).1).length + ((tellF R (qFrom Q (cut + 1))).1).length) * 16 ≤ 140737488355328 := by omega
  conv => whnf
  refine .grow 2 16 _ 0 _ [] _ true tyS (.rw (.inr ⟨_, rfl⟩) (subL_all (smp_length _))) (smp_length _) (smp_one1 _) (.sl rfl rfl (Nat.le_refl _) (Nat.le_refl _)) bA ?_
  conv => whnf
  refine .grow 2 16 _ _ _ _ _ true tyS (.rw (.inr ⟨_, rfl⟩) (subL_all (smp_length _))) (smp_length _) (smp_one1 _) (.rw rfl (subL_all ((congrArg List.length (List.nil_append _)).trans ((smp_length _).trans (congrArg (· * 2) (Nat.zero_add _).symm))))) bB ?_
  conv => whnf
  refine Fork.dec (fun _ => ?_) (fun h => absurd zC h)
  conv => whnf
  refine Fork.dec (fun _ => ?_) (fun h => absurd (congrArg Int.ofNat hnC) h)
  conv => whnf
  refine ⟨(tellF R (qTo Q cut)).1 ++ (tellF R (qFrom Q (cut + 1))).1, (tellF R (qBare Q)).1, SmpAt.rowN rfl hABl rfl (by rw [List.nil_append, List.map_append, smp_map, smp_map, smp_append]), SmpAt.row rfl rfl (smp_map _), hABm, Nat.le_trans mC (by decide), ?_⟩
  conv => whnf
  refine Fork.sb (fun _ => ?_) (fun h => absurd h (by rw [hAB, sameS_refl]; decide))
  conv => whnf
  exact .inl rfl
end Go.Proofs.Ytkhfdjhohfebgaa
namespace Go.Proofs.Ytkhfdjhohfebgaa
open Go Go.RowKit
def segF (k sz al : Int) (h : Smp) : Int × Int := (sStart (h.headD (0, 0)).1 sz al, aV k (aAll h))
def SegOk (sz al : Int) (h : Smp) : Prop := h ≠ [] ∧ ∀ y ∈ h, sStart y.1 sz al = sStart (h.headD (0, 0)).1 sz al
structure SegI (k sz al : Int) (L : Smp) (c : BK) (gs : List Smp) (g : Smp) : Prop where
  flat : gs.flatten ++ g = L
  pre : c.pre = gs.map (segF k sz al)
  ok : ∀ h ∈ gs, SegOk sz al h
  last : SegOk sz al g
  s : c.s = aAll g
  v : c.v = aV k c.s
  b : c.b = sStart (g.headD (0, 0)).1 sz al
  chain : ∀ (i : Nat) (h h' : Smp), (gs ++ [g])[i]? = some h → (gs ++ [g])[i + 1]? = some h' → ¬ sStart (h.headD (0, 0)).1 sz al = sStart (h'.headD (0, 0)).1 sz al
theorem head_append {g : Smp} {x : Int × Int} (h : g ≠ []) : (g ++ [x]).headD (0, 0) = g.headD (0, 0) := by cases g with
  | nil => exact absurd rfl h
  | cons y g => rfl
theorem SegI.step {k sz al : Int} {L : Smp} {c : BK} {gs : List Smp} {g : Smp} (h : SegI k sz al L c gs g) (x : Int × Int) : ∃ gs' g', SegI k sz al (L ++ [x]) (bkStep k sz al c x) gs' g' := by
  by_cases hb : c.b = sStart x.1 sz al
  · rw [bkStep_same hb]
    refine ⟨gs, g ++ [x], ?_, h.pre, h.ok, ⟨by simp, fun y hy => ?_⟩, ?_, rfl, ?_, ?_⟩
    · rw [← List.append_assoc, h.flat]
    · rw [head_append h.last.1]
      rcases List.mem_append.1 hy with hy | hy
      · exact h.last.2 y hy
      · simp only [List.mem_singleton] at hy
        subst hy
        rw [← hb, h.b]
    · rw [aAll_snoc, ← h.s]; rfl
    · rw [head_append h.last.1]; exact h.b
    · intro i p q hp hq
      by_cases hi : i + 1 < gs.length
      · refine h.chain i p q ?_ ?_
        · rw [List.getElem?_append_left (by omega)] at hp ⊢; exact hp
        · rw [List.getElem?_append_left hi] at hq ⊢; exact hq
      · by_cases hi2 : i + 1 = gs.length
        · rw [List.getElem?_append_right (by omega), show i + 1 - gs.length = 0 from by omega] at hq
          simp only [List.getElem?_cons_zero, Option.some.injEq] at hq
          subst hq
          rw [head_append h.last.1]
          refine h.chain i p g ?_ ?_
          · rw [List.getElem?_append_left (by omega)] at hp ⊢; exact hp
          · rw [List.getElem?_append_right (by omega), show i + 1 - gs.length = 0 from by omega]; rfl
        · have := (List.getElem?_eq_some_iff.1 hq).1
          simp at this
          omega
  · rw [bkStep_new hb]
    refine ⟨gs ++ [g], [x], ?_, ?_, ?_, ⟨by simp, fun y hy => ?_⟩, aAll_one x, rfl, rfl, ?_⟩
    · rw [List.flatten_append, List.flatten_cons, List.flatten_nil, List.append_nil, h.flat]
    · show c.out = _
      rw [List.map_append, ← h.pre]
      simp only [BK.out, List.map_cons, List.map_nil, segF]
      rw [h.v, h.s, h.b]
    · intro p hp
      rcases List.mem_append.1 hp with hp | hp
      · exact h.ok p hp
      · simp only [List.mem_singleton] at hp
        subst hp
        exact h.last
    · simp only [List.mem_singleton] at hy
      subst hy; rfl
    · intro i p q hp hq
      by_cases hi : i + 1 < (gs ++ [g]).length
      · refine h.chain i p q ?_ ?_
        · rw [List.getElem?_append_left (by omega)] at hp; exact hp
        · rw [List.getElem?_append_left hi] at hq; exact hq
      · by_cases hi2 : i + 1 = (gs ++ [g]).length
        · rw [List.getElem?_append_right (by omega), show i + 1 - (gs ++ [g]).length = 0 from by omega] at hq
          simp only [List.getElem?_cons_zero, Option.some.injEq] at hq
          subst hq
          rw [List.getElem?_append_left (by omega)] at hp
          simp only [List.length_append, List.length_cons, List.length_nil] at hi2
          rw [List.getElem?_append_right (by omega), show i - gs.length = 0 from by omega] at hp
          simp only [List.getElem?_cons_zero, Option.some.injEq] at hp
          subst hp
          rw [← h.b]
          exact hb
        · have := (List.getElem?_eq_some_iff.1 hq).1
          simp only [List.length_append, List.length_cons, List.length_nil] at this hi hi2
          omega
theorem seg_fold {k sz al : Int} : ∀ (r : Smp) {L : Smp} {c : BK} {gs : List Smp} {g : Smp}, SegI k sz al L c gs g → ∃ gs' g', SegI k sz al (L ++ r) (r.foldl (bkStep k sz al) c) gs' g'
  | [], L, c, gs, g, h => ⟨gs, g, by rw [List.append_nil]; exact h⟩
  | x :: r, L, c, gs, g, h => by
    obtain ⟨gs1, g1, h1⟩ := h.step x
    obtain ⟨gs2, g2, h2⟩ := seg_fold r h1
    refine ⟨gs2, g2, ?_⟩
    rw [List.append_assoc] at h2
    exact h2
/-- Buckets' rows. -/
theorem segs {k sz al : Int} {L : Smp} (h1 : sRight k = true) (h2 : sCan sz al = true) (h3 : bkOk L = true) : ∃ gs : List Smp, gs.flatten = L ∧ bkA k sz al L = gs.map (segF k sz al) ∧ (∀ h ∈ gs, SegOk sz al h) ∧
    ∀ (i : Nat) (h h' : Smp), gs[i]? = some h → gs[i + 1]? = some h' → ¬ sStart (h.headD (0, 0)).1 sz al = sStart (h'.headD (0, 0)).1 sz al := by
  cases L with
  | nil => exact ⟨[], rfl, bkA_nil, (fun h q => by cases q), fun i h h' q => by simp at q⟩
  | cons x r =>
    have h0 : SegI k sz al [x] (bkNew k [] (sStart x.1 sz al) x.2) [] [x] := ⟨rfl, rfl, (fun h q => by cases q), ⟨by simp, fun y hy => by simp only [List.mem_singleton] at hy; subst hy; rfl⟩, rfl, rfl, rfl, fun i h h' q q' => by
      have := (List.getElem?_eq_some_iff.1 q').1
      simp at this⟩
    obtain ⟨gs, g, h4⟩ := seg_fold r h0
    refine ⟨gs ++ [g], ?_, ?_, ?_, h4.chain⟩
    · rw [List.flatten_append, List.flatten_cons, List.flatten_nil, List.append_nil, h4.flat]; rfl
    · rw [bkA_pos h1 h2 h3, List.map_append, ← h4.pre]
      show (r.foldl (bkStep k sz al) (bkNew k [] (sStart x.1 sz al) x.2)).out = _
      simp only [BK.out, List.map_cons, List.map_nil, segF]
      rw [h4.v, h4.s, h4.b]
    · intro p hp
      rcases List.mem_append.1 hp with hp | hp
      · exact h4.ok p hp
      · simp only [List.mem_singleton] at hp
        subst hp
        exact h4.last
/-! ### counts, least, greatest -/
def sumW (C : Smp) : Int := C.foldl (fun a x => IntKind.i64.wrap (a + x.2)) 0
theorem sumW_of : ∀ (ls : List Nat) (a : Int), 0 ≤ a → a + (ls.sum : Int) ≤ 4611686018427387904 → ∀ (C : Smp), C.map (·.2) = ls.map (fun n : Nat => (n : Int)) → C.foldl (fun a x => IntKind.i64.wrap (a + x.2)) a = a + (ls.sum : Int)
  | [], a, _, _, C, h => by
    have : C = [] := by simpa using h
    subst this
    simp
  | n :: ls, a, ha, hs, C, h => by
    cases C with
    | nil => simp at h
    | cons x C =>
      simp only [List.map_cons, List.cons.injEq] at h
      simp only [List.sum_cons] at hs ⊢
      simp only [List.foldl_cons, h.1]
      have hn : (0 : Int) ≤ (ls.sum : Int) := Int.natCast_nonneg _
      push_cast at hs ⊢
      rw [wrap_i64_of (by omega) (by omega), sumW_of ls (a + n) (by omega) (by omega) C h.2]
      omega
theorem count_v {h : Smp} (hne : h ≠ []) (hL : ∀ x ∈ h, In64 x.2) (hl : h.length < 4611686018427387904) : aV 4 (aAll h) = (h.length : Int) := by
  obtain ⟨_, _, h3⟩ := num_eq (k := 4) hL hl
  have : 0 < h.length := List.length_pos_iff.2 hne
  unfold aV
  rw [h3, if_neg (by omega)]
  show (aAll h).n = _
  exact h3
theorem mem_seg {gs : List Smp} {L : Smp} (hf : gs.flatten = L) {h : Smp} (hh : h ∈ gs) {x : Int × Int} (hx : x ∈ h) : x ∈ L := by
  rw [← hf]; exact List.mem_flatten.2 ⟨h, hh, hx⟩
theorem len_seg {gs : List Smp} {L : Smp} (hf : gs.flatten = L) {h : Smp} (hh : h ∈ gs) : h.length ≤ L.length := by
  rw [← hf]
  clear hf
  induction gs with
  | nil => cases hh
  | cons g gs ih =>
    simp only [List.flatten_cons, List.length_append]
    rcases List.mem_cons.1 hh with rfl | hh
    · omega
    · have := ih hh; omega
theorem counts_law {sz al : Int} {L : Smp} (h2 : sCan sz al = true) (h3 : bkOk L = true) (hL : ∀ x ∈ L, In64 x.2) (hl : L.length ≤ 1000000) : sumW (bkA 4 sz al L) = (L.length : Int) := by
  obtain ⟨gs, hf, he, hok, _⟩ := segs (k := 4) (by decide) h2 h3
  have hsum : (gs.map List.length).sum = L.length := by rw [← hf, List.length_flatten]
  unfold sumW
  rw [sumW_of (gs.map List.length) 0 (by omega) (by rw [hsum]; omega), hsum]
  · omega
  · rw [he]
    simp only [List.map_map]
    refine List.map_congr_left fun h hh => ?_
    exact count_v (hok h hh).1 (fun x hx => hL x (mem_seg hf hh hx)) (by have := len_seg hf hh; omega)
def leastOf : List Int → Int
  | [] => 0
  | x :: r => r.foldl min x
def greatOf : List Int → Int
  | [] => 0
  | x :: r => r.foldl max x
theorem fold_min : ∀ (r : List Int) (x : Int), r.foldl min x ∈ x :: r ∧ ∀ y ∈ x :: r, r.foldl min x ≤ y
  | [], x => ⟨by simp, by simp⟩
  | z :: r, x => by
    obtain ⟨h1, h2⟩ := fold_min r (min x z)
    simp only [List.foldl_cons]
    have h3 := h2 (min x z) List.mem_cons_self
    refine ⟨?_, fun y hy => ?_⟩
    · rcases List.mem_cons.1 h1 with h | h
      · rw [h]
        by_cases q : x ≤ z
        · rw [Int.min_eq_left q]; simp
        · rw [Int.min_eq_right (by omega)]; simp
      · simp [h]
    · rcases List.mem_cons.1 hy with rfl | hy
      · omega
      · rcases List.mem_cons.1 hy with rfl | hy
        · omega
        · exact h2 y (List.mem_cons_of_mem _ hy)
theorem fold_max : ∀ (r : List Int) (x : Int), r.foldl max x ∈ x :: r ∧ ∀ y ∈ x :: r, y ≤ r.foldl max x
  | [], x => ⟨by simp, by simp⟩
  | z :: r, x => by
    obtain ⟨h1, h2⟩ := fold_max r (max x z)
    simp only [List.foldl_cons]
    have h3 := h2 (max x z) List.mem_cons_self
    refine ⟨?_, fun y hy => ?_⟩
    · rcases List.mem_cons.1 h1 with h | h
      · rw [h]
        by_cases q : x ≤ z
        · rw [Int.max_eq_right q]; simp
        · rw [Int.max_eq_left (by omega)]; simp
      · simp [h]
    · rcases List.mem_cons.1 hy with rfl | hy
      · omega
      · rcases List.mem_cons.1 hy with rfl | hy
        · omega
        · exact h2 y (List.mem_cons_of_mem _ hy)
theorem least_mem {V : List Int} (h : V ≠ []) : leastOf V ∈ V ∧ ∀ y ∈ V, leastOf V ≤ y := by
  cases V with
  | nil => exact absurd rfl h
  | cons x r => exact fold_min r x
theorem great_mem {V : List Int} (h : V ≠ []) : greatOf V ∈ V ∧ ∀ y ∈ V, y ≤ greatOf V := by
  cases V with
  | nil => exact absurd rfl h
  | cons x r => exact fold_max r x
theorem least_same {V W : List Int} (hV : V ≠ []) (hW : W ≠ []) (h1 : ∀ z ∈ W, z ∈ V) (h2 : ∀ y ∈ V, ∃ z ∈ W, z ≤ y) : leastOf W = leastOf V := by
  obtain ⟨a1, a2⟩ := least_mem hV
  obtain ⟨b1, b2⟩ := least_mem hW
  obtain ⟨z, c1, c2⟩ := h2 _ a1
  have := a2 _ (h1 _ b1)
  have := b2 z c1
  omega
theorem great_same {V W : List Int} (hV : V ≠ []) (hW : W ≠ []) (h1 : ∀ z ∈ W, z ∈ V) (h2 : ∀ y ∈ V, ∃ z ∈ W, y ≤ z) : greatOf W = greatOf V := by
  obtain ⟨a1, a2⟩ := great_mem hV
  obtain ⟨b1, b2⟩ := great_mem hW
  obtain ⟨z, c1, c2⟩ := h2 _ a1
  have := a2 _ (h1 _ b1)
  have := b2 z c1
  omega
theorem rNum_2 (V : List Int) : rNum 2 V = leastOf V := by cases V <;> rfl
theorem rNum_3 (V : List Int) : rNum 3 V = greatOf V := by cases V <;> rfl
theorem vals_ne {L : Smp} (h : L ≠ []) : vals L ≠ [] := by simpa [vals] using h
theorem rHas_eq {k : Int} {V W : List Int} (h : V = [] ↔ W = []) : rHas k V = rHas k W := by
  unfold rHas
  cases V <;> cases W <;> simp_all
theorem ends_law {sz al : Int} {L : Smp} (h2 : sCan sz al = true) (h3 : bkOk L = true) (hL : ∀ x ∈ L, In64 x.2) (hl : L.length ≤ 1000000) :
    (aNum 2 (bkA 2 sz al L) = aNum 2 L ∧ aHas 2 (bkA 2 sz al L) = aHas 2 L) ∧ aNum 3 (bkA 3 sz al L) = aNum 3 L := by
  have key : ∀ k : Int, sRight k = true → ∀ m : List Int → Int, (∀ V, rNum k V = m V) → (∀ V, V ≠ [] → m V ∈ V) → (∀ V W : List Int, V ≠ [] → W ≠ [] → (∀ z ∈ W, z ∈ V) → (∀ G : List (List Int), G.flatten = V → W = G.map m → (∀ g ∈ G, g ≠ []) → m W = m V)) →
      aNum k (bkA k sz al L) = aNum k L ∧ aHas k (bkA k sz al L) = aHas k L := by
    intro k hr m hm hmem hsame
    obtain ⟨gs, hf, he, hok, _⟩ := segs (k := k) hr h2 h3
    have hv : ∀ h ∈ gs, aV k (aAll h) = m (vals h) := fun h hh => by
      rw [← hm, num_v hr (fun x hx => hL x (mem_seg hf hh hx)) (by have := len_seg hf hh; omega)]
    have hW : vals (bkA k sz al L) = (gs.map vals).map m := by
      rw [he]
      simp only [vals, List.map_map]
      exact List.map_congr_left fun h hh => hv h hh
    have hin : ∀ z ∈ vals (bkA k sz al L), z ∈ vals L := fun z hz => by
      rw [hW] at hz
      simp only [List.map_map, List.mem_map, Function.comp] at hz
      obtain ⟨h, hh, rfl⟩ := hz
      have h4 := hmem (vals h) (vals_ne (hok h hh).1)
      simp only [vals, List.mem_map] at h4 ⊢
      obtain ⟨x, hx, e⟩ := h4
      exact ⟨x, mem_seg hf hh hx, e⟩
    have hIn : ∀ x ∈ bkA k sz al L, In64 x.2 := fun x hx => by
      have h4 := hin x.2 (by simp only [vals, List.mem_map]; exact ⟨x, hx, rfl⟩)
      simp only [vals, List.mem_map] at h4
      obtain ⟨y, hy, e⟩ := h4
      rw [← e]; exact hL y hy
    have hlen := bkA_len (k := k) (sz := sz) (al := al) L
    obtain ⟨a1, a2, _⟩ := num_eq (k := k) hIn (by omega)
    obtain ⟨b1, b2, _⟩ := num_eq (k := k) hL (by omega)
    have hnil : vals (bkA k sz al L) = [] ↔ vals L = [] := by
      rw [hW]
      constructor
      · intro q
        have : gs = [] := by simpa using q
        rw [← hf, this]; rfl
      · intro q
        have : L = [] := by simpa [vals] using q
        have hg : gs = [] := by
          cases gs with
          | nil => rfl
          | cons g gs =>
            have := (hok g List.mem_cons_self).1
            simp_all
        rw [hg]; rfl
    refine ⟨?_, by rw [a2, b2]; exact rHas_eq hnil⟩
    rw [a1, b1, hm, hm]
    by_cases hV : vals L = []
    · rw [hV, hnil.2 hV]
    · have hWn : vals (bkA k sz al L) ≠ [] := fun q => hV (hnil.1 q)
      refine hsame _ _ hV hWn hin (gs.map vals) ?_ hW (fun g hg => ?_)
      · rw [← hf]
        simp only [vals, List.map_flatten]
        rfl
      · simp only [List.mem_map] at hg
        obtain ⟨h, hh, rfl⟩ := hg
        exact vals_ne (hok h hh).1
  refine ⟨key 2 (by decide) leastOf rNum_2 (fun V h => (least_mem h).1) fun V W hV hW h1 G hG hWG hne => ?_, (key 3 (by decide) greatOf rNum_3 (fun V h => (great_mem h).1) fun V W hV hW h1 G hG hWG hne => ?_).1⟩
  · refine least_same hV hW h1 fun y hy => ?_
    rw [← hG] at hy
    obtain ⟨g, hg, hyg⟩ := List.mem_flatten.1 hy
    exact ⟨leastOf g, by rw [hWG]; exact List.mem_map_of_mem hg, (least_mem (hne g hg)).2 y hyg⟩
  · refine great_same hV hW h1 fun y hy => ?_
    rw [← hG] at hy
    obtain ⟨g, hg, hyg⟩ := List.mem_flatten.1 hy
    exact ⟨greatOf g, by rw [hWG]; exact List.mem_map_of_mem hg, (great_mem (hne g hg)).2 y hyg⟩
end Go.Proofs.Ytkhfdjhohfebgaa
namespace Go.Proofs.Ytkhfdjhohfebgaa
open Go Go.RowKit
theorem counts_list {sz al : Int} {L : Smp} (h2 : sCan sz al = true) (h3 : bkOk L = true) (hL : ∀ x ∈ L, In64 x.2) (hl : L.length ≤ 1000000) : ∃ ls : List Nat, ls.sum = L.length ∧ (bkA 4 sz al L).map (·.2) = ls.map (fun n : Nat => (n : Int)) := by
  obtain ⟨gs, hf, he, hok, _⟩ := segs (k := 4) (by decide) h2 h3
  refine ⟨gs.map List.length, by rw [← hf, List.length_flatten], ?_⟩
  rw [he]
  simp only [List.map_map]
  refine List.map_congr_left fun h hh => ?_
  exact count_v (hok h hh).1 (fun x hx => hL x (mem_seg hf hh hx)) (by have := len_seg hf hh; omega)
theorem counts_t3 {Q : Qry} {sz al : Int} {L : Smp} (h2 : sCan sz al = true) (h3 : bkOk L = true) (hL : ∀ x ∈ L, In64 x.2) (hl : L.length ≤ 1000000) : sumW (t3 Q (bkA 4 sz al L)) = (L.length : Int) := by
  obtain ⟨ls, h4, h5⟩ := counts_list h2 h3 hL hl
  unfold t3 sumW
  split
  · rw [sumW_of ls.reverse 0 (by omega) (by rw [List.sum_reverse, h4]; omega) _ (by rw [List.map_reverse, h5, List.map_reverse]), List.sum_reverse, h4]
    omega
  · rw [sumW_of ls 0 (by omega) (by rw [h4]; omega) _ h5, h4]
    omega
theorem sumW_take {C : Smp} {i : Nat} (h : i < C.length) : sumW (C.take (i + 1)) = IntKind.i64.wrap (sumW (C.take i) + C[i].2) := foldl_take h
def qPlain (Q : Qry) : Qry := { Q with kind := 0, empty := false, count := 0 }
def qCnt (Q : Qry) : Qry := { qPlain Q with kind := 4, size := max 1 (min Q.size 1000), align := 0 }
theorem plain_tell {L : Smp} {Q : Qry} (ht : Q.times.length ≤ 32) : tellF L (qPlain Q) = (t3 Q (L.filter (qPass (qPlain Q))), 0) := by
  unfold tellF
  exact tell_ok (bare_right (Q := qPlain Q) rfl rfl rfl ht) rfl (t1_no (Q := qPlain Q) rfl) (t2_no (Q := qPlain Q) rfl) rfl (t5_no (Q := qPlain Q) (by show ¬ (0 : Int) < 0; decide))
theorem cnt_can (Q : Qry) : sCan (qCnt Q).size 0 = true := by
  show sCan (max 1 (min Q.size 1000)) 0 = true
  simp only [sCan, decide_eq_true_eq]; omega
theorem cnt_tell {L : Smp} {Q : Qry} (ht : Q.times.length ≤ 32) : tellF L (qCnt Q) = (t3 Q (bkA 4 (qCnt Q).size 0 (L.filter (qPass (qPlain Q)))), 0) := by
  have hr : qRight (qCnt Q) = 0 := by
    unfold qRight
    rw [if_neg]
    rintro (h | h | ⟨h, _⟩ | ⟨_, h⟩)
    · exact absurd h (by show ¬ (0 : Int) < 0; decide)
    · have : (32 : Int) < (Q.times.length : Int) := h
      omega
    · exact absurd h (by show ¬ (4 : Int) = 0; decide)
    · rcases h with h | h
      · exact absurd h (by show ¬ sRight 4 = false; decide)
      · have h : sCan (qCnt Q).size 0 = false := h
        rw [cnt_can] at h; cases h
  unfold tellF
  exact tell_ok hr rfl (t1_yes (Q := qCnt Q) (by show (4 : Int) ≠ 0; decide)) (t2_no (Q := qCnt Q) rfl) rfl (t5_no (Q := qCnt Q) (by show ¬ (0 : Int) < 0; decide))
theorem t3_len {Q : Qry} {X : Smp} : (t3 Q X).length = X.length := by unfold t3; split <;> simp
theorem bkOk_filter {L : Smp} {q : Int × Int → Bool} (h : bkOk L = true) : bkOk (L.filter q) = true := List.all_eq_true.2 fun x hx => List.all_eq_true.1 h x (List.mem_filter.1 hx).1
theorem totals_law {L : Smp} {Q : Qry} (hb : bkOk L = true) (hL : ∀ x ∈ L, In64 x.2) (hl : L.length ≤ 60) : sumW (t3 Q (bkA 4 (qCnt Q).size 0 (L.filter (qPass (qPlain Q))))) = ((t3 Q (L.filter (qPass (qPlain Q)))).length : Int) := by
  have := List.length_filter_le (qPass (qPlain Q)) L
  rw [counts_t3 (cnt_can Q) (bkOk_filter hb) (fun x hx => hL x (List.mem_filter.1 hx).1) (by omega), t3_len]
noncomputable def taS (L : Smp) (Q : Qry) (i : Nat) : AE × AH := (mkE [(0, .rw 0 0 L.length 2 2), (3, .ptr 2 (0)), (5, .si .i64 (i))], mkH [(0, .ro (smp (L))), (1, .ro (ints (Q.times))), (2, .cells (qCells Q (.rw 1 0 Q.times.length 1 2)) true)])
theorem taS_cov {L : Smp} {Q : Qry} {i : Nat} {p n : Nat} {σ : AE} {H : AH} {l2 : List AV} (hp : p ≤ 2) (e0 : SubV H 3 (fun b => b) (getq (pa 0) σ) (.rw 0 0 L.length 2 2)) (e3 : getq (pa 3) σ = .ptr 2 (0)) (e5 : mk (getq (pa 5) σ) = .si .i64 (i)) (h0 : H.get 0 = some (.ro (smp (L)))) (h1 : H.get 1 = some (.ro (ints (Q.times)))) (h2 : H.get 2 = some (.cells l2 true)) (g2 : l2.map mk = qCells Q (.rw 1 0 Q.times.length 1 2)) : Cov p σ H n ((taS L Q i).1, (taS L Q i).2, 3) := by
  refine Cov.ofR (fun b => b) (by omega) (fun b hb => rfl) ?_ ?_ ?_
  · intro x hx
    simp only [List.mem_cons, List.not_mem_nil, or_false] at hx
    rcases hx with rfl | rfl | rfl
    · exact e0
    · exact .ptr (by decide) e3
    · exact .int e5
  · intro x hx
    simp only [List.mem_cons, List.not_mem_nil, or_false] at hx
    rcases hx with rfl | rfl | rfl
    · exact ⟨by simp, .inl ⟨_, h0, SubO.ro_mk (smp_flat _) rfl⟩⟩
    · exact ⟨by simp, .inl ⟨_, h1, SubO.ro_mk (ints_flat _) rfl⟩⟩
    · exact ⟨by simp, .inl ⟨_, h2, SubO.qcellsM (by decide) rfl g2⟩⟩
  · intro x hx y hy
    simp only [List.mem_cons, List.not_mem_nil, or_false] at hx hy
    rcases hx with rfl | rfl | rfl <;> rcases hy with rfl | rfl | rfl <;> simp <;> omega
noncomputable def tbS (L : Smp) (Q : Qry) (A C : Smp) (e f s : Int) (i : Nat) : AE × AH := (mkE [(8, .rw 2 0 A.length 2 0), (9, .si .i64 (e)), (10, .rw 3 0 C.length 2 0), (11, .si .i64 (f)), (12, .si .i64 (s)), (13, .si .i64 (i))], mkH [(0, .ro (smp (L))), (1, .ro (ints (Q.times))), (2, .cells (smp (A)) true), (3, .cells (smp (C)) true)])
theorem tbS_cov {L : Smp} {Q : Qry} {A C : Smp} {e f s : Int} {i : Nat} {p n : Nat} {σ : AE} {H : AH} (j2 : Nat) (j3 : Nat) (hj : j2 ≠ 0 ∧ j2 ≠ 1 ∧ j2 ≠ j3 ∧ j3 ≠ 0 ∧ j3 ≠ 1) (hp : p ≤ 2) (e8 : SubV H 4 (fun b => if b = 2 then j2 else if b = 3 then j3 else b) (getq (pa 8) σ) (.rw 2 0 A.length 2 0)) (e9 : mk (getq (pa 9) σ) = .si .i64 (e)) (e10 : SubV H 4 (fun b => if b = 2 then j2 else if b = 3 then j3 else b) (getq (pa 10) σ) (.rw 3 0 C.length 2 0)) (e11 : mk (getq (pa 11) σ) = .si .i64 (f)) (e12 : mk (getq (pa 12) σ) = .si .i64 (s)) (e13 : mk (getq (pa 13) σ) = .si .i64 (i)) (h0 : H.get 0 = some (.ro (smp (L)))) (h1 : H.get 1 = some (.ro (ints (Q.times)))) (h2 : (∃ l, H.get j2 = some (.cells l true) ∧ l.map mk = smp (A)) ∨ ((A) = [] ∧ n ≤ j2)) (h3 : (∃ l, H.get j3 = some (.cells l true) ∧ l.map mk = smp (C)) ∨ ((C) = [] ∧ n ≤ j3)) : Cov p σ H n ((tbS L Q A C e f s i).1, (tbS L Q A C e f s i).2, 4) := by
  refine Cov.ofR (fun b => if b = 2 then j2 else if b = 3 then j3 else b) (by omega) (fun b hb => by repeat' rw [if_neg (by omega)]) ?_ ?_ ?_
  · intro x hx
    simp only [List.mem_cons, List.not_mem_nil, or_false] at hx
    rcases hx with rfl | rfl | rfl | rfl | rfl | rfl
    · exact e8
    · exact .int e9
    · exact e10
    · exact .int e11
    · exact .int e12
    · exact .int e13
  · intro x hx
    simp only [List.mem_cons, List.not_mem_nil, or_false] at hx
    rcases hx with rfl | rfl | rfl | rfl
    · exact ⟨by simp, .inl ⟨_, h0, SubO.ro_mk (smp_flat _) rfl⟩⟩
    · exact ⟨by simp, .inl ⟨_, h1, SubO.ro_mk (ints_flat _) rfl⟩⟩
    · exact ⟨by simp, h2.elim (fun ⟨l, h, g⟩ => .inl ⟨_, h, SubO.cells_mk (smp_flat _) (by rw [g, smp_map]) (fun q => q)⟩) (fun h => .inr ⟨by rw [h.1]; rfl, h.2⟩)⟩
    · exact ⟨by simp, h3.elim (fun ⟨l, h, g⟩ => .inl ⟨_, h, SubO.cells_mk (smp_flat _) (by rw [g, smp_map]) (fun q => q)⟩) (fun h => .inr ⟨by rw [h.1]; rfl, h.2⟩)⟩
  · intro x hx y hy
    simp only [List.mem_cons, List.not_mem_nil, or_false] at hx hy
    rcases hx with rfl | rfl | rfl | rfl <;> rcases hy with rfl | rfl | rfl | rfl <;> simp <;> omega
theorem bkOk_end {L : Smp} {i : Nat} (h : bkOk (L.take i) = true) (hi : i = L.length) : bkOk L = true := by
  subst hi; rw [List.take_length] at h; exact h
set_option maxHeartbeats 2000000 in
set_option maxRecDepth 100000 in
theorem w_rowsTotals (L : Smp) (Q : Qry) (hin : ∀ x ∈ L, In64 x.1 ∧ In64 x.2) (_ : L.length ≤ maxLen) (_ : Q.In64) (_ : Q.times.length ≤ maxLen) : callT G12 5 12 [.rw 0 0 L.length 2 2, qRw 1 Q] (mkH [(0, .ro (smp L)), (1, .ro (ints Q.times))]) 2 fun v _ _ => v = .bool true ∨ v = .sb true := by
  conv => whnf
  refine Fork.dec (fun h1 => ?_) (fun h1 => ?_)
  · conv => whnf
    exact .inl rfl
  have hl : L.length ≤ 60 := by have : ¬ (60 : Int) < (L.length : Int) := h1; omega
  conv => whnf
  refine Fork.dec (fun h2 => ?_) (fun h2 => ?_)
  · conv => whnf
    exact .inl rfl
  have ht : Q.times.length ≤ 32 := by have : ¬ (32 : Int) < (Q.times.length : Int) := h2; omega
  conv => whnf
  refine LoopP.mk { i : Nat // bkOk (L.take i) = true ∧ i ≤ L.length } 3 (fun a => taS L Q a.val) (fun a => L.length - a.val) ⟨0, rfl, Nat.zero_le _⟩ ?_ ?_
  · exact taS_cov (Nat.le_refl 2) (.rw (by decide) rfl) rfl rfl rfl rfl rfl rfl
  intro ⟨i, hI⟩
  have hi : i ≤ L.length := hI.2
  conv => whnf
  refine Fork.dec (fun h5 => ?_) (fun h5 => ?_)
  · have h6 : i < L.length := Int.ofNat_lt.1 h5
    have hlt : L.length - (i + 1) < L.length - i := by omega
    have hw := iwrap h6 (show L.length ≤ 1000000 by omega)
    conv => whnf
    refine Idx.mk i rfl h6 ?_
    conv => whnf
    refine optP_of (smp_nth0 h6 (by show 0 + i * 2 + 0 = i * 2; omega)) ?_
    conv => whnf
    refine Fork.dec (fun _ => ?_) (fun g1 => ?_)
    · conv => whnf
      exact .inl rfl
    conv => whnf
    refine Idx.mk i rfl h6 ?_
    conv => whnf
    refine optP_of (smp_nth0 h6 (by show 0 + i * 2 + 0 = i * 2; omega)) ?_
    conv => whnf
    refine Fork.dec (fun _ => ?_) (fun g2 => ?_)
    · conv => whnf
      exact .inl rfl
    have ht : sTime L[i].1 = true := by
      have g1 : ¬ L[i].1 < 0 := g1
      have g2 : ¬ 1099511627776 < L[i].1 := g2
      simp only [sTime, decide_eq_true_eq]; omega
    conv => whnf
    exact ⟨⟨i + 1, bkOk_take h6 hI.1 ht, h6⟩, hlt, taS_cov (Nat.le_refl 2) (.rw (by decide) rfl) rfl (congrArg (AV.si .i64) hw) rfl rfl rfl rfl⟩
  have hiL : i = L.length := by have : ¬ (i : Int) < (L.length : Int) := h5; omega
  have hb : bkOk L = true := bkOk_end hI.1 hiL
  have eA := plain_tell (L := L) (Q := Q) ht
  have eC := cnt_tell (L := L) (Q := Q) ht
  have hT := totals_law (Q := Q) hb (fun y hy => (hin y hy).2) hl
  have tS : sumW (tellF L (qCnt Q)).1 = ((tellF L (qPlain Q)).1.length : Int) := by rw [eA, eC]; exact hT
  have zA : (tellF L (qPlain Q)).2 = 0 := congrArg Prod.snd eA
  have zC : (tellF L (qCnt Q)).2 = 0 := congrArg Prod.snd eC
  have mC : (tellF L (qCnt Q)).1.length ≤ 1000000 := by have := tellF_len L (qCnt Q); omega
  clear eA eC hT
  conv => whnf
  refine ⟨L, qPlain Q, SmpAt.rowO rfl rfl (smp_map _), ⟨_, _, _, _, _, _, _, _, _, _, _, _, rfl, IntAt.rowO rfl rfl (ints_map _), rfl⟩, Nat.le_trans hl (by decide), Nat.le_trans ht (by decide), ⟨rfl, by decide⟩, ?_⟩
  conv => whnf
  refine ⟨L, qCnt Q, SmpAt.rowO rfl rfl (smp_map _), ⟨_, _, _, _, _, _, _, _, _, _, _, _, rfl, IntAt.rowO rfl rfl (ints_map _), rfl⟩, Nat.le_trans hl (by decide), Nat.le_trans ht (by decide), ⟨rfl, by decide⟩, ?_⟩
  conv => whnf
  refine LoopP.mk { q : Int × Nat // q.1 = sumW ((tellF L (qCnt Q)).1.take q.2) ∧ q.2 ≤ (tellF L (qCnt Q)).1.length } 4 (fun a => tbS L Q (tellF L (qPlain Q)).1 (tellF L (qCnt Q)).1 (tellF L (qPlain Q)).2 (tellF L (qCnt Q)).2 a.val.1 a.val.2) (fun a => (tellF L (qCnt Q)).1.length - a.val.2) ⟨(0, 0), rfl, Nat.zero_le _⟩ ?_ ?_
  · exact tbS_cov 5 6 (by decide) (Nat.le_refl 2) (.rw (by decide) rfl) rfl (.rw (by decide) rfl) rfl rfl rfl rfl rfl (.inl ⟨_, rfl, smp_map _⟩) (.inl ⟨_, rfl, smp_map _⟩)
  intro ⟨⟨s, k⟩, hJ⟩
  have hs : s = sumW ((tellF L (qCnt Q)).1.take k) := hJ.1
  have hk : k ≤ (tellF L (qCnt Q)).1.length := hJ.2
  conv => whnf
  refine Fork.dec (fun h7 => ?_) (fun h7 => ?_)
  · have h8 : k < (tellF L (qCnt Q)).1.length := Int.ofNat_lt.1 h7
    have hlt : (tellF L (qCnt Q)).1.length - (k + 1) < (tellF L (qCnt Q)).1.length - k := Nat.sub_lt_sub_left h8 (Nat.lt_succ_self k)
    have hw := iwrap h8 mC
    conv => whnf
    refine Idx.mk k rfl h8 ?_
    conv => whnf
    refine optP_of (smp_nth1 h8 (by show 0 + k * 2 + 1 = k * 2 + 1; rw [Nat.zero_add])) ?_
    conv => whnf
    exact ⟨⟨(IntKind.i64.wrap (s + (tellF L (qCnt Q)).1[k].2), k + 1), (congrArg (fun z => IntKind.i64.wrap (z + (tellF L (qCnt Q)).1[k].2)) hs).trans (sumW_take h8).symm, h8⟩, hlt, tbS_cov 2 3 (by decide) (Nat.le_refl 2) (.rw (by decide) rfl) rfl (.rw (by decide) rfl) rfl rfl (congrArg (AV.si .i64) hw) rfl rfl (.inl ⟨_, rfl, smp_map _⟩) (.inl ⟨_, rfl, smp_map _⟩)⟩
  have hkC : k = (tellF L (qCnt Q)).1.length := Nat.le_antisymm hk (Nat.le_of_not_lt fun q => h7 (Int.ofNat_lt.2 q))
  have hsA : s = ((tellF L (qPlain Q)).1.length : Int) := by rw [hs, hkC, List.take_length]; exact tS
  conv => whnf
  refine Fork.dec (fun _ => ?_) (fun h => absurd zA h)
  conv => whnf
  refine Fork.dec (fun _ => ?_) (fun h => absurd zC h)
  conv => whnf
  refine Fork.dec (fun _ => ?_) (fun h => absurd hsA h)
  conv => whnf
  exact .inl rfl
end Go.Proofs.Ytkhfdjhohfebgaa
namespace Go.Proofs.Ytkhfdjhohfebgaa
open Go Go.RowKit
def d_tachographlaw07RowsTimes : DT := [(13, [(some 0, [10]), (some 0, [46]), (some 0, [1, 47]), (some 0, [11, 47]), (some 0, [48, 49, 47]), (some 0, [50, 47]), (some 0, [0, 47]), (some 0, [9, 47]), (some 0, [52, 53, 47]), (some 0, [54, 47]), (some 0, [55, 47]), (some 0, [51, 56, 47]), (some 0, [47, 57]), (some 0, [58])]),
  (14, [(some 0, [10]), (some 0, [59]), (some 0, [0, 60]), (some 0, [9, 60]), (some 0, [61, 62, 60]), (some 0, [63, 60]), (some 0, [64, 60]), (some 0, [5, 60]), (some 0, [66, 60]), (some 0, [65, 67, 60]), (some 0, [60, 68]), (some 0, [69]), (some 0, [0, 70]), (some 0, [9, 70]), (some 0, [71, 72, 70]), (some 0, [73, 70]), (some 0, [74, 70]), (some 0, [5, 70]), (some 0, [76, 70]), (some 0, [75, 77, 70]), (some 0, [70, 78])]),
  (15, [(some 0, [8]), (some 0, [6]), (some 0, [81]), (some 0, [80, 82]), (some 0, [83]), (some 0, [6, 84]), (some 0, [8, 84]), (some 0, [85, 86, 84]), (some 0, [87, 84]), (some 0, [0, 84]), (some 0, [9, 84]), (some 0, [89, 90, 84]), (some 0, [91, 84]), (some 0, [88, 92, 84]), (some 0, [84, 93])])]
noncomputable def G15 : FuncId → EP := withD 13 d_tachographlaw07RowsTimes G12
theorem G15_ok : TabP G15 := withD_ok G12_ok (by kernel_rfl) (by kernel_rfl)
def qTimes (V : List Int) : Qry := ⟨-4611686018427387904, 4611686018427387904, false, 0, 0, 0, 0, false, V, false, 0, 0⟩
theorem times_pass {V : List Int} {x : Int × Int} (hV : V.length ≠ 0) (h1 : hasT V x.1 = true) (h2 : -4611686018427387904 ≤ x.1) (h3 : x.1 ≤ 4611686018427387904) : qPass (qTimes V) x = true := by
  simp [qPass, qIn, qTimes, h1, h2, h3]
theorem times_not1 {V : List Int} {x : Int × Int} (hV : V.length ≠ 0) (h1 : hasT V x.1 = false) : qPass (qTimes V) x = false := by
  have : V ≠ [] := fun q => hV (by rw [q]; rfl)
  simp [qPass, qIn, qTimes, h1, this]
theorem times_not2 {V : List Int} {x : Int × Int} (h2 : ¬ -4611686018427387904 ≤ x.1) : qPass (qTimes V) x = false := by
  simp [qPass, qIn, qTimes, h2]
theorem times_not3 {V : List Int} {x : Int × Int} (h2 : ¬ x.1 ≤ 4611686018427387904) : qPass (qTimes V) x = false := by
  simp [qPass, qIn, qTimes, h2]
noncomputable def tmS (L : Smp) (V : List Int) (A : Smp) (e : Int) (m i : Nat) : AE × AH := (mkE [(0, .rw 0 0 L.length 2 2), (1, .rw 1 0 V.length 1 2), (5, .ptr 2 (0)), (6, .rw 3 0 A.length 2 0), (7, .si .i64 (e)), (8, .si .i64 (m)), (9, .si .i64 (i))], mkH [(0, .ro (smp (L))), (1, .ro (ints (V))), (2, .cells (qCells (qTimes V) (.rw 1 0 (qTimes V).times.length 1 2)) true), (3, .cells (smp (A)) true)])
theorem tmS_cov {L : Smp} {V : List Int} {A : Smp} {e : Int} {m i : Nat} {p n : Nat} {σ : AE} {H : AH} {l2 : List AV} (j2 : Nat) (j3 : Nat) (hj : j2 ≠ 0 ∧ j2 ≠ 1 ∧ j2 ≠ j3 ∧ j3 ≠ 0 ∧ j3 ≠ 1) (hp : p ≤ 2) (e0 : SubV H 4 (fun b => if b = 2 then j2 else if b = 3 then j3 else b) (getq (pa 0) σ) (.rw 0 0 L.length 2 2)) (e1 : SubV H 4 (fun b => if b = 2 then j2 else if b = 3 then j3 else b) (getq (pa 1) σ) (.rw 1 0 V.length 1 2)) (e5 : getq (pa 5) σ = .ptr j2 (0)) (e6 : SubV H 4 (fun b => if b = 2 then j2 else if b = 3 then j3 else b) (getq (pa 6) σ) (.rw 3 0 A.length 2 0)) (e7 : mk (getq (pa 7) σ) = .si .i64 (e)) (e8 : mk (getq (pa 8) σ) = .si .i64 (m)) (e9 : mk (getq (pa 9) σ) = .si .i64 (i)) (h0 : H.get 0 = some (.ro (smp (L)))) (h1 : H.get 1 = some (.ro (ints (V)))) (h2 : H.get j2 = some (.cells l2 true)) (g2 : l2.map mk = qCells (qTimes V) (.rw 1 0 (qTimes V).times.length 1 2)) (h3 : (∃ l, H.get j3 = some (.cells l true) ∧ l.map mk = smp (A)) ∨ ((A) = [] ∧ n ≤ j3)) : Cov p σ H n ((tmS L V A e m i).1, (tmS L V A e m i).2, 4) := by
  refine Cov.ofR (fun b => if b = 2 then j2 else if b = 3 then j3 else b) (by omega) (fun b hb => by repeat' rw [if_neg (by omega)]) ?_ ?_ ?_
  · intro x hx
    simp only [List.mem_cons, List.not_mem_nil, or_false] at hx
    rcases hx with rfl | rfl | rfl | rfl | rfl | rfl | rfl
    · exact e0
    · exact e1
    · exact .ptr (by decide) e5
    · exact e6
    · exact .int e7
    · exact .int e8
    · exact .int e9
  · intro x hx
    simp only [List.mem_cons, List.not_mem_nil, or_false] at hx
    rcases hx with rfl | rfl | rfl | rfl
    · exact ⟨by simp, .inl ⟨_, h0, SubO.ro_mk (smp_flat _) rfl⟩⟩
    · exact ⟨by simp, .inl ⟨_, h1, SubO.ro_mk (ints_flat _) rfl⟩⟩
    · exact ⟨by simp, .inl ⟨_, h2, SubO.qcellsM (by decide) rfl g2⟩⟩
    · exact ⟨by simp, h3.elim (fun ⟨l, h, g⟩ => .inl ⟨_, h, SubO.cells_mk (smp_flat _) (by rw [g, smp_map]) (fun q => q)⟩) (fun h => .inr ⟨by rw [h.1]; rfl, h.2⟩)⟩
  · intro x hx y hy
    simp only [List.mem_cons, List.not_mem_nil, or_false] at hx hy
    rcases hx with rfl | rfl | rfl | rfl <;> rcases hy with rfl | rfl | rfl | rfl <;> simp <;> omega
noncomputable def tnS (L : Smp) (V : List Int) (A : Smp) (e : Int) (m i : Nat) (b : Bool) (k : Nat) : AE × AH := (mkE [(0, .rw 0 0 L.length 2 2), (1, .rw 1 0 V.length 1 2), (5, .ptr 2 (0)), (6, .rw 3 0 A.length 2 0), (7, .si .i64 (e)), (8, .si .i64 (m)), (9, .si .i64 (i)), (10, .sb (b)), (11, .si .i64 (k))], mkH [(0, .ro (smp (L))), (1, .ro (ints (V))), (2, .cells (qCells (qTimes V) (.rw 1 0 (qTimes V).times.length 1 2)) true), (3, .cells (smp (A)) true)])
theorem tnS_cov {L : Smp} {V : List Int} {A : Smp} {e : Int} {m i : Nat} {b : Bool} {k : Nat} {p n : Nat} {σ : AE} {H : AH} {l2 : List AV} (j2 : Nat) (j3 : Nat) (hj : j2 ≠ 0 ∧ j2 ≠ 1 ∧ j2 ≠ j3 ∧ j3 ≠ 0 ∧ j3 ≠ 1) (hp : p ≤ 2) (e0 : SubV H 4 (fun b => if b = 2 then j2 else if b = 3 then j3 else b) (getq (pa 0) σ) (.rw 0 0 L.length 2 2)) (e1 : SubV H 4 (fun b => if b = 2 then j2 else if b = 3 then j3 else b) (getq (pa 1) σ) (.rw 1 0 V.length 1 2)) (e5 : getq (pa 5) σ = .ptr j2 (0)) (e6 : SubV H 4 (fun b => if b = 2 then j2 else if b = 3 then j3 else b) (getq (pa 6) σ) (.rw 3 0 A.length 2 0)) (e7 : mk (getq (pa 7) σ) = .si .i64 (e)) (e8 : mk (getq (pa 8) σ) = .si .i64 (m)) (e9 : mk (getq (pa 9) σ) = .si .i64 (i)) (e10 : mk (getq (pa 10) σ) = .sb (b)) (e11 : mk (getq (pa 11) σ) = .si .i64 (k)) (h0 : H.get 0 = some (.ro (smp (L)))) (h1 : H.get 1 = some (.ro (ints (V)))) (h2 : H.get j2 = some (.cells l2 true)) (g2 : l2.map mk = qCells (qTimes V) (.rw 1 0 (qTimes V).times.length 1 2)) (h3 : (∃ l, H.get j3 = some (.cells l true) ∧ l.map mk = smp (A)) ∨ ((A) = [] ∧ n ≤ j3)) : Cov p σ H n ((tnS L V A e m i b k).1, (tnS L V A e m i b k).2, 4) := by
  refine Cov.ofR (fun b => if b = 2 then j2 else if b = 3 then j3 else b) (by omega) (fun b hb => by repeat' rw [if_neg (by omega)]) ?_ ?_ ?_
  · intro x hx
    simp only [List.mem_cons, List.not_mem_nil, or_false] at hx
    rcases hx with rfl | rfl | rfl | rfl | rfl | rfl | rfl | rfl | rfl
    · exact e0
    · exact e1
    · exact .ptr (by decide) e5
    · exact e6
    · exact .int e7
    · exact .int e8
    · exact .int e9
    · exact .bool e10
    · exact .int e11
  · intro x hx
    simp only [List.mem_cons, List.not_mem_nil, or_false] at hx
    rcases hx with rfl | rfl | rfl | rfl
    · exact ⟨by simp, .inl ⟨_, h0, SubO.ro_mk (smp_flat _) rfl⟩⟩
    · exact ⟨by simp, .inl ⟨_, h1, SubO.ro_mk (ints_flat _) rfl⟩⟩
    · exact ⟨by simp, .inl ⟨_, h2, SubO.qcellsM (by decide) rfl g2⟩⟩
    · exact ⟨by simp, h3.elim (fun ⟨l, h, g⟩ => .inl ⟨_, h, SubO.cells_mk (smp_flat _) (by rw [g, smp_map]) (fun q => q)⟩) (fun h => .inr ⟨by rw [h.1]; rfl, h.2⟩)⟩
  · intro x hx y hy
    simp only [List.mem_cons, List.not_mem_nil, or_false] at hx hy
    rcases hx with rfl | rfl | rfl | rfl <;> rcases hy with rfl | rfl | rfl | rfl <;> simp <;> omega
set_option maxHeartbeats 2000000 in
set_option maxRecDepth 100000 in
theorem w_rowsTimes (L : Smp) (V : List Int) (_ : ∀ x ∈ L, In64 x.1 ∧ In64 x.2) (_ : L.length ≤ maxLen) (_ : ∀ x ∈ V, In64 x) (_ : V.length ≤ maxLen) : callT G15 5 13 [.rw 0 0 L.length 2 2, .rw 1 0 V.length 1 2] (mkH [(0, .ro (smp L)), (1, .ro (ints V))]) 2 fun v _ _ => v = .bool true ∨ v = .sb true := by
  conv => whnf
  refine Fork.dec (fun h1 => ?_) (fun h1 => ?_)
  · conv => whnf
    exact .inl rfl
  have hl : L.length ≤ 60 := by have : ¬ (60 : Int) < (L.length : Int) := h1; omega
  conv => whnf
  refine Fork.dec (fun h2 => ?_) (fun h2 => ?_)
  · conv => whnf
    exact .inl rfl
  have hV : V.length ≠ 0 := fun q => h2 (congrArg Int.ofNat q)
  conv => whnf
  refine Fork.dec (fun h3 => ?_) (fun h3 => ?_)
  · conv => whnf
    exact .inl rfl
  have ht : V.length ≤ 32 := by have : ¬ (32 : Int) < (V.length : Int) := h3; omega
  have eA := bare_tell (L := L) (Q := qTimes V) rfl rfl rfl rfl ht
  have tA : (tellF L (qTimes V)).1 = L.filter (qPass (qTimes V)) := congrArg Prod.fst eA
  have zA : (tellF L (qTimes V)).2 = 0 := congrArg Prod.snd eA
  have mA : (tellF L (qTimes V)).1.length ≤ 1000000 := by have := tellF_len L (qTimes V); omega
  clear eA
  conv => whnf
  refine ⟨L, qTimes V, SmpAt.rowO rfl rfl (smp_map _), ⟨_, _, _, _, _, _, _, _, _, _, _, _, rfl, IntAt.rowO rfl rfl (ints_map _), rfl⟩, Nat.le_trans hl (by decide), Nat.le_trans ht (by decide), ⟨rfl, by decide⟩, ?_⟩
  conv => whnf
  refine LoopP.mk { q : Nat × Nat // q.1 = ((L.take q.2).filter (qPass (qTimes V))).length ∧ q.2 ≤ L.length } 4 (fun a => tmS L V (tellF L (qTimes V)).1 (tellF L (qTimes V)).2 a.val.1 a.val.2) (fun a => L.length - a.val.2) ⟨(0, 0), rfl, Nat.zero_le _⟩ ?_ ?_
  · exact tmS_cov 2 3 (by decide) (Nat.le_refl 2) (.rw (by decide) rfl) (.rw (by decide) rfl) rfl (.rw (by decide) rfl) rfl rfl rfl rfl rfl rfl rfl (.inl ⟨_, rfl, smp_map _⟩)
  intro ⟨⟨m, i⟩, hI⟩
  have hm : m = ((L.take i).filter (qPass (qTimes V))).length := hI.1
  have hi : i ≤ L.length := hI.2
  have hmi : m ≤ i := by rw [hm]; exact filt_lt
  conv => whnf
  refine Fork.dec (fun h5 => ?_) (fun h5 => ?_)
  rotate_left 1
  · have hiL : i = L.length := by have : ¬ (i : Int) < (L.length : Int) := h5; omega
    have hmA : m = (tellF L (qTimes V)).1.length := by rw [tA, hm, hiL, List.take_length]
    conv => whnf
    refine Fork.dec (fun _ => ?_) (fun h => absurd zA h)
    conv => whnf
    refine Fork.dec (fun _ => ?_) (fun h => absurd (congrArg Int.ofNat hmA) h)
    conv => whnf
    exact .inl rfl
  have h6 : i < L.length := Int.ofNat_lt.1 h5
  have hlt : L.length - (i + 1) < L.length - i := by omega
  have hw := iwrap h6 (show L.length ≤ 1000000 by omega)
  have hwn := nwrap (show m ≤ 1000000 by omega)
  conv => whnf
  refine LoopP.mk { q : Bool × Nat // q.1 = hasT (V.take q.2) L[i].1 ∧ q.2 ≤ V.length } 4 (fun a => tnS L V (tellF L (qTimes V)).1 (tellF L (qTimes V)).2 m i a.val.1 a.val.2) (fun a => V.length - a.val.2) ⟨(false, 0), rfl, Nat.zero_le _⟩ ?_ ?_
  · exact tnS_cov 2 3 (by decide) (Nat.le_refl 2) (.rw (by decide) rfl) (.rw (by decide) rfl) rfl (.rw (by decide) rfl) rfl rfl rfl rfl rfl rfl rfl rfl rfl (.inl ⟨_, rfl, smp_map _⟩)
  intro ⟨⟨b, k⟩, hJ⟩
  have hb : b = hasT (V.take k) L[i].1 := hJ.1
  have hk : k ≤ V.length := hJ.2
  conv => whnf
  refine Fork.dec (fun h7 => ?_) (fun h7 => ?_)
  · have h8 : k < V.length := Int.ofNat_lt.1 h7
    have hlt2 : V.length - (k + 1) < V.length - k := by omega
    have hw2 := iwrap h8 (show V.length ≤ 1000000 by omega)
    conv => whnf
    refine Fork.sb (fun h9 => ?_) (fun h9 => ?_)
    · have h9 : b = true := h9
      conv => whnf
      exact ⟨⟨(true, k + 1), (by rw [hasT_take h8, ← hb, h9]; rfl), h8⟩, hlt2, tnS_cov 2 3 (by decide) (Nat.le_refl 2) (.rw (by decide) rfl) (.rw (by decide) rfl) rfl (.rw (by decide) rfl) rfl rfl rfl rfl (congrArg (AV.si .i64) hw2) rfl rfl rfl rfl (.inl ⟨_, rfl, smp_map _⟩)⟩
    · have h9 : b = false := h9
      conv => whnf
      refine Idx.mk k rfl h8 ?_
      conv => whnf
      refine optP_of (ints_nth h8 (by show 0 + k * 1 = k; omega)) ?_
      conv => whnf
      refine Idx.mk i rfl h6 ?_
      conv => whnf
      refine optP_of (smp_nth0 h6 (by show 0 + i * 2 + 0 = i * 2; omega)) ?_
      conv => whnf
      exact ⟨⟨(decide (V[k] = L[i].1), k + 1), (by rw [hasT_take h8, ← hb, h9]; rfl), h8⟩, hlt2, tnS_cov 2 3 (by decide) (Nat.le_refl 2) (.rw (by decide) rfl) (.rw (by decide) rfl) rfl (.rw (by decide) rfl) rfl rfl rfl rfl (congrArg (AV.si .i64) hw2) rfl rfl rfl rfl (.inl ⟨_, rfl, smp_map _⟩)⟩
  have hkV : k = V.length := by have : ¬ (k : Int) < (V.length : Int) := h7; omega
  have hbV : b = hasT V L[i].1 := by rw [hb, hkV, List.take_length]
  conv => whnf
  refine Fork.sb (fun h9 => ?_) (fun h9 => ?_)
  rotate_left 1
  · have h9 : b = false := h9
    have hp : qPass (qTimes V) L[i] = false := times_not1 hV (hbV.symm.trans h9)
    conv => whnf
    exact ⟨⟨(m, i + 1), hm.trans (filt_same h6 hp).symm, h6⟩, hlt, tmS_cov 2 3 (by decide) (Nat.le_refl 2) (.rw (by decide) rfl) (.rw (by decide) rfl) rfl (.rw (by decide) rfl) rfl rfl (congrArg (AV.si .i64) hw) rfl rfl rfl rfl (.inl ⟨_, rfl, smp_map _⟩)⟩
  have h9 : b = true := h9
  conv => whnf
  refine Idx.mk i rfl h6 ?_
  conv => whnf
  refine optP_of (smp_nth0 h6 (by show 0 + i * 2 + 0 = i * 2; omega)) ?_
  conv => whnf
  refine Fork.dec (fun g1 => ?_) (fun g1 => ?_)
  rotate_left 1
  · have g1 : ¬ -4611686018427387904 ≤ L[i].1 := g1
    have hp : qPass (qTimes V) L[i] = false := times_not2 g1
    conv => whnf
    exact ⟨⟨(m, i + 1), hm.trans (filt_same h6 hp).symm, h6⟩, hlt, tmS_cov 2 3 (by decide) (Nat.le_refl 2) (.rw (by decide) rfl) (.rw (by decide) rfl) rfl (.rw (by decide) rfl) rfl rfl (congrArg (AV.si .i64) hw) rfl rfl rfl rfl (.inl ⟨_, rfl, smp_map _⟩)⟩
  have g1 : -4611686018427387904 ≤ L[i].1 := g1
  conv => whnf
  refine Idx.mk i rfl h6 ?_
  conv => whnf
  refine optP_of (smp_nth0 h6 (by show 0 + i * 2 + 0 = i * 2; omega)) ?_
  conv => whnf
  refine Fork.dec (fun g2 => ?_) (fun g2 => ?_)
  rotate_left 1
  · have g2 : ¬ L[i].1 ≤ 4611686018427387904 := g2
    have hp : qPass (qTimes V) L[i] = false := times_not3 g2
    conv => whnf
    exact ⟨⟨(m, i + 1), hm.trans (filt_same h6 hp).symm, h6⟩, hlt, tmS_cov 2 3 (by decide) (Nat.le_refl 2) (.rw (by decide) rfl) (.rw (by decide) rfl) rfl (.rw (by decide) rfl) rfl rfl (congrArg (AV.si .i64) hw) rfl rfl rfl rfl (.inl ⟨_, rfl, smp_map _⟩)⟩
  have g2 : L[i].1 ≤ 4611686018427387904 := g2
  have hp : qPass (qTimes V) L[i] = true := times_pass hV (hbV.symm.trans h9) g1 g2
  have hz := filt_at h6 hp
  have hzl : m < (tellF L (qTimes V)).1.length := by rw [tA, hm]; exact hz.1
  have hze : ((tellF L (qTimes V)).1)[m] = L[i] := zat tA hm h6 hp
  conv => whnf
  refine Fork.dec (fun h => absurd (Int.ofNat_le.1 (show ((tellF L (qTimes V)).1.length : Int) ≤ (m : Int) from h)) (Nat.not_le.2 hzl)) (fun _ => ?_)
  conv => whnf
  refine Idx.mk m rfl hzl ?_
  conv => whnf
  refine optP_of (smp_sub hzl (by show 0 + m * 2 = m * 2; rw [Nat.zero_add])) ?_
  conv => whnf
  refine Idx.mk i rfl h6 ?_
  conv => whnf
  refine optP_of (smp_sub h6 (by show 0 + i * 2 = i * 2; rw [Nat.zero_add])) ?_
  conv => whnf
  refine optP_of (ebin_ne2 plan39) ?_
  conv => whnf
  refine Fork.nsb (fun h => absurd ((pairs_eq hze).symm.trans h) (by decide)) (fun _ => ?_)
  conv => whnf
  exact ⟨⟨(m + 1, i + 1), (congrArg (· + 1) hm).trans (filt_one h6 hp).symm, h6⟩, hlt, tmS_cov 2 3 (by decide) (Nat.le_refl 2) (.rw (by decide) rfl) (.rw (by decide) rfl) rfl (.rw (by decide) rfl) rfl (congrArg (AV.si .i64) hwn) (congrArg (AV.si .i64) hw) rfl rfl rfl rfl (.inl ⟨_, rfl, smp_map _⟩)⟩
end Go.Proofs.Ytkhfdjhohfebgaa
