/- Texts of our own, joined: the engine, the machine that runs code, and what is known of the functions. -/
import Derived.Test.YtkhfdjhohfebgaaJf
set_option linter.unusedSimpArgs false
set_option linter.unusedVariables false
namespace Go.Proofs.Ytkhfdjhohfebgaa
open Go Go.RowKit
set_option maxRecDepth 20000
section
variable {φ ψ : Ph} {H : AH} {n : Nat} {h0 h hp : Hp}
/-- A block that another run made, under a name of ours. -/
theorem HR.add (hr : HR φ H n h0 h) {q : Pl} {o : AO} {ob : Obj} (hq0 : h0.f q.B = none) (hqn : q.B < h.n) (hq : h.f q.B = some ob) (ho : OR (PNew φ n q) q o ob) (hw : o.own = true) (hfr : ∀ b o p, H.get b = some o → φ b = some p → o.own = true → p.B ≠ q.B) (hfz : ∀ z, φ.z z → q.B ≠ z.B) (d : Nat) : HR (PNew φ n q) (H.set (some o) d n) (n + 1) h0 h := by
  refine ⟨fun x r hx => ?_, fun x r hx => ?_, fun x y r r' px py hx hy hwx hwy hpx hpy e => ?_, hr.base, hr.size, fun z hz => ⟨⟨FzR.mono (hr.ple _).z (hr.frz z hz).1.1, (hr.frz z hz).1.2⟩, fun y oy py hy hwy hpy => ?_⟩⟩
  · simp only [PNew] at hx
    split at hx
    · injection hx with hx; subst hx; exact ⟨by omega, hqn⟩
    · have := hr.dom x r hx; omega
  · rcases PM.get_set d _ n x r hx with ⟨rfl, h2⟩ | ⟨h1, h2⟩
    · injection h2 with h2
      subst h2
      exact .inr ⟨_, ob, PNew_same _ _ _, by rw [AO.under_own hw]; exact hq0, hq, ho⟩
    · rcases hr.live x r h2 with ⟨hv, hv2⟩ | ⟨px, obx, h5, h6, h7, h8⟩
      · exact .inl ⟨by simp only [PNew, if_neg h1]; exact hv, hv2⟩
      exact .inr ⟨px, obx, hr.ple _ _ _ h5, h6, h7, h8.mono (hr.ple _)⟩
  · have cs : ∀ z r pz, (H.set (some o) d n).get z = some r → PNew φ n q z = some pz → (z = n ∧ pz = q) ∨ (z ≠ n ∧ H.get z = some r ∧ φ z = some pz) := fun z r pz hz hpz => by
      rcases PM.get_set d _ n z r hz with ⟨rfl, _⟩ | ⟨h1, h2⟩
      · rw [PNew_same] at hpz; injection hpz with hpz; exact .inl ⟨rfl, hpz.symm⟩
      · simp only [PNew, if_neg h1] at hpz
        exact .inr ⟨h1, h2, hpz⟩
    rcases cs x r px hx hpx with ⟨a1, a2⟩ | ⟨a1, a2, a3⟩ <;> rcases cs y r' py hy hpy with ⟨b1, b2⟩ | ⟨b1, b2, b3⟩
    · omega
    · exact (hfr y r' py b2 b3 hwy (by rw [← e, a2])).elim
    · exact (hfr x r px a2 a3 hwx (by rw [e, b2])).elim
    · exact hr.inj x y r r' px py a2 b2 hwx hwy a3 b3 e
  · rcases PM.get_set d _ n y oy hy with ⟨rfl, h2⟩ | ⟨h1, h2⟩
    · rw [PNew_same] at hpy; injection hpy with hpy; subst hpy; exact hfz z hz
    · simp only [PNew, if_neg h1] at hpy
      exact (hr.frz z hz).2 y oy py h2 hwy hpy
/-- What a run on a small memory yields: no row, or a new one. -/
def NewRow (R : Smp) (u : AV) (H' : AH) : Prop := (R = [] ∧ u = .nsl) ∨ (R ≠ [] ∧ ∃ b c l, u = .sl b 0 R.length c 2 ∧ R.length ≤ c ∧ H'.get b = some (.cells l true) ∧ l.map mk = smp R)
theorem PM.get_set_ne {α : Type} {v : Option α} {x : α} : ∀ (f : Nat) (t : PM α) (n m : Nat), n + 1 < 2 ^ f → m ≠ n → t.get m = some x → (PM.set v f t n).get m = some x
  | 0, t, n, m, h, _, _ => by simp at h
  | f + 1, .nil, n, m, h, hm, e => by cases e
  | f + 1, .node l u r, 0, m, h, hm, e => by
    cases m with
    | zero => exact absurd rfl hm
    | succ m =>
      show (PM.node l v r).get (m + 1) = some x
      rw [PM.get_succ] at e ⊢
      exact e
  | f + 1, .node l u r, n + 1, m, h, hm, e => by
    have hp : (PM.node l u r).set v (f + 1) (n + 1) = (Nat.rec (.node (PM.set v f l (n / 2)) u r) (fun _ _ => .node l u (PM.set v f r (n / 2))) (n % 2) : PM α) := rfl
    have h2 : n / 2 + 1 < 2 ^ f := by rw [Nat.pow_succ] at h; omega
    rcases Nat.mod_two_eq_zero_or_one n with q | q <;> rw [q] at hp
    · have hp : (PM.node l u r).set v (f + 1) (n + 1) = .node (PM.set v f l (n / 2)) u r := hp
      rw [hp]
      cases m with
      | zero => exact e
      | succ m =>
        rw [PM.get_succ] at e ⊢
        split
        · rename_i hq
          rw [if_pos hq] at e
          exact PM.get_set_ne f l (n / 2) (m / 2) h2 (by omega) e
        · rename_i hq
          rw [if_neg hq] at e
          exact e
    · have hp : (PM.node l u r).set v (f + 1) (n + 1) = .node l u (PM.set v f r (n / 2)) := hp
      rw [hp]
      cases m with
      | zero => exact e
      | succ m =>
        rw [PM.get_succ] at e ⊢
        split
        · rename_i hq
          rw [if_pos hq] at e
          exact e
        · rename_i hq
          rw [if_neg hq] at e
          exact PM.get_set_ne f r (n / 2) (m / 2) h2 (by omega) e
/-! ### a new row, wherever it stands in what is yielded -/
def RowPW (W : AV → AV) (R : Smp) (H : AH) (n : Nat) (κ : PK) : Prop := (H.get n = none ∧ n < 1000000) ∧ κ (W (.rw n 0 R.length 2 0)) (H.set (some (.cells (smp R) true)) depthH n) (n + 1)
def NewRowG (R : Smp) (u : AV) (H' : AH) : Prop := (R = [] ∧ hd u = .nsl) ∨ (R ≠ [] ∧ ∃ b c k l, hd u = .sl b 0 R.length c k ∧ R.length ≤ c ∧ H'.get b = some (.cells l true) ∧ R.length * 2 ≤ l.length ∧ (l.take (R.length * 2)).map mk = smp R ∧ (k = 2 ∨ k = 0 ∧ c * 2 ≤ l.length)) ∨ ∃ b o x l r, u = .rw b o R.length 2 x ∧ x < 2 ∧ H'.get b = some (.cells l true) ∧ subL l o (R.length * 2) = some r ∧ r.map mk = smp R
/-- A block without a place. -/
theorem HR.phantom (hr : HR φ H n h0 hp) {o : AO} (ho : o.void = true) : HR φ (H.set (some o) depthH n) (n + 1) h0 hp := by
  have hno : φ n = none := by
    cases hq : φ n with
    | none => rfl
    | some p => exact absurd (hr.dom n p hq).1 (Nat.lt_irrefl _)
  refine ⟨fun b p hb => ⟨Nat.lt_succ_of_lt (hr.dom b p hb).1, (hr.dom b p hb).2⟩, fun b q hb => ?_, fun x y q q' px py hx hy hwx hwy hpx hpy ee => ?_, hr.base, hr.size, fun z hz => ⟨(hr.frz z hz).1, fun y oy py hy hwy hpy => ?_⟩⟩
  rotate_left 2
  · rcases PM.get_set _ _ n y oy hy with ⟨rfl, _⟩ | ⟨_, h2⟩
    · rw [hno] at hpy; cases hpy
    · exact (hr.frz z hz).2 y oy py h2 hwy hpy
  · rcases PM.get_set depthH _ n b q hb with ⟨rfl, h2⟩ | ⟨_, h2⟩
    · injection h2 with h2; subst h2; exact .inl ⟨hno, ho⟩
    · exact hr.live b q h2
  · have old : ∀ z r pz, (H.set (some o) depthH n).get z = some r → φ z = some pz → H.get z = some r := fun z r pz hz hpz => by
      rcases PM.get_set depthH _ n z r hz with ⟨rfl, _⟩ | ⟨_, h2⟩
      · rw [hno] at hpz; cases hpz
      · exact h2
    exact hr.inj x y q q' px py (old x q px hx hpx) (old y q' py hy hpy) hwx hwy hpx hpy ee
theorem newRow_use {H' : AH} {n' : Nat} {g : Hp} {R : Smp} {r : AV} {w : Value} (hr : HR φ H n h0 hp) (hg : HR ψ H' n' hp g) (hu : VR ψ r w) (he : NewRowG R r H') : ∃ χ, PLe φ χ ∧ HR χ (H.set (some (.cells (smp R) true)) depthH n) (n + 1) h0 g ∧ VR χ (.rw n 0 R.length 2 0) w := by
  have hg2 : HR φ H n h0 g := hr.grow (fun b o hb => (hg.base b o hb).2) hg.size
  -- a block of the run, at a place of its own
  have core : ∀ (q : Pl) (l r : List AV) (b o a C : Nat), H'.get b = some (.cells l true) → ψ b = some q → R.length ≤ C → q.s ≤ a → a + C * 2 ≤ q.s + q.T → (R ≠ [] → a = q.s + o ∧ subL l o (R.length * 2) = some r ∧ r.map mk = smp R) → w = .slice (some ⟨q.B, a, none⟩) R.length C → ∃ χ, PLe φ χ ∧ HR χ (H.set (some (.cells (smp R) true)) depthH n) (n + 1) h0 g ∧ VR χ (.rw n 0 R.length 2 0) w := by
    intro q l r b o a C hb hqb hRC ha1 ha2 hsub hw
    subst hw
    obtain ⟨ob, hq0, hq1, hor⟩ := hg.of hb hqb
    have hq0 : hp.f q.B = none := hq0
    have hh0 : h0.f q.B = none := by
      cases hx : h0.f q.B with
      | none => rfl
      | some o => have := (hr.base _ _ hx).2; rw [hq0] at this; cases this
    obtain ⟨cc, t, fz, rfl, o1, o2, o3, o4, o5⟩ := hor
    have hor' : OR (PNew φ n ⟨q.B, a, C * 2⟩) ⟨q.B, a, C * 2⟩ (.cells (smp R) true) (.cells cc t fz) := by
      have hfree : Free fz a (C * 2) := o3.sub (by omega)
      refine ⟨cc, t, fz, rfl, by rw [smp_length]; simp only; omega, (show a + C * 2 ≤ cc.size by omega), hfree, o4, ?_⟩
      by_cases hR : R = []
      · subst hR
        exact fun i a hi => by simp [smp] at hi
      · obtain ⟨rfl, h1, h2⟩ := hsub hR
        obtain ⟨h3, h4⟩ := subL_spec h1
        have o6 : CR ψ cc (q.s + o) r := by subst h4; exact CR.drop o5
        exact CR.mk_flat o6 (by rw [h2, smp_map]) (smp_flat R)
    have hnew := hg2.add (q := ⟨q.B, a, C * 2⟩) hh0 (hg.dom _ _ hqb).2 hq1 hor' rfl (fun b' o' p' e1 e2 _ e3 => by
      obtain ⟨ob2, _, f2, _⟩ := hr.of e1 e2
      rw [e3, hq0] at f2
      cases f2) (fun z hz e => by
      obtain ⟨_, c, t, fz, f2, _⟩ := (hr.frz z hz).1.1
      have e : q.B = z.B := e
      rw [← e, hq0] at f2
      cases f2) depthH
    exact ⟨_, hr.ple _, hnew, .rw (p := ⟨q.B, a, C * 2⟩) (PNew_same _ _ _) (fun _ => rfl) (Nat.le_refl _) hRC (Nat.le_refl _)⟩
  have none : R = [] → w = .slice none 0 0 → ∃ χ, PLe φ χ ∧ HR χ (H.set (some (.cells (smp R) true)) depthH n) (n + 1) h0 g ∧ VR χ (.rw n 0 R.length 2 0) w := fun h1 h2 => by
    subst h1 h2
    exact ⟨φ, .refl _, hg2.phantom rfl, .rwn⟩
  rcases he with ⟨h1, e1⟩ | ⟨h1, b, c, k, l, e1, hc, hb, hlen, hl, hk⟩ | ⟨b, o, x, l, r', e1, hx2, hb, hsub, hmk⟩
  · have := hu.hd
    rw [e1] at this
    exact none h1 this.nsl_inv
  · have hu := hu.hd
    rw [e1] at hu
    obtain ⟨q, C, hqb, rfl, hC0, hC⟩ := hu.sl_inv
    have hT : R.length ≤ C ∧ C * 2 ≤ q.T := by
      rcases hk with rfl | ⟨rfl, hk⟩
      · obtain ⟨hC1, hC2⟩ := hC (by decide)
        exact ⟨by omega, by omega⟩
      · have := hC0 rfl
        have := hg.room _ _ _ hb hqb
        simp only [AO.size] at this
        exact ⟨by omega, by omega⟩
    refine core q l (l.take (R.length * 2)) b 0 q.s C hb hqb hT.1 (Nat.le_refl _) (by omega) (fun _ => ⟨rfl, ?_, hl⟩) rfl
    unfold subL
    rw [Nat.zero_add, Nat.ble_eq_true_of_le hlen]
    rfl
  · rw [e1] at hu
    rcases hu.rw_inv with ⟨h1, h2⟩ | ⟨q, a, C, hqb, rfl, h2, h3, h4, _, h5, _⟩
    · exact none (List.eq_nil_of_length_eq_zero h1) (h2.nil (by omega))
    · exact core q l r' b o a C hb hqb h4 h3 (h5 hx2) (fun hR => ⟨h2 (fun q => hR (List.eq_nil_of_length_eq_zero q)), hsub, hmk⟩) rfl
theorem smallNew1 {F : FuncId → EP} (hF : TabP F) {d : Nat} {f : FuncId} {args0 : List AV} {H0 : AH} {n0 : Nat} {R : Smp} {P : AV → AH → Prop} (hP : ∀ u H', P u H' → NewRowG R u H') (hrun : callT F d f args0 H0 n0 fun u H' _ => P u H')
    {vs : Array Value} {κ : PK} {K : KH} (hs : RowPW (fun r => r) R H n κ) (hr : HR φ H n h0 hp) (hk : ThenP φ h0 κ K) (hic : isCall Try.prog f = true) {φ0 : Ph} (hr0 : Wf hp → HR φ0 H0 n0 hp hp) (hargs : VRs φ0 args0 vs.toList) : CallF Try.prog f vs hp K := by
  have key : Wf hp → CallF Try.prog f vs hp K := fun hw => callT_sound (by kernel_rfl) hF d f args0 H0 n0 _ hrun φ0 hp hp vs K (hr0 hw) hargs fun ψ u H' n' w g _ hg hu he => by
    have hg2 : HR φ H n h0 g := hr.grow (fun b o hb => (hg.base b o hb).2) hg.size
    obtain ⟨χ, h3, h4, h5⟩ := newRow_use hr hg hu (hP _ _ he)
    exact hk χ _ _ _ _ g h3 h4 h5 hs.2
  exact ⟨hic, fun w hi => (key hi.wf).2 w hi⟩
theorem RowPW.sing {W : AV → AV} {R : Smp} {κ : PK} (h : RowPW W R H n κ) : ∃ v H' n', κ v H' n' ∧ GrowsA H H' ∧ n ≤ n' ∧ ∀ κ' : PK, κ' v H' n' → RowPW W R H n κ' := by
  obtain ⟨⟨h1, h2⟩, h3⟩ := h
  refine ⟨_, _, _, h3, fun b o hb => ?_, Nat.le_succ _, fun κ' k => ⟨⟨h1, h2⟩, k⟩⟩
  refine PM.get_set_ne _ _ _ _ ?_ (fun q => by rw [q, h1] at hb; cases hb) hb
  have : (1000001 : Nat) < 2 ^ depthH := by show 1000001 < 2 ^ 40; decide
  omega
theorem NewRowG.full {R : Smp} {b c : Nat} {l : List AV} {H' : AH} {u : AV} (hR : R ≠ []) (h1 : hd u = .sl b 0 R.length c 2) (hc : R.length ≤ c) (h2 : H'.get b = some (.cells l true)) (h3 : l.map mk = smp R) : NewRowG R u H' := by
  have hl : l.length = R.length * 2 := by have := congrArg List.length h3; rw [List.length_map, smp_length] at this; exact this
  exact .inr (.inl ⟨hR, b, c, 2, l, h1, hc, h2, by omega, by rw [List.take_of_length_le (by omega)]; exact h3, .inl rfl⟩)
theorem NewRowG.rw {R : Smp} {b o x : Nat} {l r : List AV} {H' : AH} {u : AV} (h1 : u = .rw b o R.length 2 x) (h2 : H'.get b = some (.cells l true)) (h3 : subL l o (R.length * 2) = some r) (h4 : r.map mk = smp R) (hx : x < 2 := by decide) : NewRowG R u H' := .inr (.inr ⟨b, o, x, l, r, h1, hx, h2, h3, h4⟩)
theorem NewRow.g {R : Smp} {u : AV} {H' : AH} (h : NewRow R u H') : NewRowG R u H' := by
  rcases h with ⟨h1, rfl⟩ | ⟨h1, b, c, l, rfl, hc, hb, hl⟩
  · exact .inl ⟨h1, rfl⟩
  · exact NewRowG.full h1 rfl hc hb hl
end
def RowP (R : Smp) (H : AH) (n : Nat) (κ : PK) : Prop := RowPW (fun r => r) R H n κ
theorem RowP.sing {R : Smp} {H : AH} {n : Nat} {κ : PK} (h : RowP R H n κ) : ∃ v H' n', κ v H' n' ∧ GrowsA H H' ∧ n ≤ n' ∧ ∀ κ' : PK, κ' v H' n' → RowP R H n κ' := RowPW.sing h
/-- A function of three numbers and samples that yields samples. -/
def natB (B : Nat) (f : Int → Int → Int → Smp → Smp) (args : List AV) (H : AH) (n : Nat) (κ : PK) : Prop := match args with
  | [x, y, z, l] => asI x fun k => asI y fun s => asI z fun a => ∃ L, SmpAt H l L ∧ L.length ≤ B ∧ RowP (f k s a L) H n κ
  | _ => False
theorem singB {B : Nat} {f : Int → Int → Int → Smp → Smp} : SingG (natB B f) := fun args H n κ hs => by
  unfold natB at *
  split at hs
  · obtain ⟨x, h1, k1⟩ := asI_sing hs
    obtain ⟨y, h2, k2⟩ := asI_sing h1
    obtain ⟨z, ⟨L, h3, h4, h5⟩, k3⟩ := asI_sing h2
    obtain ⟨v, H', n', h6, h7, h8, h9⟩ := h5.sing
    exact ⟨v, H', n', h6, h7, h8, fun κ' k => k1 _ (k2 _ (k3 _ ⟨L, h3, h4, h9 κ' k⟩))⟩
  · exact hs.elim
theorem natB_ok {B : Nat} {F : FuncId → EP} (hF : TabP F) {d : Nat} {f : FuncId} {g : Int → Int → Int → Smp → Smp} (hic : isCall Try.prog f = true) (h0 : ∀ k s a, callT F d f [.si .i64 k, .si .i64 s, .si .i64 a, .nsl] .nil 0 fun u H' _ => NewRow (g k s a []) u H')
    (h1 : ∀ k s a L cap, L.length ≤ B → L.length ≤ cap → callT F d f [.si .i64 k, .si .i64 s, .si .i64 a, .sy 0 0 L.length cap 0] (mkH [(0, .ro (smp L))]) 1 fun u H' _ => NewRow (g k s a L) u H') : NatP f (natB B g) := fun args H n κ hs φ h0' hp vs K hr hargs hk => by
  unfold natB at hs
  split at hs
  · obtain ⟨v1, l1, e1, hv1, t1⟩ := hargs.cons_inv
    obtain ⟨v2, l2, e2, hv2, t2⟩ := t1.cons_inv
    obtain ⟨v3, l3, e3, hv3, t3⟩ := t2.cons_inv
    obtain ⟨v4, l4, e4, hv4, t4⟩ := t3.cons_inv
    have e5 := t4.nil_inv
    subst e5 e4 e3 e2
    obtain ⟨k, hv1, hs⟩ := asI_si hv1 hs
    obtain ⟨s, hv2, hs⟩ := asI_si hv2 hs
    obtain ⟨a, hv3, L, hS, hL, hs2⟩ := asI_si hv3 hs
    have t3 : ∀ (χ : Ph) (x : AV), VR χ x v4 → VRs χ [.si .i64 k, .si .i64 s, .si .i64 a, x] vs.toList := fun χ x hx => by
      rw [e1]
      exact .cons (by rw [hv1.si_inv]; exact .si _ _) (.cons (by rw [hv2.si_inv]; exact .si _ _) (.cons (by rw [hv3.si_inv]; exact .si _ _) (.cons hx .nil)))
    rcases hS.open hr hv4 with ⟨rfl, hv⟩ | ⟨p, C, hC, hro, hv⟩
    · exact smallNew1 hF (fun _ _ h => h.g) (h0 k s a) hs2 hr hk hic HR.ro0 (t3 _ _ (hv _))
    · exact smallNew1 hF (fun _ _ h => h.g) (h1 k s a L C hL hC) hs2 hr hk hic (fun hw => HR.ro1 hw hro) (t3 _ _ (hv _ 0 rfl))
  · exact hs.elim
end Go.Proofs.Ytkhfdjhohfebgaa
namespace Go.Proofs.Ytkhfdjhohfebgaa
open Go Go.RowKit
set_option maxRecDepth 20000
structure Qry where
  f : Int
  t : Int
  back : Bool
  count : Int
  kind : Int
  size : Int
  align : Int
  empty : Bool
  times : List Int
  vals : Bool
  low : Int
  high : Int
/-- A query whose times are the slice 'a'. -/
def qCells (Q : Qry) (a : AV) : List AV := [.si .i64 Q.f, .si .i64 Q.t, .sb Q.back, .si .i64 Q.count, .si .i64 Q.kind, .si .i64 Q.size, .si .i64 Q.align, .sb Q.empty, a, .sb Q.vals, .si .i64 Q.low, .si .i64 Q.high]
def qAV (b o cap k : Nat) (Q : Qry) : AV := .agg (qCells Q (.sy b o Q.times.length cap k))
def qNil (Q : Qry) : AV := .agg (qCells Q .nsl)
/-- Cells that hold a query. -/
def QryAt (H : AH) (a : AV) (Q : Qry) : Prop := ∃ x0 x1 x2 x3 x4 x5 x6 x7 x8 x9 x10 x11, a = .agg [x0, x1, x2, x3, x4, x5, x6, x7, x8, x9, x10, x11] ∧ IntAt H x8 Q.times ∧ [mk x0, mk x1, mk x2, mk x3, mk x4, mk x5, mk x6, mk x7, mk x9, mk x10, mk x11] = [.si .i64 Q.f, .si .i64 Q.t, .sb Q.back, .si .i64 Q.count, .si .i64 Q.kind, .si .i64 Q.size, .si .i64 Q.align, .sb Q.empty, .sb Q.vals, .si .i64 Q.low, .si .i64 Q.high]
section
variable {φ ψ : Ph} {H : AH} {n : Nat} {h0 hp : Hp}
theorem SubV.agg {m : Nat} {r : Nat → Nat} {l : List AV} (h : ∀ a ∈ l, SubV H m r a a) : SubV H m r (.agg l) (.agg l) := fun φ ψ v hren hroom hv => by
  obtain ⟨cs, rfl, h1⟩ := hv.agg_inv
  refine .agg ?_
  have key : ∀ (l : List AV) (vs : List Value), (∀ a ∈ l, SubV H m r a a) → VRs φ l vs → VRs ψ l vs := by
    intro l
    induction l with
    | nil => intro vs _ h; rw [h.nil_inv]; exact .nil
    | cons a l ih =>
      intro vs hl h
      obtain ⟨w, ws, rfl, h2, h3⟩ := h.cons_inv
      exact .cons (hl a List.mem_cons_self φ ψ w hren hroom h2) (ih ws (fun x hx => hl x (List.mem_cons_of_mem _ hx)) h3)
  exact key l _ h h1
theorem SubV.qry {m : Nat} {r : Nat → Nat} {b o cap k : Nat} {Q : Qry} (hb : b < m) (hr : r b = b) : SubV H m r (qAV b o cap k Q) (qAV b o cap k Q) := by
  refine SubV.agg fun a ha => ?_
  simp only [qCells, List.mem_cons, List.not_mem_nil, or_false] at ha
  rcases ha with rfl | rfl | rfl | rfl | rfl | rfl | rfl | rfl | rfl | rfl | rfl | rfl
  all_goals first | exact .same rfl | exact SubV.sy hb (by rw [hr]; rfl)
theorem SubV.qnil {m : Nat} {r : Nat → Nat} {Q : Qry} : SubV H m r (qNil Q) (qNil Q) := .same rfl
theorem SubV.qcell {m : Nat} {r : Nat → Nat} {b o cap k : Nat} {Q : Qry} (hb : b < m) (hr : r b = b) {a : AV} (ha : a ∈ qCells Q (.sy b o Q.times.length cap k)) : SubV H m r a a := by
  simp only [qCells, List.mem_cons, List.not_mem_nil, or_false] at ha
  rcases ha with rfl | rfl | rfl | rfl | rfl | rfl | rfl | rfl | rfl | rfl | rfl | rfl
  all_goals first | exact .same rfl | exact SubV.sy hb (by rw [hr]; rfl)
theorem SubO.qcells {m : Nat} {r : Nat → Nat} {b o cap k : Nat} {Q : Qry} {z : Bool} (hb : b < m) (hr : r b = b) : SubO H m r (.cells (qCells Q (.sy b o Q.times.length cap k)) z) (.cells (qCells Q (.sy b o Q.times.length cap k)) z) :=
  SubO.cells (Nat.le_refl _) (fun q => q) fun _ a' hi => ⟨a', hi, SubV.qcell hb hr (List.mem_of_getElem? hi)⟩
theorem SubO.qcellsn {m : Nat} {r : Nat → Nat} {Q : Qry} {z : Bool} : SubO H m r (.cells (qCells Q .nsl) z) (.cells (qCells Q .nsl) z) :=
  SubO.cells_mk rfl rfl (fun q => q)
theorem QryAt.core (_ : HR φ H n h0 hp) {a : AV} {Q : Qry} {v : Value} (hq : QryAt H a Q) (hv : VR φ a v) : ∃ a8 v8, IntAt H a8 Q.times ∧ VR φ a8 v8 ∧ ∀ (χ : Ph) (a : AV), VR χ a v8 → VR χ (.agg (qCells Q a)) v := by
  obtain ⟨x0, x1, x2, x3, x4, x5, x6, x7, x8, x9, x10, x11, rfl, hI, he⟩ := hq
  obtain ⟨cs, rfl, h1⟩ := hv.agg_inv
  obtain ⟨v0, l0, e0, a0, t0⟩ := h1.cons_inv
  obtain ⟨v1, l1, e1, a1, t1⟩ := t0.cons_inv
  obtain ⟨v2, l2, e2, a2, t2⟩ := t1.cons_inv
  obtain ⟨v3, l3, e3, a3, t3⟩ := t2.cons_inv
  obtain ⟨v4, l4, e4, a4, t4⟩ := t3.cons_inv
  obtain ⟨v5, l5, e5, a5, t5⟩ := t4.cons_inv
  obtain ⟨v6, l6, e6, a6, t6⟩ := t5.cons_inv
  obtain ⟨v7, l7, e7, a7, t7⟩ := t6.cons_inv
  obtain ⟨v8, l8, e8, a8, t8⟩ := t7.cons_inv
  obtain ⟨v9, l9, e9, a9, t9⟩ := t8.cons_inv
  obtain ⟨v10, l10, e10, a10, t10⟩ := t9.cons_inv
  obtain ⟨v11, l11, e11, a11, t11⟩ := t10.cons_inv
  have e12 := t11.nil_inv
  subst e12 e11 e10 e9 e8 e7 e6 e5 e4 e3 e2 e1
  simp only [List.cons.injEq, and_true] at he
  obtain ⟨m0, m1, m2, m3, m4, m5, m6, m7, m9, m10, m11⟩ := he
  have q0 := m0 ▸ a0.mk
  have q1 := m1 ▸ a1.mk
  have q2 := m2 ▸ a2.mk
  have q3 := m3 ▸ a3.mk
  have q4 := m4 ▸ a4.mk
  have q5 := m5 ▸ a5.mk
  have q6 := m6 ▸ a6.mk
  have q7 := m7 ▸ a7.mk
  have q9 := m9 ▸ a9.mk
  have q10 := m10 ▸ a10.mk
  have q11 := m11 ▸ a11.mk
  have key : ∀ (χ : Ph) (a : AV), VR χ a v8 → VR χ (.agg (qCells Q a)) (.agg cs) := fun χ a ha => by
    refine .agg ?_
    rw [e0]
    exact .cons (flat1_VR rfl q0) (.cons (flat1_VR rfl q1) (.cons (flat1_VR rfl q2) (.cons (flat1_VR rfl q3) (.cons (flat1_VR rfl q4) (.cons (flat1_VR rfl q5) (.cons (flat1_VR rfl q6) (.cons (flat1_VR rfl q7) (.cons ha (.cons (flat1_VR rfl q9) (.cons (flat1_VR rfl q10) (.cons (flat1_VR rfl q11) .nil)))))))))))
  exact ⟨x8, v8, hI, a8, key⟩
/-- A query's value, seen from a memory of its own. -/
theorem QryAt.open (hr : HR φ H n h0 hp) {a : AV} {Q : Qry} {v : Value} (hq : QryAt H a Q) (hv : VR φ a v) : (Q.times = [] ∧ ∀ χ, VR χ (qNil Q) v) ∨ ∃ p C, RoAt hp p (ints Q.times) ∧ ∀ χ b, χ b = some p → VR χ (qAV b 0 C 0 Q) v := by
  obtain ⟨a8, v8, hI, h8, key⟩ := hq.core hr hv
  rcases hI.open hr h8 with ⟨hn, hx⟩ | ⟨p, C, hro, hx⟩
  · exact .inl ⟨hn, fun χ => key χ .nsl (hx χ)⟩
  · exact .inr ⟨p, C, hro, fun χ b hχ => key χ _ (hx χ b hχ)⟩
def tupE (e : Int) (r : AV) : AV := .tup [r, .si .i64 e]
/-- What a run yields: a row and a number. -/
def RowNum (R : Smp) (e : Int) (u : AV) (H' : AH) : Prop := ∃ r w, u = .tup [r, w] ∧ mk w = .si .i64 e ∧ NewRowG R r H'
theorem tup2 {a b c d : AV} {v : Value} {χ : Ph} (h : VR ψ (.tup [a, b]) v) (hb : mk b = d) (hd : flat.flat1 d = true) : ∃ x y, v = .tuple #[x, y] ∧ VR ψ a x ∧ (VR χ c x → VR χ (.tup [c, d]) v) := by
  obtain ⟨cs, rfl, h1⟩ := h.tup_inv
  obtain ⟨x, y, rfl, h2, h3⟩ := vs2 h1
  exact ⟨x, y, rfl, h2, fun hc => .tup (.cons hc (.cons (flat1_VR hd (hb ▸ h3.mk)) .nil))⟩
theorem smallNewE {F : FuncId → EP} (hF : TabP F) {d : Nat} {f : FuncId} {args0 : List AV} {H0 : AH} {n0 : Nat} {R : Smp} {e : Int} {P : AV → AH → Prop} (hP : ∀ u H', P u H' → RowNum R e u H') (hrun : callT F d f args0 H0 n0 fun u H' _ => P u H')
    {vs : Array Value} {κ : PK} {K : KH} (hs : RowPW (tupE e) R H n κ) (hr : HR φ H n h0 hp) (hk : ThenP φ h0 κ K) (hic : isCall Try.prog f = true) {φ0 : Ph} (hr0 : Wf hp → HR φ0 H0 n0 hp hp) (hargs : VRs φ0 args0 vs.toList) : CallF Try.prog f vs hp K := by
  have key : Wf hp → CallF Try.prog f vs hp K := fun hw => callT_sound (by kernel_rfl) hF d f args0 H0 n0 _ hrun φ0 hp hp vs K (hr0 hw) hargs fun ψ u H' n' w g _ hg hu he => by
    have hg2 : HR φ H n h0 g := hr.grow (fun b o hb => (hg.base b o hb).2) hg.size
    obtain ⟨r, w2, rfl, hw2, hn⟩ := hP _ _ he
    obtain ⟨x, y, rfl, h1, _⟩ := tup2 (c := .nsl) (χ := φ) hu hw2 rfl
    obtain ⟨χ, h3, h4, h5⟩ := newRow_use hr hg h1 hn
    obtain ⟨x', y', e2, _, h7⟩ := tup2 (c := .rw n 0 R.length 2 0) (χ := χ) hu hw2 rfl
    injection e2 with e2
    have e3 : x = x' := by have := congrArg (fun z : Array Value => z[0]?) e2; simpa using this
    subst e3
    exact hk χ _ _ _ _ g h3 h4 (h7 h5) hs.2
  exact ⟨hic, fun w hi => (key hi.wf).2 w hi⟩
end
/-! ### functions -/
/-- Of a query: a number. -/
def natQI (f : Qry → Int) (args : List AV) (H : AH) (n : Nat) (κ : PK) : Prop := match args with
  | [q] => ∃ Q, QryAt H q Q ∧ κ (.si .i64 (f Q)) H n
  | _ => False
theorem singQI {f : Qry → Int} : SingG (natQI f) := .pure fun args H n κ hs => by
  unfold natQI at *
  split at hs
  · obtain ⟨Q, h1, h2⟩ := hs
    exact ⟨_, h2, fun κ' h => ⟨Q, h1, h⟩⟩
  · exact hs.elim
theorem natQI_ok {F : FuncId → EP} (hF : TabP F) {d : Nat} {f : FuncId} {g : Qry → Int} (hic : isCall Try.prog f = true) (h0 : ∀ Q : Qry, Q.times = [] → callT F d f [qNil Q] .nil 0 fun u _ _ => mkT u = mkT (.int .i64 (g Q)))
    (h1 : ∀ (Q : Qry) cap, callT F d f [qAV 0 0 cap 0 Q] (mkH [(0, .ro (ints Q.times))]) 1 fun u _ _ => mkT u = mkT (.int .i64 (g Q))) : NatP f (natQI g) := fun args H n κ hs φ h0' hp vs K hr hargs hk => by
  unfold natQI at hs
  split at hs
  · obtain ⟨x, rfl, e1⟩ := vs1 hargs
    obtain ⟨Q, hq, hs⟩ := hs
    rcases hq.open hr e1 with ⟨hn, hv⟩ | ⟨p, C, hro, hv⟩
    · exact smallN (v := .int .i64 (g Q)) hF rfl (h0 Q hn) hs hr hk hic HR.ro0 (.cons (hv _) .nil)
    · exact smallN (v := .int .i64 (g Q)) hF rfl (h1 Q C) hs hr hk hic (fun hw => HR.ro1 hw hro) (.cons (hv _ 0 rfl) .nil)
  · exact hs.elim
/-- A sample. -/
def PairAt (x : AV) (t v : Int) : Prop := ∃ a b, x = .agg [a, b] ∧ mk a = .si .i64 t ∧ mk b = .si .i64 v
theorem PairAt.open {φ : Ph} {x : AV} {t v : Int} {w : Value} (h : PairAt x t v) (hv : VR φ x w) (χ : Ph) : VR χ (.agg [.si .i64 t, .si .i64 v]) w := by
  obtain ⟨a, b, rfl, h1, h2⟩ := h
  obtain ⟨cs, rfl, h3⟩ := hv.agg_inv
  obtain ⟨y, z, rfl, h4, h5⟩ := vs2 h3
  exact .agg (.cons (flat1_VR rfl (h1 ▸ h4.mk)) (.cons (flat1_VR rfl (h2 ▸ h5.mk)) .nil))
/-- Of a query and a sample: a truth. -/
def natQX (f : Qry → Int × Int → Bool) (args : List AV) (H : AH) (n : Nat) (κ : PK) : Prop := match args with
  | [q, x] => ∃ Q t v, QryAt H q Q ∧ PairAt x t v ∧ Q.times.length ≤ 1000000 ∧ κ (.sb (f Q (t, v))) H n
  | _ => False
theorem singQX {f : Qry → Int × Int → Bool} : SingG (natQX f) := .pure fun args H n κ hs => by
  unfold natQX at *
  split at hs
  · obtain ⟨Q, t, v, h1, h2, h4, h3⟩ := hs
    exact ⟨_, h3, fun κ' h => ⟨Q, t, v, h1, h2, h4, h⟩⟩
  · exact hs.elim
theorem natQX_ok {F : FuncId → EP} (hF : TabP F) {d : Nat} {f : FuncId} {g : Qry → Int × Int → Bool} (hic : isCall Try.prog f = true) (h0 : ∀ (Q : Qry) t v, Q.times = [] → callT F d f [qNil Q, .agg [.si .i64 t, .si .i64 v]] .nil 0 fun u _ _ => mkT u = mkT (.bool (g Q (t, v))))
    (h1 : ∀ (Q : Qry) t v cap, Q.times.length ≤ 1000000 → callT F d f [qAV 0 0 cap 0 Q, .agg [.si .i64 t, .si .i64 v]] (mkH [(0, .ro (ints Q.times))]) 1 fun u _ _ => mkT u = mkT (.bool (g Q (t, v)))) : NatP f (natQX g) := fun args H n κ hs φ h0' hp vs K hr hargs hk => by
  unfold natQX at hs
  split at hs
  · obtain ⟨x, y, rfl, e1, e2⟩ := vs2 hargs
    obtain ⟨Q, t, v, hq, hx, hlen, hs⟩ := hs
    rcases hq.open hr e1 with ⟨hn, hv⟩ | ⟨p, C, hro, hv⟩
    · exact smallN (v := .bool (g Q (t, v))) hF rfl (h0 Q t v hn) hs hr hk hic HR.ro0 (.cons (hv _) (.cons (hx.open e2 _) .nil))
    · exact smallN (v := .bool (g Q (t, v))) hF rfl (h1 Q t v C hlen) hs hr hk hic (fun hw => HR.ro1 hw hro) (.cons (hv _ 0 rfl) (.cons (hx.open e2 _) .nil))
  · exact hs.elim
/-- Of two numbers and samples: a truth. -/
def natB2 (B : Nat) (f : Int → Int → Smp → Bool) (args : List AV) (H : AH) (n : Nat) (κ : PK) : Prop := match args with
  | [x, y, l] => asI x fun s => asI y fun a => ∃ L, SmpAt H l L ∧ L.length ≤ B ∧ κ (.sb (f s a L)) H n
  | _ => False
theorem singB2 {B : Nat} {f : Int → Int → Smp → Bool} : SingG (natB2 B f) := .pure fun args H n κ hs => by
  unfold natB2 at *
  split at hs
  · obtain ⟨x, h1, k1⟩ := asI_sing hs
    obtain ⟨y, ⟨L, h2, h3, h4⟩, k2⟩ := asI_sing h1
    exact ⟨_, h4, fun κ' h => k1 _ (k2 _ ⟨L, h2, h3, h⟩)⟩
  · exact hs.elim
theorem natB2_ok {B : Nat} {F : FuncId → EP} (hF : TabP F) {d : Nat} {f : FuncId} {g : Int → Int → Smp → Bool} (hic : isCall Try.prog f = true) (h0 : ∀ s a, callT F d f [.si .i64 s, .si .i64 a, .nsl] .nil 0 fun u _ _ => mkT u = mkT (.bool (g s a [])))
    (h1 : ∀ s a L cap, L.length ≤ B → callT F d f [.si .i64 s, .si .i64 a, .sy 0 0 L.length cap 0] (mkH [(0, .ro (smp L))]) 1 fun u _ _ => mkT u = mkT (.bool (g s a L))) : NatP f (natB2 B g) := fun args H n κ hs φ h0' hp vs K hr hargs hk => by
  unfold natB2 at hs
  split at hs
  · obtain ⟨v1, v2, v3, rfl, hv1, hv2, hv3⟩ := vs3 hargs
    obtain ⟨s, hv1, hs⟩ := asI_si hv1 hs
    obtain ⟨a, hv2, L, hS, hL, hs⟩ := asI_si hv2 hs
    rcases hS.open hr hv3 with ⟨rfl, hv⟩ | ⟨p, C, _, hro, hv⟩
    · exact smallN (v := .bool (g s a [])) hF rfl (h0 s a) hs hr hk hic HR.ro0 (.cons (by rw [hv1.si_inv]; exact .si _ _) (.cons (by rw [hv2.si_inv]; exact .si _ _) (.cons (hv _) .nil)))
    · exact smallN (v := .bool (g s a L)) hF rfl (h1 s a L C hL) hs hr hk hic (fun hw => HR.ro1 hw hro) (.cons (by rw [hv1.si_inv]; exact .si _ _) (.cons (by rw [hv2.si_inv]; exact .si _ _) (.cons (hv _ 0 rfl) .nil)))
  · exact hs.elim
/-- Of samples: samples. -/
def natS1 (B : Nat) (f : Smp → Smp) (args : List AV) (H : AH) (n : Nat) (κ : PK) : Prop := match args with
  | [l] => ∃ L, SmpAt H l L ∧ L.length ≤ B ∧ RowPW (fun r => r) (f L) H n κ
  | _ => False
theorem singS1 {B : Nat} {f : Smp → Smp} : SingG (natS1 B f) := fun args H n κ hs => by
  unfold natS1 at *
  split at hs
  · obtain ⟨L, h1, h2, h3⟩ := hs
    obtain ⟨v, H', n', h6, h7, h8, h9⟩ := h3.sing
    exact ⟨v, H', n', h6, h7, h8, fun κ' k => ⟨L, h1, h2, h9 κ' k⟩⟩
  · exact hs.elim
theorem natS1_ok {B : Nat} {F : FuncId → EP} (hF : TabP F) {d : Nat} {f : FuncId} {g : Smp → Smp} (hic : isCall Try.prog f = true) (h0 : callT F d f [.nsl] .nil 0 fun u H' _ => NewRowG (g []) u H')
    (h1 : ∀ L cap, L.length ≤ B → callT F d f [.sy 0 0 L.length cap 0] (mkH [(0, .ro (smp L))]) 1 fun u H' _ => NewRowG (g L) u H') : NatP f (natS1 B g) := fun args H n κ hs φ h0' hp vs K hr hargs hk => by
  unfold natS1 at hs
  split at hs
  · obtain ⟨x, rfl, e1⟩ := vs1 hargs
    obtain ⟨L, hS, hL, hs⟩ := hs
    rcases hS.open hr e1 with ⟨rfl, hv⟩ | ⟨p, C, _, hro, hv⟩
    · exact smallNew1 hF (fun _ _ h => h) h0 hs hr hk hic HR.ro0 (.cons (hv _) .nil)
    · exact smallNew1 hF (fun _ _ h => h) (h1 L C hL) hs hr hk hic (fun hw => HR.ro1 hw hro) (.cons (hv _ 0 rfl) .nil)
  · exact hs.elim
/-- Of three numbers and samples: samples and a number. -/
def natFl (B : Nat) (f : Int → Int → Int → Smp → Smp × Int) (args : List AV) (H : AH) (n : Nat) (κ : PK) : Prop := match args with
  | [x, y, z, l] => asI x fun k => asI y fun s => asI z fun a => ∃ L, SmpAt H l L ∧ L.length ≤ B ∧ RowPW (tupE (f k s a L).2) (f k s a L).1 H n κ
  | _ => False
theorem singFl {B : Nat} {f : Int → Int → Int → Smp → Smp × Int} : SingG (natFl B f) := fun args H n κ hs => by
  unfold natFl at *
  split at hs
  · obtain ⟨x, h1, k1⟩ := asI_sing hs
    obtain ⟨y, h2, k2⟩ := asI_sing h1
    obtain ⟨z, ⟨L, h3, h4, h5⟩, k3⟩ := asI_sing h2
    obtain ⟨v, H', n', h6, h7, h8, h9⟩ := h5.sing
    exact ⟨v, H', n', h6, h7, h8, fun κ' k => k1 _ (k2 _ (k3 _ ⟨L, h3, h4, h9 κ' k⟩))⟩
  · exact hs.elim
theorem vs4 {φ : Ph} {a b c d : AV} {vs : Array Value} (h : VRs φ [a, b, c, d] vs.toList) : ∃ x y z w, vs = #[x, y, z, w] ∧ VR φ a x ∧ VR φ b y ∧ VR φ c z ∧ VR φ d w := by
  obtain ⟨x, l1, e1, h1, h2⟩ := h.cons_inv
  obtain ⟨y, l2, e2, h3, h4⟩ := h2.cons_inv
  obtain ⟨z, l3, e3, h5, h6⟩ := h4.cons_inv
  obtain ⟨w, l4, e4, h7, h8⟩ := h6.cons_inv
  have := h8.nil_inv
  subst this e4 e3 e2
  exact ⟨x, y, z, w, by cases vs; simp_all, h1, h3, h5, h7⟩
theorem natFl_ok {B : Nat} {F : FuncId → EP} (hF : TabP F) {d : Nat} {f : FuncId} {g : Int → Int → Int → Smp → Smp × Int} (hic : isCall Try.prog f = true) (h0 : ∀ k s a, callT F d f [.si .i64 k, .si .i64 s, .si .i64 a, .nsl] .nil 0 fun u H' _ => RowNum (g k s a []).1 (g k s a []).2 u H')
    (h1 : ∀ k s a L cap, L.length ≤ B → L.length ≤ cap → callT F d f [.si .i64 k, .si .i64 s, .si .i64 a, .sy 0 0 L.length cap 0] (mkH [(0, .ro (smp L))]) 1 fun u H' _ => RowNum (g k s a L).1 (g k s a L).2 u H') : NatP f (natFl B g) := fun args H n κ hs φ h0' hp vs K hr hargs hk => by
  unfold natFl at hs
  split at hs
  · obtain ⟨v1, v2, v3, v4, rfl, hv1, hv2, hv3, hv4⟩ := vs4 hargs
    obtain ⟨k, hv1, hs⟩ := asI_si hv1 hs
    obtain ⟨s, hv2, hs⟩ := asI_si hv2 hs
    obtain ⟨a, hv3, L, hS, hL, hs⟩ := asI_si hv3 hs
    have t3 : ∀ (χ : Ph) (x : AV), VR χ x v4 → VRs χ [.si .i64 k, .si .i64 s, .si .i64 a, x] [v1, v2, v3, v4] := fun χ x hx => .cons (by rw [hv1.si_inv]; exact .si _ _) (.cons (by rw [hv2.si_inv]; exact .si _ _) (.cons (by rw [hv3.si_inv]; exact .si _ _) (.cons hx .nil)))
    rcases hS.open hr hv4 with ⟨rfl, hv⟩ | ⟨p, C, hC, hro, hv⟩
    · exact smallNewE hF (fun _ _ h => h) (h0 k s a) hs hr hk hic HR.ro0 (t3 _ _ (hv _))
    · exact smallNewE hF (fun _ _ h => h) (h1 k s a L C hL hC) hs hr hk hic (fun hw => HR.ro1 hw hro) (t3 _ _ (hv _ 0 rfl))
  · exact hs.elim
/-- .. which may yield its samples as they are. -/
def natFa (B : Nat) (al : Int → Int → Int → Smp → Bool) (f : Int → Int → Int → Smp → Smp × Int) (args : List AV) (H : AH) (n : Nat) (κ : PK) : Prop := match args with
  | [x, y, z, l] => asI x fun k => asI y fun s => asI z fun a => ∃ L, SmpAt H l L ∧ L.length ≤ B ∧ ((al k s a L = true → κ (tupE 0 l) H n) ∧ (al k s a L = false → RowPW (tupE (f k s a L).2) (f k s a L).1 H n κ))
  | _ => False
theorem singFa {B : Nat} {al : Int → Int → Int → Smp → Bool} {f : Int → Int → Int → Smp → Smp × Int} : SingG (natFa B al f) := fun args H n κ hs => by
  unfold natFa at *
  split at hs
  · obtain ⟨x, h1, k1⟩ := asI_sing hs
    obtain ⟨y, h2, k2⟩ := asI_sing h1
    obtain ⟨z, ⟨L, h3, h4, h5, h5'⟩, k3⟩ := asI_sing h2
    cases ha : al x y z L with
    | true => exact ⟨_, H, n, h5 ha, .refl _, Nat.le_refl _, fun κ' k => k1 _ (k2 _ (k3 _ ⟨L, h3, h4, ⟨fun _ => k, fun q => absurd (ha.symm.trans q) (by decide)⟩⟩))⟩
    | false =>
      obtain ⟨v, H', n', h6, h7, h8, h9⟩ := (h5' ha).sing
      exact ⟨v, H', n', h6, h7, h8, fun κ' k => k1 _ (k2 _ (k3 _ ⟨L, h3, h4, ⟨fun q => absurd (ha.symm.trans q) (by decide), fun _ => h9 κ' k⟩⟩))⟩
  · exact hs.elim
theorem natFa_ok {B : Nat} {F : FuncId → EP} (hF : TabP F) {d : Nat} {f : FuncId} {al : Int → Int → Int → Smp → Bool} {g : Int → Int → Int → Smp → Smp × Int} (hic : isCall Try.prog f = true)
    (h0 : ∀ k s a, callT F d f [.si .i64 k, .si .i64 s, .si .i64 a, .nsl] .nil 0 fun u H' _ => (al k s a [] = true ∧ ∃ r w, u = .tup [r, w] ∧ mk w = .si .i64 0 ∧ r = .nsl) ∨ (al k s a [] = false ∧ RowNum (g k s a []).1 (g k s a []).2 u H'))
    (h1 : ∀ k s a L cap, L.length ≤ B → L.length ≤ cap → callT F d f [.si .i64 k, .si .i64 s, .si .i64 a, .sy 0 0 L.length cap 0] (mkH [(0, .ro (smp L))]) 1 fun u H' _ => (al k s a L = true ∧ ∃ r w, u = .tup [r, w] ∧ mk w = .si .i64 0 ∧ r = .sy 0 0 L.length cap 0) ∨ (al k s a L = false ∧ RowNum (g k s a L).1 (g k s a L).2 u H')) : NatP f (natFa B al g) := fun args H n κ hs φ h0' hp vs K hr hargs hk => by
  unfold natFa at hs
  split at hs
  · obtain ⟨v1, v2, v3, v4, rfl, hv1, hv2, hv3, hv4⟩ := vs4 hargs
    rename_i xx yy zz ll
    obtain ⟨k, hv1, hs⟩ := asI_si hv1 hs
    obtain ⟨s, hv2, hs⟩ := asI_si hv2 hs
    obtain ⟨a, hv3, L, hS, hL, hs1, hs2⟩ := asI_si hv3 hs
    have t3 : ∀ (χ : Ph) (x : AV), VR χ x v4 → VRs χ [.si .i64 k, .si .i64 s, .si .i64 a, x] [v1, v2, v3, v4] := fun χ x hx => .cons (by rw [hv1.si_inv]; exact .si _ _) (.cons (by rw [hv2.si_inv]; exact .si _ _) (.cons (by rw [hv3.si_inv]; exact .si _ _) (.cons hx .nil)))
    have core : ∀ (args0 : List AV) (H0 : AH) (n0 : Nat) (φ0 : Ph) (r0 : AV) (hr0 : Wf hp → HR φ0 H0 n0 hp hp), VRs φ0 args0 [v1, v2, v3, v4] → (∀ (ψ : Ph) w, PLe φ0 ψ → VR ψ r0 w → w = v4) → (callT F d f args0 H0 n0 fun u H' _ => (al k s a L = true ∧ ∃ r w, u = .tup [r, w] ∧ mk w = .si .i64 0 ∧ r = r0) ∨ (al k s a L = false ∧ RowNum (g k s a L).1 (g k s a L).2 u H')) → CallF Try.prog f #[v1, v2, v3, v4] hp K := fun args0 H0 n0 φ0 r0 hr0 hargs hsame hrun => by
      cases ha : al k s a L with
      | true =>
        have key : Wf hp → CallF Try.prog f #[v1, v2, v3, v4] hp K := fun hw => callT_sound (by kernel_rfl) hF d f args0 H0 n0 _ hrun φ0 hp hp #[v1, v2, v3, v4] K (hr0 hw) hargs fun ψ u H' n' w g _ hg hu he => by
          have hg2 : HR φ H n h0' g := hr.grow (fun b o hb => (hg.base b o hb).2) hg.size
          rcases he with ⟨_, r, w2, rfl, hw2, rfl⟩ | ⟨h, _⟩
          · obtain ⟨x, y, rfl, h1, h2⟩ := tup2 (c := ll) (χ := φ) hu hw2 rfl
            have := hsame ψ x (by assumption) h1
            subst this
            exact hk φ _ H n _ g (PLe.refl _) hg2 (h2 hv4) (hs1 ha)
          · rw [ha] at h; cases h
        exact ⟨hic, fun w hi => (key hi.wf).2 w hi⟩
      | false =>
        refine smallNewE hF (fun u H' h => ?_) hrun (hs2 ha) hr hk hic hr0 hargs
        rcases h with ⟨h, _⟩ | ⟨_, h⟩
        · rw [ha] at h; cases h
        · exact h
    rcases hS.open hr hv4 with ⟨rfl, hv⟩ | ⟨p, C, hC, hro, hv⟩
    · exact core _ _ _ _ .nsl HR.ro0 (t3 _ _ (hv _)) (fun ψ w _ hw => by rw [hw.nsl_inv, (hv φ).nsl_inv]) (h0 k s a)
    · exact core _ _ _ _ (.sy 0 0 L.length C 0) (fun hw => HR.ro1 hw hro) (t3 _ _ (hv _ 0 rfl)) (fun ψ w hle hw => by
        obtain ⟨p1, C1, g1, g2, g3, _⟩ := (hv (ph1 p) 0 rfl).sy_inv
        obtain ⟨p2, C2, f1, f2, f3, _⟩ := hw.sy_inv
        rw [hle _ _ g1] at f1
        injection f1 with f1
        subst f1
        rw [f2, g2, f3 rfl, g3 rfl]) (h1 k s a L C hL hC)
  · exact hs.elim
/-- Of samples and a query: samples and a number. -/
def natTl (B : Nat) (f : Smp → Qry → Smp × Int) (args : List AV) (H : AH) (n : Nat) (κ : PK) : Prop := match args with
  | [l, q] => ∃ L Q, SmpAt H l L ∧ QryAt H q Q ∧ L.length ≤ B ∧ Q.times.length ≤ 1000000 ∧ RowPW (tupE (f L Q).2) (f L Q).1 H n κ
  | _ => False
theorem singTl {B : Nat} {f : Smp → Qry → Smp × Int} : SingG (natTl B f) := fun args H n κ hs => by
  unfold natTl at *
  split at hs
  · obtain ⟨L, Q, h1, h2, h3, h4, h5⟩ := hs
    obtain ⟨v, H', n', h6, h7, h8, h9⟩ := h5.sing
    exact ⟨v, H', n', h6, h7, h8, fun κ' k => ⟨L, Q, h1, h2, h3, h4, h9 κ' k⟩⟩
  · exact hs.elim
theorem natTl_ok {B : Nat} {F : FuncId → EP} (hF : TabP F) {d : Nat} {f : FuncId} {g : Smp → Qry → Smp × Int} (hic : isCall Try.prog f = true) (h00 : ∀ Q : Qry, Q.times = [] → callT F d f [.nsl, qNil Q] .nil 0 fun u H' _ => RowNum (g [] Q).1 (g [] Q).2 u H')
    (h01 : ∀ (Q : Qry) c2, Q.times.length ≤ 1000000 → callT F d f [.nsl, qAV 0 0 c2 0 Q] (mkH [(0, .ro (ints Q.times))]) 1 fun u H' _ => RowNum (g [] Q).1 (g [] Q).2 u H')
    (h10 : ∀ L (Q : Qry) c1, Q.times = [] → L.length ≤ B → L.length ≤ c1 → callT F d f [.sy 0 0 L.length c1 0, qNil Q] (mkH [(0, .ro (smp L))]) 1 fun u H' _ => RowNum (g L Q).1 (g L Q).2 u H')
    (h11 : ∀ L (Q : Qry) c1 c2, L.length ≤ B → L.length ≤ c1 → Q.times.length ≤ 1000000 → callT F d f [.sy 0 0 L.length c1 0, qAV 1 0 c2 0 Q] (mkH [(0, .ro (smp L)), (1, .ro (ints Q.times))]) 2 fun u H' _ => RowNum (g L Q).1 (g L Q).2 u H') : NatP f (natTl B g) := fun args H n κ hs φ h0' hp vs K hr hargs hk => by
  unfold natTl at hs
  split at hs
  · obtain ⟨x, y, rfl, e1, e2⟩ := vs2 hargs
    obtain ⟨L, Q, hS, hq, hL, hT, hs⟩ := hs
    rcases hS.open hr e1 with ⟨rfl, hv⟩ | ⟨p, C, hC, hro, hv⟩ <;> rcases hq.open hr e2 with ⟨hn, hw⟩ | ⟨p', C', hro', hw⟩
    · exact smallNewE hF (fun _ _ h => h) (h00 Q hn) hs hr hk hic HR.ro0 (.cons (hv _) (.cons (hw _) .nil))
    · exact smallNewE hF (fun _ _ h => h) (h01 Q C' hT) hs hr hk hic (fun hw => HR.ro1 hw hro') (.cons (hv _) (.cons (hw _ 0 rfl) .nil))
    · exact smallNewE hF (fun _ _ h => h) (h10 L Q C hn hL hC) hs hr hk hic (fun hw => HR.ro1 hw hro) (.cons (hv _ 0 rfl) (.cons (hw _) .nil))
    · exact smallNewE hF (fun _ _ h => h) (h11 L Q C C' hL hC hT) hs hr hk hic (fun hw => HR.ro2 hw hro hro') (.cons (hv _ 0 rfl) (.cons (hw _ 1 rfl) .nil))
  · exact hs.elim
end Go.Proofs.Ytkhfdjhohfebgaa
namespace Go.Proofs.Ytkhfdjhohfebgaa
open Go Go.RowKit
set_option maxRecDepth 20000
section
variable {φ ψ : Ph} {H : AH} {n : Nat} {h0 hp : Hp}
/-- What is looked at lies at a place, or there is none of it. -/
def RoO (hp : Hp) (p : Option Pl) (l : List AV) : Prop := match p with
  | none => l = []
  | some p => RoAt hp p l
def pho (ps : List (Option Pl)) : Ph := ⟨fun b => (ps[b]?).getD none, fun _ => False, fun _ => False⟩
def memR (ls : List (List AV)) (k : Nat) : List (Nat × AO) := match ls with
  | [] => []
  | l :: ls => (k, .ro l) :: memR ls (k + 1)
theorem memR_mem : ∀ {ls : List (List AV)} {k b : Nat} {o : AO}, (b, o) ∈ memR ls k → ∃ i l, b = k + i ∧ ls[i]? = some l ∧ o = .ro l
  | [], k, b, o, h => by cases h
  | l :: ls, k, b, o, h => by
    rcases List.mem_cons.1 h with h | h
    · injection h with h1 h2; exact ⟨0, l, h1, rfl, h2⟩
    · obtain ⟨i, l', h1, h2, h3⟩ := memR_mem h
      exact ⟨i + 1, l', by omega, h2, h3⟩
theorem HR.ros (hw : Wf hp) {ps : List (Option Pl)} {ls : List (List AV)} (hl : ps.length = ls.length) (h : ∀ (i : Nat) p l, ps[i]? = some p → ls[i]? = some l → RoO hp p l) : HR (pho ps) (mkH (memR ls 0)) ps.length hp hp := by
  refine ⟨fun b q e => ?_, fun b o e => ?_, fun b b' o o' q q' e _ hw' => ?_, fun b o e => ⟨hw b o e, e⟩, Nat.le_refl _, fun _ k => k.elim⟩
  · simp only [pho] at e
    cases hb : ps[b]? with
    | none => rw [hb] at e; cases e
    | some p =>
      rw [hb] at e
      have e : p = some q := e
      subst e
      have hlt := (List.getElem?_eq_some_iff.1 hb).1
      obtain ⟨c, t, fz, h1, _⟩ := h b (some q) _ hb (List.getElem?_eq_getElem (by omega))
      exact ⟨hlt, hw _ _ h1⟩
  · obtain ⟨i, l, hb, hl2, rfl⟩ := memR_mem (mkH_get e)
    have hb : b = i := by omega
    subst hb
    have hlt := (List.getElem?_eq_some_iff.1 hl2).1
    have h2 := h b _ l (List.getElem?_eq_getElem (by omega)) hl2
    have hφ : pho ps b = ps[b]'(by omega) := by simp only [pho]; rw [List.getElem?_eq_getElem (by omega)]; rfl
    cases hp2 : ps[b]'(by omega) with
    | none =>
      rw [hp2] at h2 hφ
      have h2 : l = [] := h2
      subst h2
      exact .inl ⟨hφ, rfl⟩
    | some p =>
      rw [hp2] at h2 hφ
      obtain ⟨c, t, fz, h1, h3, h4, h5⟩ := h2
      exact .inr ⟨p, _, hφ, h1, h1, c, t, fz, rfl, h3, h4, h5 _⟩
  · obtain ⟨i, l, _, _, rfl⟩ := memR_mem (mkH_get e)
    cases hw'
theorem HR.rosE (hw : Wf hp) {φ0 : Ph} {M : List (Nat × AO)} {m : Nat} {ps : List (Option Pl)} {ls : List (List AV)} (hl : ps.length = ls.length) (h : ∀ (i : Nat) p l, ps[i]? = some p → ls[i]? = some l → RoO hp p l) (e1 : φ0 = pho ps) (e2 : M = memR ls 0) (e3 : m = ps.length) : HR φ0 (mkH M) m hp hp := by
  subst e1 e2 e3; exact HR.ros hw hl h
theorem ros1 {p : Option Pl} {l : List AV} (h : RoO hp p l) : ∀ (i : Nat) q m, [p][i]? = some q → [l][i]? = some m → RoO hp q m := fun i q m h1 h2 => by
  cases i with
  | zero => injection h1 with h1; injection h2 with h2; subst h1 h2; exact h
  | succ i => simp at h1
theorem ros2 {p q : Option Pl} {l m : List AV} (h : RoO hp p l) (k : RoO hp q m) : ∀ (i : Nat) r s, [p, q][i]? = some r → [l, m][i]? = some s → RoO hp r s := fun i r s h1 h2 => by
  cases i with
  | zero => injection h1 with h1; injection h2 with h2; subst h1 h2; exact h
  | succ i => exact ros1 k i r s h1 h2
theorem ros3 {p q r : Option Pl} {l m o : List AV} (h : RoO hp p l) (k : RoO hp q m) (j : RoO hp r o) : ∀ (i : Nat) x s, [p, q, r][i]? = some x → [l, m, o][i]? = some s → RoO hp x s := fun i x s h1 h2 => by
  cases i with
  | zero => injection h1 with h1; injection h2 with h2; subst h1 h2; exact h
  | succ i => exact ros2 k j i x s h1 h2
/-- A row, as one that may be none. -/
theorem row_open (hr : HR φ H n h0 hp) {a : AV} {v : Value} {es m : Nat} {l : List AV} (hl : l.all flat.flat1 = true) (hm : l.length = m * es) (hes : es ≠ 0) (hv : VR φ a v)
    (hS : (hd a = .nsl ∧ m = 0) ∨ ((∃ b o x l' r, (a = .rw b o m es x ∧ x ≠ 4) ∧ (H.get b = some (.ro l') ∨ ∃ z, H.get b = some (.cells l' z)) ∧ subL l' o (m * es) = some r ∧ r.map mk = l.map mk) ∨ ∃ l', a = .fr m es l' ∧ l'.map mk = l.map mk ∧ m ≠ 0) ∨ ∃ b o c k l' r, hd a = .sl b o m c k ∧ (H.get b = some (.ro l') ∨ ∃ z, H.get b = some (.cells l' z)) ∧ subL l' o (m * es) = some r ∧ r.map mk = l.map mk ∧ m ≤ c) :
    ∃ po, RoO hp po l ∧ ∀ χ b, χ b = po → VR χ (.rw b 0 m es 2) v := by
  have emp : m = 0 → l = [] := fun q => List.eq_nil_of_length_eq_zero (by rw [hm, q, Nat.zero_mul])
  rcases hS with ⟨ey, h0⟩ | (⟨b, o, x, l', r, ⟨rfl, hx4⟩, hb, hsub, hmk⟩ | ⟨l', rfl, hmk, hne⟩) | ⟨b, o, c, kk, l', r, ey, hb, hsub, hmk, hlc⟩
  · have e6 := hv.hd
    rw [ey] at e6
    exact ⟨none, emp h0, fun χ b _ => by rw [e6.nsl_inv, h0]; exact .rwn⟩
  · rcases hv.rw_inv with ⟨h1, hem⟩ | ⟨p, y, C, hpb, rfl, h2, h3, h4, h5, _, _⟩
    · have := hem.nil hx4
      subst this
      exact ⟨none, emp h1, fun χ b _ => by rw [h1]; exact .rwn⟩
    · by_cases hm0 : m = 0
      · have := emp hm0
        subst this
        exact ⟨some ⟨p.B, y, 0⟩, RoAt.emp hr hb hpb h3 (by rw [hm0, Nat.zero_mul] at h5; exact h5), fun χ b hχ => .rwx (p := ⟨p.B, y, 0⟩) hχ (fun q => absurd hm0 q) (Nat.le_refl _) h4 (by rw [hm0, Nat.zero_mul]; exact Nat.le_refl _) (fun q => by omega) (fun q => by cases q)⟩
      · have := h2 hm0
        subst this
        have hro := RoAt.of (s := l) hr hb hpb hsub hmk hl
        exact ⟨some ⟨p.B, p.s + o, m * es⟩, hro, fun χ b hχ => .rwx (p := ⟨p.B, p.s + o, m * es⟩) hχ (fun _ => rfl) (Nat.le_refl _) h4 (Nat.le_refl _) (fun q => by omega) (fun q => by cases q)⟩
  · obtain ⟨p, C, hC, hro, hT, rfl⟩ := fz_open hr hne hv hmk hl
    exact ⟨some p, hro, fun χ b hχ => .rwx (p := p) hχ (fun _ => rfl) (by omega) hC (by omega) (fun q => by omega) (fun q => by cases q)⟩
  · have e6 := hv.hd
    rw [ey] at e6
    obtain ⟨p, C, hpb, rfl, hC0, hC1⟩ := e6.sl_inv
    have hlC : m ≤ C := by
      by_cases hk0 : kk = 0
      · rw [hC0 hk0]; exact hlc
      · exact Nat.le_trans hlc (hC1 hk0).1
    have hro := RoAt.of (s := l) hr hb hpb hsub hmk hl
    exact ⟨some ⟨p.B, p.s + o, m * es⟩, hro, fun χ b hχ => .rwx (p := ⟨p.B, p.s + o, m * es⟩) hχ (fun _ => rfl) (Nat.le_refl _) hlC (Nat.le_refl _) (fun q => by omega) (fun q => by cases q)⟩
theorem SmpAt.openR (hr : HR φ H n h0 hp) {a : AV} {L : Smp} {v : Value} (hS : SmpAt H a L) (hv : VR φ a v) : ∃ po, RoO hp po (smp L) ∧ ∀ χ b, χ b = po → VR χ (.rw b 0 L.length 2 2) v := by
  refine row_open hr (smp_flat L) (smp_length L) (by decide) hv ?_
  rcases hS with ⟨h1, rfl⟩ | (⟨b, o, x, l, r, h1, h2, h3, h4⟩ | ⟨l, h1, h2, h3⟩) | ⟨b, o, c, k, l, r, h1, h2, h3, h4, h5⟩
  · exact .inl ⟨h1, rfl⟩
  · exact .inr (.inl (.inl ⟨b, o, x, l, r, h1, h2, h3, by rw [h4, smp_map]⟩))
  · exact .inr (.inl (.inr ⟨l, h1, by rw [h2, smp_map], h3⟩))
  · exact .inr (.inr ⟨b, o, c, k, l, r, h1, h2, h3, by rw [h4, smp_map], h5⟩)
theorem IntAt.openR (hr : HR φ H n h0 hp) {a : AV} {V : List Int} {v : Value} (hS : IntAt H a V) (hv : VR φ a v) : ∃ po, RoO hp po (ints V) ∧ ∀ χ b, χ b = po → VR χ (.rw b 0 V.length 1 2) v := by
  refine row_open hr (ints_flat V) (by rw [ints_length, Nat.mul_one]) (by decide) hv ?_
  rcases hS with ⟨h1, rfl⟩ | (⟨b, o, x, l, r, h1, h2, h3, h4⟩ | ⟨l, h1, h2, h3⟩) | ⟨b, o, c, k, l, r, h1, h2, h3, h4, h5⟩
  · exact .inl ⟨h1, rfl⟩
  · exact .inr (.inl (.inl ⟨b, o, x, l, r, h1, h2, by rw [Nat.mul_one]; exact h3, by rw [h4, ints_map]⟩))
  · exact .inr (.inl (.inr ⟨l, h1, by rw [h2, ints_map], h3⟩))
  · exact .inr (.inr ⟨b, o, c, k, l, r, h1, h2, by rw [Nat.mul_one]; exact h3, by rw [h4, ints_map], h5⟩)
def qRw (b : Nat) (Q : Qry) : AV := .agg (qCells Q (.rw b 0 Q.times.length 1 2))
theorem QryAt.openR (hr : HR φ H n h0 hp) {a : AV} {Q : Qry} {v : Value} (hq : QryAt H a Q) (hv : VR φ a v) : ∃ po, RoO hp po (ints Q.times) ∧ ∀ χ b, χ b = po → VR χ (qRw b Q) v := by
  obtain ⟨a8, v8, hI, h8, key⟩ := hq.core hr hv
  obtain ⟨po, h1, h2⟩ := hI.openR hr h8
  exact ⟨po, h1, fun χ b hχ => key χ _ (h2 χ b hχ)⟩
theorem SmpAt.row {H : AH} {a : AV} {b x : Nat} {L : Smp} {l : List AV} {z : Bool} (h1 : a = .rw b 0 L.length 2 x) (h2 : H.get b = some (.cells l z)) (h3 : l.map mk = smp L) (hx : x ≠ 4 := by decide) : SmpAt H a L :=
  .inr (.inl (.inl ⟨b, 0, x, l, l, ⟨h1, hx⟩, .inr ⟨z, h2⟩, subL_all (by have := congrArg List.length h3; rw [List.length_map, smp_length] at this; exact this), h3⟩))
theorem SmpAt.rowO {H : AH} {a : AV} {b x : Nat} {L : Smp} {l : List AV} (h1 : a = .rw b 0 L.length 2 x) (h2 : H.get b = some (.ro l)) (h3 : l.map mk = smp L) (hx : x ≠ 4 := by decide) : SmpAt H a L :=
  .inr (.inl (.inl ⟨b, 0, x, l, l, ⟨h1, hx⟩, .inl h2, subL_all (by have := congrArg List.length h3; rw [List.length_map, smp_length] at this; exact this), h3⟩))
theorem IntAt.rowO {H : AH} {a : AV} {b x : Nat} {L : List Int} {l : List AV} (h1 : a = .rw b 0 L.length 1 x) (h2 : H.get b = some (.ro l)) (h3 : l.map mk = ints L) (hx : x ≠ 4 := by decide) : IntAt H a L :=
  .inr (.inl (.inl ⟨b, 0, x, l, l, ⟨h1, hx⟩, .inl h2, subL_all (by have := congrArg List.length h3; rw [List.length_map, ints_length] at this; exact this), h3⟩))
theorem SubO.qcellsR {m : Nat} {r : Nat → Nat} {b : Nat} {Q : Qry} {z : Bool} (hb : b < m) (hr : r b = b) : SubO H m r (.cells (qCells Q (.rw b 0 Q.times.length 1 2)) z) (.cells (qCells Q (.rw b 0 Q.times.length 1 2)) z) :=
  SubO.cells (Nat.le_refl _) (fun q => q) fun _ a' hi => ⟨a', hi, by
    have ha := List.mem_of_getElem? hi
    simp only [qCells, List.mem_cons, List.not_mem_nil, or_false] at ha
    rcases ha with rfl | rfl | rfl | rfl | rfl | rfl | rfl | rfl | rfl | rfl | rfl | rfl
    all_goals first | exact .same rfl | exact SubV.rw hb (by rw [hr])⟩
theorem mk_rw {a : AV} {b o n k x : Nat} (h : mk a = .rw b o n k x) : a = .rw b o n k x := by
  cases a <;> first | exact h | cases h
theorem SubO.qcellsM {m : Nat} {r : Nat → Nat} {b : Nat} {Q : Qry} {z : Bool} {l : List AV} (hb : b < m) (hr : r b = b) (hl : l.map mk = qCells Q (.rw b 0 Q.times.length 1 2)) : SubO H m r (.cells l z) (.cells (qCells Q (.rw b 0 Q.times.length 1 2)) z) := by
  refine SubO.cells (by have := congrArg List.length hl; rw [List.length_map] at this; omega) (fun q => q) fun i a' hi => ?_
  have e := congrArg (fun x : List AV => x[i]?) hl
  simp only [List.getElem?_map, hi] at e
  rw [Option.map_eq_some_iff] at e
  obtain ⟨a, h1, h2⟩ := e
  refine ⟨a, h1, ?_⟩
  have ha := List.mem_of_getElem? hi
  simp only [qCells, List.mem_cons, List.not_mem_nil, or_false] at ha
  rcases ha with rfl | rfl | rfl | rfl | rfl | rfl | rfl | rfl | rfl | rfl | rfl | rfl
  all_goals first | exact .flat rfl (h2.trans rfl) | exact SubV.rw hb (by rw [hr]; exact mk_rw h2)
theorem SmpAt.rowN {H : AH} {a : AV} {b x k : Nat} {L : Smp} {l : List AV} {z : Bool} (h1 : a = .rw b 0 k 2 x) (hk : k = L.length) (h2 : H.get b = some (.cells l z)) (h3 : l.map mk = smp L) (hx : x ≠ 4 := by decide) : SmpAt H a L := by
  subst hk; exact SmpAt.row h1 h2 h3 hx
theorem qatR {H : AH} {b : Nat} {Q : Qry} (h : H.get b = some (.ro (ints Q.times))) : QryAt H (qRw b Q) Q := ⟨_, _, _, _, _, _, _, _, _, _, _, _, rfl, IntAt.rowO rfl h (ints_map _), rfl⟩
theorem rowNum_rw {F : Smp × Int} {X : Smp} {e : Int} {r w : AV} {H' : AH} {b x : Nat} {l : List AV} (h : F = (X, e)) (h1 : r = .rw b 0 X.length 2 x) (h2 : mk w = .si .i64 e) (hb : H'.get b = some (.cells l true)) (hl : l.map mk = smp X) (hx : x < 2 := by decide) : RowNum F.1 F.2 (.tup [r, w]) H' := by
  subst h
  exact ⟨r, w, rfl, h2, .rw h1 hb (subL_all (by have := congrArg List.length hl; rw [List.length_map, smp_length] at this; exact this)) hl hx⟩
theorem natTl_okR {B : Nat} {F : FuncId → EP} (hF : TabP F) {d : Nat} {f : FuncId} {g : Smp → Qry → Smp × Int} (hic : isCall Try.prog f = true)
    (h : ∀ L (Q : Qry), L.length ≤ B → Q.times.length ≤ 1000000 → callT F d f [.rw 0 0 L.length 2 2, qRw 1 Q] (mkH [(0, .ro (smp L)), (1, .ro (ints Q.times))]) 2 fun u H' _ => RowNum (g L Q).1 (g L Q).2 u H') : NatP f (natTl B g) := fun args H n κ hs φ h0' hp vs K hr hargs hk => by
  unfold natTl at hs
  split at hs
  · obtain ⟨x, y, rfl, e1, e2⟩ := vs2 hargs
    obtain ⟨L, Q, hS, hq, hL, hT, hs⟩ := hs
    obtain ⟨p, hp1, hv⟩ := hS.openR hr e1
    obtain ⟨q, hq1, hw⟩ := hq.openR hr e2
    exact smallNewE hF (fun _ _ h => h) (h L Q hL hT) hs hr hk hic (fun hw => HR.rosE (ps := [p, q]) (ls := [smp L, ints Q.times]) hw rfl (ros2 hp1 hq1) rfl rfl rfl) (.cons (hv _ 0 rfl) (.cons (hw _ 1 rfl) .nil))
  · exact hs.elim
/-- One sample more, behind what a row has. -/
theorem RApp.one {t u : TypeId} {s x : AV} {H : AH} {n : Nat} {κ : PK} {by' b o sn : Nat} {z : Bool} {l old new : List AV} (ty : RTy t u 2 by') (hs : s = .rw b o sn 2 0) (hb : H.get b = some (.cells l z)) (hold : subL l o (sn * 2) = some old) (src : esrc H 2 (hd x) = some (1, new)) (hnew : new.length = 1 * 2) (hone : new.all one1 = true) (big : (sn + 1) * by' ≤ 140737488355328)
    (k : κ (.rw n 0 (sn + 1) 2 0) ((H.set none depthH b).set (some (.cells (old ++ new) z)) depthH n) (n + 1)) : RApp t u s x H n κ := by
  subst hs
  exact .grow 2 by' 1 sn new old _ z ty (.old src) hnew hone (.rw hb hold) big k
end
end Go.Proofs.Ytkhfdjhohfebgaa
namespace Go.Proofs.Ytkhfdjhohfebgaa
open Go Go.RowKit Go.ChangeShapes Go.WideShapes
set_option maxRecDepth 20000
/-! ### things without places -/
inductive Kd where
  | int (k : IntKind)
  | bool
  | str
  | sl (t : TypeId)
def Kd.isFlat : Kd → Bool
  | .sl _ => false
  | _ => true
noncomputable def fieldsT (P : Program) (k : TypeId → Option (List Kd)) : List Field → List Kd → Option (List Kd)
  | [], l => some l
  | f :: fs, l => (match k f.type with
    | some m => if f.offset = l.length ∧ m.length = P.cellsOf f.type then fieldsT P k fs (l ++ m) else none
    | none => none)
def repL' {α : Type} (m : List α) : Nat → List α
  | 0 => []
  | n + 1 => repL' m n ++ m
noncomputable def kdsT (P : Program) : Nat → TypeId → Option (List Kd)
  | 0, _ => none
  | d + 1, t => (match P.underlying t with
    | some (.int k) => some [.int k]
    | some .bool => some [.bool]
    | some .string => some [.str]
    | some (.slice _) => some [.sl t]
    | some (.struct fs) => (fieldsT P (kdsT P d) fs.toList []).bind fun l => if l.length = P.cellsOf t then some l else none
    | some (.array n e) => (kdsT P d e).bind fun m => if m.length = P.cellsOf e ∧ n * m.length = P.cellsOf t then some (repL' m n) else none
    | _ => none)
def Prim (Tr : TypeId → Value → Prop) : Kd → Value → Prop
  | .int k, v => ∃ z, v = .int k z ∧ (Lit.int k z).wf = true
  | .bool, v => ∃ b, v = .bool b
  | .str, v => ∃ s, v = .string s ∧ s.size ≤ maxLen
  | .sl t, v => Tr t v
def Prims (Tr : TypeId → Value → Prop) (ks : List Kd) (cs : List Value) : Prop := ks.length = cs.length ∧ ∀ (j : Nat) k v, ks[j]? = some k → cs[j]? = some v → Prim Tr k v
def avOf : Value → AV
  | .int k z => .si k z
  | .bool b => .sb b
  | .string s => .ss (s.data.toList.map UInt8.toNat)
  | _ => .bad
section
variable {Tr : TypeId → Value → Prop}
theorem Prim.av {k : Kd} {v : Value} (h : Prim Tr k v) (hf : k.isFlat = true) (χ : Ph) : VR χ (avOf v) v := by
  cases k with
  | sl t => cases hf
  | int k => obtain ⟨z, rfl, _⟩ := h; exact .si k z
  | bool => obtain ⟨b, rfl⟩ := h; exact .sb b
  | str => obtain ⟨s, rfl, _⟩ := h; exact vr_string s
theorem Prim.flat {k : Kd} {v : Value} (h : Prim Tr k v) (hf : k.isFlat = true) : flat.flat1 (avOf v) = true := by
  cases k with
  | sl t => cases hf
  | int k => obtain ⟨z, rfl, _⟩ := h; rfl
  | bool => obtain ⟨b, rfl⟩ := h; rfl
  | str => obtain ⟨s, rfl, _⟩ := h; rfl
theorem Prim.mk {k : Kd} {v : Value} (h : Prim Tr k v) (hf : k.isFlat = true) : Go.Proofs.Ytkhfdjhohfebgaa.mk (avOf v) = avOf v := by
  cases k with
  | sl t => cases hf
  | int k => obtain ⟨z, rfl, _⟩ := h; rfl
  | bool => obtain ⟨b, rfl⟩ := h; rfl
  | str => obtain ⟨s, rfl, _⟩ := h; rfl
theorem Prims.one {k : Kd} {v : Value} (h : Prim Tr k v) : Prims Tr [k] [v] := ⟨rfl, fun j k' v' h1 h2 => by
  cases j with
  | zero => injection h1 with h1; injection h2 with h2; subst h1 h2; exact h
  | succ j => simp at h1⟩
theorem Prims.app {ks ms : List Kd} {cs ds : List Value} (h : Prims Tr ks cs) (k : Prims Tr ms ds) : Prims Tr (ks ++ ms) (cs ++ ds) := ⟨by simp [h.1, k.1], fun j a v h1 h2 => by
  by_cases hj : j < ks.length
  · rw [List.getElem?_append_left hj] at h1
    rw [List.getElem?_append_left (by rw [← h.1]; exact hj)] at h2
    exact h.2 j a v h1 h2
  · rw [List.getElem?_append_right (by omega)] at h1
    rw [List.getElem?_append_right (by rw [← h.1]; omega), ← h.1] at h2
    exact k.2 _ a v h1 h2⟩
theorem Prims.vr {ks : List Kd} {cs : List Value} (h : Prims Tr ks cs) (hf : ks.all Kd.isFlat = true) (χ : Ph) : VRs χ (cs.map avOf) cs := by
  induction cs generalizing ks with
  | nil => exact .nil
  | cons c cs ih =>
    obtain ⟨h1, h2⟩ := h
    cases ks with
    | nil => simp at h1
    | cons k ks =>
      simp only [List.all_cons, Bool.and_eq_true] at hf
      exact .cons ((h2 0 k c rfl rfl).av hf.1 χ) (ih ⟨by simpa using h1, fun j a v q r => h2 (j + 1) a v q r⟩ hf.2)
end
def TrS {H : Type} (enc : TypeId × Value → H) (P : Program) (W : World) (base : Nat) (sp : Nat → Bool) (held : Bool) (t : TypeId) (v : Value) : Prop := ∃ fuel x, DataW.trod enc P W base sp held fuel t [v] = some x
section
variable {H : Type} {enc : TypeId × Value → H} {P : Program} {W : World} {base : Nat} {sp : Nat → Bool} {held : Bool}
theorem fieldsT_trod {k : TypeId → Option (List Kd)} {cs : List Value} {n : Nat} (ih : ∀ t ks cs x, k t = some ks → DataW.trod enc P W base sp held n t cs = some x → Prims (TrS enc P W base sp held) ks cs) : ∀ (fs : List Field) (l r : List Kd), Prims (TrS enc P W base sp held) l (cs.take l.length) → (∀ f ∈ fs, ∃ x, DataW.trod enc P W base sp held n f.type ((cs.drop f.offset).take (P.cellsOf f.type)) = some x) →
    fieldsT P k fs l = some r → Prims (TrS enc P W base sp held) r (cs.take r.length)
  | [], l, r, h, _, e => by injection e with e; subst e; exact h
  | f :: fs, l, r, h, hf, e => by
    unfold fieldsT at e
    split at e
    · rename_i m hk
      split at e
      · rename_i ho
        obtain ⟨ho, hm⟩ := ho
        obtain ⟨x, hx⟩ := hf f List.mem_cons_self
        have hp := ih _ _ _ _ hk hx
        refine fieldsT_trod ih fs (l ++ m) r ?_ (fun g hg => hf g (List.mem_cons_of_mem _ hg)) e
        have e2 : cs.take (l ++ m).length = cs.take l.length ++ ((cs.drop f.offset).take (P.cellsOf f.type)) := by
          rw [List.length_append, List.take_add, ho, hm]
        rw [e2]
        exact h.app hp
      · cases e
    · cases e
theorem repL_trod {Tr : TypeId → Value → Prop} {m : List Kd} {c : Nat} {cs : List Value} (hc : m.length = c) : ∀ n, (∀ i, i < n → Prims Tr m ((cs.drop (i * c)).take c)) → Prims Tr (repL' m n) (cs.take (n * c))
  | 0, _ => ⟨by simp [repL'], fun j k v h => by simp [repL'] at h⟩
  | n + 1, h => by
    have e : cs.take ((n + 1) * c) = cs.take (n * c) ++ (cs.drop (n * c)).take c := by rw [Nat.add_mul, Nat.one_mul, List.take_add]
    rw [e]
    exact (repL_trod hc n fun i hi => h i (by omega)).app (h n (by omega))
theorem repL_length {α : Type} (m : List α) : ∀ n, (repL' m n).length = n * m.length
  | 0 => by simp [repL']
  | n + 1 => by simp [repL', repL_length m n, Nat.add_mul]
theorem kds_trod : ∀ (d : Nat) (t : TypeId) (ks : List Kd) (fuel : Nat) (cs : List Value) (x : DataW H × List MemPlace), kdsT P d t = some ks → DataW.trod enc P W base sp held fuel t cs = some x → Prims (TrS enc P W base sp held) ks cs
  | 0, t, ks, fuel, cs, x, h, _ => by cases h
  | d + 1, t, ks, fuel, cs, x, h, hx => by
    unfold kdsT at h
    split at h
    · rename_i k hu
      injection h with h; subst h
      obtain ⟨z, rfl, _, hw⟩ := DataW.trod_int hu hx
      exact .one ⟨z, rfl, hw⟩
    · rename_i hu
      injection h with h; subst h
      obtain ⟨b, rfl, _⟩ := DataW.trod_bool hu hx
      exact .one ⟨b, rfl⟩
    · rename_i hu
      injection h with h; subst h
      obtain ⟨s, rfl, _, hs⟩ := DataW.trod_string hu hx
      exact .one ⟨s, rfl, hs⟩
    · rename_i e hu
      injection h with h; subst h
      rcases DataW.trod_slice hu hx with ⟨rfl, _⟩ | ⟨a, len, cap, _, _, _, _, rfl, _⟩
      · exact .one ⟨_, _, hx⟩
      · exact .one ⟨_, _, hx⟩
    · rename_i fs hu
      obtain ⟨xs, n, rfl, _, hl, hxl, hf⟩ := DataW.trod_struct hu hx
      rw [Option.bind_eq_some_iff] at h
      obtain ⟨l, h1, h2⟩ := h
      split at h2
      · rename_i hc
        injection h2 with h2; subst h2
        have := fieldsT_trod (enc := enc) (W := W) (base := base) (sp := sp) (held := held) (n := n) (cs := cs) (fun t ks cs x h hx => kds_trod d t ks n cs x h hx) fs.toList [] l ⟨by simp, fun j k v h => by simp at h⟩ (fun f hfm => by
          obtain ⟨i, hi, e⟩ := List.mem_iff_getElem.1 hfm
          have hi2 : i < fs.size := by simpa using hi
          have hg : fs[i]? = some f := by rw [Array.getElem?_eq_getElem hi2]; simpa using e
          have := hf i f hg
          rw [List.getElem?_eq_getElem (by omega)] at this
          exact ⟨_, this⟩) h1
        rw [hc, ← hl, List.take_length] at this
        exact this
      · cases h2
    · rename_i n e hu
      rw [Option.bind_eq_some_iff] at h
      obtain ⟨m, h1, h2⟩ := h
      split at h2
      · rename_i hc
        obtain ⟨hc1, hc2⟩ := hc
        injection h2 with h2; subst h2
        cases fuel with
        | zero => simp [DataW.trod] at hx
        | succ q =>
          rw [DataW.trod_step] at hx
          unfold DataW.trodStep at hx
          simp only [hu] at hx
          split at hx
          · rename_i hlen
            simp only [Option.map_eq_some_iff] at hx
            obtain ⟨ys, hy, _⟩ := hx
            have hyl := mapM_some_length hy
            have := repL_trod (cs := cs) hc1 n (fun i hi => by
              have h3 := mapM_some_get hy i i (by simp [hi])
              rw [List.getElem?_eq_getElem (by rw [hyl]; simpa using hi)] at h3
              exact kds_trod d e m q _ _ h1 h3)
            rw [← hc1, hc2, ← hlen, List.take_length] at this
            exact this
          · cases hx
      · cases h2
    · cases h
theorem flat_at {α : Type} {c : Nat} : ∀ (rows : List (List α)), (∀ r ∈ rows, r.length = c) → ∀ i q, q < c → rows.flatten[i * c + q]? = (rows[i]?).bind (·[q]?)
  | [], _, i, q, _ => by simp
  | r :: rows, h, 0, q, hq => by
    have := h r List.mem_cons_self
    rw [List.flatten_cons, Nat.zero_mul, Nat.zero_add, List.getElem?_append_left (by omega)]; rfl
  | r :: rows, h, i + 1, q, hq => by
    have h1 := h r List.mem_cons_self
    rw [List.flatten_cons, List.getElem?_append_right (by rw [Nat.add_mul]; omega), show (i + 1) * c + q - r.length = i * c + q from by rw [Nat.add_mul]; omega]
    exact flat_at rows (fun x hx => h x (List.mem_cons_of_mem _ hx)) i q hq
theorem flat_len {α : Type} {c : Nat} : ∀ (rows : List (List α)), (∀ r ∈ rows, r.length = c) → rows.flatten.length = rows.length * c
  | [], _ => by simp
  | r :: rows, h => by
    rw [List.flatten_cons, List.length_append, flat_len rows (fun x hx => h x (List.mem_cons_of_mem _ hx)), h r List.mem_cons_self, List.length_cons, Nat.add_mul]; omega
theorem cell_inv {a : Addr} {v : Value} (h : W.cell? a = some v) : ∃ c u fz, W.heap[a.block]? = some (.cells c u fz) ∧ a.spot = none ∧ c[a.off]? = some v := by
  unfold World.cell? at h
  split at h
  · rename_i c u fz hb
    split at h
    · cases h
    · rename_i hs
      exact ⟨c, u, fz, hb, by simpa using hs, h⟩
  · cases h
/-- A row of things without places. -/
theorem open_row {t e : TypeId} {ks : List Kd} {d c fuel : Nat} {v : Value} {D : DataW H} {ps : List MemPlace} (ht : P.underlying t = some (.slice e)) (hk : kdsT P d e = some ks) (hc : ks.length = c) (hc2 : P.cellsOf e = c) (hc0 : c ≠ 0) (hfl0 : ks.all Kd.isFlat = true)
    (hf : DataW.trod enc P W 0 (fun _ => true) held fuel t [v] = some (D, ps)) : ∃ (rows : List (List Value)) (po : Option Pl), (∀ r ∈ rows, Prims (TrS enc P W 0 (fun _ => true) held) ks r) ∧ RoO (wholeHp W) po ((rows.map fun r => r.map avOf).flatten) ∧ (∀ χ b, χ b = po → VR χ (.rw b 0 rows.length c 4) v) ∧
      (∀ a l cap, v = .slice a l cap → l = rows.length ∧ l ≤ cap) ∧ (rows = [] ∨ ∃ E F, D = .slice ((List.range rows.length).map F) E) ∧ rows.length ≤ maxLen := by
  rcases Go.Deep.open_slice ht hf with ⟨h0, h1⟩ | ⟨a, len, cap, m, n, Df, Pf, h1, _, hl, hm, hmm, hx, hel⟩
  · injection h0 with h0
    subst h0
    exact ⟨[], none, (fun r h => by cases h), rfl, fun χ b _ => .rwn, (fun a l cap q => by cases q; exact ⟨rfl, Nat.le_refl _⟩), .inl rfl, Nat.zero_le _⟩
  · injection h1 with h1
    subst h1
    have hmc : m = cap := hmm
    subst hmc
    by_cases hcap : m = 0
    · have : len = 0 := by omega
      subst this hcap
      exact ⟨[], none, (fun r h => by cases h), rfl, fun χ b _ => .rwe rfl (.inr ⟨rfl, a, rfl⟩), (fun a l cap q => by cases q; exact ⟨rfl, Nat.le_refl _⟩), .inl rfl, Nat.zero_le _⟩
    · have hcells : ∀ i, i < m → ∃ cs', cs'.length = c ∧ Prims (TrS enc P W 0 (fun _ => true) held) ks cs' ∧ ∀ q, q < c → W.cell? ((a.add (i * c)).add q) = cs'[q]? := fun i hi => by
        obtain ⟨cs', g1, g2⟩ := hel i hi
        rw [hc2] at g1
        obtain ⟨_, g3, g4⟩ := World.cells?_some g1
        exact ⟨cs', g3, kds_trod d e ks n cs' _ hk g2, fun q hq => g4 q hq⟩
      obtain ⟨R, hR⟩ := Go.Deep.choose_lt hcells
      have hspot : a.spot = none ∧ ∃ cc u fz, W.heap[a.block]? = some (.cells cc u fz) := by
        obtain ⟨g1, _, g3⟩ := hR 0 (by omega)
        have g4 := g3 0 (by omega)
        rw [List.getElem?_eq_getElem (by omega)] at g4
        obtain ⟨cc, u, fz, g5, g6, _⟩ := cell_inv g4
        have e0 : (a.add (0 * c)).add 0 = a := by simp [Addr.add]
        rw [e0] at g5 g6
        exact ⟨g6, cc, u, fz, g5⟩
      obtain ⟨hs, cc, u, fz, hb⟩ := hspot
      obtain ⟨b, off, sp⟩ := a
      simp only at hs hb
      subst hs
      have hget : ∀ i q, i < m → q < c → cc[off + i * c + q]? = (R i)[q]? := fun i q hi hq => by
        have g := (hR i hi).2.2 q hq
        have e0 : ((⟨b, off, none⟩ : Addr).add (i * c)).add q = (⟨b, off, none⟩ : Addr).add (i * c + q) := Go.Deep.add_add _ _ _
        rw [e0, List.getElem?_eq_getElem (by rw [(hR i hi).1]; exact hq)] at g
        have := cell_at hb g
        rw [Nat.add_assoc, this, List.getElem?_eq_getElem (by rw [(hR i hi).1]; exact hq)]
      let rows := (List.range len).map R
      have hrl : rows.length = len := by simp [rows]
      have hmem : ∀ r ∈ rows, ∃ i, i < len ∧ r = R i := fun r hr => by
        simp only [rows, List.mem_map, List.mem_range] at hr
        obtain ⟨i, hi, rfl⟩ := hr
        exact ⟨i, hi, rfl⟩
      have hrc : ∀ r ∈ rows.map (fun r => r.map avOf), r.length = c := fun r hr => by
        simp only [List.mem_map] at hr
        obtain ⟨r', hr', rfl⟩ := hr
        obtain ⟨i, hi, rfl⟩ := hmem r' hr'
        simp [(hR i (by omega)).1]
      have hfl := flat_len _ hrc
      rw [List.length_map, hrl] at hfl
      refine ⟨rows, some ⟨b, off, len * c⟩, fun r hr => ?_, ⟨cc, u, fz, hb, Nat.le_of_eq hfl, ?_, fun ψ i v' hi => ?_⟩, fun χ b' hχ => ?_, (fun a l cap q => by cases q; exact ⟨hrl.symm, hl⟩), .inr ?_, ?_⟩
      · obtain ⟨i, hi, rfl⟩ := hmem r hr
        exact (hR i (by omega)).2.1
      · simp only
        by_cases hl0 : len = 0
        · subst hl0
          have g := hget 0 0 (by omega) (by omega)
          rw [List.getElem?_eq_getElem (by rw [(hR 0 (by omega)).1]; omega)] at g
          have := (Array.getElem?_eq_some_iff.1 g).1
          omega
        · have g := hget (len - 1) (c - 1) (by omega) (by omega)
          rw [List.getElem?_eq_getElem (by rw [(hR _ (by omega)).1]; omega)] at g
          have := (Array.getElem?_eq_some_iff.1 g).1
          have e1 : (len - 1) * c + c = len * c := by rw [← Nat.succ_mul]; congr 1; omega
          omega
      · have hi2 := (List.getElem?_eq_some_iff.1 hi).1
        rw [hfl] at hi2
        have h0 := Nat.div_add_mod i c
        have hq := Nat.mod_lt i (Nat.pos_of_ne_zero hc0)
        have hj : i / c < len := (Nat.div_lt_iff_lt_mul (Nat.pos_of_ne_zero hc0)).2 hi2
        have ei : i = i / c * c + i % c := by rw [Nat.mul_comm]; omega
        rw [ei, flat_at _ hrc _ _ hq] at hi
        have e2 : (rows.map fun r => r.map avOf)[i / c]? = some ((R (i / c)).map avOf) := by simp [rows, hj]
        rw [e2, Option.bind_some, List.getElem?_map, List.getElem?_eq_getElem (by rw [(hR _ (by omega)).1]; exact hq)] at hi
        injection hi with hi
        subst hi
        refine ⟨(R (i / c))[i % c]'(by rw [(hR _ (by omega)).1]; exact hq), ?_, ?_⟩
        · have := hget (i / c) (i % c) (by omega) hq
          rw [List.getElem?_eq_getElem (by rw [(hR _ (by omega)).1]; exact hq), Nat.add_assoc, ← ei] at this
          exact this
        · obtain ⟨g1, g2⟩ := (hR (i / c) (by omega)).2.1
          refine Prim.av (k := ks[i % c]'(by rw [hc]; exact hq)) (g2 (i % c) _ _ (List.getElem?_eq_getElem _) (List.getElem?_eq_getElem _)) (List.all_eq_true.1 hfl0 _ (List.getElem_mem _)) ψ
      · rw [hrl]
        exact .rwx (p := ⟨b, off, len * c⟩) (o := 0) hχ (fun _ => rfl) (Nat.le_refl _) hl (Nat.le_refl _) (fun q => by omega) (fun q => by cases q)
      · injection hx with hx _
        exact ⟨_, Df, by rw [hrl]; exact hx⟩
      · rw [hrl]; omega
/-- .. that is an argument. -/
theorem open_rowT {t e : TypeId} {ks : List Kd} {d c fuel : Nat} {v : Value} {D : DataW H} {ps : List MemPlace} (ht : P.underlying t = some (.slice e)) (hk : kdsT P d e = some ks) (hc : ks.length = c) (hc2 : P.cellsOf e = c) (hc0 : c ≠ 0) (hfl0 : ks.all Kd.isFlat = true)
    (hval : v = .slice none 0 0 ∨ ∃ b off len cap cc u fz, v = .slice (some ⟨b, off, none⟩) len cap ∧ W.heap[b]? = some (.cells cc u fz) ∧ off ≤ cc.size) (hf : DataW.trod enc P W 0 (fun _ => true) held fuel t [v] = some (D, ps)) : ∃ (rows : List (List Value)) (po : Option Pl), (∀ r ∈ rows, Prims (TrS enc P W 0 (fun _ => true) held) ks r) ∧ RoO (wholeHp W) po ((rows.map fun r => r.map avOf).flatten) ∧ (∀ χ b, χ b = po → VR χ (.rw b 0 rows.length c 2) v) ∧
      (rows = [] ∨ ∃ E F, D = .slice ((List.range rows.length).map F) E) ∧ rows.length ≤ maxLen := by
  obtain ⟨rows, po, h1, h2, h3, h4, h5, h6⟩ := open_row ht hk hc hc2 hc0 hfl0 hf
  rcases hval with rfl | ⟨b, off, len, cap, cc, u, fz, rfl, hb, hoff⟩
  · obtain ⟨g1, _⟩ := h4 _ _ _ rfl
    have : rows = [] := List.eq_nil_of_length_eq_zero g1.symm
    subst this
    exact ⟨[], none, h1, rfl, fun χ b _ => .rwn, .inl rfl, h6⟩
  · obtain ⟨g1, g2⟩ := h4 _ _ _ rfl
    by_cases hr : rows = []
    · subst hr
      have : len = 0 := g1
      subst this
      exact ⟨[], some ⟨b, off, 0⟩, h1, ⟨cc, u, fz, hb, Nat.le_refl _, by simp only; omega, fun ψ i a h => by simp at h⟩, fun χ b' hχ => .rwx (p := ⟨b, off, 0⟩) hχ (fun q => absurd rfl q) (Nat.le_refl _) g2 (by simp) (fun q => by omega) (fun q => by cases q), .inl rfl, h6⟩
    · refine ⟨rows, po, h1, h2, fun χ b' hχ => ?_, h5, h6⟩
      have hl : rows.length ≠ 0 := fun q => hr (List.eq_nil_of_length_eq_zero q)
      rcases (h3 χ b' hχ).rw_inv with ⟨q, _⟩ | ⟨p, a, C, k1, k2, k3, k4, k5, k6, k7, k8⟩
      · exact absurd q hl
      · rw [k2]
        exact .rwx k1 k3 k4 k5 k6 (fun q => by omega) (fun q => by cases q)
/-! ### rows of numbers, of pairs -/
def pairOf : List Value → Int × Int
  | [.int _ a, .int _ b] => (a, b)
  | _ => (0, 0)
theorem smp_rows {Tr : TypeId → Value → Prop} : ∀ {rows : List (List Value)}, (∀ r ∈ rows, Prims Tr [.int .i64, .int .i64] r) → (rows.map fun r => r.map avOf).flatten = smp (rows.map pairOf) ∧ ∀ x ∈ rows.map pairOf, In64 x.1 ∧ In64 x.2
  | [], _ => ⟨rfl, fun x h => by cases h⟩
  | r :: rows, h => by
    obtain ⟨h1, h2⟩ := smp_rows (rows := rows) fun x hx => h x (List.mem_cons_of_mem _ hx)
    obtain ⟨g1, g2⟩ := h r List.mem_cons_self
    match r, g1, g2 with
    | [v, w], _, g2 =>
      obtain ⟨a, rfl, ha⟩ := g2 0 _ v rfl rfl
      obtain ⟨b, rfl, hb⟩ := g2 1 _ w rfl rfl
      refine ⟨by simp only [List.map_cons, List.flatten_cons, h1]; rfl, fun x hx => ?_⟩
      rcases List.mem_cons.1 hx with rfl | hx
      · simp [Lit.wf, IntKind.min, IntKind.max, IntKind.signed, IntKind.bits] at ha hb
        unfold In64 pairOf; dsimp only; omega
      · exact h2 x hx
def intAt : List Value → Int
  | [.int _ a] => a
  | _ => 0
theorem int_rows {Tr : TypeId → Value → Prop} : ∀ {rows : List (List Value)}, (∀ r ∈ rows, Prims Tr [.int .i64] r) → (rows.map fun r => r.map avOf).flatten = ints (rows.map intAt) ∧ ∀ x ∈ rows.map intAt, In64 x
  | [], _ => ⟨rfl, fun x h => by cases h⟩
  | r :: rows, h => by
    obtain ⟨h1, h2⟩ := int_rows (rows := rows) fun x hx => h x (List.mem_cons_of_mem _ hx)
    obtain ⟨g1, g2⟩ := h r List.mem_cons_self
    match r, g1, g2 with
    | [v], _, g2 =>
      obtain ⟨a, rfl, ha⟩ := g2 0 _ v rfl rfl
      refine ⟨by simp only [List.map_cons, List.flatten_cons, h1]; rfl, fun x hx => ?_⟩
      rcases List.mem_cons.1 hx with rfl | hx
      · simp [Lit.wf, IntKind.min, IntKind.max, IntKind.signed, IntKind.bits] at ha
        show -9223372036854775808 ≤ _ ∧ _ ≤ 9223372036854775807
        omega
      · exact h2 x hx
/-- Samples that are an argument. -/
theorem arg_samples {b0 : Nat} {t e : TypeId} {d : Nat} {v : Value} {D : DataW H} {ps : List MemPlace} (ht : P.underlying t = some (.slice e)) (hk : kdsT P d e = some [.int .i64, .int .i64]) (hc2 : P.cellsOf e = 2) (hval : Value.okWide P W .any b0 t v) (hd : DataW.Trod enc P W 0 (fun _ => true) held t v D ps) :
    ∃ (L : Smp) (po : Option Pl), (∀ x ∈ L, In64 x.1 ∧ In64 x.2) ∧ RoO (wholeHp W) po (smp L) ∧ (∀ χ b, χ b = po → VR χ (.rw b 0 L.length 2 2) v) ∧ L.length ≤ maxLen := by
  obtain ⟨fuel, hf⟩ := hd
  have hv := okWide_slice_at ht hval
  have hcell : v.cells.toList = [v] := by rcases hv with rfl | ⟨b, off, len, cap, cc, u, fz, rfl, _⟩ <;> rfl
  rw [hcell] at hf
  obtain ⟨rows, po, h1, h2, h3, h4, h5⟩ := open_rowT ht hk rfl hc2 (by decide) rfl hv hf
  obtain ⟨g1, g2⟩ := smp_rows h1
  refine ⟨rows.map pairOf, po, g2, g1 ▸ h2, fun χ b hχ => by rw [List.length_map]; exact h3 χ b hχ, by rw [List.length_map]; exact h5⟩
theorem arg_ints {b0 : Nat} {t e : TypeId} {d : Nat} {v : Value} {D : DataW H} {ps : List MemPlace} (ht : P.underlying t = some (.slice e)) (hk : kdsT P d e = some [.int .i64]) (hc2 : P.cellsOf e = 1) (hval : Value.okWide P W .any b0 t v) (hd : DataW.Trod enc P W 0 (fun _ => true) held t v D ps) :
    ∃ (V : List Int) (po : Option Pl), (∀ x ∈ V, In64 x) ∧ RoO (wholeHp W) po (ints V) ∧ (∀ χ b, χ b = po → VR χ (.rw b 0 V.length 1 2) v) ∧ V.length ≤ maxLen := by
  obtain ⟨fuel, hf⟩ := hd
  have hv := okWide_slice_at ht hval
  have hcell : v.cells.toList = [v] := by rcases hv with rfl | ⟨b, off, len, cap, cc, u, fz, rfl, _⟩ <;> rfl
  rw [hcell] at hf
  obtain ⟨rows, po, h1, h2, h3, h4, h5⟩ := open_rowT ht hk rfl hc2 (by decide) rfl hv hf
  obtain ⟨g1, g2⟩ := int_rows h1
  refine ⟨rows.map intAt, po, g2, g1 ▸ h2, fun χ b hχ => by rw [List.length_map]; exact h3 χ b hχ, by rw [List.length_map]; exact h5⟩
/-- Cells without places that are an argument. -/
theorem arg_cells {b0 : Nat} {t : TypeId} {ks : List Kd} {d : Nat} {v : Value} {D : DataW H} {ps : List MemPlace} (hk : kdsT P d t = some ks) (hd : DataW.Trod enc P W 0 (fun _ => true) held t v D ps) (hv : ∃ cs, v = .agg cs) : ∃ cs, v = .agg cs ∧ Prims (TrS enc P W 0 (fun _ => true) held) ks cs.toList := by
  obtain ⟨fuel, hf⟩ := hd
  obtain ⟨cs, rfl⟩ := hv
  exact ⟨cs, rfl, kds_trod d t ks fuel _ _ hk hf⟩
theorem In64.of {z : Int} (h : (Lit.int .i64 z).wf = true) : In64 z := by
  simp [Lit.wf, IntKind.min, IntKind.max, IntKind.signed, IntKind.bits] at h
  unfold In64; omega
def Qry.In64 (Q : Qry) : Prop := Go.Proofs.Ytkhfdjhohfebgaa.In64 Q.f ∧ Go.Proofs.Ytkhfdjhohfebgaa.In64 Q.t ∧ Go.Proofs.Ytkhfdjhohfebgaa.In64 Q.count ∧ Go.Proofs.Ytkhfdjhohfebgaa.In64 Q.kind ∧ Go.Proofs.Ytkhfdjhohfebgaa.In64 Q.size ∧ Go.Proofs.Ytkhfdjhohfebgaa.In64 Q.align ∧ Go.Proofs.Ytkhfdjhohfebgaa.In64 Q.low ∧ Go.Proofs.Ytkhfdjhohfebgaa.In64 Q.high ∧ ∀ x ∈ Q.times, Go.Proofs.Ytkhfdjhohfebgaa.In64 x
/-- A query that is an argument. -/
theorem arg_query {b0 : Nat} {t e ei : TypeId} {d : Nat} {v : Value} {D : DataW H} {ps : List MemPlace} {fs : Array Field} {ts : List TypeId} (hu : P.underlying t = some (.struct fs)) (hk : kdsT P d t = some [.int .i64, .int .i64, .bool, .int .i64, .int .i64, .int .i64, .int .i64, .bool, .sl e, .bool, .int .i64, .int .i64])
    (he : P.underlying e = some (.slice ei)) (hke : kdsT P d ei = some [.int .i64]) (hc2 : P.cellsOf ei = 1) (hct : P.cellTypes P.depth t = some ts) (hts : ts[8 % ts.length]? = some e) (hval : Value.okWide P W .any b0 t v) (hd : DataW.Trod enc P W 0 (fun _ => true) held t v D ps) :
    ∃ (Q : Qry) (po : Option Pl), Q.In64 ∧ RoO (wholeHp W) po (ints Q.times) ∧ (∀ χ b, χ b = po → VR χ (qRw b Q) v) ∧ Q.times.length ≤ maxLen := by
  simp only [Value.okWide, hu] at hval
  obtain ⟨cs, rfl, _, ts', h1, _, h2⟩ := hval
  rw [hct] at h1
  injection h1 with h1
  subst h1
  obtain ⟨fuel, hf⟩ := hd
  obtain ⟨g1, g2⟩ := kds_trod d t _ fuel _ _ hk hf
  obtain ⟨l⟩ := cs
  simp only [Value.cells] at g1 g2
  match l, g1, g2, h2 with
  | [v0, v1, v2, v3, v4, v5, v6, v7, v8, v9, v10, v11], _, g2, h2 =>
    obtain ⟨z0, rfl, w0⟩ := g2 0 _ v0 rfl rfl
    obtain ⟨z1, rfl, w1⟩ := g2 1 _ v1 rfl rfl
    obtain ⟨z2, rfl⟩ := g2 2 _ v2 rfl rfl
    obtain ⟨z3, rfl, w3⟩ := g2 3 _ v3 rfl rfl
    obtain ⟨z4, rfl, w4⟩ := g2 4 _ v4 rfl rfl
    obtain ⟨z5, rfl, w5⟩ := g2 5 _ v5 rfl rfl
    obtain ⟨z6, rfl, w6⟩ := g2 6 _ v6 rfl rfl
    obtain ⟨z7, rfl⟩ := g2 7 _ v7 rfl rfl
    obtain ⟨f8, ⟨D8, P8⟩, h8⟩ := g2 8 _ v8 rfl rfl
    obtain ⟨z9, rfl⟩ := g2 9 _ v9 rfl rfl
    obtain ⟨z10, rfl, w10⟩ := g2 10 _ v10 rfl rfl
    obtain ⟨z11, rfl, w11⟩ := g2 11 _ v11 rfl rfl
    obtain ⟨u, hu8, ho8⟩ := h2 8 v8 rfl
    rw [hts] at hu8
    injection hu8 with hu8
    subst hu8
    have hv8 : Value.okWide P W .any b0 e v8 := by simp only [Value.okWide, he]; exact ho8
    have hv := okWide_slice_at he hv8
    obtain ⟨rows, po, q1, q2, q3, _, q5⟩ := open_rowT he hke rfl hc2 (by decide) rfl hv h8
    obtain ⟨k1, k2⟩ := int_rows q1
    refine ⟨⟨z0, z1, z2, z3, z4, z5, z6, z7, rows.map intAt, z9, z10, z11⟩, po, ⟨.of w0, .of w1, .of w3, .of w4, .of w5, .of w6, .of w10, .of w11, k2⟩, k1 ▸ q2, fun χ b hχ => ?_, by simpa using q5⟩
    have hr : VR χ (.rw b 0 (rows.map intAt).length 1 2) v8 := by rw [List.length_map]; exact q3 χ b hχ
    exact .agg (.cons (.si _ _) (.cons (.si _ _) (.cons (.sb _) (.cons (.si _ _) (.cons (.si _ _) (.cons (.si _ _) (.cons (.si _ _) (.cons (.sb _) (.cons hr (.cons (.sb _) (.cons (.si _ _) (.cons (.si _ _) .nil))))))))))))
/-- A sample that is an argument. -/
theorem arg_pair {b0 : Nat} {t : TypeId} {d : Nat} {v : Value} {D : DataW H} {ps : List MemPlace} {fs : Array Field} (hu : P.underlying t = some (.struct fs)) (hk : kdsT P d t = some [.int .i64, .int .i64]) (hval : Value.okWide P W .any b0 t v) (hd : DataW.Trod enc P W 0 (fun _ => true) held t v D ps) :
    ∃ x y : Int, In64 x ∧ In64 y ∧ ∀ χ, VR χ (.agg [.si .i64 x, .si .i64 y]) v := by
  simp only [Value.okWide, hu] at hval
  obtain ⟨cs, rfl, _⟩ := hval
  obtain ⟨fuel, hf⟩ := hd
  obtain ⟨g1, g2⟩ := kds_trod d t _ fuel _ _ hk hf
  obtain ⟨l⟩ := cs
  simp only [Value.cells] at g1 g2
  match l, g1, g2 with
  | [v0, v1], _, g2 =>
    obtain ⟨z0, rfl, w0⟩ := g2 0 _ v0 rfl rfl
    obtain ⟨z1, rfl, w1⟩ := g2 1 _ v1 rfl rfl
    exact ⟨z0, z1, .of w0, .of w1, fun χ => .agg (.cons (.si _ _) (.cons (.si _ _) .nil))⟩
end
end Go.Proofs.Ytkhfdjhohfebgaa
namespace Go.Proofs.Ytkhfdjhohfebgaa
open Go Go.RowKit
set_option maxRecDepth 20000
section
variable {φ ψ : Ph} {H : AH} {n : Nat} {h0 hp : Hp}
/-- The memory of a run of its own, what was frozen being so still. -/
theorem HR.withz (hr : HR φ H n h0 hp) {φ0 : Ph} {H0 : AH} {n0 : Nat} (h : HR φ0 H0 n0 hp hp) (hn : ∀ b o, H0.get b = some o → o.own = false) (hz : ∀ q, ¬ φ0.z q) : HR ⟨φ0.f, φ.z, φ.z⟩ H0 n0 hp hp := by
  have hle : SLe φ0 ⟨φ0.f, φ.z, φ.z⟩ := ⟨fun _ _ e => e, fun q e => (hz q e).elim⟩
  have hz2 : ∀ q, φ.z q → (⟨φ0.f, φ.z, φ.z⟩ : Ph).z q := fun _ e => e
  refine ⟨h.dom, fun b o hb => (h.live b o hb).imp id fun ⟨p, ob, h1, h2, h3, h4⟩ => ⟨p, ob, h1, h2, h3, h4.smono hle⟩, h.inj, h.base, h.size, fun q hq => ⟨⟨FzR.mono hz2 (hr.frz q hq).1.1, .inl hq⟩, fun b o p hb hw _ => ?_⟩⟩
  rw [hn b o hb] at hw; cases hw
/-- What a run yields: a row that can be frozen. -/
def FrG (m k : Nat) (s : List AV) (u : AV) (H' : AH) : Prop :=
  (hd u = .nsl ∧ m = 0 ∧ s = []) ∨ (u = .fr m k s ∧ s.length = m * k) ∨
  (∃ b o x l z r, u = .rw b o m k x ∧ x ≠ 4 ∧ H'.get b = some (.cells l z) ∧ subL l o (m * k) = some r ∧ r.map mk = s.map mk) ∨
  ∃ b o c kk l z r, hd u = .sl b o m c kk ∧ m ≤ c ∧ H'.get b = some (.cells l z) ∧ subL l o (m * k) = some r ∧ r.map mk = s.map mk
theorem frG_row {m k j b x : Nat} {l s : List AV} {z : Bool} {u : AV} {H' : AH} (h1 : u = .rw b 0 j k x) (hj : j = m) (hb : H'.get b = some (.cells l z)) (hl : l.map mk = s.map mk) (hs : s.length = m * k) (hx : x ≠ 4 := by decide) : FrG m k s u H' := by
  subst hj
  exact .inr (.inr (.inl ⟨b, 0, x, l, z, l, h1, hx, hb, subL_all (by have := congrArg List.length hl; simp only [List.length_map] at this; omega), hl⟩))
/-- More is frozen than was. -/
def Ph.more (φ : Ph) (z : Fz → Prop) : Ph := ⟨φ.f, fun q => φ.z q ∨ z q, φ.y⟩
theorem Ph.more_le (φ : Ph) (z : Fz → Prop) : PLe φ (φ.more z) := ⟨fun _ _ e => e, fun _ e => .inl e, fun _ e => e⟩
theorem HR.more {h : Hp} (hr : HR φ H n h0 h) {z : Fz → Prop} (hz : ∀ q, z q → FzR (φ.more z) h q ∧ h0.f q.B = none ∧ ∀ b o p, H.get b = some o → o.own = true → φ b = some p → p.B ≠ q.B) : HR (φ.more z) H n h0 h := by
  refine ⟨hr.dom, fun b o hb => (hr.live b o hb).imp id fun ⟨p, ob, h1, h2, h3, h4⟩ => ⟨p, ob, h1, h2, h3, h4.mono (φ.more_le z)⟩, hr.inj, hr.base, hr.size, fun q hq => ?_⟩
  rcases hq with hq | hq
  · obtain ⟨⟨h1, h2⟩, h3⟩ := hr.frz q hq
    exact ⟨⟨FzR.mono (φ.more_le z).z h1, h2⟩, h3⟩
  · obtain ⟨h1, h2, h3⟩ := hz q hq
    exact ⟨⟨h1, .inr h2⟩, h3⟩
/-- The outcome of a run of its own, its row frozen. -/
theorem frozen_use {H' : AH} {n' : Nat} {g : Hp} {m k : Nat} {s : List AV} {u : AV} {w : Value} (hr : HR φ H n h0 hp) (hg : HR ψ H' n' hp g) (hy : ∀ q, ψ.y q → φ.z q) (hs : s.all flat.flat1 = true) (hsl : s.length = m * k) (hu : VR ψ u w) (he : FrG m k s u H') :
    ∃ χ, PLe φ χ ∧ HR χ H n h0 g ∧ VR χ (.fr m k s) w := by
  have hg2 : HR φ H n h0 g := hr.grow (fun b o hb => (hg.base b o hb).2) hg.size
  have hb0 : ∀ B, hp.f B = none → h0.f B = none := fun B e => by
    cases q : h0.f B with
    | none => rfl
    | some o => have := (hr.base B o q).2; rw [e] at this; cases this
  have own : ∀ B, hp.f B = none → ∀ b o p, H.get b = some o → o.own = true → φ b = some p → p.B ≠ B := fun B e b o p hb hw hp' q => by
    obtain ⟨ob, _, h1, _⟩ := hr.of hb hp'
    rw [q, e] at h1; cases h1
  have none : ∀ {a : Option Addr} {C : Nat}, m = 0 → s = [] → w = .slice a 0 C → (a = none → C = 0) → ∃ χ, PLe φ χ ∧ HR χ H n h0 g ∧ VR χ (.fr m k s) w := fun {a C} h1 h2 h3 h4 => by
    subst h1 h2 h3
    exact ⟨φ, .refl φ, hg2, .fre h4⟩
  -- a row at a place that is new
  have new : ∀ (B a C : Nat) (c : Array Value) (t : TypeId) (fz : Nat × Nat), hp.f B = .none → B < g.n → g.f B = some (.cells c t fz) → a + m * k ≤ c.size → (∃ χ, CR χ c a s) → m ≤ C → w = .slice (some ⟨B, a, .none⟩) m C → ∃ χ, PLe φ χ ∧ HR χ H n h0 g ∧ VR χ (.fr m k s) w := by
    intro B a C c t fz h1 h2 h3 h4 ⟨χ, h5⟩ h6 h7
    subst h7
    have hst : s.all stab = true := by
      rw [List.all_eq_true] at hs ⊢
      intro x hx
      have := hs x hx
      cases x <;> first | rfl | cases this
    refine ⟨φ.more fun q => q = ⟨B, a, s⟩, φ.more_le _, hg2.more fun q hq => ?_, ?_⟩
    · subst hq
      exact ⟨⟨⟨h2, hst⟩, c, t, fz, h3, (show a + s.length ≤ c.size by omega), CR.mk_flat h5 rfl hs⟩, hb0 _ h1, own _ h1⟩
    · have : VR (φ.more fun q => q = ⟨B, a, s⟩) (.fr m k s) (.slice (some ⟨B, a + 0, .none⟩) m C) := .fr (q := ⟨B, a, s⟩) (o := 0) (.inr rfl) h6 (subL_all hsl)
      exact this
  rcases he with ⟨e, hm, hs0⟩ | ⟨rfl, _⟩ | ⟨b, o, x, l, z, r, rfl, hx, hb, hsub, hmk⟩ | ⟨b, o, c, kk, l, z, r, e, hc, hb, hsub, hmk⟩
  · have := hu.hd
    rw [e] at this
    exact none hm hs0 this.nsl_inv fun _ => rfl
  · rcases hu.fr_inv with ⟨h1, h2, a, C, h3, h4⟩ | ⟨q, o, C, hq, rfl, hC, hl⟩
    · exact none h1 h2 h3 h4
    · obtain ⟨⟨hf, hyq⟩, _⟩ := hg.frz q hq
      rcases hyq with hyq | hyq
      · exact ⟨φ, .refl φ, hg2, .fr (hy q hyq) hC hl⟩
      · obtain ⟨⟨h1, h2⟩, c, t, fz, h3, h4, h5⟩ := hf
        obtain ⟨g1, g2⟩ := subL_spec hl
        exact new q.B (q.s + o) C c t fz hyq h1 h3 (by omega) ⟨ψ, by rw [g2]; exact CR.drop h5⟩ hC rfl
  · rcases hu.rw_inv with ⟨h1, hem⟩ | ⟨p, a, C, hpb, rfl, h2, h3, h4, h5, _, _⟩
    · exact none h1 (List.eq_nil_of_length_eq_zero (by rw [hsl, h1, Nat.zero_mul])) (hem.nil hx) fun _ => rfl
    · obtain ⟨ob, hq0, hq1, cc, t, fz, rfl, o1, o2, o3, o4, o5⟩ := hg.of hb hpb
      by_cases hm : m = 0
      · exact none (a := some ⟨p.B, a, .none⟩) hm (List.eq_nil_of_length_eq_zero (by rw [hsl, hm, Nat.zero_mul])) (by rw [hm]) fun q => by cases q
      · have ha := h2 hm
        subst ha
        obtain ⟨g1, g2⟩ := subL_spec hsub
        have h6 : CR ψ cc (p.s + o) r := by rw [g2]; exact CR.drop o5
        exact new p.B (p.s + o) C cc t fz hq0 (hg.dom _ _ hpb).2 hq1 (by omega) ⟨ψ, CR.mk_flat h6 hmk hs⟩ h4 rfl
  · have := hu.hd
    rw [e] at this
    obtain ⟨p, C, hpb, rfl, hC0, hC1⟩ := this.sl_inv
    obtain ⟨ob, hq0, hq1, cc, t, fz, rfl, o1, o2, o3, o4, o5⟩ := hg.of hb hpb
    obtain ⟨g1, g2⟩ := subL_spec hsub
    have h6 : CR ψ cc (p.s + o) r := by rw [g2]; exact CR.drop o5
    have hlC : m ≤ C := by
      by_cases hk0 : kk = 0
      · rw [hC0 hk0]; exact hc
      · exact Nat.le_trans hc (hC1 hk0).1
    exact new p.B (p.s + o) C cc t fz hq0 (hg.dom _ _ hpb).2 hq1 (by omega) ⟨ψ, CR.mk_flat h6 hmk hs⟩ hlC rfl
/-- A run of a function's code, its callees, itself among them, by a table. -/
noncomputable def recT (F : FuncId → EP) (d : Nat) (D : DT) (f : FuncId) : List AV → AH → Nat → PK → Prop := EP.rec (fun _ _ _ _ => False) (fun D c rs m => runP (callT F d) (callD F) D c rs m) (fun _ _ _ _ _ => False) (fun _ _ _ _ _ => False) (bodyP D f)
theorem recT_ok {F : FuncId → EP} (hF : TabP F) (d : Nat) {D : DT} {f : FuncId} (hok : fnOk Try.prog f = true) (hdr : drawF D f = true) : NatP f (recT F d D f) := fun args H n κ hs φ h0 h vs K hr hargs hk => by
  have hf := bodyP_ok (D := D) hok hdr
  unfold recT at hs
  cases hbd : bodyP D f with
  | no => rw [hbd] at hs; exact hs.elim
  | nat g => rw [hbd] at hs; exact hs.elim
  | det g => rw [hbd] at hs; exact hs.elim
  | run D c rs m =>
    rw [hbd] at hs hf
    obtain ⟨hok, hdr, fn, hfn, hb, hrs, hnt⟩ := hf
    subst hrs hnt
    exact runP_sound (by kernel_rfl) (callT_sound (by kernel_rfl) hF d) (callD_ok hF) (callD_sing hF) hok hdr hfn hb hs hr hargs hk
theorem callT_nat {F : FuncId → EP} (hF : TabP F) (d : Nat) (f : FuncId) : NatP f (callT F d f) := fun args H n κ hs φ h0 h vs K hr hargs hk => callT_sound (by kernel_rfl) hF d f args H n κ hs φ h0 h vs K hr hargs hk
/-- A run on a small memory that yields a row: it is frozen. -/
theorem smallFrR {f : FuncId} {run : List AV → AH → Nat → PK → Prop} (hrun : NatP f run) {args0 : List AV} {H0 : AH} {n0 m k : Nat} {s : List AV} (hs : s.all flat.flat1 = true) (hsl : s.length = m * k) (h : run args0 H0 n0 fun u H' _ => FrG m k s u H')
    {vs : Array Value} {κ : PK} {K : KH} (hk' : κ (.fr m k s) H n) (hr : HR φ H n h0 hp) (hk : ThenP φ h0 κ K) (hic : isCall Try.prog f = true) {φ0 : Ph} (hr0 : Wf hp → HR φ0 H0 n0 hp hp) (hy : φ0.y = φ.z) (hargs : VRs φ0 args0 vs.toList) : CallF Try.prog f vs hp K := by
  have key : Wf hp → CallF Try.prog f vs hp K := fun hw => hrun args0 H0 n0 _ h φ0 hp hp vs K (hr0 hw) hargs fun ψ u H' n' w g hle hg hu he => by
    obtain ⟨χ, h1, h2, h3⟩ := frozen_use hr hg (fun q hq => hy ▸ hle.y q hq) hs hsl hu he
    exact hk χ _ H n w g h1 h2 h3 hk'
  exact ⟨hic, fun w hi => (key hi.wf).2 w hi⟩
theorem smallFr {F : FuncId → EP} (hF : TabP F) {d : Nat} {f : FuncId} {args0 : List AV} {H0 : AH} {n0 m k : Nat} {s : List AV} (hs : s.all flat.flat1 = true) (hsl : s.length = m * k) (h : callT F d f args0 H0 n0 fun u H' _ => FrG m k s u H')
    {vs : Array Value} {κ : PK} {K : KH} (hk' : κ (.fr m k s) H n) (hr : HR φ H n h0 hp) (hk : ThenP φ h0 κ K) (hic : isCall Try.prog f = true) {φ0 : Ph} (hr0 : Wf hp → HR φ0 H0 n0 hp hp) (hy : φ0.y = φ.z) (hargs : VRs φ0 args0 vs.toList) : CallF Try.prog f vs hp K :=
  smallFrR (callT_nat hF d f) hs hsl h hk' hr hk hic hr0 hy hargs
end
end Go.Proofs.Ytkhfdjhohfebgaa
namespace Go.Proofs.Ytkhfdjhohfebgaa
open Go Go.RowKit
theorem SubV.frE {H : AH} {m : Nat} {r : Nat → Nat} {a : AV} {n k : Nat} {l : List AV} (e : a = .fr n k l) : SubV H m r a (.fr n k l) := by subst e; exact .stab rfl
theorem ints_drop (V : List Int) (i : Nat) : (ints V).drop i = ints (V.drop i) := by simp [ints, List.map_drop]
theorem ints_take (V : List Int) (i : Nat) : (ints V).take i = ints (V.take i) := by simp [ints, List.map_take]
theorem tyI : RTy 29 29 1 8 := ⟨_, _, _, rfl, rfl, (fun q h => by cases h), rfl, rfl, rfl, rfl, by decide, by decide⟩
theorem ints_one (V : List Int) : (ints V).all one1 = true := by simp [ints, one1]
def mergeI : List Int → List Int → List Int
  | [], B => B
  | a :: A, [] => a :: A
  | a :: A, b :: B => if b < a then b :: mergeI B (a :: A) else a :: mergeI A (b :: B)
termination_by A B => A.length + B.length
theorem mergeI_nil (B : List Int) : mergeI [] B = B := by rw [mergeI]
theorem mergeI_nilr (A : List Int) : mergeI A [] = A := by cases A <;> rw [mergeI]
theorem mergeI_gt {a b : Int} (A B : List Int) (h : b < a) : mergeI (a :: A) (b :: B) = b :: mergeI B (a :: A) := by rw [mergeI, if_pos h]
theorem mergeI_le {a b : Int} (A B : List Int) (h : ¬ b < a) : mergeI (a :: A) (b :: B) = a :: mergeI A (b :: B) := by rw [mergeI, if_neg h]
theorem mergeI_len : ∀ (A B : List Int), (mergeI A B).length = A.length + B.length
  | [], B => by rw [mergeI_nil]; simp
  | a :: A, [] => by rw [mergeI_nilr]; simp
  | a :: A, b :: B => by
    by_cases h : b < a
    · rw [mergeI_gt A B h, List.length_cons, mergeI_len B (a :: A)]; simp only [List.length_cons]; omega
    · rw [mergeI_le A B h, List.length_cons, mergeI_len A (b :: B)]; simp only [List.length_cons]; omega
termination_by A B => A.length + B.length
def natMg (args : List AV) (H : AH) (n : Nat) (κ : PK) : Prop := match args with
  | [x, y] => ∃ V W, x = .fr V.length 1 (ints V) ∧ y = .fr W.length 1 (ints W) ∧ V.length + W.length ≤ 8796093022208 ∧ κ (.fr (V.length + W.length) 1 (ints (mergeI V W))) H n
  | _ => False
theorem singMg : SingG natMg := .pure fun args H n κ hs => by
  unfold natMg at *
  split at hs
  · obtain ⟨V, W, h1, h2, h3, h4⟩ := hs
    exact ⟨_, h4, fun κ' h => ⟨V, W, h1, h2, h3, h⟩⟩
  · exact hs.elim
noncomputable def mg0 (A : List Int) (B : List Int) (O : List Int) : AE × AH := (mkE [(0, .fr A.length 1 (ints A)), (1, .fr B.length 1 (ints B)), (5, .rw 0 0 O.length 1 0)], mkH [(0, .cells (ints (O)) true)])
theorem mg0_cov {A : List Int} {B : List Int} {O : List Int} {p n : Nat} {σ : AE} {H : AH} (j0 : Nat) (hp : p ≤ 0) (e0 : getq (pa 0) σ = .fr A.length 1 (ints A)) (e1 : getq (pa 1) σ = .fr B.length 1 (ints B)) (e5 : SubV H 1 (fun b => if b = 0 then j0 else b) (getq (pa 5) σ) (.rw 0 0 O.length 1 0)) (h0 : (∃ l, H.get j0 = some (.cells l true) ∧ l.map mk = ints (O)) ∨ ((O) = [] ∧ n ≤ j0)) : Cov p σ H n ((mg0 A B O).1, (mg0 A B O).2, 1) := by
  refine Cov.ofR (fun b => if b = 0 then j0 else b) (by omega) (fun b hb => by repeat' rw [if_neg (by omega)]) ?_ ?_ ?_
  · intro x hx
    simp only [List.mem_cons, List.not_mem_nil, or_false] at hx
    rcases hx with rfl | rfl | rfl
    · exact SubV.frE e0
    · exact SubV.frE e1
    · exact e5
  · intro x hx
    simp only [List.mem_cons, List.not_mem_nil, or_false] at hx
    subst hx
    exact ⟨by simp, h0.elim (fun ⟨l, h, g⟩ => .inl ⟨_, h, SubO.cells_mk (ints_flat _) (by rw [g, ints_map]) (fun q => q)⟩) (fun h => .inr ⟨by rw [h.1]; rfl, h.2⟩)⟩
  · intro x hx y hy
    simp only [List.mem_cons, List.not_mem_nil, or_false] at hx hy
    subst hx hy
    exact fun q => rfl
noncomputable def GA : FuncId → EP := withD 65 [] evP
theorem GA_ok : TabP GA := withD_ok evP_ok (by kernel_rfl) (by kernel_rfl)
set_option maxHeartbeats 4000000 in
set_option maxRecDepth 100000 in
theorem merge_run (V W : List Int) (hL : V.length + W.length ≤ 8796093022208) : callT GA 3 65 [.fr V.length 1 (ints V), .fr W.length 1 (ints W)] .nil 0 fun u H' _ => FrG (V.length + W.length) 1 (ints (mergeI V W)) u H' := by
  conv => whnf
  refine LoopP.mk { t : List Int × List Int × List Int // t.1.length + t.2.1.length + t.2.2.length = V.length + W.length ∧ t.2.2 ++ mergeI t.1 t.2.1 = mergeI V W } 1 (fun t => mg0 t.val.1 t.val.2.1 t.val.2.2) (fun t => t.val.1.length + t.val.2.1.length) ⟨(V, W, []), by simp, rfl⟩ ?_ ?_
  · exact mg0_cov (O := []) 0 (Nat.le_refl 0) rfl rfl (.nslRw rfl) (.inr ⟨rfl, Nat.le_refl _⟩)
  · intro ⟨(A, B, O), hl, he⟩
    dsimp only at hl he
    have hO : subL (ints O) 0 (O.length * 1) = some (ints O) := subL_all (by rw [ints_length, Nat.mul_one])
    have hA1 : (ints A).length = A.length * 1 := by rw [ints_length, Nat.mul_one]
    have hB1 : (ints B).length = B.length * 1 := by rw [ints_length, Nat.mul_one]
    have hOA : subL (ints O ++ ints A) 0 ((O.length + A.length) * 1) = some (ints O ++ ints A) := subL_all (by simp [ints])
    have hbig1 : (O.length + A.length) * 8 ≤ 140737488355328 := by omega
    have hbig2 : (O.length + A.length + B.length) * 8 ≤ 140737488355328 := by omega
    have hend : A = [] ∨ B = [] → mergeI V W = O ++ A ++ B := fun q => by
      rw [← he]
      rcases q with rfl | rfl
      · rw [mergeI_nil]; simp
      · rw [mergeI_nilr]; simp
    have hsum : O.length + A.length + B.length = V.length + W.length := by omega
    have hlen : (ints (mergeI V W)).length = (V.length + W.length) * 1 := by rw [ints_length, mergeI_len, Nat.mul_one]
    have hmap : A = [] ∨ B = [] → ((ints O ++ ints A) ++ ints B).map mk = (ints (mergeI V W)).map mk := fun q => by rw [hend q]; simp [ints]
    cases A with
    | nil =>
      conv => whnf
      refine Fork.dec (fun h1 => absurd h1 (by simp)) (fun _ => ?_)
      conv => whnf
      refine RApp.grow 1 8 _ _ _ _ _ _ tyI .fr hA1 (ints_one _) (.rw rfl hO) hbig1 ?_
      conv => whnf
      refine RApp.grow 1 8 _ _ _ _ _ _ tyI .fr hB1 (ints_one _) (.rw rfl hOA) hbig2 ?_
      conv => whnf
      exact frG_row rfl hsum rfl (hmap (.inl rfl)) hlen
    | cons a A =>
      cases B with
      | nil =>
        conv => whnf
        refine Fork.dec (fun _ => ?_) (fun h1 => absurd h1 (by simp))
        conv => whnf
        refine Fork.dec (fun h1 => absurd h1 (by simp)) (fun _ => ?_)
        conv => whnf
        refine RApp.grow 1 8 _ _ _ _ _ _ tyI .fr hA1 (ints_one _) (.rw rfl hO) hbig1 ?_
        conv => whnf
        refine RApp.grow 1 8 _ _ _ _ _ _ tyI .fr hB1 (ints_one _) (.rw rfl hOA) hbig2 ?_
        conv => whnf
        exact frG_row rfl hsum rfl (hmap (.inr rfl)) hlen
      | cons b B =>
        have hbig3 : (O.length + 1) * 8 ≤ 140737488355328 := by simp only [List.length_cons] at hl; omega
        conv => whnf
        refine Fork.dec (fun _ => ?_) (fun h1 => absurd h1 (by simp))
        conv => whnf
        refine Fork.dec (fun _ => ?_) (fun h1 => absurd h1 (by simp))
        conv => whnf
        refine Idx.mk 0 rfl (Nat.succ_pos _) ?_
        conv => whnf
        refine Idx.mk 0 rfl (Nat.succ_pos _) ?_
        conv => whnf
        refine Fork.dec (fun h1 => ?_) (fun h1 => ?_)
        · conv => whnf
          refine Idx.mk 0 rfl (Nat.succ_pos _) ?_
          conv => whnf
          refine RApp.grow 1 8 _ _ _ _ _ _ tyI (.old rfl) rfl rfl (.rw rfl hO) hbig3 ?_
          conv => whnf
          refine RSl.mk 1 (B.length + 1) rfl rfl (.inl rfl) (Nat.succ_le_succ (Nat.zero_le _)) (Nat.le_refl _) ?_
          conv => whnf
          refine ⟨⟨(B, a :: A, O ++ [b]), ?_, ?_⟩, ?_, mg0_cov 2 (Nat.zero_le _) rfl rfl (SubV.rw (by decide) rfl) (.inl ⟨_, rfl, ints_snoc O b⟩)⟩
          · simp only [List.length_cons, List.length_append, List.length_nil] at hl ⊢; omega
          · show (O ++ [b]) ++ mergeI B (a :: A) = _
            rw [← he, mergeI_gt A B h1]; simp
          · show B.length + (A.length + 1) < (A.length + 1) + (B.length + 1)
            omega
        · conv => whnf
          refine Idx.mk 0 rfl (Nat.succ_pos _) ?_
          conv => whnf
          refine RApp.grow 1 8 _ _ _ _ _ _ tyI (.old rfl) rfl rfl (.rw rfl hO) hbig3 ?_
          conv => whnf
          refine RSl.mk 1 (A.length + 1) rfl rfl (.inl rfl) (Nat.succ_le_succ (Nat.zero_le _)) (Nat.le_refl _) ?_
          conv => whnf
          refine ⟨⟨(A, b :: B, O ++ [a]), ?_, ?_⟩, ?_, mg0_cov 2 (Nat.zero_le _) rfl rfl (SubV.rw (by decide) rfl) (.inl ⟨_, rfl, ints_snoc O a⟩)⟩
          · simp only [List.length_cons, List.length_append, List.length_nil] at hl ⊢; omega
          · show (O ++ [a]) ++ mergeI A (b :: B) = _
            rw [← he, mergeI_le A B h1]; simp
          · show A.length + (B.length + 1) < (A.length + 1) + (B.length + 1)
            omega
theorem n_merge : NatP 65 natMg := fun args H n κ hs φ h0' hp vs K hr hargs hk => by
  unfold natMg at hs
  split at hs
  · obtain ⟨x, y, rfl, e1, e2⟩ := vs2 hargs
    obtain ⟨V, W, rfl, rfl, hL, hs⟩ := hs
    exact smallFr GA_ok (ints_flat _) (by rw [ints_length, mergeI_len, Nat.mul_one]) (merge_run V W hL) hs hr hk (by kernel_rfl) (φ0 := ⟨fun _ => none, φ.z, φ.z⟩) (fun hw => hr.withz (start_none hw) (fun _ _ h => by cases h) (fun _ h => h)) rfl
      (.cons (stab_VR (ψ := ⟨fun _ => none, φ.z, φ.z⟩) (fun _ h => h) rfl e1) (.cons (stab_VR (ψ := ⟨fun _ => none, φ.z, φ.z⟩) (fun _ h => h) rfl e2) .nil))
  · exact hs.elim
noncomputable def GB : FuncId → EP := withS 65 natMg evP
theorem GB_ok : TabP GB := withS_ok evP_ok n_merge singMg
end Go.Proofs.Ytkhfdjhohfebgaa
namespace Go.Proofs.Ytkhfdjhohfebgaa
open Go Go.RowKit
def riseI (V : List Int) : List Int := if h : V.length < 2 then V else mergeI (riseI (V.take (V.length / 2))) (riseI (V.drop (V.length / 2)))
termination_by V.length
decreasing_by
  · simp; omega
  · simp; omega
theorem riseI_lt {V : List Int} (h : V.length < 2) : riseI V = V := by rw [riseI, dif_pos h]
theorem riseI_ge {V : List Int} (h : ¬ V.length < 2) : riseI V = mergeI (riseI (V.take (V.length / 2))) (riseI (V.drop (V.length / 2))) := by rw [riseI, dif_neg h]
theorem riseI_lenN : ∀ (N : Nat) (V : List Int), V.length ≤ N → (riseI V).length = V.length
  | 0, V, h => by rw [riseI_lt (by omega)]
  | N + 1, V, h => by
    by_cases q : V.length < 2
    · rw [riseI_lt q]
    · have h1 : (V.take (V.length / 2)).length = V.length / 2 := by rw [List.length_take]; omega
      have h2 : (V.drop (V.length / 2)).length = V.length - V.length / 2 := List.length_drop
      rw [riseI_ge q, mergeI_len, riseI_lenN N _ (by omega), riseI_lenN N _ (by omega), h1, h2]; omega
theorem riseI_len (V : List Int) : (riseI V).length = V.length := riseI_lenN _ V (Nat.le_refl _)
def natRi (N : Nat) (args : List AV) (H : AH) (n : Nat) (κ : PK) : Prop := match args with
  | [x] => ∃ V, x = .fr V.length 1 (ints V) ∧ V.length ≤ N ∧ V.length ≤ 8796093022208 ∧ κ (.fr V.length 1 (ints (riseI V))) H n
  | _ => False
theorem singRi {N : Nat} : SingG (natRi N) := .pure fun args H n κ hs => by
  unfold natRi at *
  split at hs
  · obtain ⟨V, h1, h2, h3, h4⟩ := hs
    exact ⟨_, h4, fun κ' h => ⟨V, h1, h2, h3, h⟩⟩
  · exact hs.elim
theorem fr_eq {n m k : Nat} {l r : List AV} (h1 : n = m) (h2 : l = r) : AV.fr n k l = AV.fr m k r := by subst h1 h2; rfl
theorem ebnd_is {x : Int} {j d : Nat} {k : IntKind} (h : x = (j : Int)) : ebnd (some (AV.int k x)) d = some j := by subst h; rfl
def d_groupRise : DT := [(4, [(some 0, [0]), (some 0, [3]), (some 0, [11, 12]), (none, [13]), (some 1, [0]), (some 2, [3]), (some 3, [15, 16]), (none, [17]), (none, [14, 18]), (some 0, [19])])]
noncomputable def GR (N : Nat) : FuncId → EP := withS 55 (natRi N) GB
theorem GR_ok {N : Nat} (h : NatP 55 (natRi N)) : TabP (GR N) := withS_ok GB_ok h singRi
theorem wrap_half {l : Nat} (h : l ≤ 8796093022208) : IntKind.i64.wrap ((l : Int).tdiv 2) = ((l / 2 : Nat) : Int) := by
  rw [show (l : Int).tdiv 2 = ((l / 2 : Nat) : Int) from by rw [Int.tdiv_eq_ediv_of_nonneg (by omega)]; omega]
  rw [wrap_i64_of (by omega) (by omega)]
set_option maxHeartbeats 4000000 in
set_option maxRecDepth 100000 in
theorem rise_run (N : Nat) (V : List Int) (hN : V.length ≤ N + 1) (hL : V.length ≤ 8796093022208) : recT (GR N) 3 d_groupRise 55 [.fr V.length 1 (ints V)] .nil 0 fun u H' _ => FrG V.length 1 (ints (riseI V)) u H' := by
  have hlen : (ints (riseI V)).length = V.length * 1 := by rw [ints_length, riseI_len, Nat.mul_one]
  conv => whnf
  refine Fork.dec (fun h1 => ?_) (fun h1 => ?_)
  · have h2 : V.length < 2 := by have : (V.length : Int) < 2 := h1; omega
    conv => whnf
    exact .inr (.inl ⟨fr_eq rfl (by rw [riseI_lt h2]), hlen⟩)
  · have h2 : ¬ V.length < 2 := by have : ¬ (V.length : Int) < 2 := h1; omega
    have hw := wrap_half hL
    have t1 : (V.take (V.length / 2)).length = V.length / 2 := by rw [List.length_take]; omega
    have t2 : (V.drop (V.length / 2)).length = V.length - V.length / 2 := List.length_drop
    conv => whnf
    refine RSl.mk 0 (V.length / 2) rfl (ebnd_is hw) (.inl rfl) (Nat.zero_le _) (by omega) ?_
    conv => whnf
    refine ⟨V.take (V.length / 2), fr_eq t1.symm ((congrArg ((ints V).take ·) (Nat.mul_one _)).trans (ints_take _ _)), by omega, by omega, ?_⟩
    conv => whnf
    refine RSl.mk (V.length / 2) V.length (ebnd_is hw) rfl (.inl rfl) (by omega) (Nat.le_refl _) ?_
    conv => whnf
    refine ⟨V.drop (V.length / 2), fr_eq t2.symm ((congrArg ((ints V).drop ·) (Nat.mul_one _)).trans (ints_drop _ _)), by omega, by omega, ?_⟩
    conv => whnf
    refine ⟨riseI (V.take (V.length / 2)), riseI (V.drop (V.length / 2)), fr_eq (riseI_len _).symm rfl, fr_eq (riseI_len _).symm rfl, by rw [riseI_len, riseI_len, t1, t2]; omega, ?_⟩
    conv => whnf
    exact .inr (.inl ⟨fr_eq (by rw [riseI_len, riseI_len, t1, t2]; omega) (by rw [← riseI_ge h2]), hlen⟩)
set_option maxHeartbeats 4000000 in
set_option maxRecDepth 100000 in
theorem rise_run0 (V : List Int) (hN : V.length ≤ 0) : recT GB 3 d_groupRise 55 [.fr V.length 1 (ints V)] .nil 0 fun u H' _ => FrG V.length 1 (ints (riseI V)) u H' := by
  have hlen : (ints (riseI V)).length = V.length * 1 := by rw [ints_length, riseI_len, Nat.mul_one]
  conv => whnf
  refine Fork.dec (fun h1 => ?_) (fun h1 => absurd (show (V.length : Int) < 2 by omega) h1)
  have h2 : V.length < 2 := by omega
  conv => whnf
  exact .inr (.inl ⟨fr_eq rfl (by rw [riseI_lt h2]), hlen⟩)
theorem n_riseN : ∀ N, NatP 55 (natRi N)
  | 0 => fun args H n κ hs φ h0' hp vs K hr hargs hk => by
    unfold natRi at hs
    split at hs
    · obtain ⟨x, rfl, e1⟩ := vs1 hargs
      obtain ⟨V, rfl, hN, hL, hs⟩ := hs
      exact smallFrR (recT_ok GB_ok 3 (by kernel_rfl) (by kernel_rfl)) (ints_flat _) (by rw [ints_length, riseI_len, Nat.mul_one]) (rise_run0 V hN) hs hr hk (by kernel_rfl) (φ0 := ⟨fun _ => none, φ.z, φ.z⟩) (fun hw => hr.withz (start_none hw) (fun _ _ h => by cases h) (fun _ h => h)) rfl
        (.cons (stab_VR (ψ := ⟨fun _ => none, φ.z, φ.z⟩) (fun _ h => h) rfl e1) .nil)
    · exact hs.elim
  | N + 1 => fun args H n κ hs φ h0' hp vs K hr hargs hk => by
    unfold natRi at hs
    split at hs
    · obtain ⟨x, rfl, e1⟩ := vs1 hargs
      obtain ⟨V, rfl, hN, hL, hs⟩ := hs
      exact smallFrR (recT_ok (GR_ok (n_riseN N)) 3 (by kernel_rfl) (by kernel_rfl)) (ints_flat _) (by rw [ints_length, riseI_len, Nat.mul_one]) (rise_run N V hN hL) hs hr hk (by kernel_rfl) (φ0 := ⟨fun _ => none, φ.z, φ.z⟩) (fun hw => hr.withz (start_none hw) (fun _ _ h => by cases h) (fun _ h => h)) rfl
        (.cons (stab_VR (ψ := ⟨fun _ => none, φ.z, φ.z⟩) (fun _ h => h) rfl e1) .nil)
    · exact hs.elim
/-- A frozen row's numbers, rising. -/
theorem n_rise : NatP 55 (natRi 8796093022208) := n_riseN _
noncomputable def GC : FuncId → EP := GR 8796093022208
theorem GC_ok : TabP GC := GR_ok n_rise
end Go.Proofs.Ytkhfdjhohfebgaa
namespace Go.Proofs.Ytkhfdjhohfebgaa
open Go Go.RowKit
/-- A row of one's own is frozen: its block has no name any more. -/
theorem HR.freeze {φ : Ph} {H : AH} {n : Nat} {h0 h : Hp} (hr : HR φ H n h0 h) {b m k x : Nat} {l s : List AV} {z : Bool} {v : Value} (hb : H.get b = some (.cells l z)) (hv : VR φ (.rw b 0 m k x) v) (hx : x ≠ 4) (hs : s.all flat.flat1 = true) (hsl : s.length = m * k) (hmk : l.map Go.Proofs.Ytkhfdjhohfebgaa.mk = s.map Go.Proofs.Ytkhfdjhohfebgaa.mk) :
    ∃ χ, PLe φ χ ∧ HR χ (H.set none depthH b) n h0 h ∧ VR χ (.fr m k s) v := by
  have hk := hr.kill depthH b
  have hll : l.length = m * k := by have := congrArg List.length hmk; simp only [List.length_map] at this; omega
  have hst : s.all stab = true := by
    rw [List.all_eq_true] at hs ⊢
    intro y hy
    have := hs y hy
    cases y <;> first | rfl | cases this
  rcases hv.rw_inv with ⟨h1, hem⟩ | ⟨p, a, C, hpb, rfl, h2, h3, h4, h5, _, _⟩
  · have hs0 : s = [] := List.eq_nil_of_length_eq_zero (by rw [hsl, h1, Nat.zero_mul])
    subst h1 hs0
    rw [hem.nil hx]
    exact ⟨φ, .refl φ, hk, .fre fun _ => rfl⟩
  · by_cases hm : m = 0
    · have hs0 : s = [] := List.eq_nil_of_length_eq_zero (by rw [hsl, hm, Nat.zero_mul])
      subst hm hs0
      exact ⟨φ, .refl φ, hk, .fre fun q => by cases q⟩
    · have ha := h2 hm
      subst ha
      obtain ⟨ob, hq0, hq1, cc, t, fz, rfl, o1, o2, o3, o4, o5⟩ := hr.of hb hpb
      refine ⟨φ.more fun q => q = ⟨p.B, p.s + 0, s⟩, φ.more_le _, hk.more fun q hq => ?_, ?_⟩
      · subst hq
        refine ⟨⟨⟨(hr.dom _ _ hpb).2, hst⟩, cc, t, fz, hq1, (show p.s + 0 + s.length ≤ cc.size by omega), CR.mk_flat o5 hmk hs⟩, hq0, fun b' o' p' e1 e2 e3 e4 => ?_⟩
        rcases PM.get_set depthH H b b' o' e1 with ⟨_, h⟩ | ⟨h6, h7⟩
        · cases h
        · exact h6 (hr.inj b' b o' _ p' p h7 hb e2 rfl e3 hpb e4)
      · have : VR (φ.more fun q => q = ⟨p.B, p.s + 0, s⟩) (.fr m k s) (.slice (some ⟨p.B, p.s + 0 + 0, none⟩) m C) := .fr (q := ⟨p.B, p.s + 0, s⟩) (o := 0) (.inr rfl) h4 (subL_all hsl)
        exact this
def natRw (args : List AV) (H : AH) (n : Nat) (κ : PK) : Prop := match args with
  | [x] => ∃ V b j y l z, x = .rw b 0 j 1 y ∧ j = V.length ∧ y ≠ 4 ∧ H.get b = some (.cells l z) ∧ l.map mk = ints V ∧ V.length ≤ 8796093022208 ∧ κ (.fr V.length 1 (ints (riseI V))) (H.set none depthH b) n
  | _ => False
theorem n_riseW : NatP 55 natRw := fun args H n κ hs φ h0' hp vs K hr hargs hk => by
  unfold natRw at hs
  split at hs
  · obtain ⟨x, rfl, e1⟩ := vs1 hargs
    obtain ⟨V, b, j, y, l, z, rfl, rfl, hy, hb, hl, hL, hs⟩ := hs
    obtain ⟨χ, h1, h2, h3⟩ := hr.freeze (s := ints V) hb e1 hy (ints_flat V) (by rw [ints_length, Nat.mul_one]) (by rw [hl, ints_map])
    exact n_rise [.fr V.length 1 (ints V)] (H.set none depthH b) n κ ⟨V, rfl, hL, hL, hs⟩ χ h0' hp _ K h2 (.cons h3 .nil) fun ψ v H' n' u g hle => hk ψ v H' n' u g (h1.trans hle)
  · exact hs.elim
noncomputable def GW : FuncId → EP := withN 55 natRw evP
theorem GW_ok : TabP GW := withN_ok evP_ok n_riseW
end Go.Proofs.Ytkhfdjhohfebgaa
namespace Go.Proofs.Ytkhfdjhohfebgaa
open Go Go.RowKit
/-! ### rising -/
theorem mergeI_perm : ∀ (A B : List Int), (mergeI A B).Perm (A ++ B)
  | [], B => by rw [mergeI_nil]; exact .refl _
  | a :: A, [] => by rw [mergeI_nilr, List.append_nil]
  | a :: A, b :: B => by
    by_cases h : b < a
    · rw [mergeI_gt A B h]
      have := (mergeI_perm B (a :: A)).cons b
      refine this.trans ?_
      exact (List.perm_append_comm (l₁ := b :: B) (l₂ := a :: A))
    · rw [mergeI_le A B h]
      exact (mergeI_perm A (b :: B)).cons a
termination_by A B => A.length + B.length
theorem mergeI_sorted : ∀ (A B : List Int), A.Pairwise (· ≤ ·) → B.Pairwise (· ≤ ·) → (mergeI A B).Pairwise (· ≤ ·)
  | [], B, _, hB => by rw [mergeI_nil]; exact hB
  | a :: A, [], hA, _ => by rw [mergeI_nilr]; exact hA
  | a :: A, b :: B, hA, hB => by
    obtain ⟨a1, a2⟩ := List.pairwise_cons.1 hA
    obtain ⟨b1, b2⟩ := List.pairwise_cons.1 hB
    by_cases h : b < a
    · rw [mergeI_gt A B h]
      refine List.pairwise_cons.2 ⟨fun x hx => ?_, mergeI_sorted B (a :: A) b2 hA⟩
      rcases List.mem_append.1 ((mergeI_perm B (a :: A)).mem_iff.1 hx) with hx | hx
      · exact b1 x hx
      · rcases List.mem_cons.1 hx with rfl | hx
        · omega
        · have := a1 x hx; omega
    · rw [mergeI_le A B h]
      refine List.pairwise_cons.2 ⟨fun x hx => ?_, mergeI_sorted A (b :: B) a2 hB⟩
      rcases List.mem_append.1 ((mergeI_perm A (b :: B)).mem_iff.1 hx) with hx | hx
      · exact a1 x hx
      · rcases List.mem_cons.1 hx with rfl | hx
        · omega
        · have := b1 x hx; omega
termination_by A B => A.length + B.length
theorem riseI_perm_sortedN : ∀ (N : Nat) (V : List Int), V.length ≤ N → (riseI V).Perm V ∧ (riseI V).Pairwise (· ≤ ·)
  | N, V, h => by
    by_cases q : V.length < 2
    · rw [riseI_lt q]
      refine ⟨.refl _, ?_⟩
      match V, q with
      | [], _ => exact .nil
      | [x], _ => exact List.pairwise_singleton _ _
    · cases N with
      | zero => omega
      | succ N =>
        have h1 : (V.take (V.length / 2)).length = V.length / 2 := by rw [List.length_take]; omega
        have h2 : (V.drop (V.length / 2)).length = V.length - V.length / 2 := List.length_drop
        obtain ⟨p1, s1⟩ := riseI_perm_sortedN N (V.take (V.length / 2)) (by omega)
        obtain ⟨p2, s2⟩ := riseI_perm_sortedN N (V.drop (V.length / 2)) (by omega)
        rw [riseI_ge q]
        refine ⟨(mergeI_perm _ _).trans ((p1.append p2).trans ?_), mergeI_sorted _ _ s1 s2⟩
        rw [List.take_append_drop]
theorem riseI_perm (V : List Int) : (riseI V).Perm V := (riseI_perm_sortedN _ V (Nat.le_refl _)).1
theorem riseI_sorted (V : List Int) : (riseI V).Pairwise (· ≤ ·) := (riseI_perm_sortedN _ V (Nat.le_refl _)).2
theorem sorted_eq {A B : List Int} (h : A.Perm B) (hA : A.Pairwise (· ≤ ·)) (hB : B.Pairwise (· ≤ ·)) : A = B := List.Perm.eq_of_pairwise (le := (· ≤ ·)) (fun a b _ _ h1 h2 => by omega) hA hB h
theorem riseI_of {V W : List Int} (h : V.Perm W) : riseI V = riseI W := sorted_eq ((riseI_perm V).trans (h.trans (riseI_perm W).symm)) (riseI_sorted V) (riseI_sorted W)
/-! ### by their times -/
abbrev Grp := List (Int × Smp)
def gIns : Grp → Int × Int → Grp
  | [], x => [(x.1, [x])]
  | (t, xs) :: G, x => if t = x.1 then (t, xs ++ [x]) :: G else (t, xs) :: gIns G x
def gatherF (X : List Smp) : Grp := X.flatten.foldl gIns []
def keysG (G : Grp) : List Int := G.map (·.1)
/-- Each time once, with all its samples in order, and there is one. -/
structure IsGrp (L : Smp) (G : Grp) : Prop where
  nd : (keysG G).Nodup
  mem : ∀ t, t ∈ keysG G ↔ ∃ x ∈ L, x.1 = t
  all : ∀ t xs, (t, xs) ∈ G → xs = L.filter (fun x => x.1 == t)
theorem gIns_keys : ∀ (G : Grp) (x : Int × Int), keysG (gIns G x) = if x.1 ∈ keysG G then keysG G else keysG G ++ [x.1]
  | [], x => by simp [gIns, keysG]
  | (t, xs) :: G, x => by
    have ih := gIns_keys G x
    unfold gIns
    by_cases h : t = x.1
    · rw [if_pos h, if_pos (by simp [keysG, h])]; rfl
    · rw [if_neg h]
      show t :: keysG (gIns G x) = _
      rw [ih]
      have e : (x.1 ∈ keysG ((t, xs) :: G)) ↔ x.1 ∈ keysG G := by simp [keysG, Ne.symm h]
      by_cases q : x.1 ∈ keysG G
      · rw [if_pos q, if_pos (e.2 q)]; rfl
      · rw [if_neg q, if_neg (fun k => q (e.1 k))]; rfl
theorem gIns_mem : ∀ (G : Grp) (x : Int × Int) (t : Int) (xs : Smp), (keysG G).Nodup → (t, xs) ∈ gIns G x → (t ≠ x.1 ∧ (t, xs) ∈ G) ∨ (t = x.1 ∧ ((∃ ys, (t, ys) ∈ G ∧ xs = ys ++ [x]) ∨ (t ∉ keysG G ∧ xs = [x])))
  | [], x, t, xs, _, h => by
    simp [gIns] at h
    exact .inr ⟨h.1, .inr ⟨by simp [keysG], h.2⟩⟩
  | (u, us) :: G, x, t, xs, hn, h => by
    obtain ⟨hn1, hn2⟩ := List.nodup_cons.1 (show (u :: keysG G).Nodup from hn)
    unfold gIns at h
    by_cases q : u = x.1
    · rw [if_pos q] at h
      rcases List.mem_cons.1 h with h | h
      · injection h with h1 h2
        exact .inr ⟨h1.trans q, .inl ⟨us, by rw [h1]; exact List.mem_cons_self, h2⟩⟩
      · refine .inl ⟨fun e => hn1 ?_, List.mem_cons_of_mem _ h⟩
        rw [q, ← e]
        exact List.mem_map.2 ⟨_, h, rfl⟩
    · rw [if_neg q] at h
      rcases List.mem_cons.1 h with h | h
      · injection h with h1 h2
        exact .inl ⟨by rw [h1]; exact q, by rw [h1, h2]; exact List.mem_cons_self⟩
      · rcases gIns_mem G x t xs hn2 h with ⟨h1, h2⟩ | ⟨h1, ⟨ys, h2, h3⟩ | ⟨h2, h3⟩⟩
        · exact .inl ⟨h1, List.mem_cons_of_mem _ h2⟩
        · exact .inr ⟨h1, .inl ⟨ys, List.mem_cons_of_mem _ h2, h3⟩⟩
        · exact .inr ⟨h1, .inr ⟨fun k => (List.mem_cons.1 (show t ∈ u :: keysG G from k)).elim (fun e => q (by rw [← e, h1])) h2, h3⟩⟩
theorem IsGrp.snoc {L : Smp} {G : Grp} (h : IsGrp L G) (x : Int × Int) : IsGrp (L ++ [x]) (gIns G x) := by
  refine ⟨?_, fun t => ?_, fun t xs hm => ?_⟩
  · rw [gIns_keys]
    split
    · exact h.nd
    · rename_i q
      rw [List.nodup_append]
      refine ⟨h.nd, by simp, fun a ha b hb e => ?_⟩
      simp at hb
      subst hb e
      exact q ha
  · have hk := gIns_keys G x
    rw [hk]
    by_cases q : x.1 ∈ keysG G
    · rw [if_pos q, h.mem]
      constructor
      · intro ⟨y, h1, h2⟩; exact ⟨y, List.mem_append_left _ h1, h2⟩
      · intro ⟨y, h1, h2⟩
        rcases List.mem_append.1 h1 with h1 | h1
        · exact ⟨y, h1, h2⟩
        · simp at h1; subst h1; rw [← h2]; exact (h.mem _).1 q
    · rw [if_neg q, List.mem_append, h.mem]
      constructor
      · rintro (⟨y, h1, h2⟩ | h1)
        · exact ⟨y, List.mem_append_left _ h1, h2⟩
        · simp at h1; exact ⟨x, by simp, h1.symm⟩
      · intro ⟨y, h1, h2⟩
        rcases List.mem_append.1 h1 with h1 | h1
        · exact .inl ⟨y, h1, h2⟩
        · simp at h1; subst h1; exact .inr (by simp [h2])
  · rw [List.filter_append]
    rcases gIns_mem G x t xs h.nd hm with ⟨h1, h2⟩ | ⟨h1, ⟨ys, h2, h3⟩ | ⟨h2, h3⟩⟩
    · rw [h.all t xs h2]
      have : (x.1 == t) = false := by simp [Ne.symm h1]
      simp [this]
    · rw [h3, h.all t ys h2]
      simp [h1]
    · have : L.filter (fun x => x.1 == t) = [] := by
        rw [List.filter_eq_nil_iff]
        intro y hy e
        exact h2 ((h.mem t).2 ⟨y, hy, by simpa using e⟩)
      rw [h3, this]; simp [h1]
theorem isGrp_fold : ∀ (M L : Smp) (G : Grp), IsGrp L G → IsGrp (L ++ M) (M.foldl gIns G)
  | [], L, G, h => by simpa using h
  | x :: M, L, G, h => by
    have := isGrp_fold M (L ++ [x]) (gIns G x) (h.snoc x)
    simpa using this
theorem gather_is (X : List Smp) : IsGrp X.flatten (gatherF X) := by
  have := isGrp_fold X.flatten [] [] ⟨by simp [keysG], fun t => by simp [keysG], fun t xs h => by simp at h⟩
  simpa [gatherF] using this
theorem IsGrp.ne {L : Smp} {G : Grp} (h : IsGrp L G) {t : Int} {xs : Smp} (hm : (t, xs) ∈ G) : xs ≠ [] := fun e => by
  obtain ⟨x, h1, h2⟩ := (h.mem t).1 (List.mem_map.2 ⟨_, hm, rfl⟩)
  have h3 := h.all t xs hm
  rw [e] at h3
  have : x ∈ L.filter (fun x => x.1 == t) := List.mem_filter.2 ⟨h1, by simp [h2]⟩
  rw [← h3] at this
  cases this
end Go.Proofs.Ytkhfdjhohfebgaa
namespace Go.Proofs.Ytkhfdjhohfebgaa
open Go Go.RowKit
def rowsC (X : List Smp) : List AV := X.map fun L => .fr L.length 2 (smp L)
def entG (G : Grp) : List (AV × AV) := G.map fun e => (.int .i64 e.1, .fr e.2.length 2 (smp e.2))
theorem rowsC_length (X : List Smp) : (rowsC X).length = X.length := by simp [rowsC]
/-- A cell that holds a row of samples. -/
def cellAt (H : AH) (a : AV) (L : Smp) : Prop := SmpAt H a L ∨ a = .fr L.length 2 (smp L)
inductive Cells2 (H : AH) : List AV → List Smp → Prop where
  | nil : Cells2 H [] []
  | cons {a : AV} {L : Smp} {r : List AV} {X : List Smp} (h : cellAt H a L) (t : Cells2 H r X) : Cells2 H (a :: r) (L :: X)
theorem Cells2.rowsC {H : AH} : ∀ X : List Smp, Cells2 H (rowsC X) X
  | [] => .nil
  | L :: X => .cons (.inr rfl) (Cells2.rowsC X)
/-- A slice of rows of samples. -/
def RowsAt (H : AH) (a : AV) (X : List Smp) : Prop := (hd a = .nsl ∧ X = []) ∨ (∃ r, a = .fr X.length 1 r ∧ Cells2 H r X) ∨
  (∃ b o x l r, (a = .rw b o X.length 1 x ∧ x ≠ 4) ∧ (H.get b = some (.ro l) ∨ ∃ z, H.get b = some (.cells l z)) ∧ subL l o (X.length * 1) = some r ∧ Cells2 H r X) ∨
  ∃ b o c k l r, hd a = .sl b o X.length c k ∧ (H.get b = some (.ro l) ∨ ∃ z, H.get b = some (.cells l z)) ∧ subL l o (X.length * 1) = some r ∧ Cells2 H r X ∧ X.length ≤ c
def natGa (args : List AV) (H : AH) (n : Nat) (κ : PK) : Prop := match args with
  | [x] => ∃ X, RowsAt H x X ∧ X.length + X.flatten.length ≤ 1000000 ∧ κ (.map n) (H.set (some (.map (entG (gatherF X)))) depthH n) (n + 1)
  | _ => False
theorem SubO.mapS {H : AH} {m : Nat} {r : Nat → Nat} {es : List (AV × AV)} (h : ∀ e ∈ es, stab e.1 = true ∧ stab e.2 = true) : SubO H m r (.map es) (.map es) :=
  ⟨rfl, fun φ ψ p ob hr _ ⟨ms, cl, h1, h2, h3⟩ => ⟨ms, cl, h1, by
    have : ∀ (es : List (AV × AV)) (ms : List MapEntry), (∀ e ∈ es, stab e.1 = true ∧ stab e.2 = true) → MR φ es ms → MR ψ es ms := fun es => by
      induction es with
      | nil => intro ms _ k; exact k
      | cons e es ih => intro ms h ⟨m, us, k1, k2, k3, k4⟩; exact ⟨m, us, k1, stab_VR hr.2 (h e List.mem_cons_self).1 k2, stab_VR hr.2 (h e List.mem_cons_self).2 k3, ih us (fun e he => h e (List.mem_cons_of_mem _ he)) k4⟩
    exact this es _ h h2, h3⟩⟩
theorem SubO.iterS {H : AH} {m : Nat} {r : Nat → Nat} {b k : Nat} {seen : List Nat} (hb : b < m) (hr : r b = b) : SubO H m r (.iter b k seen) (.iter b k seen) :=
  ⟨rfl, fun φ ψ p ob hren _ ⟨h0, q, h1, h2⟩ => ⟨h0, q, by rw [hren.1 b hb, hr]; exact h1, h2⟩⟩
theorem entG_stab (G : Grp) : ∀ e ∈ entG G, stab e.1 = true ∧ stab e.2 = true := fun e he => by
  simp only [entG, List.mem_map] at he
  obtain ⟨x, _, rfl⟩ := he
  exact ⟨rfl, rfl⟩
theorem entG_at {G : Grp} {i : Nat} {e : AV × AV} (h : (entG G)[i]? = some e) : ∃ hl : i < G.length, e = (.int .i64 G[i].1, .fr G[i].2.length 2 (smp G[i].2)) := by
  simp only [entG, List.getElem?_map, Option.map_eq_some_iff] at h
  obtain ⟨x, h1, rfl⟩ := h
  obtain ⟨h2, h3⟩ := List.getElem?_eq_some_iff.1 h1
  subst h3
  exact ⟨h2, rfl⟩
theorem entG_length (G : Grp) : (entG G).length = G.length := by simp [entG]
def keyAt (G : Grp) (i : Nat) : Int := ((G[i]?).map (·.1)).getD 0
theorem keyAt_eq {G : Grp} {i : Nat} (h : i < G.length) : keyAt G i = G[i].1 := by simp [keyAt, List.getElem?_eq_getElem h]
/-- All entries seen once: all keys, in some order. -/
theorem seen_all {G : Grp} {seen : List Nat} (h1 : seen.Nodup) (h2 : ∀ i ∈ seen, i < G.length) (h3 : ∀ i, i < G.length → i ∈ seen) : (seen.map (keyAt G)).Perm (keysG G) := by
  have p : seen.Perm (List.range G.length) := (List.perm_ext_iff_of_nodup h1 List.nodup_range).2 fun a => by
    rw [List.mem_range]; exact ⟨h2 a, h3 a⟩
  refine (p.map _).trans ?_
  have : (List.range G.length).map (keyAt G) = keysG G := by
    apply List.ext_getElem
    · simp [keysG]
    · intro i h _
      simp at h
      simp [keysG, keyAt_eq h]
  rw [this]
noncomputable def tm0 (X : List Smp) (G : Grp) (V : List Int) (seen : List Nat) : AE × AH := (mkE [(3, .rw 3 0 V.length 1 0), (6, .ptr 2 (0))], mkH [(1, AO.map (entG G)), (2, AO.iter 1 (entG G).length seen), (3, .cells (ints (V)) true)])
theorem tm0_cov {X : List Smp} {G : Grp} {V : List Int} {seen : List Nat} {p n : Nat} {σ : AE} {H : AH} (j3 : Nat) (hj : j3 ≠ 1 ∧ j3 ≠ 2) (hp : p ≤ 2) (e3 : SubV H 4 (fun b => if b = 3 then j3 else b) (getq (pa 3) σ) (.rw 3 0 V.length 1 0)) (e6 : getq (pa 6) σ = .ptr 2 (0)) (h1 : H.get 1 = some (AO.map (entG G))) (h2 : H.get 2 = some (AO.iter 1 (entG G).length seen)) (h3 : (∃ l, H.get j3 = some (.cells l true) ∧ l.map mk = ints (V)) ∨ ((V) = [] ∧ n ≤ j3)) : Cov p σ H n ((tm0 X G V seen).1, (tm0 X G V seen).2, 4) := by
  refine Cov.ofR (fun b => if b = 3 then j3 else b) (by omega) (fun b hb => by repeat' rw [if_neg (by omega)]) ?_ ?_ ?_
  · intro x hx
    simp only [List.mem_cons, List.not_mem_nil, or_false] at hx
    rcases hx with rfl | rfl
    · exact e3
    · exact .ptr (by decide) e6
  · intro x hx
    simp only [List.mem_cons, List.not_mem_nil, or_false] at hx
    rcases hx with rfl | rfl | rfl
    · exact ⟨by simp, .inl ⟨_, h1, SubO.mapS (entG_stab G)⟩⟩
    · exact ⟨by simp, .inl ⟨_, h2, SubO.iterS (by decide) rfl⟩⟩
    · exact ⟨by simp, h3.elim (fun ⟨l, h, g⟩ => .inl ⟨_, h, SubO.cells_mk (ints_flat _) (by rw [g, ints_map]) (fun q => q)⟩) (fun h => .inr ⟨by rw [h.1]; rfl, h.2⟩)⟩
  · intro x hx y hy
    simp only [List.mem_cons, List.not_mem_nil, or_false] at hx hy
    rcases hx with rfl | rfl | rfl <;> rcases hy with rfl | rfl | rfl <;> simp <;> omega
end Go.Proofs.Ytkhfdjhohfebgaa
namespace Go.Proofs.Ytkhfdjhohfebgaa
open Go Go.RowKit
noncomputable def GT : FuncId → EP := withD 20 [] (withD 40 [] (withN 55 natRw (withN 39 natGa evP)))
theorem GT_ok (hG : NatP 39 natGa) : TabP GT := withD_ok (withD_ok (withN_ok (withN_ok evP_ok hG) n_riseW) (by kernel_rfl) (by kernel_rfl)) (by kernel_rfl) (by kernel_rfl)
/-- The times of rows, rising. -/
def timesF (X : List Smp) : List Int := riseI (keysG (gatherF X))
theorem RowsAt.ro {H : AH} {a : AV} {b : Nat} {X : List Smp} (h1 : a = .rw b 0 X.length 1 2) (h2 : H.get b = some (.ro (rowsC X))) : RowsAt H a X :=
  .inr (.inr (.inl ⟨b, 0, 2, _, _, ⟨h1, by decide⟩, .inl h2, subL_all (by rw [rowsC_length, Nat.mul_one]), Cells2.rowsC X⟩))
theorem RowsAt.frz {H : AH} {a : AV} {X : List Smp} (h1 : a = .fr X.length 1 (rowsC X)) : RowsAt H a X := .inr (.inl ⟨_, h1, Cells2.rowsC X⟩)
set_option maxHeartbeats 4000000 in
set_option maxRecDepth 100000 in
theorem times_run (X : List Smp) (hL : X.length + X.flatten.length ≤ 1000000) (hK : (gatherF X).length ≤ 1000000) : callT GT 4 20 [.rw 0 0 X.length 1 2] (mkH [(0, .ro (rowsC X))]) 1 fun u H' _ => FrG (timesF X).length 1 (ints (timesF X)) u H' := by
  conv => whnf
  refine ⟨X, RowsAt.ro rfl rfl, hL, ?_⟩
  conv => whnf
  refine LoopP.mk { seen : List Nat // seen.Nodup ∧ ∀ i ∈ seen, i < (gatherF X).length } 4 (fun s => tm0 X (gatherF X) (s.val.map (keyAt (gatherF X))) s.val) (fun s => (gatherF X).length - s.val.length) ⟨[], by simp, by simp⟩ ?_ ?_
  · exact tm0_cov (V := []) (seen := []) 3 (by decide) (Nat.le_refl 2) (.nslRw rfl) rfl rfl rfl (.inr ⟨rfl, Nat.le_refl _⟩)
  · intro ⟨seen, hn, hs⟩
    have hsl : seen.length ≤ (gatherF X).length := by
      have := (List.Nodup.length_le_of_subset hn (l₂ := List.range (gatherF X).length) fun i hi => List.mem_range.2 (hs i hi))
      simpa using this
    conv => whnf
    refine Nxt.mk 2 1 _ seen _ rfl rfl rfl rfl rfl (fun hall => ?_) (fun i e he hns => ?_)
    · have hp := seen_all hn hs (fun i hi => hall i (by rw [entG_length]; exact hi))
      have hr : riseI (seen.map (keyAt (gatherF X))) = timesF X := riseI_of hp
      conv => whnf
      refine ⟨seen.map (keyAt (gatherF X)), 3, _, 0, _, true, rfl, rfl, by decide, rfl, ints_map _, by rw [List.length_map]; omega, ?_⟩
      conv => whnf
      exact .inr (.inl ⟨fr_eq (by rw [← hr, riseI_len]) (by rw [hr]), by rw [ints_length, Nat.mul_one]⟩)
    · obtain ⟨hi, rfl⟩ := entG_at he
      have hO : subL (ints (seen.map (keyAt (gatherF X)))) 0 ((seen.map (keyAt (gatherF X))).length * 1) = some (ints (seen.map (keyAt (gatherF X)))) := subL_all (by rw [ints_length, Nat.mul_one])
      have hbig : ((seen.map (keyAt (gatherF X))).length + 1) * 8 ≤ 140737488355328 := by rw [List.length_map]; omega
      have hlt : (gatherF X).length - (seen ++ [i]).length < (gatherF X).length - seen.length := by
        have := List.Nodup.length_le_of_subset (l₁ := seen ++ [i]) (l₂ := List.range (gatherF X).length) (by rw [List.nodup_append]; exact ⟨hn, by simp, fun a ha b hb e => by simp at hb; subst hb e; exact hns ha⟩) (fun j hj => List.mem_range.2 (by rcases List.mem_append.1 hj with hj | hj; exact hs j hj; simp at hj; subst hj; exact hi))
        simp at this ⊢; omega
      have hsn : seen.map (keyAt (gatherF X)) ++ [(gatherF X)[i].1] = (seen ++ [i]).map (keyAt (gatherF X)) := by rw [List.map_append, List.map_singleton, keyAt_eq hi]
      conv => whnf
      refine Ent.mk 2 1 _ i seen _ _ rfl rfl rfl rfl he ?_
      conv => whnf
      refine RApp.grow 1 8 _ _ _ _ _ _ tyI (.old rfl) rfl rfl (.rw rfl hO) hbig ?_
      conv => whnf
      refine ⟨⟨seen ++ [i], by rw [List.nodup_append]; exact ⟨hn, by simp, fun a ha b hb e => by simp at hb; subst hb e; exact hns ha⟩, fun j hj => by rcases List.mem_append.1 hj with hj | hj; exact hs j hj; simp at hj; subst hj; exact hi⟩, hlt, tm0_cov 5 (by decide) (Nat.le_refl 2) (SubV.rw (by decide) rfl) rfl rfl rfl (.inl ⟨_, rfl, ?_⟩)⟩
      exact (ints_snoc (seen.map (keyAt (gatherF X))) (gatherF X)[i].1).trans (congrArg ints hsn)
set_option maxHeartbeats 4000000 in
set_option maxRecDepth 100000 in
theorem times_runF (X : List Smp) (hL : X.length + X.flatten.length ≤ 1000000) (hK : (gatherF X).length ≤ 1000000) : callT GT 4 20 [.fr X.length 1 (rowsC X)] .nil 1 fun u H' _ => FrG (timesF X).length 1 (ints (timesF X)) u H' := by
  conv => whnf
  refine ⟨X, RowsAt.frz rfl, hL, ?_⟩
  conv => whnf
  refine LoopP.mk { seen : List Nat // seen.Nodup ∧ ∀ i ∈ seen, i < (gatherF X).length } 4 (fun s => tm0 X (gatherF X) (s.val.map (keyAt (gatherF X))) s.val) (fun s => (gatherF X).length - s.val.length) ⟨[], by simp, by simp⟩ ?_ ?_
  · exact tm0_cov (V := []) (seen := []) 3 (by decide) (Nat.le_refl 2) (.nslRw rfl) rfl rfl rfl (.inr ⟨rfl, Nat.le_refl _⟩)
  · intro ⟨seen, hn, hs⟩
    have hsl : seen.length ≤ (gatherF X).length := by
      have := (List.Nodup.length_le_of_subset hn (l₂ := List.range (gatherF X).length) fun i hi => List.mem_range.2 (hs i hi))
      simpa using this
    conv => whnf
    refine Nxt.mk 2 1 _ seen _ rfl rfl rfl rfl rfl (fun hall => ?_) (fun i e he hns => ?_)
    · have hp := seen_all hn hs (fun i hi => hall i (by rw [entG_length]; exact hi))
      have hr : riseI (seen.map (keyAt (gatherF X))) = timesF X := riseI_of hp
      conv => whnf
      refine ⟨seen.map (keyAt (gatherF X)), 3, _, 0, _, true, rfl, rfl, by decide, rfl, ints_map _, by rw [List.length_map]; omega, ?_⟩
      conv => whnf
      exact .inr (.inl ⟨fr_eq (by rw [← hr, riseI_len]) (by rw [hr]), by rw [ints_length, Nat.mul_one]⟩)
    · obtain ⟨hi, rfl⟩ := entG_at he
      have hO : subL (ints (seen.map (keyAt (gatherF X)))) 0 ((seen.map (keyAt (gatherF X))).length * 1) = some (ints (seen.map (keyAt (gatherF X)))) := subL_all (by rw [ints_length, Nat.mul_one])
      have hbig : ((seen.map (keyAt (gatherF X))).length + 1) * 8 ≤ 140737488355328 := by rw [List.length_map]; omega
      have hlt : (gatherF X).length - (seen ++ [i]).length < (gatherF X).length - seen.length := by
        have := List.Nodup.length_le_of_subset (l₁ := seen ++ [i]) (l₂ := List.range (gatherF X).length) (by rw [List.nodup_append]; exact ⟨hn, by simp, fun a ha b hb e => by simp at hb; subst hb e; exact hns ha⟩) (fun j hj => List.mem_range.2 (by rcases List.mem_append.1 hj with hj | hj; exact hs j hj; simp at hj; subst hj; exact hi))
        simp at this ⊢; omega
      have hsn : seen.map (keyAt (gatherF X)) ++ [(gatherF X)[i].1] = (seen ++ [i]).map (keyAt (gatherF X)) := by rw [List.map_append, List.map_singleton, keyAt_eq hi]
      conv => whnf
      refine Ent.mk 2 1 _ i seen _ _ rfl rfl rfl rfl he ?_
      conv => whnf
      refine RApp.grow 1 8 _ _ _ _ _ _ tyI (.old rfl) rfl rfl (.rw rfl hO) hbig ?_
      conv => whnf
      refine ⟨⟨seen ++ [i], by rw [List.nodup_append]; exact ⟨hn, by simp, fun a ha b hb e => by simp at hb; subst hb e; exact hns ha⟩, fun j hj => by rcases List.mem_append.1 hj with hj | hj; exact hs j hj; simp at hj; subst hj; exact hi⟩, hlt, tm0_cov 5 (by decide) (Nat.le_refl 2) (SubV.rw (by decide) rfl) rfl rfl rfl (.inl ⟨_, rfl, ?_⟩)⟩
      exact (ints_snoc (seen.map (keyAt (gatherF X))) (gatherF X)[i].1).trans (congrArg ints hsn)
end Go.Proofs.Ytkhfdjhohfebgaa
namespace Go.Proofs.Ytkhfdjhohfebgaa
open Go Go.RowKit
def sRight (k : Int) : Bool := decide (1 ≤ k ∧ k ≤ 7)
def sCan (s a : Int) : Bool := decide (1 ≤ s ∧ s ≤ 1099511627776 ∧ 0 ≤ a ∧ a < s)
def sTime (t : Int) : Bool := decide (0 ≤ t ∧ t ≤ 1099511627776)
def sStart (t s a : Int) : Int := if sCan s a = true ∧ sTime t = true ∧ a ≤ t then t - (t - a) % s else 0
def sEnd (b s a : Int) : Int := if sCan s a = true ∧ sTime b = true then (if b < a then a else sStart b s a + s) else 0
theorem sStart_bounds {t s a : Int} : 0 ≤ sStart t s a ∧ sStart t s a ≤ 1099511627776 := by
  unfold sStart
  split
  · rename_i h
    simp only [sCan, sTime, decide_eq_true_eq] at h
    have hm1 := Int.emod_nonneg (t - a) (show s ≠ 0 by omega)
    have hm2 := Int.emod_add_mul_ediv (t - a) s
    have hm3 := Int.mul_nonneg (show 0 ≤ s by omega) (Int.ediv_nonneg (show 0 ≤ t - a by omega) (show 0 ≤ s by omega))
    omega
  · omega
def sOver (a b : Int) : Bool := decide (0 ≤ b ∧ IntKind.i64.wrap (a + b) < a ∨ b < 0 ∧ a < IntKind.i64.wrap (a + b))
def sCap (a b : Int) : Int := if sOver a b = true then (if 0 < b then 9223372036854775807 else -9223372036854775808) else IntKind.i64.wrap (a + b)
set_option maxRecDepth 100000 in
theorem n_right : NatP 38 (nat1b sRight) := nat1b_ok (d := 1) evP_ok fun t H n κ hk => by
  repeat' (conv => whnf
           first | refine Fork.dec (fun _ => ?_) (fun _ => ?_) | refine Fork.ndec (fun _ => ?_) (fun _ => ?_) | refine leafB hk ?_)
  all_goals simp [sRight, *]
set_option maxRecDepth 100000 in
theorem n_can : NatP 62 (nat2b sCan) := nat2b_ok (d := 1) evP_ok fun s a H n κ hk => by
  repeat' (conv => whnf
           first | refine Fork.dec (fun _ => ?_) (fun _ => ?_) | refine Fork.ndec (fun _ => ?_) (fun _ => ?_) | refine leafB hk ?_)
  all_goals simp [sCan, *]
set_option maxRecDepth 100000 in
theorem n_time : NatP 63 (nat1b sTime) := nat1b_ok (d := 1) evP_ok fun s H n κ hk => by
  repeat' (conv => whnf
           first | refine Fork.dec (fun _ => ?_) (fun _ => ?_) | refine Fork.ndec (fun _ => ?_) (fun _ => ?_) | refine leafB hk ?_)
  all_goals simp [sTime, *]
noncomputable def FA : FuncId → EP := withS 62 (nat2b sCan) (withS 63 (nat1b sTime) (withS 38 (nat1b sRight) evP))
theorem FA_ok : TabP FA := withS_ok (withS_ok (withS_ok evP_ok n_right sing1b) n_time sing1b) n_can sing2b
set_option maxRecDepth 100000 in
theorem n_start : NatP 64 (nat3 sStart) := nat3_ok (d := 2) FA_ok fun t s a H n κ hk => by
  repeat' (conv => whnf
           first | refine Fork.dec (fun _ => ?_) (fun _ => ?_) | refine Fork.ndec (fun _ => ?_) (fun _ => ?_) | refine Fork.sb (fun _ => ?_) (fun _ => ?_) | refine Fork.nsb (fun _ => ?_) (fun _ => ?_) | refine And.intro ?_ ?_ | refine leafI hk ?_)
  · rename_i h1
    simp [sStart, sCan, h1]
  · rename_i h2 h1
    simp [sStart, sTime, h1]
  · rename_i h3 h2 h1
    unfold sStart
    rw [if_neg (by omega)]
  · intro h0
    omega
  · rename_i h3 h2 h1
    rw [wrap_i64_of (x := t - a) (by omega) (by omega), Int.tmod_eq_emod_of_nonneg (by omega)]
    have hm1 := Int.emod_nonneg (t - a) (show s ≠ 0 by omega)
    have hm2 := Int.emod_lt_of_pos (t - a) (show 0 < s by omega)
    rw [wrap_i64_of (by omega) (by omega)]
    simp only [sStart, sCan, sTime, decide_eq_true_eq]
    rw [if_pos (by omega)]
noncomputable def FB : FuncId → EP := withS 64 (nat3 sStart) FA
theorem FB_ok : TabP FB := withS_ok FA_ok n_start sing3
set_option maxRecDepth 100000 in
theorem n_end : NatP 52 (nat3 sEnd) := nat3_ok (d := 2) FB_ok fun b s a H n κ hk => by
  repeat' (conv => whnf
           first | refine Fork.dec (fun _ => ?_) (fun _ => ?_) | refine Fork.ndec (fun _ => ?_) (fun _ => ?_) | refine Fork.sb (fun _ => ?_) (fun _ => ?_) | refine Fork.nsb (fun _ => ?_) (fun _ => ?_) | refine And.intro ?_ ?_ | refine leafI hk ?_)
  · rename_i h1
    simp [sEnd, sCan, h1]
  · rename_i h2 h1
    simp [sEnd, sTime, h1]
  · rename_i h3 h2 h1
    simp [sEnd, sCan, sTime, h1, h2, h3]
  · rename_i h3 h2 h1
    have hb := sStart_bounds (t := b) (s := s) (a := a)
    rw [wrap_i64_of (by omega) (by omega)]
    simp [sEnd, sCan, sTime, h1, h2, h3]
noncomputable def FC : FuncId → EP := withS 52 (nat3 sEnd) FB
theorem FC_ok : TabP FC := withS_ok FB_ok n_end sing3
structure TimesOk (t s a : Int) : Prop where
  s1 : 1 ≤ s
  s2 : s ≤ 1099511627776
  a1 : 0 ≤ a
  a2 : a < s
  t1 : 0 ≤ t
  t2 : t < 1099511627776
theorem mod_facts (x s : Int) (hs : 1 ≤ s) : 0 ≤ x % s ∧ x % s < s ∧ x - x % s = s * (x / s) := by
  have h1 := Int.emod_nonneg x (show s ≠ 0 by omega)
  have h2 := Int.emod_lt_of_pos x (show 0 < s by omega)
  have h3 := Int.emod_add_mul_ediv x s
  exact ⟨h1, h2, by omega⟩
theorem start_eq {t s a : Int} (h1 : 1 ≤ s) (h2 : s ≤ 1099511627776) (h3 : 0 ≤ a) (h4 : a < s) (h5 : 0 ≤ t) (h6 : t ≤ 1099511627776) : sStart t s a = if a ≤ t then t - (t - a) % s else 0 := by
  unfold sStart
  have e1 : sCan s a = true := by simp only [sCan, decide_eq_true_eq]; omega
  have e2 : sTime t = true := by simp only [sTime, decide_eq_true_eq]; omega
  by_cases h : a ≤ t
  · rw [if_pos ⟨e1, e2, h⟩, if_pos h]
  · rw [if_neg (fun k => h k.2.2), if_neg h]
theorem end_eq {t s a : Int} (h1 : 1 ≤ s) (h2 : s ≤ 1099511627776) (h3 : 0 ≤ a) (h4 : a < s) (h5 : 0 ≤ t) (h6 : t ≤ 1099511627776) : sEnd t s a = if t < a then a else sStart t s a + s := by
  unfold sEnd
  have e1 : sCan s a = true := by simp only [sCan, decide_eq_true_eq]; omega
  have e2 : sTime t = true := by simp only [sTime, decide_eq_true_eq]; omega
  rw [if_pos ⟨e1, e2⟩]
theorem mod_shift (q s r : Int) (hs : 1 ≤ s) (h0 : 0 ≤ r) (h1 : r < s) : (s * q + r) % s = r := by
  rw [Int.mul_add_emod_self_left]; exact Int.emod_eq_of_lt h0 h1
theorem times_law {t s a : Int} (h : TimesOk t s a) : sStart t s a ≤ t ∧ t < sEnd (sStart t s a) s a ∧ sEnd (sStart t s a) s a - sStart t s a ≤ s ∧ sStart (sStart t s a) s a = sStart t s a ∧ sEnd t s a = sEnd (sStart t s a) s a ∧
    (1099511627776 < sEnd (sStart t s a) s a ∨ sStart (sEnd (sStart t s a) s a) s a = sEnd (sStart t s a) s a) ∧ (sStart t s a = 0 ∨ sEnd (sStart t s a - 1) s a = sStart t s a) := by
  obtain ⟨h1, h2, h3, h4, h5, h6⟩ := h
  have eS := start_eq h1 h2 h3 h4 h5 (by omega)
  by_cases hta : a ≤ t
  · rw [if_pos hta] at eS
    obtain ⟨m1, m2, m3⟩ := mod_facts (t - a) s h1
    have hq : 0 ≤ (t - a) / s := Int.ediv_nonneg (by omega) (by omega)
    generalize (t - a) / s = q at m3 hq
    have hsq : 0 ≤ s * q := Int.mul_nonneg (by omega) hq
    have hb : sStart t s a = a + s * q := by omega
    have hbt : a + s * q ≤ t := by omega
    have hbb : sStart (a + s * q) s a = a + s * q := by
      rw [start_eq h1 h2 h3 h4 (by omega) (by omega), if_pos (by omega), show a + s * q - a = s * q + 0 from by omega, mod_shift q s 0 h1 (by omega) (by omega)]; omega
    have he : sEnd (a + s * q) s a = a + s * q + s := by
      rw [end_eq h1 h2 h3 h4 (by omega) (by omega), if_neg (by omega), hbb]
    rw [hb, hbb, he]
    refine ⟨hbt, by omega, by omega, rfl, ?_, ?_, ?_⟩
    · rw [end_eq h1 h2 h3 h4 h5 (by omega), if_neg (by omega), hb]
    · by_cases hM : 1099511627776 < a + s * q + s
      · exact .inl hM
      · refine .inr ?_
        have e3 : a + s * q + s - a = s * (q + 1) + 0 := by rw [Int.mul_add]; omega
        rw [start_eq h1 h2 h3 h4 (by omega) (by omega), if_pos (by omega), e3, mod_shift (q + 1) s 0 h1 (by omega) (by omega)]; omega
    · by_cases h0 : a + s * q = 0
      · exact .inl h0
      · refine .inr ?_
        rw [end_eq h1 h2 h3 h4 (by omega) (by omega)]
        by_cases hq0 : q = 0
        · subst hq0
          rw [if_pos (by omega)]; omega
        · have hsq1 : s ≤ s * q := by
            have := Int.mul_le_mul_of_nonneg_left (show 1 ≤ q by omega) (show 0 ≤ s by omega)
            omega
          rw [if_neg (by omega), start_eq h1 h2 h3 h4 (by omega) (by omega), if_pos (by omega)]
          have e3 : a + s * q - 1 - a = s * (q - 1) + (s - 1) := by rw [Int.mul_sub]; omega
          rw [e3, mod_shift (q - 1) s (s - 1) h1 (by omega) (by omega)]; omega
  · rw [if_neg hta] at eS
    have h00 : sStart 0 s a = 0 := by rw [start_eq h1 h2 h3 h4 (by omega) (by omega), if_neg (by omega)]
    have he : sEnd 0 s a = a := by rw [end_eq h1 h2 h3 h4 (by omega) (by omega), if_pos (by omega)]
    rw [eS, h00, he]
    refine ⟨by omega, by omega, by omega, rfl, ?_, ?_, .inl rfl⟩
    · rw [end_eq h1 h2 h3 h4 h5 (by omega), if_pos (by omega)]
    · refine .inr ?_
      rw [start_eq h1 h2 h3 h4 (by omega) (by omega), if_pos (by omega)]
      simp
end Go.Proofs.Ytkhfdjhohfebgaa
namespace Go.Proofs.Ytkhfdjhohfebgaa
open Go Go.RowKit
def sName (k : Int) : List Nat :=
  if k = 1 then [115, 117, 109] else if k = 2 then [109, 105, 110] else if k = 3 then [109, 97, 120] else if k = 4 then [99, 111, 117, 110, 116] else if k = 5 then [102, 105, 114, 115, 116]
  else if k = 6 then [108, 97, 115, 116] else if k = 7 then [114, 97, 110, 103, 101] else []
theorem kinds {k : Int} (h1 : ¬ k < 1) (h2 : ¬ 7 < k) : k = 1 ∨ k = 2 ∨ k = 3 ∨ k = 4 ∨ k = 5 ∨ k = 6 ∨ k = 7 := by omega
set_option maxRecDepth 100000 in
theorem n_rname : NatP 42 (nat1s sName) := nat1s_ok (d := 1) evP_ok fun k => by
  conv => whnf
  refine Fork.dec (fun h1 => ?_) (fun h1 => ?_)
  · conv => whnf
    have : sName k = [] := by unfold sName; repeat' rw [if_neg (by omega)]
    rw [this]; rfl
  · conv => whnf
    refine Fork.dec (fun h2 => ?_) (fun h2 => ?_)
    · conv => whnf
      have : sName k = [] := by unfold sName; repeat' rw [if_neg (by omega)]
      rw [this]; rfl
    · rcases kinds h1 h2 with rfl | rfl | rfl | rfl | rfl | rfl | rfl
      · conv => whnf
        exact Idx.mk 0 rfl (by decide) rfl
      · conv => whnf
        exact Idx.mk 1 rfl (by decide) rfl
      · conv => whnf
        exact Idx.mk 2 rfl (by decide) rfl
      · conv => whnf
        exact Idx.mk 3 rfl (by decide) rfl
      · conv => whnf
        exact Idx.mk 4 rfl (by decide) rfl
      · conv => whnf
        exact Idx.mk 5 rfl (by decide) rfl
      · conv => whnf
        exact Idx.mk 6 rfl (by decide) rfl
end Go.Proofs.Ytkhfdjhohfebgaa
namespace Go.Proofs.Ytkhfdjhohfebgaa
open Go Go.RowKit
def lowC (c : Nat) : Nat := if 65 ≤ c ∧ c ≤ 90 then c + 32 else c
def sLow (s : List Nat) : List Nat := s.map lowC
theorem lowC_lt {c : Nat} (h : c < 256) : lowC c < 256 := by unfold lowC; split <;> omega
theorem sLow_lt {s : List Nat} (h : ∀ x ∈ s, x < 256) : ∀ x ∈ sLow s, x < 256 := fun x hx => by
  simp only [sLow, List.mem_map] at hx
  obtain ⟨c, hc, rfl⟩ := hx
  exact lowC_lt (h c hc)
/-- The first ones changed. -/
def lowTo (s : List Nat) (i : Nat) : List Nat := sLow (s.take i) ++ s.drop i
theorem lowTo_len (s : List Nat) (i : Nat) : (lowTo s i).length = s.length := by simp [lowTo, sLow]; omega
theorem lowTo_at {s : List Nat} {i : Nat} (h : i < s.length) : (lowTo s i)[i]? = some s[i] := by
  unfold lowTo
  rw [List.getElem?_append_right (by simp [sLow]; omega)]
  simp [sLow, List.getElem?_eq_getElem h, Nat.min_eq_left (Nat.le_of_lt h)]
abbrev bytesA (s : List Nat) : List AV := s.map fun c : Nat => .si .u8 (Int.ofNat c)
theorem setL_map {s : List Nat} {i c : Nat} (h : i < s.length) : setL (bytesA s) i [.si .u8 (Int.ofNat c)] = some (bytesA (s.set i c)) := by
  induction s generalizing i with
  | nil => simp at h
  | cons x s ih =>
    cases i with
    | zero => cases s <;> rfl
    | succ i =>
      have := ih (i := i) (by simpa using h)
      simp only [bytesA, List.map_cons, setL] at this ⊢
      rw [this]; rfl
theorem lowTo_succ {s : List Nat} {i : Nat} (h : i < s.length) : (lowTo s i).set i (lowC s[i]) = lowTo s (i + 1) := by
  unfold lowTo sLow
  rw [List.set_append_right _ _ (by simp; omega)]
  simp only [List.length_map, List.length_take, Nat.min_eq_left (Nat.le_of_lt h), Nat.sub_self]
  rw [List.drop_eq_getElem_cons h, List.set_cons_zero, List.take_succ_eq_append_getElem h, List.map_append, List.append_assoc]
  rfl
theorem set_same {α : Type} {l : List α} {i : Nat} {x : α} (h : l[i]? = some x) : l.set i x = l := by
  apply List.ext_getElem?
  intro j
  rw [List.getElem?_set]
  split
  · rename_i e
    subst e
    split
    · exact h.symm
    · rename_i h2
      rw [List.getElem?_eq_none (by omega)] at h; cases h
  · rfl
noncomputable abbrev lowSt (s : List Nat) (i : Nat) : AE × AH := (mkE [(3, .sy 0 0 s.length s.length 1), (8, .sy 0 0 s.length s.length 1), (9, .si .i64 s.length), (10, .si .i64 i)], mkH [(0, .cells (bytesA (lowTo s i)) false)])
end Go.Proofs.Ytkhfdjhohfebgaa
namespace Go.Proofs.Ytkhfdjhohfebgaa
open Go Go.RowKit
def upC (c : Nat) : Nat := if 97 ≤ c ∧ c ≤ 122 then c - 32 else c
def sUp (s : List Nat) : List Nat := s.map upC
theorem upC_lt {c : Nat} (h : c < 256) : upC c < 256 := by unfold upC; split <;> omega
theorem sUp_lt {s : List Nat} (h : ∀ x ∈ s, x < 256) : ∀ x ∈ sUp s, x < 256 := fun x hx => by
  simp only [sUp, List.mem_map] at hx
  obtain ⟨c, hc, rfl⟩ := hx
  exact upC_lt (h c hc)
theorem sUp_take {s : List Nat} {i : Nat} (h : i < s.length) : sUp (s.take (i + 1)) = sUp (s.take i) ++ [upC s[i]] := by
  unfold sUp
  rw [List.take_succ_eq_append_getElem h, List.map_append]; rfl
noncomputable abbrev upSt (s : List Nat) : Nat → AE × AH
  | 0 => (mkE [(0, .ss s), (3, .nsl), (4, .si .i64 0)], mkH [])
  | i + 1 => (mkE [(0, .ss s), (3, .sy 0 0 (i + 1) (i + 1) 1), (4, .si .i64 (i + 1 : Nat))], mkH [(0, .cells (bytesA (sUp (s.take (i + 1)))) true)])
theorem up_cov {s : List Nat} {i n j : Nat} {σ : AE} {H : AH} (e0 : mk (getq (pa 0) σ) = .ss s) (e1 : mk (getq (pa 3) σ) = .sy j 0 (i + 1) (i + 1) 1) (e2 : mk (getq (pa 4) σ) = .si .i64 (i + 1 : Nat)) (e3 : H.get j = some (.cells (bytesA (sUp (s.take (i + 1)))) true)) : Cov 0 σ H n ((upSt s (i + 1)).1, (upSt s (i + 1)).2, 1) := by
  refine Cov.of (fun _ => j) (Nat.zero_le _) (fun b hb => (Nat.not_lt_zero b hb).elim) ?_ ?_ ?_
  · intro x hx
    simp only [List.mem_cons, List.not_mem_nil, or_false] at hx
    rcases hx with rfl | rfl | rfl
    · exact .str e0
    · exact .sy (by decide) e1
    · exact .int e2
  · intro x hx
    simp only [List.mem_cons, List.not_mem_nil, or_false] at hx
    subst hx
    exact ⟨Nat.zero_lt_one, _, e3, SubO.maps fun c => .int rfl⟩
  · intro x hx y hy
    simp only [List.mem_cons, List.not_mem_nil, or_false] at hx hy
    subst hx hy
    exact fun _ => rfl
theorem up_e1 {c : Nat} (h3 : (97 : Int) ≤ Int.ofNat c) (h4 : Int.ofNat c ≤ 122) : IntKind.u8.wrap (IntKind.u8.wrap (Int.ofNat c - 97) + 65) = Int.ofNat (upC c) := by
  simp only [Int.ofNat_eq_natCast] at h3 h4 ⊢
  unfold upC
  rw [if_pos (by omega), IntKind.wrap_u8, IntKind.wrap_u8]; omega
theorem up_e2 {c : Nat} (h : ¬ (97 : Int) ≤ Int.ofNat c ∨ ¬ Int.ofNat c ≤ 122) : Int.ofNat c = Int.ofNat (upC c) := by
  simp only [Int.ofNat_eq_natCast] at h ⊢
  unfold upC
  rw [if_neg (by omega)]
end Go.Proofs.Ytkhfdjhohfebgaa
namespace Go.Proofs.Ytkhfdjhohfebgaa
open Go Go.RowKit
def pk (f : Int → Bool) : Int := if f 1 = true then 1 else if f 2 = true then 2 else if f 3 = true then 3 else if f 4 = true then 4 else if f 5 = true then 5 else if f 6 = true then 6 else if f 7 = true then 7 else 0
def pkE (f : Int → Bool) : Int := if pk f = 0 then 17 else 0
noncomputable def aIs (s : List Nat) (k : Int) : Bool := beqL (sName k) (sLow s)
noncomputable def rIs (s : List Nat) (k : Int) : Bool := beqL (sUp (sName k)) (sUp s)
noncomputable def FD : FuncId → EP := withS 42 (nat1s sName) FC
theorem FD_ok : TabP FD := withS_ok FC_ok n_rname sing1s
end Go.Proofs.Ytkhfdjhohfebgaa
namespace Go.Proofs.Ytkhfdjhohfebgaa
open Go Go.RowKit
set_option maxRecDepth 100000 in
theorem n_rright : NatP 50 (nat2b sCan) := nat2b_ok (d := 1) evP_ok fun s a H n κ hk => by
  repeat' (conv => whnf
           first | refine Fork.dec (fun _ => ?_) (fun _ => ?_) | refine Fork.ndec (fun _ => ?_) (fun _ => ?_) | refine leafB hk ?_)
  all_goals simp [sCan, *]
noncomputable def FE : FuncId → EP := withS 50 (nat2b sCan) FD
theorem FE_ok : TabP FE := withS_ok FD_ok n_rright sing2b
set_option maxRecDepth 100000 in
theorem n_rstart : NatP 53 (nat3 sStart) := nat3_ok (d := 2) FE_ok fun t s a H n κ hk => by
  repeat' (conv => whnf
           first | refine Fork.dec (fun _ => ?_) (fun _ => ?_) | refine Fork.ndec (fun _ => ?_) (fun _ => ?_) | refine Fork.sb (fun _ => ?_) (fun _ => ?_) | refine Fork.nsb (fun _ => ?_) (fun _ => ?_) | refine And.intro ?_ ?_ | refine leafI hk ?_)
  · rename_i h1
    simp [sStart, sCan, h1]
  · rename_i h2 h1
    unfold sStart
    rw [if_neg (by omega)]
  · rename_i h3 h2 h1
    unfold sStart
    rw [if_neg (by simp only [sTime, decide_eq_true_eq]; omega)]
  · omega
  · rename_i h3 h2 h1
    have hq := Int.ediv_nonneg (show 0 ≤ t - a by omega) (show 0 ≤ s by omega)
    have hm := Int.emod_add_mul_ediv (t - a) s
    have hm1 := Int.emod_nonneg (t - a) (show s ≠ 0 by omega)
    have hm2 := Int.emod_lt_of_pos (t - a) (show 0 < s by omega)
    have hsq := Int.mul_nonneg (show 0 ≤ s by omega) hq
    have hle : (t - a) / s ≤ s * ((t - a) / s) := by
      have := Int.mul_le_mul_of_nonneg_right (show 1 ≤ s by omega) hq
      omega
    rw [wrap_i64_of (x := t - a) (by omega) (by omega), Int.tdiv_eq_ediv_of_nonneg (by omega), Int.mul_comm ((IntKind.i64.wrap ((t - a) / s))) s, wrap_i64_of (x := (t - a) / s) (by omega) (by omega), wrap_i64_of (x := s * ((t - a) / s)) (by omega) (by omega), wrap_i64_of (by omega) (by omega)]
    simp only [sStart, sCan, sTime, decide_eq_true_eq]
    rw [if_pos (by omega)]
    omega
noncomputable def FG : FuncId → EP := withS 53 (nat3 sStart) FE
theorem FG_ok : TabP FG := withS_ok FE_ok n_rstart sing3
set_option maxRecDepth 100000 in
theorem n_rend : NatP 54 (nat3 sEnd) := nat3_ok (d := 2) FG_ok fun b s a H n κ hk => by
  repeat' (conv => whnf
           first | refine Fork.dec (fun _ => ?_) (fun _ => ?_) | refine Fork.ndec (fun _ => ?_) (fun _ => ?_) | refine Fork.sb (fun _ => ?_) (fun _ => ?_) | refine Fork.nsb (fun _ => ?_) (fun _ => ?_) | refine And.intro ?_ ?_ | refine leafI hk ?_)
  all_goals
    have hb := sStart_bounds (t := b) (s := s) (a := a)
    unfold sEnd
    simp only [sCan, sTime, decide_eq_true_eq]
  · rw [if_neg (by omega)]
  · rw [if_neg (by omega)]
  · rw [if_neg (by omega)]
  · rw [if_pos (by omega), if_pos (by omega)]
  · rw [if_pos (by omega), if_neg (by omega), wrap_i64_of (by omega) (by omega)]
end Go.Proofs.Ytkhfdjhohfebgaa
namespace Go.Proofs.Ytkhfdjhohfebgaa
open Go Go.RowKit
theorem letter {a b : Nat} (h1 : 97 ≤ a) (h2 : a ≤ 122) : Nat.beq a (lowC b) = Nat.beq (upC a) (upC b) := by
  have key : a = lowC b ↔ upC a = upC b := by
    have e : upC a = a - 32 := by unfold upC; rw [if_pos ⟨h1, h2⟩]
    rw [e]
    unfold lowC upC
    split <;> split <;> omega
  rw [Bool.eq_iff_iff, Nat.beq_eq, Nat.beq_eq]
  exact key
theorem alike : ∀ (l s : List Nat), (∀ x ∈ l, 97 ≤ x ∧ x ≤ 122) → beqL l (sLow s) = beqL (sUp l) (sUp s)
  | [], [], _ => rfl
  | [], _ :: _, _ => rfl
  | _ :: _, [], _ => rfl
  | a :: l, b :: s, h => by
    have h1 := h a List.mem_cons_self
    have ih := alike l s fun x hx => h x (List.mem_cons_of_mem _ hx)
    have e := letter (b := b) h1.1 h1.2
    simp only [sLow, sUp, List.map_cons, beqL] at ih ⊢
    rw [e, ih]
theorem sName_letters (k : Int) : ∀ x ∈ sName k, 97 ≤ x ∧ x ≤ 122 := by
  unfold sName
  repeat' split
  all_goals simp
theorem is_same (s : List Nat) : aIs s = rIs s := funext fun k => alike _ _ (sName_letters k)
end Go.Proofs.Ytkhfdjhohfebgaa
