/- Texts of our own, joined: the engine, the machine that runs code, and what is known of the functions. -/
import Derived.Test.YtapjijhjnloimaaRows
import Derived.WalkKit
import Derived.Deep.Quiet
import Derived.ProofKit
import Derived.Laws.StructEq
import Derived.LaidEql
import Derived.Laws.BytesArg
import Derived.Maps.RangeRun
import Derived.RangeFuncSeq
import Derived.Scope
import Derived.Laws.Strings
import Derived.Laws.Strings2
import Derived.Below
import Derived.Carry
import Derived.OpenShut
import Derived.ChangeMaps5
import Derived.Deep.Slices
import Derived.Deep.SlicePairs
import Derived.SizedLaws
import Derived.RangeFuncRecord
import Derived.Test.YtapjijhjnloimaaJe
import Derived.Laws.BitsAllLaws
import Derived.Test.YtapjijhjnloimaaJd
set_option linter.unusedSimpArgs false
set_option linter.unusedVariables false
set_option maxHeartbeats 16000000
set_option maxRecDepth 100000
namespace Go.Proofs.Ytapjijhjnloimaa
open Go Go.RowKit
section
variable {φ : Ph} {H : AH} {n : Nat} {h0 h g : Hp}
theorem HR.ext (hr : HR φ H n h0 h) (hn : h.n ≤ g.n) (hg : ∀ B o, h.f B = some o → g.f B = some o) : HR φ H n h0 g := by
  refine ⟨fun x q hx => ⟨(hr.dom x q hx).1, Nat.lt_of_lt_of_le (hr.dom x q hx).2 hn⟩, fun x o hx => ?_, hr.inj, fun B o e => ⟨Nat.lt_of_lt_of_le (hr.base B o e).1 hn, hg B o (hr.base B o e).2⟩, Nat.le_trans hr.size hn, fun q hq => ?_, fun x Q hx => ?_⟩
  · rcases hr.live x o hx with k | ⟨p, ob, k1, k2, k3, k4⟩
    · exact .inl k
    · exact .inr ⟨p, ob, k1, k2, hg _ _ k3, k4⟩
  · obtain ⟨⟨k1, k2⟩, k3⟩ := hr.frz q hq
    obtain ⟨l0, c, t, fz, l1, l2⟩ := k1
    exact ⟨⟨⟨⟨Nat.lt_of_lt_of_le l0.1 hn, l0.2⟩, c, t, fz, hg _ _ l1, l2⟩, k2⟩, k3⟩
  · obtain ⟨k1, k2⟩ := hr.sep x Q hx
    refine ⟨Q.loc _ _ h _ hn (fun B hB => ?_) k1, fun B hB => ?_⟩
    · obtain ⟨o, ho⟩ := Q.ex _ _ _ B k1 hB
      rw [ho, hg _ _ ho]
    · obtain ⟨l1, l2⟩ := k2 B hB
      exact ⟨⟨Nat.lt_of_lt_of_le l1.1 hn, l1.2⟩, l2⟩
end
def FD : AV → Bool
  | .ptr _ _ => true
  | a => flat.flat1 a
theorem CU {φ ψ : Ph} {a : AV} {v : Value} (ha : FD a = true) (hf : ∀ b p, φ b = some p → ψ b = some p) (h : VR φ a v) : VR ψ a v := by
  cases a with
  | ptr b o =>
    simp only [VR] at h ⊢
    obtain ⟨p, h1, h2⟩ := h
    exact ⟨p, hf _ _ h1, h2⟩
  | _ => exact aM ha h
structure RfC where
  A : Code
  B : Code
  C : Code
  E : Code
  id : Nat
  gt : Nat
  t : Nat
  ca : Code
  cb : Code
def RfC.code (r : RfC) : Code := .seq r.A (.seq r.B (.seq (.seq r.C (.block r.id (.rangeFunc (.tmp r.gt) ⟨[r.t]⟩ r.ca r.cb))) r.E))
def rfC : Code → Option RfC
  | .seq A (.seq B (.seq (.seq C (.block id (.rangeFunc (.tmp gt) ⟨[t]⟩ ca cb))) E)) => some ⟨A, B, C, E, id, gt, t, ca, cb⟩
  | _ => none
theorem CV {c : Code} {r : RfC} (h : rfC c = some r) : c = r.code := by
  unfold rfC at h
  split at h
  · injection h with h; subst h; rfl
  · cases h
noncomputable def RfC.ok (r : RfC) (m : Nat) : Bool := gA r.A && gA r.B && gA r.C && gA r.E && gA r.ca && gA r.cb && iG [] r.ca && iG [] r.cb && iG [] r.E && iG [] (.seq r.A (.seq r.B r.C)) &&
  ((aC r.A).all fun t => decide (t < m)) && ((aC r.B).all fun t => decide (t < m)) && ((aC r.C).all fun t => decide (t < m)) && ((aC r.E).all fun t => decide (t < m)) && ((aC r.ca).all fun t => decide (t < m)) && ((aC r.cb).all fun t => decide (t < m)) && decide (r.t < m)
def RfR (b : Nat) (κ : PK) (H : AH) (n : Nat) (H4 : AH) (v : AV) : Prop :=
  ((∀ (φ ψ : Ph) (u : Value), VR φ v u → VR ψ v u) ∧ κ v (H.set none aa b) n) ∨
  ∃ c o m k x l z, v = .rw c o m k x ∧ H4.get c = some (.cells l z) ∧ l.all flat.flat1 = true ∧ κ (.rw n o m k x) ((H.set none aa b).set (some (.cells l z)) aa n) (n + 1)
def RfE (L D b : Nat) (r : RfC) (rs : List ResultVar) (rec : Loop) (σ : AE) (ρ : Env) (call cd : CP) (κ : PK) (H : AH) (n : Nat) : Prop :=
  ∃ st pd Hx nx, H.get b = some (.sep (vF (ie L D rec st pd) σ ρ Hx nx)) ∧ st ≠ .busy ∧ (pd = none ∨ pd = some (.exit r.id)) ∧ cm Hx ∧
    fU nx cd [] r.E call σ Hx nx (fun _ _ _ => False) (fun _ _ _ _ => False) fun σ4 H4 _ => cm H4 ∧ ux rs σ4 H4 fun vs => RfR b κ H n H4 (qH vs)
def th (o : AO) : Bool := match o with
  | .cells l _ => l.all flat.flat1
  | _ => false
def RfS (r : RfC) (m : Nat) (rs : List ResultVar) (call cd : CP) (κ : PK) (σ1 : AE) (H1 : AH) (n1 : Nat) : Prop :=
  n1 < 900000 ∧ ∃ gf first ts Hi He σj Hj nj, aA (pa r.gt) σ1 = .fn gf first [] ∧ (ts.all fun t => FD (aA (pa t) σ1)) = true ∧ dA Hi H1 ∧ dA He H1 ∧ (∀ b o, Hi.get b = some o → th o = true ∧ He.get b = none) ∧ Cov 0 (gy σ1 ts) Hi n1 (σj, Hj, nj) ∧
    ∀ (L D : Nat) (rec : Loop) (ρ : Env), DF L (GY L D n1 r.t r.ca r.cb rec σj ρ call cd) →
      call gf (first ++ [.any (.func (.yield L) #[] #[])]) (He.set (some (.sep (vF (ie L D rec .ready none) σj ρ Hj nj))) aa n1) (n1 + 1) fun _ H2 n2 => RfE L D n1 r rs rec σj ρ call cd κ H2 n2
def RfG (call cd : CP) (f : FuncId) (args : List AV) (H : AH) (n : Nat) (κ : PK) : Prop := match Try.prog.funcs[f]? with
  | some fn => (match fn.body with
    | some c => (match rfC c with
      | some r => r.ok fn.ntmps = true ∧ args.length ≤ fn.ntmps ∧ fU n cd [] (.seq r.A (.seq r.B r.C)) call (oP args 0 .nil) H n (RfS r fn.ntmps fn.results.toList call cd κ) (fun _ _ _ _ => False) (fun _ _ _ => False)
      | none => False)
    | none => False)
  | none => False
theorem qb {φ ψ : Ph} {p : Pl} {o : AO} {ob : Obj} (ho : th o = true) (h : OR φ p o ob) : OR ψ p o ob := by
  cases o with
  | cells l z =>
    obtain ⟨c, t, fz, h1, h2, h3, h4, h5, h6⟩ := h
    refine ⟨c, t, fz, h1, h2, h3, h4, h5, fun i a hi => ?_⟩
    obtain ⟨v, k1, k2⟩ := h6 i a hi
    exact ⟨v, k1, aM (List.all_eq_true.1 ho a (List.mem_of_getElem? hi)) k2⟩
  | _ => cases ho
theorem kH {o : AO} (ho : th o = true) : o.own = true ∧ o.zd = none := by cases o <;> first | exact ⟨rfl, rfl⟩ | cases ho
theorem yD {H : AH} {v : Option AO} {n x : Nat} {o : AO} (h : (PM.set v aa H n).get x = some o) : (x = n ∧ v = some o) ∨ (x ≠ n ∧ H.get x = some o) := PM.an aa H n x o h
theorem GZ {φ ψ : Ph} {H H4 : AH} {n n4 b : Nat} {h0 h1 g h : Hp} {κ : PK} {K : KH} {v : AV} {u : Value} {Q : HP} (hbn : b < 1000000) (hk : bY φ h0 κ K) (hle : PLe φ ψ) (hr : HR ψ H n h0 g) (hb : H.get b = some (.sep Q)) (hw : Wf g) (hwh : Wf h) (hn : g.n ≤ h.n) (hg : ∀ B o, g.f B = some o → ¬ ψ.s b B → h.f B = some o)
    {χ : Ph} (hx : HR χ H4 n4 h1 h) (h1s : ∀ B, h1.f B = none → (∃ o, h.f B = some o) → ψ.s b B ∨ g.f B = none) (hu : VR χ v u) (hs : RfR b κ H n H4 v) : K u h := by
  let S' : Nat → Prop := fun B => (∃ o, h.f B = some o) ∧ (ψ.s b B ∨ g.f B = none)
  have st := hr.FC (Q' := pk []) (S' := S') hb hw hn hg (fun B ⟨⟨o, e⟩, k⟩ => ⟨hwh B o e, k⟩) ⟨fun B hB => hB.1, List.nodup_nil, fun c hc => by cases hc⟩
  let ω : Ph := ⟨ψ.f, ψ.z, ψ.y, fun x => if x = b then S' else ψ.s x⟩
  have st : HR ω (H.set (some (.sep (pk []))) aa b) n h0 h := st
  have lw : PLe φ ω := ⟨hle.b, hle.z, hle.y⟩
  have le0 : dA (H.set none aa b) (H.set (some (.sep (pk []))) aa b) := fun x o hx => by
    rcases yD hx with ⟨_, q⟩ | ⟨q1, q2⟩
    · cases q
    · exact PM.aw aa _ _ _ (ax hbn) q1 q2
  have s0 := st.less le0
  rcases hs with ⟨hf, hκ⟩ | ⟨c, o, m, k, x, l, z, rfl, hc, hl, hκ⟩
  · exact hk ω _ _ _ _ _ lw s0 (hf χ ω u hu) hκ
  · rcases hx.live c _ hc with ⟨c1, c2⟩ | ⟨p, ob, c1, c2, c3, c4⟩
    · have hvoid : (AO.cells l z).void = true := c2
      have := s0.sh (o := .cells l z) hvoid
      refine hk ω _ _ _ _ _ lw this ?_ hκ
      simp only [VR] at hu ⊢
      rcases hu with q | ⟨p, a, C, q, _⟩
      · exact .inl q
      · rw [c1] at q; cases q
    · have c2 : h1.f p.B = none := c2
      have hS : S' p.B := ⟨⟨ob, c3⟩, h1s p.B c2 ⟨ob, c3⟩⟩
      have hsep : (H.set (some (.sep (pk []))) aa b).get b = some (.sep (pk [])) := PM.bj aa _ _ (ax hbn)
      obtain ⟨k1, k2, k3, k4⟩ := (st.sep b _ hsep).2 p.B (by show (if b = b then S' else ψ.s b) p.B; rw [if_pos rfl]; exact hS)
      obtain ⟨θ, t1, t2, t3⟩ := s0.GX (p := p) (o := .cells l z) (ob := ob) rfl rfl k1 c3 (qb hl c4) (fun b' o' p' e1 e2 e3 => k2 b' o' p' (le0 _ _ e1) e2 e3) k3 (fun b' Q' e1 e2 => by
        rcases yD e1 with ⟨_, q⟩ | ⟨q1, q2⟩
        · cases q
        · exact k4 b' Q' (le0 _ _ e1) q1 e2)
      refine hk θ _ _ _ _ _ (lw.trans t1) t3 ?_ hκ
      simp only [VR] at hu ⊢
      rcases hu with q | ⟨p', a, C, q, q2⟩
      · exact .inl q
      · rw [c1] at q; injection q with q; subst q
        exact .inr ⟨p, a, C, t2, q2⟩
theorem FE {f : FuncId} {call cd : CP} (hic : ah Try.prog f = true) (hcall : kh call) (hcd : kh cd) (hcs : nE cd) : aH f (RfG call cd f) := by
  intro args H n κ hs φ h0 h vs K hr hargs hk
  unfold RfG at hs
  split at hs
  case h_2 => exact hs.elim
  rename_i fn hfn
  split at hs
  case h_2 => exact hs.elim
  rename_i c hb
  split at hs
  case h_2 => exact hs.elim
  rename_i r hrc
  obtain ⟨hok, hlen, hs⟩ := hs
  have hc := CV hrc
  simp only [RfC.ok, Bool.and_eq_true] at hok
  obtain ⟨⟨⟨⟨⟨⟨⟨⟨⟨⟨⟨⟨⟨⟨⟨⟨cA, cB⟩, cC⟩, cE⟩, cca⟩, ccb⟩, dca⟩, dcb⟩, dE⟩, dP⟩, sA⟩, sB⟩, sC⟩, sE⟩, sca⟩, scb⟩, st⟩ := hok
  have st : r.t < fn.ntmps := by simpa using st
  have dsOf : ∀ {c : Code}, ((aC c).all fun t => decide (t < fn.ntmps)) = true → ∀ t ∈ aC c, t < fn.ntmps ∧ (aC c).contains t = true := fun hq t ht => ⟨by simpa using List.all_eq_true.1 hq t ht, by simpa using ht⟩
  refine ⟨hic, fun w hi => (callsIn_wide (n := 0)).1 (callsIn_of_wp_marks hfn hb trivial ?_)⟩
  have hal := hargs.length
  have hsz : vs.size ≤ fn.ntmps := by simpa [hal] using hlen
  have hpre := fV hcall hcd hcs (D := []) (p := n) (φ0 := φ) (fun b q e => (hr.dom b q e).1) (.seq r.A (.seq r.B r.C)) dP φ _ H n _ _ _ (eM vs.toList 0) h
    (fun ρ1 h1 => ∃ φ1 σ1 H1 n1, PLe φ φ1 ∧ HR φ1 H1 n1 h0 h1 ∧ FR φ1 σ1 ρ1 ∧ RfS r fn.ntmps fn.results.toList call cd κ σ1 H1 n1) (fun _ _ => False) (fun _ _ _ => False) (PLe.refl _) hr (uo hargs) hs
    (fun ψ σ1 H1 n1 ρ1 h1 l1 r1 f1 k => ⟨ψ, σ1, H1, n1, l1, r1, f1, k⟩) (fun _ _ _ _ _ _ _ _ _ k => k.elim) (fun i _ _ _ _ _ _ _ _ _ k => k.elim)
  subst hc
  have rel0 : jU [] fn.ntmps ⟨vs ++ Array.replicate (fn.ntmps - vs.size) undef, []⟩ (eM vs.toList 0) := qC hsz
  refine wpIn_seq (wpIn_mono (fG (r := none) (d := []) (w0 := w) r.A cA _ (dsOf sA) _ _ _ _ _ h _ w hpre rel0 hi (bk.refl w) (fun _ _ => rfl)) fun e a1 w1 hq => ?_)
  cases e with
  | ret => obtain ⟨_, _, _, _, _, _, k⟩ := hq; exact k.elim
  | exit i => obtain ⟨_, _, _, _, _, _, k⟩ := hq; exact k.elim
  | goto i => exact hq.elim
  | panic i => exact hq.elim
  | outgrown => exact hq.elim
  | normal =>
  obtain ⟨ρ1, h1, rel1, hi1, hs1, _, hB⟩ := hq
  refine wpIn_seq (wpIn_mono (fG (r := none) (d := []) (w0 := w) r.B cB _ (dsOf sB) _ _ _ _ _ h1 _ w1 hB rel1 hi1 hs1 (fun _ _ => rfl)) fun e a2 w2 hq => ?_)
  cases e with
  | ret => obtain ⟨_, _, _, _, _, _, k⟩ := hq; exact k.elim
  | exit i => obtain ⟨_, _, _, _, _, _, k⟩ := hq; exact k.elim
  | goto i => exact hq.elim
  | panic i => exact hq.elim
  | outgrown => exact hq.elim
  | normal =>
  obtain ⟨ρ2, h2, rel2, hi2, hs2, _, hC⟩ := hq
  refine wpIn_seq (wpIn_seq (wpIn_mono (fG (r := none) (d := []) (w0 := w) r.C cC _ (dsOf sC) _ _ _ _ _ h2 _ w2 hC rel2 hi2 hs2 (fun _ _ => rfl)) fun e a3 w3 hq => ?_))
  cases e with
  | ret => obtain ⟨_, _, _, _, _, _, k⟩ := hq; exact k.elim
  | exit i => obtain ⟨_, _, _, _, _, _, k⟩ := hq; exact k.elim
  | goto i => exact hq.elim
  | panic i => exact hq.elim
  | outgrown => exact hq.elim
  | normal =>
  obtain ⟨ρ3, h3, rel3, hi3, hs3, _, φ1, σ1, H1, n1, l1, r1, f1, hnb, gf, first, ts, Hi, He, σj, Hj, nj, hgt, hts, hgi, hge, hio, hcov, hS⟩ := hq
  refine wpIn_block (wpIn_rangeFunc fun gg hgg => ?_)
  have e3 := hi3.1
  obtain ⟨D, hD⟩ : ∃ D, D = w3.heap.size := ⟨_, rfl⟩
  obtain ⟨L, hL⟩ : ∃ L, L = w3.heap.size + 1 := ⟨_, rfl⟩
  have hDL : D ≠ L := by omega
  let rcd : Loop := { state := .ready, pending := none, fn := gg, tmps := a3.tmps, params := ⟨[r.t]⟩, assign := r.ca, body := r.cb, defers := w3.heap.size }
  let h4 : Hp := (((h3.put h3.n (.deferred (some []))).to (h3.n + 1)).put (h3.n + 1) (.loop rcd)).to (h3.n + 2)
  let w4 : World := (w3.alloc (.deferred (some []))).alloc (.loop rcd)
  have hi4 : Is w4 h4 := (hi3.push _).push _
  have hs4 : bk w w4 := hs3.trans ((bk.push _ _).trans (bk.push _ _))
  have h4L : h4.f L = some (.loop rcd) := by
    rw [show L = h3.n + 1 from by omega]; exact br _ _ _
  have h4D : h4.f D = some (.deferred (some [])) := by
    rw [show D = h3.n from by omega]
    show ((h3.put h3.n (.deferred (some []))).put (h3.n + 1) (.loop rcd)).f h3.n = _
    rw [aO _ _ _ _ (by omega)]; exact br _ _ _
  have h4o : ∀ B o, h3.f B = some o → h4.f B = some o := fun B o e => by
    have := hi3.lt e
    show ((h3.put h3.n (.deferred (some []))).put (h3.n + 1) (.loop rcd)).f B = _
    rw [aO _ _ _ _ (by omega), aO _ _ _ _ (by omega)]; exact e
  have hρ : ∀ t, rcd.tmps.getD t undef = ρ3 t := rel3.2.2
  have hrs : rcd.tmps.size = fn.ntmps := rel3.2.1
  have hY : DF L (GY L D n1 r.t r.ca r.cb rcd σj ρ3 call cd) := EM (rec := rcd) hcall hcd hcs hDL rfl cca ccb dca dcb (by rw [hrs]; exact sca) (by rw [hrs]; exact scb) (by rw [hrs]; exact st) hρ
  let hb0 := ie L D rcd .ready none
  have hb0s : ∀ B o, hb0.f B = some o → (B = L ∨ B = D) ∧ h4.f B = some o := fun B o e => by
    by_cases kL : B = L
    · subst kL; rw [show hb0.f B = _ from ng _ _ _ _ _] at e; exact ⟨.inl rfl, h4L.trans e⟩
    · by_cases kD : B = D
      · subst kD; rw [show hb0.f B = _ from nh hDL _ _ _] at e; exact ⟨.inr rfl, h4D.trans e⟩
      · rw [show hb0.f B = none from tg kL kD _ _ _] at e; cases e
  have hb0n : ∀ B o, h3.f B = some o → hb0.f B = none := fun B o e => by
    have := hi3.lt e
    exact tg (by omega) (by omega) _ _ _
  let S : Nat → Prop := fun B => (∃ b o p ob, Hi.get b = some o ∧ φ1 b = some p ∧ p.B = B ∧ h3.f B = some ob) ∨ B = L ∨ B = D
  let φi : Ph := ⟨φ1.f, fun _ => False, fun _ => False, fun _ _ => False⟩
  have hex : ∀ B, S B → ∃ o, h4.f B = some o := fun B hB => by
    rcases hB with ⟨_, _, _, ob, _, _, _, e⟩ | rfl | rfl
    · exact ⟨ob, h4o _ _ e⟩
    · exact ⟨_, h4L⟩
    · exact ⟨_, h4D⟩
  have is : ∀ B, S B → (inS S h4).f B = h4.f B := fun B e => if_pos e
  have n34 : h3.n ≤ h4.n := by show h3.n ≤ h3.n + 2; omega
  have hii : HR φi Hi n1 hb0 (inS S h4) := by
    refine ⟨fun x q hx => ⟨(r1.dom x q hx).1, Nat.lt_of_lt_of_le (r1.dom x q hx).2 n34⟩, fun x o hx => ?_, fun x y o o' q q' hx hy w1 w2 => r1.inj x y o o' q q' (hgi _ _ hx) (hgi _ _ hy) w1 w2, fun B o e => ⟨hi4.lt (hb0s B o e).2, (is B (.inr (hb0s B o e).1)).trans (hb0s B o e).2⟩, Nat.zero_le _, fun q hq => hq.elim, fun x Q hx => ?_⟩
    · rcases r1.live x o (hgi _ _ hx) with k | ⟨p, ob, k1, k2, k3, k4⟩
      · exact .inl k
      · refine .inr ⟨p, ob, k1, ?_, (is _ (.inl ⟨x, o, p, ob, hx, k1, rfl, k3⟩)).trans (h4o _ _ k3), qb (hio x o hx).1 k4⟩
        rw [AO.bd (kH (hio x o hx).1).1]; exact hb0n _ _ k3
    · have := (kH (hio x _ hx).1).2
      cases this
  have fi : FR φi (gy σ1 ts) ρ3 := gW fun t ht => CU (φ := φ1) (ψ := φi) (List.all_eq_true.1 hts t ht) (fun _ _ h => h) (f1.at t)
  have sub4 : ∀ B o, (inS S h4).f B = some o → S B ∧ h4.f B = some o := fun B o e => by
    by_cases k : S B
    · rw [is B k] at e; exact ⟨k, e⟩
    · have : (inS S h4).f B = none := if_neg k
      rw [this] at e; cases e
  obtain ⟨χ, ⟨_, _, cy⟩, hij, fj⟩ := hcov φi hb0 (inS S h4) ρ3 hii fi
  have hP : (vF hb0 σj ρ3 Hj nj).P φ1.z S h4 := ⟨hex, χ, inS S h4, Nat.le_refl _, sub4, fun q hq => cy q hq, hij, fj⟩
  have r4 : HR φ1 He n1 h0 h4 := (r1.less hge).ext n34 h4o
  have big : ∀ B, B = L ∨ B = D → h3.n ≤ B ∧ B < h4.n := fun B k => ⟨by omega, by show B < h3.n + 2; omega⟩
  obtain ⟨le4, r5⟩ := r4.jM hP fun B hB => by
    rcases hB with ⟨b, o, p, ob, k1, k2, k3, k4⟩ | k
    · have hw := (kH (hio b o k1).1).1
      refine ⟨⟨Nat.lt_of_lt_of_le (hi3.lt k4) n34, ?_⟩, fun b' o' p' e1 e2 e3 e4 => ?_, fun q hq e => ?_, fun b' Q' e1 e2 => ?_⟩
      · rcases r1.live b o (hgi _ _ k1) with ⟨k, _⟩ | ⟨p', ob', k5, k6, _, _⟩
        · rw [k] at k2; cases k2
        · rw [k5] at k2; injection k2 with k2; subst k2
          rw [AO.bd hw, k3] at k6; exact k6
      · have := r1.inj b' b o' o p' p (hge _ _ e1) (hgi _ _ k1) e2 hw e3 k2 (e4.trans k3.symm)
        subst this
        rw [(hio b' o k1).2] at e1; cases e1
      · exact (r1.frz q hq).2 b o p (hgi _ _ k1) hw k2 (k3.trans e.symm)
      · exact ((r1.sep b' Q' (hge _ _ e1)).2 B e2).2.1 b o p (hgi _ _ k1) hw k2 k3
    · obtain ⟨b1, b2⟩ := big B k
      refine ⟨⟨b2, ?_⟩, fun b' o' p' e1 e2 e3 e4 => ?_, fun q hq e => ?_, fun b' Q' e1 e2 => ?_⟩
      · cases e : h0.f B with
        | none => rfl
        | some o => have := (r1.base B o e).1; omega
      · have := (r1.dom b' p' e3).2; omega
      · have := (r1.frz q hq).1.1.1.1; omega
      · have := ((r1.sep b' Q' (hge _ _ e1)).2 B e2).1.1; omega
  have hgv := f1.at r.gt
  rw [hgt] at hgv
  obtain ⟨xs, cs, hv, hx, hcv⟩ := hgv.lC
  have hcv : cs = #[] := Array.ext' hcv.aY
  subst hcv
  have hcf := hcall gf _ _ _ _ (hS L D rcd ρ3 hY) _ h0 h4 (xs ++ #[.func (.yield L) #[] #[]]) (fun u g => ∃ ψ H2 n2, PLe ⟨φ1.f, φ1.z, φ1.y, fun x => if x = n1 then S else φ1.s x⟩ ψ ∧ HR ψ H2 n2 h0 g ∧ RfE L D n1 r fn.results.toList rcd σj ρ3 call cd κ H2 n2) r5
    (by rw [Array.toList_append]; exact (VRs.mono le4 _ _ hx).append (.cons rfl .nil)) fun ψ v H2 n2 u g le hg hu k => ⟨ψ, H2, n2, le, hg, k⟩
  have hev : a3.eval (.tmp r.gt) = .func (.func gf) xs #[] := by rw [rel3.eval]; exact hv
  refine ⟨L, [{ target := .collected w3.heap.size, args := #[] }], w4, { target := .fn (.func gf) #[], args := xs ++ #[.func (.yield L) #[] #[]] }, w4, gf, xs ++ #[.func (.yield L) #[] #[]], w4, ?_, ?_, fun _ _ => trivial, ?_, fun q => Bool.noConfusion q, ?_⟩
  · rw [hL]; exact run_enterLoop_outer _ _ _ _ _
  · simp only [resolve, rangeCall, hev, Deferred.ofValue, Sem.run_pure, List.map_toArray, List.map_cons, List.map_nil]
    rfl
  · (try simp only [invoke])
    rw [jf hcf.1]
    simp
  refine callsIn_wide.2 ((hcf.2 w4 hi4).mono fun e w5 ⟨v5, g5, he, hi5, hs5, ψ, H2, n2, le5, r6, st6, pd, Hx, nx, hb2, hst, hpd, hox, hE⟩ => ?_)
  subst he
  obtain ⟨⟨hex6, φx, g6, hgn6, hsub6, hy6, rx, fx⟩, hc6⟩ := r6.sep n1 _ hb2
  have gL := hsub6 _ _ (rx.base L _ (ng L D rcd st6 pd)).2
  have gD := hsub6 _ _ (rx.base D _ (nh hDL rcd st6 pd)).2
  let exh : Obj := .loop { cV rcd st6 pd with state := .exhausted }
  have r7 := rx.lift hi5.wf hgn6 hsub6 hy6
  have bL : (kG (ψ.s n1) (ie L D rcd st6 pd) g5).f L = some (.loop (cV rcd st6 pd)) := (gH fun k => by rw [ng] at k; cases k.2).trans gL.2
  have bD : (kG (ψ.s n1) (ie L D rcd st6 pd) g5).f D = some (.deferred (some [])) := (gH fun k => by rw [nh hDL] at k; cases k.2).trans gD.2
  have r8 := r7.tf (o' := exh) bL hox hy6
  have hi6 : Is (w5.putObj L exh) (g5.put L exh) := hi5.putObj gL.2
  have hs6 : bk w (w5.putObj L exh) := (hs4.trans hs5).trans (bk.putObj _ _ _)
  have hEs := fV hcall hcd hcs (D := []) (p := nx) (φ0 := φx) (fun b q e => (rx.dom b q e).1) r.E dE φx _ Hx nx _ _ _ ρ3 (g5.put L exh)
    (fun _ _ => False) (fun ρ7 h7 => ∃ φ7 σ7 H7 n7, PLe φx φ7 ∧ HR φ7 H7 n7 ((kG (ψ.s n1) (ie L D rcd st6 pd) g5).put L exh) h7 ∧ FR φ7 σ7 ρ7 ∧ cm H7 ∧ ux fn.results.toList σ7 H7 fun vs => RfR n1 κ H2 n2 H7 (qH vs)) (fun _ _ _ => False) (PLe.refl _) r8 fx hE
    (fun _ _ _ _ _ _ _ _ _ k => k.elim) (fun φ7 σ7 H7 n7 ρ7 h7 l7 r7 f7 ⟨o7, k⟩ => ⟨φ7, σ7, H7, n7, l7, r7, f7, o7, k⟩) (fun i _ _ _ _ _ _ _ _ _ k => k.elim)
  have rel6 : jU [{ target := .collected w3.heap.size, args := #[] }] fn.ntmps { a3 with defers := [{ target := .collected w3.heap.size, args := #[] }] ++ a3.defers } ρ3 := ⟨by simp [rel3.1], rel3.2⟩
  have tail : r.E.wpIn Fence.wide 0 Try.prog (bodyPostM Fence.wide 0 Try.prog fn fun e w' => ∃ v h', e = .returned v ∧ Is w' h' ∧ bk w w' ∧ K v h') { a3 with defers := [{ target := .collected w3.heap.size, args := #[] }] ++ a3.defers } (w5.putObj L exh) := by
    refine wpIn_mono (fG (r := none) (d := [{ target := .collected w3.heap.size, args := #[] }]) (w0 := w) r.E cE _ (dsOf sE) _ _ _ _ _ _ _ _ hEs rel6 hi6 hs6 (fun _ _ => rfl)) fun e a7 w7 hq => ?_
    cases e with
    | normal => obtain ⟨_, _, _, _, _, _, k⟩ := hq; exact k.elim
    | exit i => obtain ⟨_, _, _, _, _, _, k⟩ := hq; exact k.elim
    | ret =>
      obtain ⟨ρ7, h7, rel7, hi7, hs7, _, φ7, σ7, H7, n7, l7, r9, f7, o7, hres⟩ := hq
      have y7 : ∀ q, ¬ φ7.y q := fun q hq => hy6 q (l7.y q hq)
      have bD2 : ((kG (ψ.s n1) (ie L D rcd st6 pd) g5).put L exh).f D = some (.deferred (some [])) := (aO _ _ _ _ hDL).trans bD
      have hD7 := (r9.base D _ bD2).2
      have r10 := r9.tf (o' := .deferred none) bD2 o7 y7
      have hi8 : Is (w7.putObj D (.deferred none)) (h7.put D (.deferred none)) := hi7.putObj hD7
      have hw8 := hi7.2 _ _ hD7
      have hrk : nQ Try.prog fn.results.toList [] ρ7 (h7.put D (.deferred none)) K := jv r10 f7 _ [] _ hres fun ws us k hus => .here (GZ (by omega) hk (l1.trans (le4.trans le5)) r6 hb2 hi5.wf hi8.wf r10.size (fun B o e k => ?_) r10 (fun B e _ => ?_) (by simpa using uq hus) k)
      · obtain ⟨ws, q1, g', q2, q3⟩ := jk rel7.rel hi8.2 fn.results.toList [] hrk
        show LeavesInM Fence.wide 0 Try.prog fn a7.tmps _ a7.defers .returning w7
        rw [rel7.1]
        refine ⟨by simp, .inl ⟨w3.heap.size, w7.putObj D (.deferred none), rfl, hD ▸ run_takeDeferred hw8, ?_⟩⟩
        exact ⟨_, mc q1, _, g', rfl, hi8.sub q2, hs7.trans (bk.putObj _ _ _), q3⟩
      · have kL : B ≠ L := fun q => k (q ▸ gL.1)
        have kD : B ≠ D := fun q => k (q ▸ gD.1)
        refine (r10.base B o ?_).2
        rw [aO _ _ _ _ kD, aO _ _ _ _ kL, gH fun q => k q.1]; exact e
      · by_cases k : ψ.s n1 B
        · exact .inl k
        · have kL : B ≠ L := fun q => k (q ▸ gL.1)
          have kD : B ≠ D := fun q => k (q ▸ gD.1)
          rw [aO _ _ _ _ kD, aO _ _ _ _ kL, gH fun q => k q.1] at e
          exact .inr e
    | _ => exact hq.elim
  refine ⟨pd, _, run_endLoop (hi5.2 _ _ gL.2) hst, ?_⟩
  rcases hpd with rfl | rfl
  · exact tail
  · exact wpIn_exit (by
      show Exit.inBlock r.id _ (.exit r.id) _ _
      simp only [Exit.inBlock, if_true]
      exact tail)
end Go.Proofs.Ytapjijhjnloimaa
namespace Go.Proofs.Ytapjijhjnloimaa
open Go Go.RowKit
noncomputable def KRf : FuncId → EP := a9 43 sV evP
theorem ni : bH KRf := au bb Gx
abbrev cRg : CP := az KRf 5
theorem yE {t v : Int} : ∀ (φ ψ : Ph) (u : Value), VR φ (.agg [.si .i64 t, .si .i64 v]) u → VR ψ (.agg [.si .i64 t, .si .i64 v]) u := fun φ ψ u h => by
  obtain ⟨cs, rfl, h1⟩ := h.eQ
  exact .agg (kX rfl h1)
noncomputable def rgI (a b : Int) (O : Smp) : AH := mkH [(3, .cells [.si .i64 a] true), (4, .cells [.si .i64 b] true), (5, .cells [.rw 6 0 O.length 2 0] true), (6, .cells (smp O) true)]
noncomputable def rgE : AE := mkE [(4, .ptr 3 0), (5, .ptr 4 0), (7, .ptr 5 0)]
noncomputable def ecM (S : Sr) (C : Ck5) (Q : HP) : AH := mkH [(0, .cells (bG S 1 (pts C).length) true), (1, .cells (aJ (pts C)) true), (2, bV S C), (6, .sep Q)]
theorem cG {l : List (Nat × AO)} (h : (l.all fun x => x.2.own) = true) : cm (mkH l) := fun b o e => List.all_eq_true.1 h _ (bI e)
theorem cm.set {H : AH} {d n : Nat} {o : AO} (h : cm H) (ho : o.own = true) : cm (PM.set (some o) d H n) := fun b o' e => by
  rcases PM.an d H n b o' e with ⟨_, q⟩ | ⟨_, q⟩
  · injection q with q; subst q; exact ho
  · exact h b o' q
theorem cm.del {H : AH} {d n : Nat} (h : cm H) : cm (PM.set none d H n) := fun b o' e => by
  rcases PM.an d H n b o' e with ⟨_, q⟩ | ⟨_, q⟩
  · cases q
  · exact h b o' q
theorem yF {σ : AE} {H : AH} {n k : Nat} {a b : Int} {O : Smp} {l3 l4 : List AV} {l : AV} (e4 : aA (pa 4) σ = .ptr 3 0) (e5 : aA (pa 5) σ = .ptr 4 0) (e7 : aA (pa 7) σ = .ptr 5 0) (h3 : PM.get H 3 = some (.cells l3 true)) (g3 : l3.map mk = [.si .i64 a]) (h4 : PM.get H 4 = some (.cells l4 true)) (g4 : l4.map mk = [.si .i64 b])
    (h5 : PM.get H 5 = some (.cells [l] true)) (hl : ai H 7 (fun c => if c = 6 then k else c) l (.rw 6 0 O.length 2 0)) (h6 : (∃ l6, PM.get H k = some (.cells l6 true) ∧ l6.map mk = smp O) ∨ (O = [] ∧ n ≤ k)) (hk : k ≠ 3 ∧ k ≠ 4 ∧ k ≠ 5) : Cov 0 σ H n (rgE, rgI a b O, 7) := by
  refine Cov.ofR (m := 7) (p := 0) (fun c => if c = 6 then k else c) (Nat.zero_le _) (fun b hb => absurd hb (Nat.not_lt_zero b)) (fun x hx => ?_) (fun x hx => ?_) (fun x hx y hy e => ?_)
  · simp only [List.mem_cons, List.not_mem_nil, or_false] at hx
    rcases hx with rfl | rfl | rfl
    · exact ai.ptr (by decide) e4
    · exact ai.ptr (by decide) e5
    · exact ai.ptr (by decide) e7
  · simp only [List.mem_cons, List.not_mem_nil, or_false] at hx
    rcases hx with rfl | rfl | rfl | rfl
    · exact ⟨Nat.le_of_ble_eq_true rfl, .inl ⟨_, h3, aU.cL rfl g3 id⟩⟩
    · exact ⟨Nat.le_of_ble_eq_true rfl, .inl ⟨_, h4, aU.cL rfl g4 id⟩⟩
    · refine ⟨Nat.le_of_ble_eq_true rfl, .inl ⟨_, h5, aU.cells (Nat.le_refl _) id fun i a' hi => ?_⟩⟩
      match i, hi with
      | 0, hi => injection hi with hi; subst hi; exact ⟨_, rfl, hl⟩
      | i + 1, hi => simp at hi
    · refine ⟨Nat.le_of_ble_eq_true rfl, h6.elim (fun ⟨l6, q1, q2⟩ => .inl ⟨_, q1, aU.cL (bP _) (by rw [q2, bh]) id⟩) (fun q => .inr ⟨by rw [q.1]; rfl, q.2⟩)⟩
  · simp only [List.mem_cons, List.not_mem_nil, or_false] at hx hy
    rcases hx with rfl | rfl | rfl | rfl <;> rcases hy with rfl | rfl | rfl | rfl <;> simp at e ⊢ <;> omega
theorem vG {σ : AE} {H : AH} {n : Nat} {S : Sr} {C : Ck5} {Q : HP} (le : List (Nat × AV)) (he : ∀ x ∈ le, ai H 7 (fun b => b) (aA (pa x.1) σ) x.2) (h0 : PM.get H 0 = some (.cells (bG S 1 (pts C).length) true)) (h1 : PM.get H 1 = some (.cells (aJ (pts C)) true)) (h2 : PM.get H 2 = some (bV S C)) (h6 : PM.get H 6 = some (.sep Q)) : Cov 7 σ H n (mkE le, ecM S C Q, 7) := by
  refine Cov.ofR (m := 7) (p := 7) (fun b => b) (Nat.le_refl _) (fun b hb => rfl) he ?_ (fun x hx y hy e => e)
  intro x hx
  simp only [List.mem_cons, List.not_mem_nil, or_false] at hx
  rcases hx with rfl | rfl | rfl | rfl
  · exact ⟨Nat.le_of_ble_eq_true rfl, .inl ⟨_, h0, aU.bG rfl rfl rfl rfl rfl (ai.rw (Nat.le_of_ble_eq_true rfl) rfl)⟩⟩
  · exact ⟨Nat.le_of_ble_eq_true rfl, .inl ⟨_, h1, aU.aJ (aq _)⟩⟩
  · exact ⟨Nat.le_of_ble_eq_true rfl, .inl ⟨_, h2, aU.sep _⟩⟩
  · exact ⟨Nat.le_of_ble_eq_true rfl, .inl ⟨_, h6, aU.sep _⟩⟩
def qs (L : Nat) : AV := .any (.func (.yield L) #[] #[])
abbrev lo1 (C : Ck5) (L i : Nat) : List (Nat × AV) := [(1, qs L), (14, .rw 1 0 (pts C).length 1 0), (15, .si .i64 ((pts C).length : Int)), (16, .si .i64 (i : Int))]
abbrev lo2 (C : Ck5) (L i : Nat) (X : Smp) (j : Nat) : List (Nat × AV) := [(1, qs L), (14, .rw 1 0 (pts C).length 1 0), (15, .si .i64 ((pts C).length : Int)), (16, .si .i64 (i : Int)), (21, .fr X.length 2 (smp X)), (22, .si .i64 (X.length : Int)), (23, .si .i64 (j : Int))]
theorem yG {H : AH} {σ : AE} {C : Ck5} {L i : Nat} (e1 : aA (pa 1) σ = qs L) (e14 : aA (pa 14) σ = .rw 1 0 (pts C).length 1 0) (e15 : mk (aA (pa 15) σ) = .si .i64 ((pts C).length : Int)) (e16 : mk (aA (pa 16) σ) = .si .i64 (i : Int)) : ∀ x ∈ lo1 C L i, ai H 7 (fun b => b) (aA (pa x.1) σ) x.2 := fun x hx => by
  simp only [List.mem_cons, List.not_mem_nil, or_false] at hx
  rcases hx with rfl | rfl | rfl | rfl
  · show ai H 7 _ (aA (pa 1) σ) (qs L)
    rw [e1]; exact fun _ _ _ _ _ h => h
  · exact ai.rw (Nat.le_of_ble_eq_true rfl) e14
  · exact ai.int e15
  · exact ai.int e16
theorem ti {H : AH} {σ : AE} {C : Ck5} {L i j : Nat} {X : Smp} (e1 : aA (pa 1) σ = qs L) (e14 : aA (pa 14) σ = .rw 1 0 (pts C).length 1 0) (e15 : mk (aA (pa 15) σ) = .si .i64 ((pts C).length : Int)) (e16 : mk (aA (pa 16) σ) = .si .i64 (i : Int)) (e21 : aA (pa 21) σ = .fr X.length 2 (smp X)) (e22 : mk (aA (pa 22) σ) = .si .i64 (X.length : Int)) (e23 : mk (aA (pa 23) σ) = .si .i64 (j : Int)) : ∀ x ∈ lo2 C L i X j, ai H 7 (fun b => b) (aA (pa x.1) σ) x.2 := fun x hx => by
  simp only [List.mem_cons, List.not_mem_nil, or_false] at hx
  rcases hx with rfl | rfl | rfl | rfl | rfl | rfl | rfl
  · show ai H 7 _ (aA (pa 1) σ) (qs L)
    rw [e1]; exact fun _ _ _ _ _ h => h
  · exact ai.rw (Nat.le_of_ble_eq_true rfl) e14
  · exact ai.int e15
  · exact ai.int e16
  · exact ai.frE e21
  · exact ai.int e22
  · exact ai.int e23
def geF (a : Int) (X : Smp) : Smp := X.filter fun x => decide (a ≤ x.1)
noncomputable abbrev rgQ (L D : Nat) (rec : Loop) (ρ : Env) (a b : Int) (X : Smp) : HP := vF (ie L D rec .ready none) rgE ρ (rgI a b (geF a X)) 7
theorem iW {S : Sr} {C : Ck5} {i : Nat} (h : i < C.length) : bV S C = .sep (pk (chs S.sz (C.take i ++ (C[i].1, C[i].2) :: C.drop (i + 1)))) := by
  have := c6 h
  unfold bV
  rw [this]
def eu (a b : Int) (X : Smp) : Smp := X.filter fun x => decide (a ≤ x.1) && decide (x.1 ≤ b)
def RgP (S : Sr) (C : Ck5) (O : Smp) : PK := fun u H' m => u = .rw 3 0 O.length 2 0 ∧ H' = mkH [(0, .cells (bG S 1 (pts C).length) true), (1, .cells (aJ (pts C)) true), (2, bV S C), (3, .cells (smp O) true)] ∧ m = 4
theorem CW {H : AH} {n N : Nat} {S : Sr} {C : Ck5} {O X : Smp} (hN : 3 ≤ N) (hO : X = O) (h0 : PM.get H 0 = some (.cells (bG S 1 (pts C).length) true)) (h1 : PM.get H 1 = some (.cells (aJ (pts C)) true)) (h2 : PM.get H 2 = some (bV S C)) (h3 : PM.get H N = some (.cells (smp X) true)) : ∃ (v2 : AV) (H2 : AH) (m : Nat), Cov 3 (mkE [(0, .rw N 0 X.length 2 0)]) H n (mkE [(0, v2)], H2, m) ∧ RgP S C O v2 H2 m := by
  subst hO
  refine ⟨.rw 3 0 X.length 2 0, _, 4, ?_, rfl, rfl, rfl⟩
  refine Cov.ofR (m := 4) (p := 3) (fun c => if c = 3 then N else c) (by decide) (fun b hb => if_neg (by omega)) (fun x hx => ?_) (fun x hx => ?_) (fun x hx y hy e => ?_)
  · simp only [List.mem_cons, List.not_mem_nil, or_false] at hx
    subst hx
    exact ai.rw (Nat.le_of_ble_eq_true rfl) rfl
  · simp only [List.mem_cons, List.not_mem_nil, or_false] at hx
    rcases hx with rfl | rfl | rfl | rfl
    · exact ⟨Nat.le_of_ble_eq_true rfl, .inl ⟨_, h0, aU.bG rfl rfl rfl rfl rfl (ai.rw (Nat.le_of_ble_eq_true rfl) rfl)⟩⟩
    · exact ⟨Nat.le_of_ble_eq_true rfl, .inl ⟨_, h1, aU.aJ (aq _)⟩⟩
    · exact ⟨Nat.le_of_ble_eq_true rfl, .inl ⟨_, h2, aU.sep _⟩⟩
    · exact ⟨Nat.le_of_ble_eq_true rfl, .inl ⟨_, h3, aU.cL (bP _) rfl id⟩⟩
  · simp only [List.mem_cons, List.not_mem_nil, or_false] at hx hy
    rcases hx with rfl | rfl | rfl | rfl <;> rcases hy with rfl | rfl | rfl | rfl <;> simp at e ⊢ <;> omega
theorem KI : RTy 22 22 2 16 := ⟨_, _, _, rfl, rfl, (fun q h => by cases h), rfl, rfl, rfl, rfl, by decide, by decide⟩
theorem yH {a b : Int} {X : Smp} (h : ∀ x ∈ X, x.1 ≤ b) : geF a X = eu a b X := by
  refine List.filter_congr fun x hx => ?_
  have := h x hx
  simp [this]
theorem xn {a b : Int} {X Y : Smp} {x : Int × Int} (hU : Up (X ++ x :: Y)) (h : ∀ y ∈ X, y.1 ≤ b) (hx : b < x.1) : geF a X = eu a b (X ++ x :: Y) := by
  unfold eu
  rw [List.filter_append, yH h]
  have : (x :: Y).filter (fun y => decide (a ≤ y.1) && decide (y.1 ≤ b)) = [] := List.filter_eq_nil_iff.2 fun y hy => by
    have h2 := (List.pairwise_append.1 hU).2.1
    have : x.1 ≤ y.1 := by
      rcases List.mem_cons.1 hy with rfl | hy
      · exact Int.le_refl _
      · exact Int.le_of_lt (List.rel_of_pairwise_cons h2 hy)
    simp only [Bool.and_eq_true, decide_eq_true_eq]; omega
  rw [this, List.append_nil]; rfl
theorem qc {C : Ck5} {i : Nat} (h : i < C.length) : ab (C.take (i + 1)) = ab (C.take i) ++ C[i].2 := by
  rw [List.take_succ_eq_append_getElem h, fD]
  congr 1
  simp [ab, cnt]
theorem vH {C : Ck5} {i j : Nat} (h : i < C.length) (hj : j < C[i].2.length) : ab C = (ab (C.take i) ++ C[i].2.take j) ++ C[i].2[j] :: (C[i].2.drop (j + 1) ++ ab (C.drop (i + 1))) := by
  have h1 := c6 h
  have h2 : C[i].2 = C[i].2.take j ++ C[i].2[j] :: C[i].2.drop (j + 1) := by rw [← List.drop_eq_getElem_cons hj, List.take_append_drop]
  have h3 : ab C = ab (C.take i) ++ (C[i].2 ++ ab (C.drop (i + 1))) := by
    have := congrArg ab h1
    rw [← this, fD, bp]
  rw [h3]
  have h4 : C[i].2 ++ ab (C.drop (i + 1)) = (C[i].2.take j ++ C[i].2[j] :: C[i].2.drop (j + 1)) ++ ab (C.drop (i + 1)) := by rw [← h2]
  rw [h4]; simp only [List.append_assoc, List.cons_append]
theorem Ag (S : Sr) (C : Ck5) (a b : Int) (hO : Okc S C) (hU : Up (ab C)) (hf : (ab C).length ≤ 100000) : cT (RfG cRg (pb KRf) 18) [.ptr 0 0, .si .i64 a, .si .i64 b] (mkH (ed (dC S (pts C) C) 0)) 3 (RgP S C (eu a b (ab C))) := by
  have hl := hO.few
  have hlo := hO.lo
  show RfG cRg _ _ _ _ _ _
  conv => whnf
  refine ⟨by kernel_rfl, Nat.le_of_ble_eq_true rfl, ?_⟩
  conv => whnf
  refine ⟨by decide, 65, [.ptr 0 0], [4, 5, 7], mkH [(3, .cells [.si .i64 a] true), (4, .cells [.si .i64 b] true), (5, .cells [.nsl] true)], mkH [(0, .cells (bG S 1 (pts C).length) true), (1, .cells (aJ (pts C)) true), (2, bV S C)], rgE, rgI a b [], 7, rfl, rfl, fun c o h => ?_, fun c o h => ?_, fun c o h => ?_, ?_, fun L D rec ρ hY => ?_⟩
  · have hm := bI h
    simp only [List.mem_cons, List.not_mem_nil, or_false] at hm
    rcases hm with hm | hm | hm <;> (injection hm with h1 h2; subst h1 h2; rfl)
  · have hm := bI h
    simp only [List.mem_cons, List.not_mem_nil, or_false] at hm
    rcases hm with hm | hm | hm <;> (injection hm with h1 h2; subst h1 h2; rfl)
  · have hm := bI h
    simp only [List.mem_cons, List.not_mem_nil, or_false] at hm
    rcases hm with hm | hm | hm <;> (injection hm with h1 h2; subst h1 h2; exact ⟨rfl, rfl⟩)
  · exact yF (k := 6) rfl rfl rfl rfl rfl rfl rfl rfl (ai.pj rfl) (.inr ⟨rfl, Nat.le_refl _⟩) (by decide)
  conv => whnf
  refine aj.cQ (fun z => absurd (show (0 : Int) < (S.sz : Int) by omega) z) (fun _ => ?_)
  conv => whnf
  refine bC.mk { i : Nat // i ≤ C.length ∧ ∀ x ∈ ab (C.take i), x.1 ≤ b } 7 (fun i => (mkE (lo1 C L i.val), ecM S C (rgQ L D rec ρ a b (ab (C.take i.val))))) (fun i => C.length - i.val) ⟨0, Nat.zero_le _, fun x hx => by cases hx⟩ ?_ ?_
  focus
    exact vG _ (yG rfl rfl rfl rfl) rfl rfl rfl rfl
  intro ⟨i, hi, hI⟩
  have hw : IntKind.i64.wrap ((i : Int) + 1) = ((i + 1 : Nat) : Int) := by rw [aD (by omega) (by omega)]; omega
  conv => whnf
  refine aj.dec (fun h => ?_) (fun h => ?_)
  focus
    have h2 : i < C.length := by
      have h : (i : Int) < ((pts C).length : Int) := h
      rw [ak] at h; omega
    conv => whnf
    refine Idx.mk i rfl (by rw [ak]; exact h2) ?_
    conv => whnf
    refine aF (b9 h2 (show 0 + i * 1 = i by omega)) ?_
    conv => whnf
    refine ⟨2, S.sz, C.take i, C.drop (i + 1), C[i].1, C[i].2, rfl, congrArg some (iW h2), by omega, hO.cI _ (List.getElem_mem h2), ?_⟩
    conv => whnf
    refine bC.mk { j : Nat // j ≤ C[i].2.length ∧ ∀ x ∈ ab (C.take i) ++ C[i].2.take j, x.1 ≤ b } 7 (fun j => (mkE (lo2 C L i C[i].2 j.val), ecM S C (rgQ L D rec ρ a b (ab (C.take i) ++ C[i].2.take j.val)))) (fun j => C[i].2.length - j.val) ⟨0, Nat.zero_le _, by simpa using hI⟩ ?_ ?_
    focus
      exact vG _ (ti rfl rfl rfl rfl rfl rfl rfl) rfl rfl rfl (congrArg (fun X => some (AO.sep (rgQ L D rec ρ a b X))) (List.append_nil _).symm)
    have hF := (hO.cI _ (List.getElem_mem h2)).2.2
    have fE : ∀ {j : Nat}, j = C[i].2.length → ab (C.take i) ++ C[i].2.take j = ab (C.take (i + 1)) := fun {j} e => by rw [qc h2, e, List.take_length]
    have hI2 : ∀ {j : Nat}, j = C[i].2.length → (∀ x ∈ ab (C.take i) ++ C[i].2.take j, x.1 ≤ b) → ∀ x ∈ ab (C.take (i + 1)), x.1 ≤ b := fun {j} e k => by rw [← fE e]; exact k
    intro ⟨j, hj, hJ⟩
    have hw2 : IntKind.i64.wrap ((j : Int) + 1) = ((j + 1 : Nat) : Int) := by rw [aD (by omega) (by omega)]; omega
    conv => whnf
    refine aj.dec (fun h => ?_) (fun h => ?_)
    focus
      have h3 : j < C[i].2.length := by
        have h : (j : Int) < (C[i].2.length : Int) := h
        omega
      have hat := vH h2 h3
      have fT : C[i].2.take (j + 1) = C[i].2.take j ++ [C[i].2[j]] := List.take_succ_eq_append_getElem h3
      have fS : b < C[i].2[j].1 → geF a (ab (C.take i) ++ C[i].2.take j) = eu a b (ab C) := fun z => (xn (hat ▸ hU) hJ z).trans (congrArg (eu a b) hat.symm)
      have hJ2 : ¬ b < C[i].2[j].1 → ∀ x ∈ ab (C.take i) ++ C[i].2.take (j + 1), x.1 ≤ b := fun z x hx => by
        rw [fT, ← List.append_assoc] at hx
        rcases List.mem_append.1 hx with q | q
        · exact hJ x q
        · rw [List.mem_singleton.1 q]; omega
      have fY : a ≤ C[i].2[j].1 → (smp (geF a (ab (C.take i) ++ C[i].2.take j)) ++ [AV.si .i64 C[i].2[j].1, AV.si .i64 C[i].2[j].2]).map mk = smp (geF a (ab (C.take i) ++ C[i].2.take (j + 1))) ∧ (geF a (ab (C.take i) ++ C[i].2.take j)).length + 1 = (geF a (ab (C.take i) ++ C[i].2.take (j + 1))).length := fun z => by
        have : geF a (ab (C.take i) ++ C[i].2.take (j + 1)) = geF a (ab (C.take i) ++ C[i].2.take j) ++ [C[i].2[j]] := by
          rw [fT, ← List.append_assoc]
          unfold geF
          rw [List.filter_append, List.filter_cons_of_pos (by simpa using z), List.filter_nil]
        rw [this, List.map_append, bh]
        exact ⟨by rw [mI]; rfl, by simp⟩
      have fN : ¬ a ≤ C[i].2[j].1 → geF a (ab (C.take i) ++ C[i].2.take j) = geF a (ab (C.take i) ++ C[i].2.take (j + 1)) := fun z => by
        rw [fT, ← List.append_assoc]
        generalize ab (C.take i) ++ C[i].2.take j = X
        unfold geF
        rw [List.filter_append, List.filter_cons_of_neg (by simpa using z), List.filter_nil, List.append_nil]
      have hbig : ((geF a (ab (C.take i) ++ C[i].2.take j)).length + 1) * 16 ≤ 140737488355328 := by
        have h5 : (geF a (ab (C.take i) ++ C[i].2.take j)).length ≤ (ab (C.take i) ++ C[i].2.take j).length := List.length_filter_le _ _
        have h6 := congrArg List.length hat
        rw [List.length_append, List.length_cons] at h6
        omega
      conv => whnf
      refine Idx.mk j rfl h3 ?_
      conv => whnf
      refine aF (dI h3 rfl) ?_
      conv => whnf
      refine Yld.mk _ hY ⟨rgI a b (geF a (ab (C.take i) ++ C[i].2.take j)), 7, _, rfl, rfl, yE, cG rfl, ?_⟩
      conv => whnf
      refine ⟨((cG rfl).set rfl).set rfl, ?_⟩
      conv => whnf
      refine aj.dec (fun z => ?_) (fun z => ?_)
      focus
        conv => whnf
        refine ⟨((cG rfl).set rfl).set rfl, rgI a b (geF a (ab (C.take i) ++ C[i].2.take j)), 7, yF (k := 6) rfl rfl rfl rfl rfl rfl rfl rfl (ai.rw (Nat.le_of_ble_eq_true rfl) rfl) (.inl ⟨_, rfl, bh _⟩) (by decide), cG rfl, ?_⟩
        conv => whnf
        refine ⟨.done, some (.exit 0), rgI a b (geF a (ab (C.take i) ++ C[i].2.take j)), 7, rfl, (fun q => by cases q), .inr rfl, cG rfl, ?_⟩
        conv => whnf
        refine ⟨cG rfl, ?_⟩
        conv => whnf
        exact .inr ⟨6, 0, _, 2, 0, smp _, true, rfl, rfl, bP _, CW (N := 8) (by decide) (fS z) rfl rfl rfl rfl⟩
      conv => whnf
      refine aj.dec (fun z2 => ?_) (fun z2 => ?_)
      focus
        conv => whnf
        refine iE.grow 2 16 1 (geF a (ab (C.take i) ++ C[i].2.take j)).length [.si .i64 C[i].2[j].1, .si .i64 C[i].2[j].2] (smp (geF a (ab (C.take i) ++ C[i].2.take j))) _ true KI (.old rfl) rfl rfl (.rw rfl (dJ _)) hbig ?_
        conv => whnf
        refine ⟨?_, rgI a b (geF a (ab (C.take i) ++ C[i].2.take (j + 1))), 7, yF (k := 9) rfl rfl rfl rfl rfl rfl rfl rfl (ai.rw (Nat.le_of_ble_eq_true rfl) rfl (fY z2).2) (.inl ⟨_, rfl, (fY z2).1⟩) (by decide), cG rfl, ?_⟩
        · repeat first | exact cG rfl | refine cm.set ?_ rfl | refine cm.del ?_
        conv => whnf
        exact ⟨⟨j + 1, h3, hJ2 z⟩, by show C[i].2.length - (j + 1) < C[i].2.length - j; omega, vG _ (ti rfl rfl rfl rfl rfl rfl (congrArg (AV.si .i64) hw2)) rfl rfl rfl rfl⟩
      conv => whnf
      refine ⟨?_, rgI a b (geF a (ab (C.take i) ++ C[i].2.take (j + 1))), 7, yF (k := 6) rfl rfl rfl rfl rfl rfl rfl rfl (ai.rw (Nat.le_of_ble_eq_true rfl) rfl (congrArg List.length (fN z2))) (.inl ⟨_, rfl, (bh _).trans (congrArg smp (fN z2))⟩) (by decide), cG rfl, ?_⟩
      · exact ((cG rfl).set rfl).set rfl
      conv => whnf
      exact ⟨⟨j + 1, h3, hJ2 z⟩, by show C[i].2.length - (j + 1) < C[i].2.length - j; omega, vG _ (ti rfl rfl rfl rfl rfl rfl (congrArg (AV.si .i64) hw2)) rfl rfl rfl rfl⟩
    have h4 : j = C[i].2.length := by
      have h : ¬ (j : Int) < (C[i].2.length : Int) := h
      omega
    conv => whnf
    exact ⟨⟨i + 1, h2, hI2 h4 hJ⟩, by show C.length - (i + 1) < C.length - i; omega, vG _ (yG rfl rfl rfl (congrArg (AV.si .i64) hw)) rfl rfl rfl (congrArg (fun X => some (AO.sep (rgQ L D rec ρ a b X))) (fE h4))⟩
  have h2 : i = C.length := by
    have h : ¬ (i : Int) < ((pts C).length : Int) := h
    rw [ak] at h; omega
  have fZ : geF a (ab (C.take i)) = eu a b (ab C) := by
    rw [yH hI, h2, List.take_length]
  conv => whnf
  refine ⟨.ready, none, rgI a b (geF a (ab (C.take i))), 7, rfl, (fun q => by cases q), .inl rfl, cG rfl, ?_⟩
  conv => whnf
  refine ⟨cG rfl, ?_⟩
  conv => whnf
  exact .inr ⟨6, 0, _, 2, 0, smp _, true, rfl, rfl, bP _, CW (N := 7) (by decide) fZ rfl rfl rfl rfl⟩
theorem EN (f : Nat → Nat) (L : Smp) : dB f (smp L) = smp L := by
  induction L with
  | nil => rfl
  | cons c L ih =>
    show AV.si .i64 c.1 :: AV.si .i64 c.2 :: dB f (smp L) = _
    rw [ih]; rfl
theorem G0 (m : Nat) (L : Smp) : jL m (smp L) = true := by
  induction L with
  | nil => rfl
  | cons c L ih => exact ih
theorem qd {f : FuncId} {run : List AV → AH → Nat → PK → Prop} (hrun : aH f run) (hic : ah Try.prog f = true) {ar0 : List AV} {S : Sr} {C : Ck5} {O : Smp} (h : cT run (.ptr 0 0 :: ar0) (mkH (ed (dC S (pts C) C) 0)) 3 (RgP S C O)) (har : ∀ r, dB r ar0 = ar0)
    {φ : Ph} {H : AH} {n : Nat} {h0 hp : Hp} {vs : Array Value} {κ : PK} {K : KH} {r k q : Nat} (hr : HR φ H n h0 hp) (hR : cO H n r k q S (pts C) C) (hargs : VRs φ (.ptr r 0 :: ar0) vs.toList) (hk : bY φ h0 κ K) (hs : κ (.rw n 0 O.length 2 0) (PM.set (some (.cells (smp O) true)) aa H n) (n + 1)) : cJ Try.prog f vs hp K := by
  refine cY (S := [r, k, q]) (O := dC S (pts C) C) (args0 := .ptr 0 0 :: ar0) (aH.cT hrun) hic hr hR.yo (by show VRs φ (ren _ _ :: dB _ ar0) vs.toList; rw [har]; exact hargs) hk h fun u H' n' ⟨g0, g1, g2⟩ => ?_
  subst g0 g1 g2
  refine ⟨4, PM.set (some (.cells (smp O) true)) aa H n, Nat.le_of_ble_eq_true rfl, fun b o hb => ?_, rfl, hs⟩
  rcases PM.an aa H n b o hb with ⟨rfl, h2⟩ | ⟨h1, h2⟩
  · injection h2 with h2; subst h2
    exact .inl ⟨3, .cells (smp O) true, by decide, rfl, rfl, rfl, G0 _ _, by rw [cx, EN]⟩
  · by_cases hb : b ∈ [r, k, q]
    · left
      simp only [List.mem_cons, List.not_mem_nil, or_false] at hb
      rcases hb with rfl | rfl | rfl
      · rw [hR.hr] at h2; injection h2 with h2; subst h2
        exact ⟨0, _, by decide, rfl, rfl, rfl, rfl, rfl⟩
      · rw [hR.hk] at h2; injection h2 with h2; subst h2
        exact ⟨1, _, by decide, rfl, rfl, rfl, jB _ _, by rw [cx, eV]⟩
      · rw [hR.hq] at h2; injection h2 with h2; subst h2
        exact ⟨2, _, by decide, rfl, rfl, rfl, rfl, rfl⟩
    · exact .inr ⟨by show b < n ∨ n + 1 ≤ b; omega, h2, fun q => absurd q hb⟩
def ln (A : Sr → Ck5 → List AV → Smp → Prop) (args : List AV) (H : AH) (n : Nat) (κ : PK) : Prop := match args with
  | x :: ar => ∃ (r k q : Nat) (S : Sr) (C : Ck5) (O : Smp), x = .ptr r 0 ∧ cO H n r k q S (pts C) C ∧ (n < 900000 ∧ PM.get H n = none) ∧ A S C ar O ∧ κ (.rw n 0 O.length 2 0) (PM.set (some (.cells (smp O) true)) aa H n) (n + 1)
  | _ => False
theorem xo (A : Sr → Ck5 → List AV → Smp → Prop) : jH (ln A) := fun args H n κ hs => by
  unfold ln at *
  split at hs
  · obtain ⟨r, k, q, S, C, O, h1, h2, h3, h4, h5⟩ := hs
    exact ⟨_, _, _, h5, fun b o hb => PM.gne (by omega) (fun e => by subst e; rw [h3.2] at hb; cases hb) hb, Nat.le_succ n, fun κ' h => ⟨r, k, q, S, C, O, h1, h2, h3, h4, h⟩⟩
  · exact hs.elim
def CX (S : Sr) (C : Ck5) (ar : List AV) (O : Smp) : Prop := ∃ y z a b, ar = [y, z] ∧ mk y = .si .i64 a ∧ mk z = .si .i64 b ∧ Okc S C ∧ Up (ab C) ∧ (ab C).length ≤ 100000 ∧ O = eu a b (ab C)
theorem FF : ah Try.prog 18 = true := by kernel_rfl
theorem CY : aH 18 (ln CX) := fun args H n κ hs φ h0' hp vs K hr hargs hk => by
  unfold ln at hs
  split at hs
  · obtain ⟨w1, us1, q1, e1, r1⟩ := hargs.cons_inv
    obtain ⟨r, k, q, S, C, O, rfl, hR, hn, ⟨y, z, a, b, rfl, hy, hz, hO, hU, hf, rfl⟩, hs⟩ := hs
    obtain ⟨w2, us2, q2, e2, r2⟩ := r1.cons_inv
    obtain ⟨w3, us3, q3, e3, r3⟩ := r2.cons_inv
    exact qd (FE FF (cv tab.mixed ni 5) (ph ni) (lK ni)) FF (Ag S C a b hO hU hf) (fun _ => rfl) hr hR (by rw [q1, q2, q3]; exact .cons e1 (.cons (aM rfl (hy ▸ e2.mk)) (.cons (aM rfl (hz ▸ e3.mk)) r3))) hk hs
  · exact hs.elim
end Go.Proofs.Ytapjijhjnloimaa
namespace Go.Proofs.Ytapjijhjnloimaa
open Go Go.RowKit
noncomputable def lnI (m : Nat) : AH := mkH [(3, .cells [.si .i64 (m : Int)] true)]
noncomputable def lnE : AE := mkE [(3, .ptr 3 0)]
noncomputable def lcM (S : Sr) (C : Ck5) (Q : HP) : AH := mkH [(0, .cells (bG S 1 (pts C).length) true), (1, .cells (aJ (pts C)) true), (2, bV S C), (4, .sep Q)]
noncomputable abbrev lnQ (L D : Nat) (rec : Loop) (ρ : Env) (X : Smp) : HP := vF (ie L D rec .ready none) lnE ρ (lnI X.length) 4
theorem FG {σ : AE} {H : AH} {n m : Nat} {l3 : List AV} (e3 : aA (pa 3) σ = .ptr 3 0) (h3 : PM.get H 3 = some (.cells l3 true)) (g3 : l3.map mk = [.si .i64 (m : Int)]) : Cov 0 σ H n (lnE, lnI m, 4) := by
  refine Cov.ofR (m := 4) (p := 0) (fun c => c) (Nat.zero_le _) (fun b hb => rfl) (fun x hx => ?_) (fun x hx => ?_) (fun x hx y hy e => e)
  · simp only [List.mem_cons, List.not_mem_nil, or_false] at hx
    subst hx
    exact ai.ptr (by decide) e3
  · simp only [List.mem_cons, List.not_mem_nil, or_false] at hx
    subst hx
    exact ⟨Nat.le_of_ble_eq_true rfl, .inl ⟨_, h3, aU.cL rfl g3 id⟩⟩
theorem yI {σ : AE} {H : AH} {n : Nat} {S : Sr} {C : Ck5} {Q : HP} (le : List (Nat × AV)) (he : ∀ x ∈ le, ai H 5 (fun b => b) (aA (pa x.1) σ) x.2) (h0 : PM.get H 0 = some (.cells (bG S 1 (pts C).length) true)) (h1 : PM.get H 1 = some (.cells (aJ (pts C)) true)) (h2 : PM.get H 2 = some (bV S C)) (h6 : PM.get H 4 = some (.sep Q)) : Cov 5 σ H n (mkE le, lcM S C Q, 5) := by
  refine Cov.ofR (m := 5) (p := 5) (fun b => b) (Nat.le_refl _) (fun b hb => rfl) he ?_ (fun x hx y hy e => e)
  intro x hx
  simp only [List.mem_cons, List.not_mem_nil, or_false] at hx
  rcases hx with rfl | rfl | rfl | rfl
  · exact ⟨Nat.le_of_ble_eq_true rfl, .inl ⟨_, h0, aU.bG rfl rfl rfl rfl rfl (ai.rw (Nat.le_of_ble_eq_true rfl) rfl)⟩⟩
  · exact ⟨Nat.le_of_ble_eq_true rfl, .inl ⟨_, h1, aU.aJ (aq _)⟩⟩
  · exact ⟨Nat.le_of_ble_eq_true rfl, .inl ⟨_, h2, aU.sep _⟩⟩
  · exact ⟨Nat.le_of_ble_eq_true rfl, .inl ⟨_, h6, aU.sep _⟩⟩
theorem vI {H : AH} {σ : AE} {C : Ck5} {L i : Nat} (e1 : aA (pa 1) σ = qs L) (e14 : aA (pa 14) σ = .rw 1 0 (pts C).length 1 0) (e15 : mk (aA (pa 15) σ) = .si .i64 ((pts C).length : Int)) (e16 : mk (aA (pa 16) σ) = .si .i64 (i : Int)) : ∀ x ∈ lo1 C L i, ai H 5 (fun b => b) (aA (pa x.1) σ) x.2 := fun x hx => by
  simp only [List.mem_cons, List.not_mem_nil, or_false] at hx
  rcases hx with rfl | rfl | rfl | rfl
  · show ai H 5 _ (aA (pa 1) σ) (qs L)
    rw [e1]; exact fun _ _ _ _ _ h => h
  · exact ai.rw (Nat.le_of_ble_eq_true rfl) e14
  · exact ai.int e15
  · exact ai.int e16
theorem vJ {H : AH} {σ : AE} {C : Ck5} {L i j : Nat} {X : Smp} (e1 : aA (pa 1) σ = qs L) (e14 : aA (pa 14) σ = .rw 1 0 (pts C).length 1 0) (e15 : mk (aA (pa 15) σ) = .si .i64 ((pts C).length : Int)) (e16 : mk (aA (pa 16) σ) = .si .i64 (i : Int)) (e21 : aA (pa 21) σ = .fr X.length 2 (smp X)) (e22 : mk (aA (pa 22) σ) = .si .i64 (X.length : Int)) (e23 : mk (aA (pa 23) σ) = .si .i64 (j : Int)) : ∀ x ∈ lo2 C L i X j, ai H 5 (fun b => b) (aA (pa x.1) σ) x.2 := fun x hx => by
  simp only [List.mem_cons, List.not_mem_nil, or_false] at hx
  rcases hx with rfl | rfl | rfl | rfl | rfl | rfl | rfl
  · show ai H 5 _ (aA (pa 1) σ) (qs L)
    rw [e1]; exact fun _ _ _ _ _ h => h
  · exact ai.rw (Nat.le_of_ble_eq_true rfl) e14
  · exact ai.int e15
  · exact ai.int e16
  · exact ai.frE e21
  · exact ai.int e22
  · exact ai.int e23
theorem EO (S : Sr) (C : Ck5) (hO : Okc S C) (hf : (ab C).length ≤ 100000) : cT (RfG cRg (pb KRf) 20) [.ptr 0 0] (mkH (ed (dC S (pts C) C) 0)) 3 (RoP (fun u => u = .si .i64 ((ab C).length : Int)) S (pts C) C) := by
  have hl := hO.few
  have hlo := hO.lo
  show RfG cRg _ _ _ _ _ _
  conv => whnf
  refine ⟨by kernel_rfl, Nat.le_of_ble_eq_true rfl, ?_⟩
  conv => whnf
  refine ⟨by decide, 65, [.ptr 0 0], [3], mkH [(3, .cells [.int .i64 0] true)], mkH [(0, .cells (bG S 1 (pts C).length) true), (1, .cells (aJ (pts C)) true), (2, bV S C)], lnE, lnI 0, 4, rfl, rfl, fun c o h => ?_, fun c o h => ?_, fun c o h => ?_, ?_, fun L D rec ρ hY => ?_⟩
  · have hm := bI h
    simp only [List.mem_cons, List.not_mem_nil, or_false] at hm
    injection hm with h1 h2; subst h1 h2; rfl
  · have hm := bI h
    simp only [List.mem_cons, List.not_mem_nil, or_false] at hm
    rcases hm with hm | hm | hm <;> (injection hm with h1 h2; subst h1 h2; rfl)
  · have hm := bI h
    simp only [List.mem_cons, List.not_mem_nil, or_false] at hm
    injection hm with h1 h2; subst h1 h2; exact ⟨rfl, rfl⟩
  · exact FG rfl rfl rfl
  conv => whnf
  refine aj.cQ (fun z => absurd (show (0 : Int) < (S.sz : Int) by omega) z) (fun _ => ?_)
  conv => whnf
  refine bC.mk { i : Nat // i ≤ C.length } 5 (fun i => (mkE (lo1 C L i.val), lcM S C (lnQ L D rec ρ (ab (C.take i.val))))) (fun i => C.length - i.val) ⟨0, Nat.zero_le _⟩ ?_ ?_
  focus
    exact yI _ (vI rfl rfl rfl rfl) rfl rfl rfl rfl
  intro ⟨i, hi⟩
  have hw : IntKind.i64.wrap ((i : Int) + 1) = ((i + 1 : Nat) : Int) := by rw [aD (by omega) (by omega)]; omega
  conv => whnf
  refine aj.dec (fun h => ?_) (fun h => ?_)
  focus
    have h2 : i < C.length := by
      have h : (i : Int) < ((pts C).length : Int) := h
      rw [ak] at h; omega
    conv => whnf
    refine Idx.mk i rfl (by rw [ak]; exact h2) ?_
    conv => whnf
    refine aF (b9 h2 (show 0 + i * 1 = i by omega)) ?_
    conv => whnf
    refine ⟨2, S.sz, C.take i, C.drop (i + 1), C[i].1, C[i].2, rfl, congrArg some (iW h2), by omega, hO.cI _ (List.getElem_mem h2), ?_⟩
    conv => whnf
    refine bC.mk { j : Nat // j ≤ C[i].2.length } 5 (fun j => (mkE (lo2 C L i C[i].2 j.val), lcM S C (lnQ L D rec ρ (ab (C.take i) ++ C[i].2.take j.val)))) (fun j => C[i].2.length - j.val) ⟨0, Nat.zero_le _⟩ ?_ ?_
    focus
      exact yI _ (vJ rfl rfl rfl rfl rfl rfl rfl) rfl rfl rfl (congrArg (fun X => some (AO.sep (lnQ L D rec ρ X))) (List.append_nil _).symm)
    have hF := (hO.cI _ (List.getElem_mem h2)).2.2
    have fE : ∀ {j : Nat}, j = C[i].2.length → ab (C.take i) ++ C[i].2.take j = ab (C.take (i + 1)) := fun {j} e => by rw [qc h2, e, List.take_length]
    intro ⟨j, hj⟩
    have hw2 : IntKind.i64.wrap ((j : Int) + 1) = ((j + 1 : Nat) : Int) := by rw [aD (by omega) (by omega)]; omega
    conv => whnf
    refine aj.dec (fun h => ?_) (fun h => ?_)
    focus
      have h3 : j < C[i].2.length := by
        have h : (j : Int) < (C[i].2.length : Int) := h
        omega
      have hat := vH h2 h3
      have fT : C[i].2.take (j + 1) = C[i].2.take j ++ [C[i].2[j]] := List.take_succ_eq_append_getElem h3
      have fW : IntKind.i64.wrap (((ab (C.take i) ++ C[i].2.take j).length : Int) + 1) = ((ab (C.take i) ++ C[i].2.take (j + 1)).length : Int) := by
        have h6 := congrArg List.length hat
        rw [List.length_append, List.length_cons] at h6
        rw [fT, ← List.append_assoc, List.length_append (bs := [_]), aD (by omega) (by omega)]
        simp
      conv => whnf
      refine Idx.mk j rfl h3 ?_
      conv => whnf
      refine aF (dI h3 rfl) ?_
      conv => whnf
      refine Yld.mk _ hY ⟨lnI (ab (C.take i) ++ C[i].2.take j).length, 4, _, rfl, rfl, yE, cG rfl, ?_⟩
      conv => whnf
      refine ⟨cG rfl, ?_⟩
      conv => whnf
      refine ⟨?_, lnI (ab (C.take i) ++ C[i].2.take (j + 1)).length, 4, FG rfl rfl (congrArg (fun q => [AV.si .i64 q]) fW), cG rfl, ?_⟩
      · repeat first | exact cG rfl | refine cm.set ?_ rfl | refine cm.del ?_
      conv => whnf
      exact ⟨⟨j + 1, h3⟩, by show C[i].2.length - (j + 1) < C[i].2.length - j; omega, yI _ (vJ rfl rfl rfl rfl rfl rfl (congrArg (AV.si .i64) hw2)) rfl rfl rfl rfl⟩
    have h4 : j = C[i].2.length := by
      have h : ¬ (j : Int) < (C[i].2.length : Int) := h
      omega
    conv => whnf
    exact ⟨⟨i + 1, h2⟩, by show C.length - (i + 1) < C.length - i; omega, yI _ (vI rfl rfl rfl (congrArg (AV.si .i64) hw)) rfl rfl rfl (congrArg (fun X => some (AO.sep (lnQ L D rec ρ X))) (fE h4))⟩
  have h2 : i = C.length := by
    have h : ¬ (i : Int) < ((pts C).length : Int) := h
    rw [ak] at h; omega
  have fZ : ab (C.take i) = ab C := by rw [h2, List.take_length]
  conv => whnf
  refine ⟨.ready, none, lnI (ab (C.take i)).length, 4, rfl, (fun q => by cases q), .inl rfl, cG rfl, ?_⟩
  conv => whnf
  refine ⟨cG rfl, ?_⟩
  conv => whnf
  exact .inl ⟨fun φ ψ u h => h, jJ _ (congrArg (fun X : Smp => AV.si .i64 (X.length : Int)) fZ) (VTo.mk5 rfl) VR.cU rfl rfl rfl⟩
def CZ (S : Sr) (C : Ck5) (ar : List AV) (v : AV) : Prop := ar = [] ∧ Okc S C ∧ (ab C).length ≤ 100000 ∧ v = .si .i64 ((ab C).length : Int)
theorem FH : ah Try.prog 20 = true := by kernel_rfl
theorem C4 : aH 20 (dF CZ) := gi (FE FH (cv tab.mixed ni 5) (ph ni) (lK ni)) FH fun S C ar v hA => by
  obtain ⟨h1, h2, h3, h4⟩ := hA
  subst h1 h4
  exact ⟨[], fun φ vs h => h, fun _ => rfl, ⟨fun _ => rfl, rfl⟩, EO S C h2 h3⟩
end Go.Proofs.Ytapjijhjnloimaa
namespace Go.Proofs.Ytapjijhjnloimaa
open Go Go.RowKit
def G1 : DT := [(5, [(some 1000000, []), (none, [0, 1, 2, 3, 4, 5, 6, 7, 8, 9, 10, 11, 12, 13, 14, 15])])]
noncomputable def G2 : FuncId → EP := bR 24 G1 (cD 18 (ln CX) evP)
theorem ER : bH G2 := aP (aZ bb CY (xo _)) (by kernel_rfl) (by kernel_rfl)
theorem KJ (S : Sr) (C : Ck5) : cO (mkH (ed (dC S (pts C) C) 0)) 3 0 1 2 S (pts C) C := ⟨⟨by decide, by decide, by decide⟩, ⟨by decide, by decide, by decide⟩, rfl, rfl, rfl⟩
def at5 (L : Smp) (i : Nat) : Int × Int := L.getD i (0, 0)
theorem nk {L : Smp} {i : Nat} (h : i < L.length) : L[i] = at5 L i := by simp [at5, h]
theorem qe {p : Int × Int} : ∀ {X : Smp} {i o : Nat}, i < X.length → o = i * 2 → dN (smp X) o [.si .i64 p.1, .si .i64 p.2] = some (smp (X.set i p))
  | [], i, o, h, _ => by simp at h
  | x :: X, 0, o, h, ho => by
    subst ho
    show dN (AV.si .i64 x.1 :: AV.si .i64 x.2 :: smp X) 0 _ = some (AV.si .i64 p.1 :: AV.si .i64 p.2 :: smp X)
    cases smp X <;> rfl
  | x :: X, i + 1, o, h, ho => by
    have := qe (p := p) (X := X) (i := i) (o := i * 2) (by simpa using h) rfl
    subst ho
    rw [show (i + 1) * 2 = i * 2 + 1 + 1 from by omega]
    show dN (AV.si .i64 x.1 :: AV.si .i64 x.2 :: smp X) (i * 2 + 1 + 1) _ = some (AV.si .i64 x.1 :: AV.si .i64 x.2 :: smp (X.set i p))
    simp only [dN] at this ⊢
    rw [this]; rfl
def bkF (O : Smp) : Nat → Smp
  | 0 => O
  | i + 1 => ((bkF O i).set i (at5 (bkF O i) (O.length - 1 - i))).set (O.length - 1 - i) (at5 (bkF O i) i)
theorem dh (O : Smp) : ∀ i, (bkF O i).length = O.length
  | 0 => rfl
  | i + 1 => by simp [bkF, dh O i]
noncomputable def bkM (S : Sr) (C : Ck5) (X : Smp) : AH := mkH [(0, .cells (bG S 1 (pts C).length) true), (1, .cells (aJ (pts C)) true), (2, bV S C), (3, .cells (smp X) true)]
abbrev bo (n i : Nat) : List (Nat × AV) := [(7, .rw 3 0 n 2 0), (8, .si .i64 (i : Int)), (9, .si .i64 ((n : Int) - 1 - i))]
theorem FI {σ : AE} {H : AH} {n : Nat} {S : Sr} {C : Ck5} {X : Smp} (le : List (Nat × AV)) {l : List AV} (he : ∀ x ∈ le, ai H 4 (fun b => b) (aA (pa x.1) σ) x.2) (h0 : PM.get H 0 = some (.cells (bG S 1 (pts C).length) true)) (h1 : PM.get H 1 = some (.cells (aJ (pts C)) true)) (h2 : PM.get H 2 = some (bV S C)) (h3 : PM.get H 3 = some (.cells l true)) (hl : l.map mk = smp X) : Cov 3 σ H n (mkE le, bkM S C X, 4) := by
  refine Cov.ofR (m := 4) (p := 3) (fun b => b) (by decide) (fun b hb => rfl) he ?_ (fun x hx y hy e => e)
  intro x hx
  simp only [List.mem_cons, List.not_mem_nil, or_false] at hx
  rcases hx with rfl | rfl | rfl | rfl
  · exact ⟨Nat.le_of_ble_eq_true rfl, .inl ⟨_, h0, aU.bG rfl rfl rfl rfl rfl (ai.rw (Nat.le_of_ble_eq_true rfl) rfl)⟩⟩
  · exact ⟨Nat.le_of_ble_eq_true rfl, .inl ⟨_, h1, aU.aJ (aq _)⟩⟩
  · exact ⟨Nat.le_of_ble_eq_true rfl, .inl ⟨_, h2, aU.sep _⟩⟩
  · exact ⟨Nat.le_of_ble_eq_true rfl, .inl ⟨_, h3, aU.cL (bP _) (by rw [hl, bh]) id⟩⟩
theorem yJ {X : Smp} {i p : Nat} {v : Int × Int} (h : p < X.length) : at5 (X.set i v) p = if i = p then v else at5 X p := by
  rw [← nk (by rw [List.length_set]; exact h), List.getElem_set, nk h]
theorem C5 (O : Smp) : ∀ (i : Nat), 2 * i ≤ O.length + 1 → ∀ p, p < O.length → at5 (bkF O i) p = if p < i ∨ O.length - 1 - i < p then at5 O (O.length - 1 - p) else at5 O p
  | 0, _, p, hp => by
    rw [if_neg (by omega)]; rfl
  | i + 1, h, p, hp => by
    have ih := C5 O i (by omega)
    have h1 : i < (bkF O i).length := by rw [dh]; omega
    have h2 : O.length - 1 - i < (bkF O i).length := by rw [dh]; omega
    have hpl : p < (bkF O i).length := by rw [dh]; exact hp
    have e : at5 (bkF O (i + 1)) p = if O.length - 1 - i = p then at5 (bkF O i) i else if i = p then at5 (bkF O i) (O.length - 1 - i) else at5 (bkF O i) p := by
      show at5 (((bkF O i).set i (at5 (bkF O i) (O.length - 1 - i))).set (O.length - 1 - i) (at5 (bkF O i) i)) p = _
      rw [yJ (by rw [List.length_set]; exact hpl), yJ hpl]
    rw [e]
    by_cases c1 : O.length - 1 - i = p
    · rw [if_pos c1, ih i (by omega), if_neg (by omega), if_pos (by omega)]
      congr 1; omega
    · rw [if_neg c1]
      by_cases c2 : i = p
      · subst c2
        rw [if_pos rfl, ih _ (by omega), if_neg (by omega), if_pos (by omega)]
      · rw [if_neg c2, ih p hp]
        by_cases c3 : p < i ∨ O.length - 1 - i < p
        · rw [if_pos c3, if_pos (by omega)]
        · rw [if_neg c3, if_neg (by omega)]
theorem ES {O : Smp} {i : Nat} (h1 : 2 * i ≤ O.length + 1) (h2 : O.length - 1 ≤ 2 * i) : bkF O i = O.reverse := by
  refine List.ext_getElem (by rw [dh, List.length_reverse]) fun p hp hq => ?_
  have hp' : p < O.length := by rw [dh] at hp; exact hp
  rw [nk hp, C5 O i h1 p hp', List.getElem_reverse, nk (by omega)]
  by_cases c : p < i ∨ O.length - 1 - i < p
  · rw [if_pos c]
  · rw [if_neg c]; congr 1; omega
theorem Ig {H : AH} {n N : Nat} {S : Sr} {C : Ck5} {O X : Smp} (hO : X = O) (hN : N = X.length) (h0 : PM.get H 0 = some (.cells (bG S 1 (pts C).length) true)) (h1 : PM.get H 1 = some (.cells (aJ (pts C)) true)) (h2 : PM.get H 2 = some (bV S C)) (h3 : PM.get H 3 = some (.cells (smp X) true)) : ∃ (v2 : AV) (H2 : AH) (m : Nat), Cov 3 (mkE [(0, .rw 3 0 N 2 0)]) H n (mkE [(0, v2)], H2, m) ∧ RgP S C O v2 H2 m := by
  subst hN
  exact CW (by decide) hO h0 h1 h2 h3
theorem C6 {H : AH} {σ : AE} {n i : Nat} (e7 : aA (pa 7) σ = .rw 3 0 n 2 0) (e8 : mk (aA (pa 8) σ) = .si .i64 (i : Int)) (e9 : mk (aA (pa 9) σ) = .si .i64 ((n : Int) - 1 - i)) : ∀ x ∈ bo n i, ai H 4 (fun b => b) (aA (pa x.1) σ) x.2 := fun x hx => by
  simp only [List.mem_cons, List.not_mem_nil, or_false] at hx
  rcases hx with rfl | rfl | rfl
  · exact ai.rw (Nat.le_of_ble_eq_true rfl) e7
  · exact ai.int e8
  · exact ai.int e9
theorem C7 (S : Sr) (C : Ck5) (a b : Int) (O : Smp) (hOe : O = eu a b (ab C)) (hO : Okc S C) (hU : Up (ab C)) (hf : (ab C).length ≤ 100000) : cT (az G2 5 24) [.ptr 0 0, .si .i64 a, .si .i64 b] (mkH (ed (dC S (pts C) C) 0)) 3 (RgP S C O.reverse) := by
  have hol : O.length ≤ 100000 := by
    rw [hOe]
    exact Nat.le_trans (List.length_filter_le _ _) hf
  show az G2 5 _ _ _ _ _
  conv => whnf
  refine ⟨0, 1, 2, S, C, O, rfl, KJ S C, ⟨by decide, rfl⟩, ⟨_, _, a, b, rfl, rfl, rfl, hO, hU, hf, hOe⟩, ?_⟩
  have hw0 : IntKind.i64.wrap ((O.length : Int) - 1) = (O.length : Int) - 1 - (0 : Nat) := by rw [aD (by omega) (by omega)]; simp
  conv => whnf
  refine bC.mk { i : Nat // 2 * i ≤ O.length + 1 } 4 (fun i => (mkE (bo O.length i.val), bkM S C (bkF O i.val))) (fun i => O.length + 1 - 2 * i.val) ⟨0, Nat.zero_le _⟩ ?_ ?_
  focus
    exact FI _ (C6 rfl rfl (congrArg (AV.si .i64) hw0)) rfl rfl rfl rfl (bh _)
  intro ⟨i, hi⟩
  conv => whnf
  refine aj.dec (fun h => ?_) (fun h => ?_)
  focus
    have h : (i : Int) < (O.length : Int) - 1 - i := h
    have hk : (((O.length - 1 - i : Nat)) : Int) = (O.length : Int) - 1 - i := by omega
    have h1 : i < (bkF O i).length := by rw [dh]; omega
    have h2 : O.length - 1 - i < (bkF O i).length := by rw [dh]; omega
    have h1' : i < O.length := by omega
    have h2' : O.length - 1 - i < O.length := by omega
    have he : ∀ q : Nat, 0 + q * 2 = q * 2 := fun q => by omega
    have hw1 : IntKind.i64.wrap ((i : Int) + 1) = ((i + 1 : Nat) : Int) := by rw [aD (by omega) (by omega)]; omega
    have hw2 : IntKind.i64.wrap ((O.length : Int) - 1 - i - 1) = (O.length : Int) - 1 - (i + 1 : Nat) := by rw [aD (by omega) (by omega)]; omega
    have fB : smp (((bkF O i).set i (bkF O i)[O.length - 1 - i]).set (O.length - 1 - i) (bkF O i)[i]) = smp (bkF O (i + 1)) := by
      rw [nk h1, nk h2]; rfl
    conv => whnf
    refine ⟨?_, trivial⟩
    conv => whnf
    refine Idx.mk (O.length - 1 - i) hk.symm h2' ?_
    conv => whnf
    refine aF (dI h2 (he _)) ?_
    conv => whnf
    refine Idx.mk i rfl h1' ?_
    conv => whnf
    refine aF (dI h1 (he _)) ?_
    conv => whnf
    refine Idx.mk i rfl h1' ?_
    conv => whnf
    refine aF (qe h1 (he _)) ?_
    conv => whnf
    refine Idx.mk (O.length - 1 - i) hk.symm h2' ?_
    conv => whnf
    refine aF (qe (by rw [List.length_set]; exact h2) (he _)) ?_
    conv => whnf
    exact ⟨⟨i + 1, by omega⟩, by show O.length + 1 - 2 * (i + 1) < O.length + 1 - 2 * i; omega, FI _ (C6 rfl (congrArg (AV.si .i64) hw1) (congrArg (AV.si .i64) hw2)) rfl rfl rfl rfl ((bh _).trans fB)⟩
  have h : ¬ (i : Int) < (O.length : Int) - 1 - i := h
  have fR : bkF O i = O.reverse := ES (by omega) (by omega)
  conv => whnf
  exact Ig fR (dh O i).symm rfl rfl rfl rfl
def FJ (S : Sr) (C : Ck5) (ar : List AV) (O : Smp) : Prop := ∃ y z a b, ar = [y, z] ∧ mk y = .si .i64 a ∧ mk z = .si .i64 b ∧ Okc S C ∧ Up (ab C) ∧ (ab C).length ≤ 100000 ∧ O = (eu a b (ab C)).reverse
theorem FK : aH 24 (ln FJ) := fun args H n κ hs φ h0' hp vs K hr hargs hk => by
  unfold ln at hs
  split at hs
  · obtain ⟨w1, us1, q1, e1, r1⟩ := hargs.cons_inv
    obtain ⟨r, k, q, S, C, O, rfl, hR, hn, ⟨y, z, a, b, rfl, hy, hz, hO, hU, hf, rfl⟩, hs⟩ := hs
    obtain ⟨w2, us2, q2, e2, r2⟩ := r1.cons_inv
    obtain ⟨w3, us3, q3, e3, r3⟩ := r2.cons_inv
    exact qd (aI ER 5 _) (by kernel_rfl) (C7 S C a b _ rfl hO hU hf) (fun _ => rfl) hr hR (by rw [q1, q2, q3]; exact .cons e1 (.cons (aM rfl (hy ▸ e2.mk)) (.cons (aM rfl (hz ▸ e3.mk)) r3))) hk hs
  · exact hs.elim
end Go.Proofs.Ytapjijhjnloimaa
namespace Go.Proofs.Ytapjijhjnloimaa
open Go Go.RowKit
noncomputable def G3 : FuncId → EP := cD 47 (kC yj) evP
theorem ET : bH G3 := aZ bb sU (sT _)
theorem KK : RTy 55 55 1 8 := ⟨_, _, _, rfl, rfl, (fun q h => by cases h), rfl, rfl, rfl, rfl, by decide, by decide⟩
def jN (C : Ck5) : List Int := C.map fun c => ((usd c.2 : Nat) : Int)
theorem kI (C : Ck5) : (jN C).length = C.length := List.length_map _
def RiP (S : Sr) (C : Ck5) (O : List Int) : PK := fun u H' m => u = .rw 3 0 O.length 1 0 ∧ H' = mkH [(0, .cells (bG S 1 (pts C).length) true), (1, .cells (aJ (pts C)) true), (2, bV S C), (3, .cells (ints O) true)] ∧ m = 4
noncomputable def csM (S : Sr) (C : Ck5) (X : List Int) : AH := mkH [(0, .cells (bG S 1 (pts C).length) true), (1, .cells (aJ (pts C)) true), (2, bV S C), (3, .cells (ints X) true)]
abbrev cso (C : Ck5) (i : Nat) : List (Nat × AV) := [(3, .rw 3 0 i 1 0), (12, .rw 1 0 (pts C).length 1 0), (13, .si .i64 ((pts C).length : Int)), (14, .si .i64 (i : Int))]
theorem C8 (k : Nat) {σ : AE} {H : AH} {n : Nat} {S : Sr} {C : Ck5} {X : List Int} (le : List (Nat × AV)) (hk : 3 ≤ k) (he : ∀ x ∈ le, ai H 4 (fun c => if c = 3 then k else c) (aA (pa x.1) σ) x.2) (h0 : PM.get H 0 = some (.cells (bG S 1 (pts C).length) true)) (h1 : PM.get H 1 = some (.cells (aJ (pts C)) true)) (h2 : PM.get H 2 = some (bV S C)) (h3 : (∃ l, PM.get H k = some (.cells l true) ∧ l.map mk = ints X) ∨ (X = [] ∧ n ≤ k)) : Cov 3 σ H n (mkE le, csM S C X, 4) := by
  refine Cov.ofR (m := 4) (p := 3) (fun c => if c = 3 then k else c) (by decide) (fun b hb => if_neg (by omega)) he ?_ (fun x hx y hy e => ?_)
  · intro x hx
    simp only [List.mem_cons, List.not_mem_nil, or_false] at hx
    rcases hx with rfl | rfl | rfl | rfl
    · exact ⟨Nat.le_of_ble_eq_true rfl, .inl ⟨_, h0, aU.bG rfl rfl rfl rfl rfl (ai.rw (Nat.le_of_ble_eq_true rfl) rfl)⟩⟩
    · exact ⟨Nat.le_of_ble_eq_true rfl, .inl ⟨_, h1, aU.aJ (aq _)⟩⟩
    · exact ⟨Nat.le_of_ble_eq_true rfl, .inl ⟨_, h2, aU.sep _⟩⟩
    · exact ⟨Nat.le_of_ble_eq_true rfl, h3.elim (fun ⟨l, q1, q2⟩ => .inl ⟨_, q1, aU.cL (zw _) (by rw [q2, uH]) id⟩) (fun q => .inr ⟨by rw [q.1]; rfl, q.2⟩)⟩
  · simp only [List.mem_cons, List.not_mem_nil, or_false] at hx hy
    rcases hx with rfl | rfl | rfl | rfl <;> rcases hy with rfl | rfl | rfl | rfl <;> simp at e ⊢ <;> omega
theorem yK {H : AH} {σ : AE} {C : Ck5} {k i : Nat} (e3 : ai H 4 (fun c => if c = 3 then k else c) (aA (pa 3) σ) (.rw 3 0 i 1 0)) (e12 : aA (pa 12) σ = .rw 1 0 (pts C).length 1 0) (e13 : mk (aA (pa 13) σ) = .si .i64 ((pts C).length : Int)) (e14 : mk (aA (pa 14) σ) = .si .i64 (i : Int)) : ∀ x ∈ cso C i, ai H 4 (fun c => if c = 3 then k else c) (aA (pa x.1) σ) x.2 := fun x hx => by
  simp only [List.mem_cons, List.not_mem_nil, or_false] at hx
  rcases hx with rfl | rfl | rfl | rfl
  · exact e3
  · exact ai.rw (Nat.le_of_ble_eq_true rfl) e12
  · exact ai.int e13
  · exact ai.int e14
theorem Ih {H : AH} {n N m : Nat} {S : Sr} {C : Ck5} {O X : List Int} (hN : 3 ≤ N) (hO : X = O) (hm : m = X.length) (h0 : PM.get H 0 = some (.cells (bG S 1 (pts C).length) true)) (h1 : PM.get H 1 = some (.cells (aJ (pts C)) true)) (h2 : PM.get H 2 = some (bV S C)) (h3 : PM.get H N = some (.cells (ints X) true)) : ∃ (v2 : AV) (H2 : AH) (q : Nat), Cov 3 (mkE [(0, .rw N 0 m 1 0)]) H n (mkE [(0, v2)], H2, q) ∧ RiP S C O v2 H2 q := by
  subst hO hm
  exact ⟨.rw 3 0 X.length 1 0, _, 4, C8 N [(0, .rw 3 0 X.length 1 0)] hN (fun x hx => by
    simp only [List.mem_cons, List.not_mem_nil, or_false] at hx
    subst hx
    exact ai.rw (Nat.le_of_ble_eq_true rfl) rfl) h0 h1 h2 (.inl ⟨_, h3, uH _⟩), rfl, rfl, rfl⟩
theorem xp (S : Sr) (C : Ck5) (hO : Okc S C) : cT (az G3 5 33) [.ptr 0 0] (mkH (ed (dC S (pts C) C) 0)) 3 (RiP S C (jN C)) := by
  have hl := hO.few
  have hlo := hO.lo
  show az G3 5 _ _ _ _ _
  conv => whnf
  refine aj.cQ (fun z => absurd (show (0 : Int) < (S.sz : Int) by omega) z) (fun _ => ?_)
  conv => whnf
  refine bC.mk { i : Nat // i ≤ C.length } 4 (fun i => (mkE (cso C i.val), csM S C (jN (C.take i.val)))) (fun i => C.length - i.val) ⟨0, Nat.zero_le _⟩ ?_ ?_
  focus
    exact C8 3 _ (Nat.le_refl _) (yK (ai.pj rfl) rfl rfl rfl) rfl rfl rfl (.inr ⟨rfl, Nat.le_refl _⟩)
  intro ⟨i, hi⟩
  have hw : IntKind.i64.wrap ((i : Int) + 1) = ((i + 1 : Nat) : Int) := by rw [aD (by omega) (by omega)]; omega
  conv => whnf
  refine aj.dec (fun h => ?_) (fun h => ?_)
  focus
    have h2 : i < C.length := by
      have h : (i : Int) < ((pts C).length : Int) := h
      rw [ak] at h; omega
    have hT : jN (C.take (i + 1)) = jN (C.take i) ++ [((usd C[i].2 : Nat) : Int)] := by
      rw [List.take_succ_eq_append_getElem h2]; unfold jN; rw [List.map_append]; rfl
    have hlt : (jN (C.take i)).length = i := by rw [kI, List.length_take]; omega
    have hM : (ints (jN (C.take i)) ++ [AV.si .i64 ((usd C[i].2 : Nat) : Int)]).map mk = ints (jN (C.take (i + 1))) := by rw [hT]; exact zx _ _
    conv => whnf
    refine Idx.mk i rfl (by rw [ak]; exact h2) ?_
    conv => whnf
    refine aF (b9 h2 (show 0 + i * 1 = i by omega)) ?_
    conv => whnf
    refine ⟨2, S.sz, C.take i, C.drop (i + 1), C[i].1, C[i].2, rfl, congrArg some (iW h2), ?_⟩
    conv => whnf
    refine iE.grow 1 8 1 i [.si .i64 ((usd C[i].2 : Nat) : Int)] (ints (jN (C.take i))) _ true KK (.old rfl) rfl rfl (.rw rfl (b7 (by rw [uI, hlt, Nat.mul_one]))) (by omega) ?_
    conv => whnf
    exact ⟨⟨i + 1, h2⟩, by show C.length - (i + 1) < C.length - i; omega, C8 5 _ (by decide) (yK (ai.rw (Nat.le_of_ble_eq_true rfl) rfl) rfl rfl (congrArg (AV.si .i64) hw)) rfl rfl rfl (.inl ⟨_, rfl, hM⟩)⟩
  have h2 : i = C.length := by
    have h : ¬ (i : Int) < ((pts C).length : Int) := h
    rw [ak] at h; omega
  have hE : jN (C.take i) = jN C := by rw [h2, List.take_length]
  have hE2 : i = (jN (C.take i)).length := by rw [kI, List.length_take]; omega
  conv => whnf
  exact Ih (Nat.le_refl 3) hE hE2 rfl rfl rfl rfl
theorem C9 (f : Nat → Nat) (L : List Int) : dB f (ints L) = ints L := by
  induction L with
  | nil => rfl
  | cons c L ih =>
    show AV.si .i64 c :: dB f (ints L) = _
    rw [ih]; rfl
theorem EU (m : Nat) (L : List Int) : jL m (ints L) = true := by
  induction L with
  | nil => rfl
  | cons c L ih => exact ih
def vK (A : Sr → Ck5 → List Int → Prop) (args : List AV) (H : AH) (n : Nat) (κ : PK) : Prop := match args with
  | [x] => ∃ (r k q : Nat) (S : Sr) (C : Ck5) (O : List Int), x = .ptr r 0 ∧ cO H n r k q S (pts C) C ∧ (n < 900000 ∧ PM.get H n = none) ∧ A S C O ∧ κ (.rw n 0 O.length 1 0) (PM.set (some (.cells (ints O) true)) aa H n) (n + 1)
  | _ => False
theorem G4 (A : Sr → Ck5 → List Int → Prop) : jH (vK A) := fun args H n κ hs => by
  unfold vK at *
  split at hs
  · obtain ⟨r, k, q, S, C, O, h1, h2, h3, h4, h5⟩ := hs
    exact ⟨_, _, _, h5, fun b o hb => PM.gne (by omega) (fun e => by subst e; rw [h3.2] at hb; cases hb) hb, Nat.le_succ n, fun κ' h => ⟨r, k, q, S, C, O, h1, h2, h3, h4, h⟩⟩
  · exact hs.elim
def FL (S : Sr) (C : Ck5) (O : List Int) : Prop := Okc S C ∧ O = jN C
theorem Ii : aH 33 (vK FL) := fun args H n κ hs φ h0' hp vs K hr hargs hk => by
  unfold vK at hs
  split at hs
  · obtain ⟨w1, us1, q1, e1, r1⟩ := hargs.cons_inv
    obtain ⟨r, k, q, S, C, O, rfl, hR, hn, ⟨hO, rfl⟩, hs⟩ := hs
    refine cY (S := [r, k, q]) (O := dC S (pts C) C) (args0 := [.ptr 0 0]) (aH.cT (aI ET 5 _)) (by kernel_rfl) hr hR.yo (by rw [q1]; exact .cons e1 r1) hk (xp S C hO) fun u H' n' ⟨g0, g1, g2⟩ => ?_
    subst g0 g1 g2
    refine ⟨4, PM.set (some (.cells (ints (jN C)) true)) aa H n, Nat.le_of_ble_eq_true rfl, fun b o hb => ?_, rfl, hs⟩
    rcases PM.an aa H n b o hb with ⟨rfl, h2⟩ | ⟨h1, h2⟩
    · injection h2 with h2; subst h2
      exact .inl ⟨3, .cells (ints (jN C)) true, by decide, rfl, rfl, rfl, EU _ _, by rw [cx, C9]⟩
    · by_cases hb : b ∈ [r, k, q]
      · left
        simp only [List.mem_cons, List.not_mem_nil, or_false] at hb
        rcases hb with rfl | rfl | rfl
        · rw [hR.hr] at h2; injection h2 with h2; subst h2
          exact ⟨0, _, by decide, rfl, rfl, rfl, rfl, rfl⟩
        · rw [hR.hk] at h2; injection h2 with h2; subst h2
          exact ⟨1, _, by decide, rfl, rfl, rfl, jB _ _, by rw [cx, eV]⟩
        · rw [hR.hq] at h2; injection h2 with h2; subst h2
          exact ⟨2, _, by decide, rfl, rfl, rfl, rfl, rfl⟩
      · exact .inr ⟨by show b < n ∨ n + 1 ≤ b; omega, h2, fun q => absurd q hb⟩
  · exact hs.elim
end Go.Proofs.Ytapjijhjnloimaa
namespace Go.Proofs.Ytapjijhjnloimaa
open Go Go.RowKit
noncomputable def Da : FuncId → EP := bR 17 [] evP
theorem EV : bH Da := aP bb (by kernel_rfl) (by kernel_rfl)
def qf (B : Nat) (f : Smp → Smp → Bool) (args : List AV) (H : AH) (n : Nat) (κ : PK) : Prop := match args with
  | [x, y] => ∃ L M, my H x L ∧ my H y M ∧ L.length ≤ B ∧ M.length ≤ B ∧ κ (.sb (f L M)) H n
  | _ => False
theorem Db {B : Nat} {f : Smp → Smp → Bool} : jH (qf B f) := .pure fun args H n κ hs => by
  unfold qf at *
  split at hs
  · obtain ⟨L, M, h1, h2, h3, h4, h5⟩ := hs
    exact ⟨_, h5, fun κ' h => ⟨L, M, h1, h2, h3, h4, h⟩⟩
  · exact hs.elim
theorem Dc {B : Nat} {F : FuncId → EP} (hF : bH F) {d : Nat} {f : FuncId} {g : Smp → Smp → Bool} (hic : ah Try.prog f = true) (h00 : az F d f [.nsl, .nsl] .nil 0 fun u _ _ => mkT u = mkT (.bool (g [] [])))
    (h01 : ∀ M cap, M.length ≤ B → az F d f [.nsl, .sy 0 0 M.length cap 0] (mkH [(0, .ro (smp M))]) 1 fun u _ _ => mkT u = mkT (.bool (g [] M)))
    (h10 : ∀ L cap, L.length ≤ B → az F d f [.sy 0 0 L.length cap 0, .nsl] (mkH [(0, .ro (smp L))]) 1 fun u _ _ => mkT u = mkT (.bool (g L [])))
    (h11 : ∀ L M c1 c2, L.length ≤ B → M.length ≤ B → az F d f [.sy 0 0 L.length c1 0, .sy 1 0 M.length c2 0] (mkH [(0, .ro (smp L)), (1, .ro (smp M))]) 2 fun u _ _ => mkT u = mkT (.bool (g L M))) : aH f (qf B g) := fun args H n κ hs φ h0' hp vs K hr hargs hk => by
  unfold qf at hs
  split at hs
  · obtain ⟨x, y, rfl, e1, e2⟩ := vs2 hargs
    obtain ⟨L, M, hS, hT, hL, hM, hs2⟩ := hs
    rcases hS.open hr e1 with ⟨rfl, hv⟩ | ⟨p, C, _, hro, hv⟩ <;> rcases hT.open hr e2 with ⟨rfl, hw⟩ | ⟨p', C', _, hro', hw⟩
    · exact gX (v := .bool (g [] [])) hF rfl h00 hs2 hr hk hic HR.ro0 (.cons (hv _) (.cons (hw _) .nil))
    · exact gX (v := .bool (g [] M)) hF rfl (h01 M C' hM) hs2 hr hk hic (fun hw => HR.ro1 hw hro') (.cons (hv _) (.cons (hw _ 0 rfl) .nil))
    · exact gX (v := .bool (g L [])) hF rfl (h10 L C hL) hs2 hr hk hic (fun hw => HR.ro1 hw hro) (.cons (hv _ 0 rfl) (.cons (hw _) .nil))
    · exact gX (v := .bool (g L M)) hF rfl (h11 L M C C' hL hM) hs2 hr hk hic (fun hw => HR.ro2 hw hro hro') (.cons (hv _ 0 rfl) (.cons (hw _ 1 rfl) .nil))
  · exact hs.elim
theorem Dd : dU Try.prog 29 = some [(0, 0), (0, 1)] := by kernel_rfl
def iy (L M : Smp) : Bool := decide (L = M)
noncomputable def xq (L M : Smp) (c1 c2 i : Nat) : AE × AH := (mkE [(0, .sy 0 0 L.length c1 0), (1, .sy 1 0 M.length c2 0), (5, .si .i64 i)], mkH [(0, .ro (smp L)), (1, .ro (smp M))])
theorem vL {L M : Smp} {c1 c2 i p n : Nat} {σ : AE} {H : AH} (hp : p ≤ 2) (e0 : mk (aA (pa 0) σ) = .sy 0 0 L.length c1 0) (e1 : mk (aA (pa 1) σ) = .sy 1 0 M.length c2 0) (e5 : mk (aA (pa 5) σ) = .si .i64 i)
    (h0 : H.get 0 = some (.ro (smp L))) (h1 : H.get 1 = some (.ro (smp M))) : Cov p σ H n ((xq L M c1 c2 i).1, (xq L M c1 c2 i).2, 2) := by
  refine Cov.of (fun b => b) hp (fun b hb => rfl) ?_ ?_ ?_
  · intro x hx
    simp only [List.mem_cons, List.not_mem_nil, or_false] at hx
    rcases hx with rfl | rfl | rfl
    · exact .sy (by decide) e0
    · exact .sy (by decide) e1
    · exact .int e5
  · intro x hx
    simp only [List.mem_cons, List.not_mem_nil, or_false] at hx
    rcases hx with rfl | rfl
    · exact ⟨by simp, _, h0, aU.Bp (bP L) rfl⟩
    · exact ⟨by simp, _, h1, aU.Bp (bP M) rfl⟩
  · intro x hx y hy
    simp only [List.mem_cons, List.not_mem_nil, or_false] at hx hy
    rcases hx with rfl | rfl <;> rcases hy with rfl | rfl <;> exact fun q => q
theorem oi {L M : Smp} (h : L ≠ M) : AV.sb false = mkT (.bool (iy L M)) := by simp [iy, h, mkT, mk]
theorem De {L M : Smp} (h : L = M) : AV.sb true = mkT (.bool (iy L M)) := by simp [iy, h, mkT, mk]
theorem Ah (L M : Smp) (c1 c2 : Nat) (hL : L.length ≤ 1000000) (hM : M.length ≤ 1000000) : az Da 3 17 [.sy 0 0 L.length c1 0, .sy 1 0 M.length c2 0] (mkH [(0, .ro (smp L)), (1, .ro (smp M))]) 2 fun u _ _ => mkT u = mkT (.bool (iy L M)) := by
  conv => whnf
  refine aj.cQ (fun h1 => ?_) (fun h1 => ?_)
  · conv => whnf
    exact (show mkT _ = AV.sb false from rfl).trans (oi fun e => h1 (by rw [e]))
  have hlen : L.length = M.length := by have : (L.length : Int) = (M.length : Int) := h1; omega
  conv => whnf
  refine bC.mk { i : Nat // i < L.length + 1 ∧ L.take i = M.take i } 2 (fun a => xq L M c1 c2 a.val) (fun a => L.length - a.val) ⟨0, by omega, rfl⟩ ?_ ?_
  · exact vL (i := 0) (Nat.le_refl 2) rfl rfl rfl rfl rfl
  · intro ⟨i, hi, he⟩
    conv => whnf
    refine aj.dec (fun h2 => ?_) (fun h2 => ?_)
    · have h3 : i < L.length := Int.ofNat_lt.1 h2
      have h4 : i < M.length := by omega
      have hlt : L.length - (i + 1) < L.length - i := by omega
      have hw : IntKind.i64.wrap ((i : Int) + 1) = ((i + 1 : Nat) : Int) := by rw [aD (x := (i : Int) + 1) (by omega) (by omega)]; omega
      conv => whnf
      refine Idx.mk i rfl h3 ?_
      conv => whnf
      refine aF (dI h3 (by show 0 + i * 2 = i * 2; omega)) ?_
      conv => whnf
      refine Idx.mk i rfl h4 ?_
      conv => whnf
      refine aF (dI h4 (by show 0 + i * 2 = i * 2; omega)) ?_
      conv => whnf
      refine aF (zS Dd) ?_
      conv => whnf
      refine aj.nsb (fun h5 => ?_) (fun h5 => ?_)
      · conv => whnf
        refine (show mkT _ = AV.sb false from rfl).trans (oi fun e => ?_)
        subst e
        have h5 : (decide (L[i].1 = L[i].1) && (decide (L[i].2 = L[i].2) && true)) = false := h5
        simp at h5
      · conv => whnf
        have h5 : (decide (L[i].1 = M[i].1) && (decide (L[i].2 = M[i].2) && true)) = true := h5
        simp only [Bool.and_true, Bool.and_eq_true, decide_eq_true_eq] at h5
        refine ⟨⟨i + 1, by omega, ?_⟩, hlt, vL (Nat.le_refl 2) rfl rfl (congrArg (AV.si .i64) hw) rfl rfl⟩
        rw [List.take_succ_eq_append_getElem h3, List.take_succ_eq_append_getElem h4, he, Prod.ext h5.1 h5.2]
    · conv => whnf
      have h3 : i = L.length := by have : ¬ (i : Int) < (L.length : Int) := h2; omega
      subst h3
      refine (show mkT _ = AV.sb true from rfl).trans (De ?_)
      rw [List.take_length, hlen, List.take_length] at he
      exact he
theorem EW : az Da 3 17 [.nsl, .nsl] .nil 0 fun u _ _ => mkT u = mkT (.bool (iy [] [])) := by
  conv => whnf
  refine bC.roll 1 ?_
  conv => whnf
  rfl
theorem EX (M : Smp) (cap : Nat) : az Da 3 17 [.nsl, .sy 0 0 M.length cap 0] (mkH [(0, .ro (smp M))]) 1 fun u _ _ => mkT u = mkT (.bool (iy [] M)) := by
  conv => whnf
  refine aj.cQ (fun h1 => ?_) (fun h1 => ?_)
  · conv => whnf
    exact (show mkT _ = AV.sb false from rfl).trans (oi fun e => h1 (by rw [← e]; rfl))
  · conv => whnf
    have h2 : M = [] := List.eq_nil_of_length_eq_zero (by have : (0 : Int) = (M.length : Int) := h1; omega)
    subst h2
    refine bC.roll 1 ?_
    conv => whnf
    rfl
theorem EY (L : Smp) (cap : Nat) : az Da 3 17 [.sy 0 0 L.length cap 0, .nsl] (mkH [(0, .ro (smp L))]) 1 fun u _ _ => mkT u = mkT (.bool (iy L [])) := by
  conv => whnf
  refine aj.cQ (fun h1 => ?_) (fun h1 => ?_)
  · conv => whnf
    exact (show mkT _ = AV.sb false from rfl).trans (oi fun e => h1 (by rw [e]; rfl))
  · conv => whnf
    have h2 : L = [] := List.eq_nil_of_length_eq_zero (by have : (L.length : Int) = (0 : Int) := h1; omega)
    subst h2
    refine bC.roll 1 ?_
    conv => whnf
    refine aj.dec (fun h => absurd h (by decide)) (fun _ => ?_)
    conv => whnf
    rfl
theorem yL : aH 17 (qf 1000000 iy) := Dc EV (by kernel_rfl) EW (fun M cap _ => EX M cap) (fun L cap _ => EY L cap) Ah
end Go.Proofs.Ytapjijhjnloimaa
namespace Go.Proofs.Ytapjijhjnloimaa
open Go Go.RowKit
theorem vM (S : Sr) (L : Smp) (t v p : Int) : (eG S L t v p).1.2.length ≤ L.length + 1 := by
  unfold eG
  generalize (if p = 0 then S.pol else p) = q
  split
  · exact Nat.le_succ _
  · split
    · exact Nat.le_succ _
    · split
      · exact Nat.le_trans (iV _ _ _) (pY _ _ _ _).1
      · exact Nat.le_succ _
theorem vN (S : Sr) (L : Smp) (ret p : Int) : (ep S L ret p).1.2.length ≤ L.length := by
  unfold ep
  split
  · exact iV _ _ _
  · exact Nat.le_refl _
def tj (args : List AV) (H : AH) (n : Nat) (κ : PK) : Prop := match args with
  | [x, y, z] => ∃ (r k q : Nat) (S : Sr) (C : Ck5) (t v p : Int) (L : Smp) (S' : Sr) (L' : Smp) (e : Int), x = .ptr r 0 ∧ kl y t v ∧ mk z = .si .i64 p ∧ cO H n r k q S (pts C) C ∧ fF S C ∧ ba v ∧ ab C = L ∧ L.length ≤ 40000 ∧ eG S L t v p = ((S', L'), e) ∧ ∀ C', fF S' C' → ab C' = L' → κ (.si .i64 e) (dD H n r k q S' (pts C') C') (n + 1)
  | _ => False
theorem Dg : aH 16 tj := fun args H n κ hs => GS args H n κ (by
  unfold tj at hs
  unfold s9
  split at hs
  · obtain ⟨r, k, q, S, C, t, v, p, L, S', L', e, h1, h2, h3, h4, h5, h6, h7, h8, h9, h10⟩ := hs
    subst h7
    refine ⟨r, k, q, S, C, t, v, p, h1, h2, h3, h4, h5, h6, h8, fun C' f1 f2 f3 f4 => ?_⟩
    have hl := vM S (ab C) t v p
    rw [h9] at f1 f2 f3 f4 hl
    have := h10 C' ⟨f2, f3, f4, by rw [f1]; dsimp only at hl ⊢; omega⟩ f1
    rw [h9]; exact this
  · exact hs.elim)
def tk (args : List AV) (H : AH) (n : Nat) (κ : PK) : Prop := match args with
  | [x, y, z] => ∃ (r k q : Nat) (S : Sr) (C : Ck5) (a b : Int) (L L' : Smp) (m : Nat), x = .ptr r 0 ∧ mk y = .si .i64 a ∧ mk z = .si .i64 b ∧ cO H n r k q S (pts C) C ∧ fF S C ∧ ab C = L ∧ L.length ≤ 40000 ∧ aN L a b = L' ∧ L.length - L'.length = m ∧ ∀ C', fF S C' → ab C' = L' → κ (.si .i64 (m : Int)) (dD H n r k q S (pts C') C') (n + 1)
  | _ => False
theorem Dh : aH 22 tk := fun args H n κ hs => CO args H n κ (by
  unfold tk at hs
  unfold oh
  split at hs
  · obtain ⟨r, k, q, S, C, a, b, L, L', m, h1, h2, h3, h4, h5, h6, h7, h8, h9, h10⟩ := hs
    subst h6 h8 h9
    have e1 := s6 C
    have e2 := h5.gt.few
    have e3 := iV (ab C) a b
    exact ⟨r, k, q, S, C, a, b, h1, h2, h3, h4, h5.gt.gd.pf, by omega, by omega, fun C' f1 f2 f3 => h10 C' ⟨f2, f3, h5.num, by rw [f1]; omega⟩ f1⟩
  · exact hs.elim)
def tl (args : List AV) (H : AH) (n : Nat) (κ : PK) : Prop := match args with
  | [x, y, z] => ∃ (r k q : Nat) (S : Sr) (C : Ck5) (ret p : Int) (L : Smp) (S' : Sr) (L' : Smp) (e : Int), x = .ptr r 0 ∧ mk y = .si .i64 ret ∧ mk z = .si .i64 p ∧ cO H n r k q S (pts C) C ∧ fF S C ∧ ab C = L ∧ L.length ≤ 40000 ∧ ep S L ret p = ((S', L'), e) ∧ ∀ C', fF S' C' → ab C' = L' → κ (.si .i64 e) (dD H n r k q S' (pts C') C') (n + 1)
  | _ => False
theorem Di : aH 28 tl := fun args H n κ hs => GV args H n κ (by
  unfold tl at hs
  unfold tc
  split at hs
  · obtain ⟨r, k, q, S, C, ret, p, L, S', L', e, h1, h2, h3, h4, h5, h7, h8, h9, h10⟩ := hs
    subst h7
    refine ⟨r, k, q, S, C, ret, p, h1, h2, h3, h4, h5, h8, fun C' f1 f2 f3 f4 => ?_⟩
    have hl := vN S (ab C) ret p
    rw [h9] at f1 f2 f3 f4 hl
    have := h10 C' ⟨f2, f3, f4, by rw [f1]; dsimp only at hl ⊢; omega⟩ f1
    rw [h9]; exact this
  · exact hs.elim)
theorem Dj {S : Sr} (h1 : 128 ≤ S.sz) (h2 : S.sz ≤ 4096) (hn : jC S) : fF S [] := ⟨⟨⟨h1, h2, List.Pairwise.nil, (fun c hc => by cases hc), (fun c hc => by cases hc)⟩, (fun c hc => by cases hc)⟩, (fun j h => by simp at h), hn, Nat.zero_le _⟩
theorem tm {sz ret p : Int} {S : Sr} (h : jM sz ret p = some S) : fF S [] ∧ S = ⟨sz.toNat, ret, p, -1, 0⟩ := by
  unfold jM at h
  split at h
  · rename_i k
    injection h with h
    subst h
    exact ⟨Dj (by show 128 ≤ sz.toNat; omega) (by show sz.toNat ≤ 4096; omega) ⟨k.2.1, k.2.2, ⟨(show (-1 : Int) ≤ -1 by decide), (show (-1 : Int) < 1099511627776 by decide)⟩, ⟨(show (0 : Int) ≤ 0 by decide), (show (0 : Int) ≤ 1099511627776 by decide)⟩⟩, rfl⟩
  · cases h
theorem fF.okc {S : Sr} {C : Ck5} (h : fF S C) : Okc S C := h.gt.toPre5.okc (by have := h.gt.few; have := h.few; omega)
def tn (args : List AV) (H : AH) (n : Nat) (κ : PK) : Prop := match args with
  | [x, y, z] => ∃ (sz ret p : Int) (r : Option Sr), mk x = .si .i64 sz ∧ mk y = .si .i64 ret ∧ mk z = .si .i64 p ∧ n < 900000 ∧ jM sz ret p = r ∧ match r with
    | none => κ (.tup [.nil, .int .i64 1]) H n
    | some S => fF S [] → κ (.tup [.ptr n 0, .int .i64 0]) (qa H n S) (n + 3)
  | _ => False
theorem Dk : aH 15 tn := fun args H n κ hs => GW args H n κ (by
  unfold tn at hs
  unfold td
  split at hs
  · obtain ⟨sz, ret, p, r, h1, h2, h3, h4, h5, h6⟩ := hs
    refine ⟨sz, ret, p, h1, h2, h3, h4, fun q => ?_, fun S q => ?_⟩
    · rw [h5] at q; subst q; exact h6
    · have := (tm q).1
      rw [h5] at q; subst q; exact h6 this
  · exact hs.elim)
end Go.Proofs.Ytapjijhjnloimaa
namespace Go.Proofs.Ytapjijhjnloimaa
open Go Go.RowKit
def HP.emp : HP where
  P _ X _ := ∀ B, ¬ X B
  loc _ _ _ _ _ _ h := h
  mono _ _ _ _ _ h := h
  ex _ _ _ B h hB := absurd hB (h B)
def HP.exi {α : Type} (c : α → Prop) (Q : α → HP) : HP where
  P z X h := ∃ a, c a ∧ (Q a).P z X h
  loc z X h g hn e := fun ⟨a, h1, h2⟩ => ⟨a, h1, (Q a).loc z X h g hn e h2⟩
  mono z z' X h hz := fun ⟨a, h1, h2⟩ => ⟨a, h1, (Q a).mono z z' X h hz h2⟩
  ex z X h B := fun ⟨a, _, h2⟩ hB => (Q a).ex z X h B h2 hB
structure Loc (χ : Ph) (O : List AO) (X : Nat → Prop) (h : Hp) : Prop where
  dom : ∀ i q, χ i = some q → i < O.length ∧ X q.B
  live : ∀ i o, O[i]? = some o → o.own = true ∧ ((χ i = none ∧ o.free = true) ∨ ∃ q ob, χ i = some q ∧ h.f q.B = some ob ∧ OR χ q o ob)
  inj : ∀ i j q q', χ i = some q → χ j = some q' → q.B = q'.B → i = j
  ex : ∀ B, X B → ∃ o, h.f B = some o
  sep : ∀ i Q, O[i]? = some (.sep Q) → Q.P χ.z (χ.s i) h ∧ ∀ B, χ.s i B → X B ∧ (∀ j q, χ j = some q → q.B ≠ B) ∧ ∀ j Q', O[j]? = some (.sep Q') → j ≠ i → ¬ χ.s j B
theorem Loc.to {χ : Ph} {O : List AO} {X : Nat → Prop} {h g : Hp} (l : Loc χ O X h) (hn : h.n ≤ g.n) (e : ∀ B, X B → g.f B = h.f B) : Loc χ O X g :=
  ⟨l.dom, fun i o hi => ⟨(l.live i o hi).1, (l.live i o hi).2.imp id fun ⟨q, ob, h1, h2, h3⟩ => ⟨q, ob, h1, (e _ (l.dom i q h1).2).trans h2, h3⟩⟩, l.inj, fun B hB => by rw [e B hB]; exact l.ex B hB,
    fun i Q hi => ⟨Q.loc _ _ _ _ hn (fun B hB => e B ((l.sep i Q hi).2 B hB).1) (l.sep i Q hi).1, (l.sep i Q hi).2⟩⟩
def rp (O : List AO) (p : Nat × Nat) : HP where
  P z X h := ∃ χ : Ph, (∀ q, χ.z q → z q) ∧ (∃ T, χ 0 = some ⟨p.1, p.2, T⟩) ∧ Loc χ O X h
  loc _ _ _ _ hn e := fun ⟨χ, h1, h2, h3⟩ => ⟨χ, h1, h2, h3.to hn e⟩
  mono _ _ _ _ hz := fun ⟨χ, h1, h2, h3⟩ => ⟨χ, fun q hq => hz q (h1 q hq), h2, h3⟩
  ex _ _ _ B := fun ⟨_, _, _, h3⟩ hB => h3.ex B hB
section
variable {φ : Ph} {H H' : AH} {n : Nat} {h0 h : Hp} {b : Nat} {O : List AO} {p : Nat × Nat} {Q : HP} {S : List Nat}
theorem HR.Dl (hr : HR φ H n h0 h) (hbn : b < n) (hb : H.get b = some (.sep Q)) (hP : (rp O p).P φ.z (φ.s b) h)
    (hH : ∀ x o, H'.get x = some o → (∃ i o', x = n + i ∧ O[i]? = some o' ∧ o = cx (fun c => n + c) o') ∨ (x = b ∧ o = .sep .emp) ∨ (x ≠ b ∧ (x < n ∨ n + O.length ≤ x) ∧ H.get x = some o)) :
    ∃ ψ T, PLe φ ψ ∧ ψ n = some ⟨p.1, p.2, T⟩ ∧ HR ψ H' (n + O.length) h0 h := by
  obtain ⟨χ, hz, ⟨T, h00⟩, l⟩ := hP
  have hS := (hr.sep b Q hb).2
  have hbo := hr.m9 hb
  have φn : ∀ x, n ≤ x → φ x = none := fun x hx => by
    cases e : φ x with
    | none => rfl
    | some q => have := (hr.dom x q e).1; omega
  have χn : ∀ i, O.length ≤ i → χ i = none := fun i hi => by
    cases e : χ i with
    | none => rfl
    | some q => have := (l.dom i q e).1; omega
  let ψ : Ph := ⟨fun x => if n ≤ x then χ (x - n) else φ x, φ.z, φ.y, fun x => if n ≤ x ∧ x < n + O.length then χ.s (x - n) else if x = b then (fun _ => False) else φ.s x⟩
  have ψn : ∀ i, ψ (n + i) = χ i := fun i => by
    show (if n ≤ n + i then χ (n + i - n) else _) = _
    rw [if_pos (Nat.le_add_right n i), Nat.add_sub_cancel_left]
  have ψo : ∀ x, (x < n ∨ n + O.length ≤ x) → ψ x = φ x := fun x hx => by
    show (if n ≤ x then χ (x - n) else φ x) = φ x
    split
    · rw [φn x (by omega), χn _ (by omega)]
    · rfl
  have sn : ∀ {i : Nat} {o : AO}, O[i]? = some o → ψ.s (n + i) = χ.s i := fun {i o} hi => by
    have := (List.getElem?_eq_some_iff.1 hi).1
    show (if n ≤ n + i ∧ n + i < n + O.length then χ.s (n + i - n) else _) = _
    rw [if_pos ⟨Nat.le_add_right n i, by omega⟩, Nat.add_sub_cancel_left]
  have sb : ψ.s b = fun _ => False := by
    show (if n ≤ b ∧ b < n + O.length then _ else if b = b then _ else _) = _
    rw [if_neg (by omega), if_pos rfl]
  have so : ∀ x, (x < n ∨ n + O.length ≤ x) → x ≠ b → ψ.s x = φ.s x := fun x hx hxb => by
    show (if n ≤ x ∧ x < n + O.length then _ else if x = b then _ else _) = _
    rw [if_neg (by omega), if_neg hxb]
  have hle : PLe φ ψ := ⟨fun x q e => by rw [ψo x (.inl (hr.dom x q e).1)]; exact e, fun _ h => h, fun _ h => h⟩
  have sle : SLe χ (ψ.pull (fun c => n + c)) := ⟨fun i q e => by show ψ (n + i) = _; rw [ψn]; exact e, hz⟩
  have cs : ∀ x o q, H'.get x = some o → o.own = true → ψ x = some q → (∃ i, x = n + i ∧ χ i = some q ∧ φ.s b q.B) ∨ ((x < n ∨ n + O.length ≤ x) ∧ x ≠ b ∧ H.get x = some o ∧ φ x = some q) := fun x o q hx ho hq => by
    rcases hH x o hx with ⟨i, o', rfl, h1, rfl⟩ | ⟨rfl, rfl⟩ | ⟨h1, h2, h3⟩
    · rw [ψn] at hq; exact .inl ⟨i, rfl, hq, (l.dom i q hq).2⟩
    · rw [ψo _ (.inl hbn), hbo] at hq; cases hq
    · rw [ψo _ h2] at hq; exact .inr ⟨h2, h1, h3, hq⟩
  refine ⟨ψ, T, hle, by have := ψn 0; rw [Nat.add_zero] at this; rw [this]; exact h00, ⟨fun x q e => ?_, fun x o e => ?_, fun x y o o' q q' hx hy ho ho' hq hq' e => ?_, hr.base, hr.size, fun q hq => ?_, fun x Q' hx => ?_⟩⟩
  · by_cases hxn : n ≤ x
    · obtain ⟨i, rfl⟩ : ∃ i, x = n + i := ⟨x - n, by omega⟩
      rw [ψn] at e
      have := l.dom i q e
      exact ⟨by omega, (hS q.B this.2).1.1⟩
    · rw [ψo x (.inl (by omega))] at e
      have := hr.dom x q e
      exact ⟨by omega, this.2⟩
  · rcases hH x o e with ⟨i, o', rfl, h1, rfl⟩ | ⟨rfl, rfl⟩ | ⟨h1, h2, h3⟩
    · obtain ⟨g1, ⟨g2, g3⟩ | ⟨q, ob, g2, g3, g4⟩⟩ := l.live i o' h1
      · exact .inl ⟨by rw [ψn]; exact g2, by rw [gK]; exact g3⟩
      · refine .inr ⟨q, ob, by rw [ψn]; exact g2, ?_, g3, (OR.pull (χ := ψ)).2 (g4.cu sle)⟩
        rw [jx, AO.bd g1]
        exact (hS q.B (l.dom i q g2).2).1.2
    · exact .inl ⟨by rw [ψo _ (.inl hbn)]; exact hbo, rfl⟩
    · rcases hr.live x o h3 with ⟨g1, g2⟩ | ⟨q, ob, g1, g2, g3, g4⟩
      · exact .inl ⟨by rw [ψo _ h2]; exact g1, g2⟩
      · exact .inr ⟨q, ob, by rw [ψo _ h2]; exact g1, g2, g3, g4.mono hle⟩
  · rcases cs x o q hx ho hq with ⟨i, rfl, a1, a2⟩ | ⟨a1, a2, a3, a4⟩ <;> rcases cs y o' q' hy ho' hq' with ⟨j, rfl, b1, b2⟩ | ⟨b1, b2, b3, b4⟩
    · rw [l.inj i j q q' a1 b1 e]
    · exact absurd e.symm ((hS _ a2).2.1 y o' q' b3 ho' b4)
    · exact absurd e ((hS _ b2).2.1 x o q a3 ho a4)
    · exact hr.inj x y o o' q q' a3 b3 ho ho' a4 b4 e
  · refine ⟨⟨FzR.mono (φ := φ) (ψ := ψ) hle.z (hr.frz q hq).1.1, (hr.frz q hq).1.2⟩, fun x o px hx ho hpx => ?_⟩
    rcases cs x o px hx ho hpx with ⟨i, rfl, a1, a2⟩ | ⟨a1, a2, a3, a4⟩
    · exact fun e => (hS _ a2).2.2.1 q hq e.symm
    · exact (hr.frz q hq).2 x o px a3 ho a4
  · rcases hH x _ hx with ⟨i, o', rfl, h1, h2⟩ | ⟨rfl, h2⟩ | ⟨h1, h2, h3⟩
    · have h2 := iP h2.symm
      subst h2
      obtain ⟨g1, g2⟩ := l.sep i Q' h1
      rw [sn h1]
      refine ⟨Q'.mono _ _ _ _ hz g1, fun B hB => ?_⟩
      obtain ⟨k1, k2, k3⟩ := g2 B hB
      obtain ⟨f1, f2, f3, f4⟩ := hS B k1
      refine ⟨f1, fun y o q hy ho hq => ?_, f3, fun y Q2 hy hne hs => ?_⟩
      · rcases cs y o q hy ho hq with ⟨j, rfl, a1, a2⟩ | ⟨a1, a2, a3, a4⟩
        · exact k2 j q a1
        · exact f2 y o q a3 ho a4
      · rcases hH y _ hy with ⟨j, o', rfl, j1, j2⟩ | ⟨rfl, j2⟩ | ⟨j1, j2, j3⟩
        · have j2 := iP j2.symm
          subst j2
          rw [sn j1] at hs
          exact k3 j Q2 j1 (fun q => hne (by rw [q])) hs
        · rw [sb] at hs; exact hs
        · rw [so y j2 j1] at hs
          exact f4 y Q2 j3 j1 hs
    · injection h2 with h2; subst h2
      rw [sb]
      exact ⟨fun _ h => h, fun _ h => h.elim⟩
    · obtain ⟨g1, g2⟩ := hr.sep x Q' h3
      rw [so x h2 h1]
      refine ⟨g1, fun B hB => ?_⟩
      obtain ⟨f1, f2, f3, f4⟩ := g2 B hB
      refine ⟨f1, fun y o q hy ho hq => ?_, f3, fun y Q2 hy hne hs => ?_⟩
      · rcases cs y o q hy ho hq with ⟨j, rfl, a1, a2⟩ | ⟨a1, a2, a3, a4⟩
        · exact fun e => f4 b Q hb (fun q => h1 q.symm) (by rw [← e]; exact a2)
        · exact f2 y o q a3 ho a4
      · rcases hH y _ hy with ⟨j, o', rfl, j1, j2⟩ | ⟨rfl, j2⟩ | ⟨j1, j2, j3⟩
        · have j2 := iP j2.symm
          subst j2
          rw [sn j1] at hs
          exact f4 b Q hb (fun q => h1 q.symm) ((l.sep j Q2 j1).2 B hs).1
        · rw [sb] at hs; exact hs
        · rw [so y j2 j1] at hs
          exact f4 y Q2 j3 hne hs
def yM (H : AH) (S : List Nat) (O : List AO) : Prop := S.Nodup ∧ S.length = O.length ∧ ∀ (i s : Nat) (o : AO), S[i]? = some s → O[i]? = some o → H.get s = some (cx (bg S 0) o) ∧ o.own = true ∧ ltO O.length o = true
theorem HR.EZ (hr : HR φ H n h0 h) (hs : yM H S O) (hb : H.get b = some (.sep .emp)) (hbS : b ∉ S) {s0 T : Nat} (hs0 : S[0]? = some s0) (hp : φ s0 = some ⟨p.1, p.2, T⟩)
    (hH : ∀ x o, H'.get x = some o → (x = b ∧ o = .sep Q) ∨ (x ≠ b ∧ x ∉ S ∧ H.get x = some o)) (hQ : ∀ z X h, (rp O p).P z X h → Q.P z X h) :
    ∃ ψ, SLe φ ψ ∧ PLe φ ψ ∧ ψ.f = φ.f ∧ HR ψ H' n h0 h := by
  have hbo := hr.m9 hb
  have ofS : ∀ {i s}, S[i]? = some s → ∃ o, O[i]? = some o ∧ H.get s = some (cx (bg S 0) o) ∧ o.own = true ∧ ltO O.length o = true := fun {i s} e => by
    have hlt : i < O.length := by rw [← hs.2.1]; exact (List.getElem?_eq_some_iff.1 e).1
    exact ⟨O[i], List.getElem?_eq_getElem hlt, hs.2.2 i s O[i] e (List.getElem?_eq_getElem hlt)⟩
  have ofO : ∀ {i o}, O[i]? = some o → ∃ s, S[i]? = some s := fun {i o} e => by
    have := (List.getElem?_eq_some_iff.1 e).1
    rw [← hs.2.1] at this
    exact ⟨S[i], List.getElem?_eq_getElem this⟩
  let X : Nat → Prop := fun B => (∃ (i s : Nat) (q : Pl), S[i]? = some s ∧ φ s = some q ∧ q.B = B) ∨ ∃ (i s : Nat) (Q' : HP), S[i]? = some s ∧ O[i]? = some (AO.sep Q') ∧ φ.s s B
  let χ : Ph := ⟨fun i => match S[i]? with | some s => φ s | none => none, φ.z, φ.y, fun i => match S[i]? with | some s => φ.s s | none => fun _ => False⟩
  have χf : ∀ {i s}, S[i]? = some s → χ i = φ s := fun {i s} e => by
    show (match S[i]? with | some s => φ s | none => none) = _
    rw [e]
  have χs : ∀ {i s}, S[i]? = some s → χ.s i = φ.s s := fun {i s} e => by
    show (match S[i]? with | some s => φ.s s | none => fun _ => False) = _
    rw [e]
  have χi : ∀ {i q}, χ i = some q → ∃ s, S[i]? = some s ∧ φ s = some q := fun {i q} e => by
    have e : (match S[i]? with | some s => φ s | none => none) = some q := e
    cases hi : S[i]? with
    | none => rw [hi] at e; cases e
    | some s => rw [hi] at e; exact ⟨s, rfl, e⟩
  have own : ∀ {i s q}, S[i]? = some s → φ s = some q → ∃ o, O[i]? = some o ∧ H.get s = some (cx (bg S 0) o) ∧ (cx (bg S 0) o).own = true := fun {i s q} e1 _ => by
    obtain ⟨o, h1, h2, h3, _⟩ := ofS e1
    exact ⟨o, h1, h2, by rw [eT]; exact h3⟩
  have hl : Loc χ O X h := by
    refine ⟨fun i q e => ?_, fun i o e => ?_, fun i j q q' e e' hB => ?_, fun B hB => ?_, fun i Q' e => ?_⟩
    · obtain ⟨s, h1, h2⟩ := χi e
      exact ⟨by rw [← hs.2.1]; exact (List.getElem?_eq_some_iff.1 h1).1, .inl ⟨i, s, q, h1, h2, rfl⟩⟩
    · obtain ⟨s, h1⟩ := ofO e
      obtain ⟨h2, h3, h4⟩ := hs.2.2 i s o h1 e
      refine ⟨h3, ?_⟩
      rcases hr.live s _ h2 with ⟨g1, g2⟩ | ⟨q, ob, g1, g2, g3, g4⟩
      · exact .inl ⟨by rw [χf h1]; exact g1, by rw [gK] at g2; exact g2⟩
      · refine .inr ⟨q, ob, by rw [χf h1]; exact g1, g3, ?_⟩
        have g5 := (OR.pull (χ := φ) (r := bg S 0)).1 g4
        refine OR.below (m := O.length) (χ := χ) (ψ := φ.pull (bg S 0)) (fun b' p' hb' e' => ?_) (fun _ h => h) h4 g5
        have e' : φ (bg S 0 b') = some p' := e'
        have hlt : b' < S.length := by rw [hs.2.1]; exact hb'
        have hg : S[b']? = some S[b'] := List.getElem?_eq_getElem hlt
        rw [bW hg] at e'
        rw [χf hg]; exact e'
    · obtain ⟨s, h1, h2⟩ := χi e
      obtain ⟨s', h1', h2'⟩ := χi e'
      obtain ⟨o, _, g2, g3⟩ := own h1 h2
      obtain ⟨o', _, g2', g3'⟩ := own h1' h2'
      have := hr.inj s s' _ _ q q' g2 g2' g3 g3' h2 h2' hB
      subst this
      exact iQ hs.1 h1 h1'
    · rcases hB with ⟨i, s, q, h1, h2, rfl⟩ | ⟨i, s, Q', h1, h2, h3⟩
      · obtain ⟨o, _, g2, _⟩ := own h1 h2
        obtain ⟨ob, _, g3, _⟩ := hr.of g2 h2
        exact ⟨ob, g3⟩
      · exact Q'.ex _ _ _ B (hr.sep s Q' (hs.2.2 i s _ h1 h2).1).1 h3
    · obtain ⟨s, h1⟩ := ofO e
      obtain ⟨k1, k2⟩ := hr.sep s Q' (hs.2.2 i s _ h1 e).1
      rw [χs h1]
      refine ⟨k1, fun B hB => ?_⟩
      obtain ⟨g1, g2, g3, g4⟩ := k2 B hB
      refine ⟨.inr ⟨i, s, Q', h1, e, hB⟩, fun j q hj => ?_, fun j Q2 hj hne hsj => ?_⟩
      · obtain ⟨s', f1, f2⟩ := χi hj
        obtain ⟨o, _, f3, f4⟩ := own f1 f2
        exact g2 s' _ q f3 f4 f2
      · obtain ⟨s', f1⟩ := ofO hj
        rw [χs f1] at hsj
        exact g4 s' Q2 (hs.2.2 j s' _ f1 hj).1 (fun q => hne (by subst q; exact iQ hs.1 f1 h1)) hsj
  let ψ : Ph := ⟨φ.f, φ.z, φ.y, fun x => if x = b then X else φ.s x⟩
  have sle : SLe φ ψ := ⟨fun _ _ h => h, fun _ h => h⟩
  have old : ∀ x o q, H'.get x = some o → o.own = true → φ x = some q → x ≠ b ∧ x ∉ S ∧ H.get x = some o := fun x o q hx ho hq => by
    rcases hH x o hx with ⟨rfl, _⟩ | h
    · rw [hbo] at hq; cases hq
    · exact h
  refine ⟨ψ, sle, ⟨fun _ _ h => h, fun _ h => h, fun _ h => h⟩, rfl, ⟨hr.dom, fun x o hx => ?_, fun x y o o' q q' hx hy ho ho' hq hq' e => hr.inj x y o o' q q' (old x o q hx ho hq).2.2 (old y o' q' hy ho' hq').2.2 ho ho' hq hq' e, hr.base, hr.size, fun q hq => ⟨⟨FzR.mono (φ := φ) (ψ := ψ) sle.z (hr.frz q hq).1.1, (hr.frz q hq).1.2⟩, fun x o px hx ho hpx => (hr.frz q hq).2 x o px (old x o px hx ho hpx).2.2 ho hpx⟩, fun x Q' hx => ?_⟩⟩
  · rcases hH x o hx with ⟨rfl, rfl⟩ | ⟨_, _, h3⟩
    · exact .inl ⟨hbo, rfl⟩
    · rcases hr.live x o h3 with g | ⟨q, ob, g1, g2, g3, g4⟩
      · exact .inl g
      · exact .inr ⟨q, ob, g1, g2, g3, g4.cu sle⟩
  · rcases hH x _ hx with ⟨rfl, h2⟩ | ⟨h1, h2, h3⟩
    · injection h2 with h2; subst h2
      have es : ψ.s x = X := if_pos rfl
      rw [es]
      refine ⟨hQ _ _ _ ⟨χ, fun _ h => h, ⟨T, by rw [χf hs0]; exact hp⟩, hl⟩, fun B hB => ?_⟩
      rcases hB with ⟨i, s, q, h1, h2, rfl⟩ | ⟨i, s, Q2, h1, h2, h3⟩
      · obtain ⟨o, _, g2, g3⟩ := own h1 h2
        obtain ⟨ob, g4, _⟩ := hr.of g2 h2
        rw [AO.bd g3] at g4
        refine ⟨⟨(hr.dom s q h2).2, g4⟩, fun y o' q' hy ho' hq' e => ?_, fun q2 hq2 e => (hr.frz q2 hq2).2 s _ q g2 g3 h2 e.symm, fun y Q2 hy hne hsy => ?_⟩
        · obtain ⟨_, a2, a3⟩ := old y o' q' hy ho' hq'
          have := hr.inj y s o' _ q' q a3 g2 ho' g3 hq' h2 e
          subst this
          exact a2 (List.mem_of_getElem? h1)
        · rcases hH y _ hy with ⟨q1, _⟩ | ⟨q1, _, q3⟩
          · exact hne q1
          · have : ψ.s y = φ.s y := if_neg q1
            rw [this] at hsy
            exact ((hr.sep y Q2 q3).2 _ hsy).2.1 s _ q g2 g3 h2 rfl
      · obtain ⟨f1, f2, f3, f4⟩ := (hr.sep s Q2 (hs.2.2 i s _ h1 h2).1).2 B h3
        refine ⟨f1, fun y o' q' hy ho' hq' => f2 y o' q' (old y o' q' hy ho' hq').2.2 ho' hq', f3, fun y Q3 hy hne hsy => ?_⟩
        rcases hH y _ hy with ⟨q1, _⟩ | ⟨q1, q2, q3⟩
        · exact hne q1
        · have : ψ.s y = φ.s y := if_neg q1
          rw [this] at hsy
          exact f4 y Q3 q3 (fun e => q2 (e ▸ List.mem_of_getElem? h1)) hsy
    · obtain ⟨k1, k2⟩ := hr.sep x Q' h3
      have es : ψ.s x = φ.s x := if_neg h1
      rw [es]
      refine ⟨k1, fun B hB => ?_⟩
      obtain ⟨f1, f2, f3, f4⟩ := k2 B hB
      refine ⟨f1, fun y o' q' hy ho' hq' => f2 y o' q' (old y o' q' hy ho' hq').2.2 ho' hq', f3, fun y Q3 hy hne hsy => ?_⟩
      rcases hH y _ hy with ⟨rfl, _⟩ | ⟨q1, q2, q3⟩
      · have : ψ.s y = X := if_pos rfl
        rw [this] at hsy
        rcases hsy with ⟨i, s, q, g1, g2, g3⟩ | ⟨i, s, Q2, g1, g2, g3⟩
        · obtain ⟨o, _, j2, j3⟩ := own g1 g2
          exact f2 s _ q j2 j3 g2 g3
        · exact f4 s Q2 (hs.2.2 i s _ g1 g2).1 (fun e => h2 (e ▸ List.mem_of_getElem? g1)) g3
      · have : ψ.s y = φ.s y := if_neg q1
        rw [this] at hsy
        exact f4 y Q3 q3 hne hsy
theorem HR.hole (hr : HR φ H n h0 h) : ∃ ψ, PLe φ ψ ∧ HR ψ (H.set (some (.sep .emp)) aa n) (n + 1) h0 h := by
  have cs : ∀ x o, (H.set (some (.sep .emp)) aa n).get x = some o → (x = n ∧ o = .sep .emp) ∨ (x ≠ n ∧ H.get x = some o) := fun x o hx => by
    rcases PM.an aa H n x o hx with ⟨h1, h2⟩ | h2
    · injection h2 with h2; exact .inl ⟨h1, h2.symm⟩
    · exact .inr h2
  have hno : φ n = none := by
    cases e : φ n with
    | none => rfl
    | some q => exact absurd (hr.dom n q e).1 (Nat.lt_irrefl _)
  let ψ : Ph := ⟨φ.f, φ.z, φ.y, fun x => if x = n then (fun _ => False) else φ.s x⟩
  have own : ∀ x o q, (H.set (some (.sep .emp)) aa n).get x = some o → φ x = some q → H.get x = some o := fun x o q hx hq => by
    rcases cs x o hx with ⟨rfl, _⟩ | ⟨_, h3⟩
    · rw [hno] at hq; cases hq
    · exact h3
  have sle : SLe φ ψ := ⟨fun _ _ h => h, fun _ h => h⟩
  refine ⟨ψ, ⟨fun _ _ h => h, fun _ h => h, fun _ h => h⟩, ⟨fun x q hx => ⟨by have := (hr.dom x q hx).1; omega, (hr.dom x q hx).2⟩, fun x o hx => ?_, fun x y o o' q q' hx hy ho ho' hq hq' e => hr.inj x y o o' q q' (own x o q hx hq) (own y o' q' hy hq') ho ho' hq hq' e, hr.base, hr.size, fun q hq => ⟨⟨FzR.mono (φ := φ) (ψ := ψ) sle.z (hr.frz q hq).1.1, (hr.frz q hq).1.2⟩, fun x o px hx ho hpx => (hr.frz q hq).2 x o px (own x o px hx hpx) ho hpx⟩, fun x Q2 hx => ?_⟩⟩
  · rcases cs x o hx with ⟨rfl, rfl⟩ | ⟨_, h4⟩
    · exact .inl ⟨hno, rfl⟩
    · rcases hr.live x o h4 with g | ⟨q, ob, g1, g2, g3, g4⟩
      · exact .inl g
      · exact .inr ⟨q, ob, g1, g2, g3, g4.cu sle⟩
  · rcases cs x _ hx with ⟨rfl, h2⟩ | ⟨h1, h4⟩
    · injection h2 with h2; subst h2
      have es : ψ.s x = fun _ => False := if_pos rfl
      rw [es]
      exact ⟨fun _ h => h, fun X hX => hX.elim⟩
    · obtain ⟨g0, g⟩ := hr.sep x Q2 h4
      have es : ψ.s x = φ.s x := if_neg h1
      rw [es]
      refine ⟨g0, fun X hX => ?_⟩
      obtain ⟨g1, g2, g3, g4⟩ := g X hX
      refine ⟨g1, fun y o q hy ho hq => g2 y o q (own y o q hy hq) ho hq, g3, fun y Q4 hy hne hs => ?_⟩
      rcases cs y _ hy with ⟨rfl, _⟩ | ⟨q1, q4⟩
      · have : ψ.s y = fun _ => False := if_pos rfl
        rw [this] at hs; exact hs
      · have : ψ.s y = φ.s y := if_neg q1
        rw [this] at hs
        exact g4 y Q4 q4 hne hs
end
noncomputable def xr : List AO → Nat → AH → AH
  | [], _, H => H
  | o :: O, k, H => xr O (k + 1) (H.set (some o) aa k)
theorem qg : ∀ {O : List AO} {k : Nat} {H : AH} {x : Nat} {o : AO}, (xr O k H).get x = some o → (∃ i, x = k + i ∧ O[i]? = some o) ∨ ((x < k ∨ k + O.length ≤ x) ∧ H.get x = some o)
  | [], k, H, x, o, h => .inr ⟨by simp only [List.length_nil]; omega, h⟩
  | a :: O, k, H, x, o, h => by
    rcases qg (O := O) h with ⟨i, rfl, h1⟩ | ⟨h1, h2⟩
    · exact .inl ⟨i + 1, by omega, h1⟩
    · rcases PM.an aa H k x o h2 with ⟨rfl, h3⟩ | ⟨h3, h4⟩
      · injection h3 with h3; subst h3; exact .inl ⟨0, rfl, rfl⟩
      · exact .inr ⟨by simp only [List.length_cons]; omega, h4⟩
def Ij (b n : Nat) (p : Nat × Nat) (κ : PK) : PK := fun v H2 n2 => ∃ (S : List Nat) (O2 : List AO) (Q2 : HP) (H3 : AH), yM H2 S O2 ∧ H2.get b = some (.sep .emp) ∧ b ∉ S ∧ S[0]? = some n ∧ (∀ z X h, (rp O2 p).P z X h → Q2.P z X h) ∧ (∀ x o, H3.get x = some o → (x = b ∧ o = .sep Q2) ∨ (x ≠ b ∧ x ∉ S ∧ H2.get x = some o)) ∧ κ v H3 n2
section
variable {φ : Ph} {H : AH} {n : Nat} {h0 hp : Hp} {vs : Array Value} {κ : PK} {K : KH} {b : Nat} {O : List AO} {p : Nat × Nat} {Q : HP} {rest : List AV}
theorem aH.Dm {f : FuncId} {run : List AV → AH → Nat → PK → Prop} (hrun : aH f run) (hr : HR φ H n h0 hp) (hbn : b < n) (hb : H.get b = some (.sep Q)) (hP : (rp O p).P φ.z (φ.s b) hp) (hargs : VRs φ (ck p :: rest) vs.toList) (hk : bY φ h0 κ K)
    (hs : run (.ptr n 0 :: rest) (xr (O.map (cx fun c => n + c)) n (H.set (some (.sep .emp)) aa b)) (n + O.length) (Ij b n p κ)) : cJ Try.prog f vs hp K := by
  obtain ⟨ψ, T, hle, hψ, hr2⟩ := hr.Dl (H' := xr (O.map (cx fun c => n + c)) n (H.set (some (.sep .emp)) aa b)) hbn hb hP fun x o hx => by
    rcases qg hx with ⟨i, h1, h2⟩ | ⟨h1, h2⟩
    · rw [List.getElem?_map, Option.map_eq_some_iff] at h2
      obtain ⟨o', h2, h3⟩ := h2
      exact .inl ⟨i, o', h1, h2, h3.symm⟩
    · rcases PM.an aa H b x o h2 with ⟨h3, h4⟩ | ⟨h3, h4⟩
      · injection h4 with h4; exact .inr (.inl ⟨h3, h4.symm⟩)
      · exact .inr (.inr ⟨h3, by rw [List.length_map] at h1; exact h1, h4⟩)
  obtain ⟨w1, us1, q1, e1, r1⟩ := hargs.cons_inv
  have e1 : w1 = m8 p := e1
  subst e1
  refine hrun _ _ _ _ hs ψ h0 hp vs K hr2 (by rw [q1]; exact .cons (VR.lL hψ) (VRs.mono hle _ _ r1)) fun χ v H2 n2 u g hle2 hg hu ⟨S, O2, Q2, H3, g1, g2, g3, g4, g5, g6, g7⟩ => ?_
  obtain ⟨ω, _, hle3, _, hr3⟩ := hg.EZ g1 g2 g3 g4 (hle2.b _ _ hψ) g6 g5
  exact hk ω v _ n2 u g ((hle.trans hle2).trans hle3) hr3 (VR.mono hle3 _ _ hu) g7
def Ik (b : Nat) (κ : PK) : PK := fun v H2 n2 => ∃ (S : List Nat) (O2 : List AO) (Q2 : Nat × Nat → HP) (H3 : Nat × Nat → AH) (v2 : Nat × Nat → AV) (s0 : Nat) (o0 : AO), yM H2 S O2 ∧ H2.get b = some (.sep .emp) ∧ b ∉ S ∧ S[0]? = some s0 ∧ O2[0]? = some o0 ∧ o0.free = false ∧ (∀ p z X h, (rp O2 p).P z X h → (Q2 p).P z X h) ∧ (∀ p x o, (H3 p).get x = some o → (x = b ∧ o = .sep (Q2 p)) ∨ (x ≠ b ∧ x ∉ S ∧ H2.get x = some o)) ∧ (∀ p φ T u, φ.f s0 = some ⟨p.1, p.2, T⟩ → VR φ v u → VR φ (v2 p) u) ∧ ∀ p, κ (v2 p) (H3 p) n2
theorem aH.Il {f : FuncId} {run : List AV → AH → Nat → PK → Prop} (hrun : aH f run) {args : List AV} (hr : HR φ H n h0 hp) (hargs : VRs φ args vs.toList) (hk : bY φ h0 κ K)
    (hs : run args (H.set (some (.sep .emp)) aa n) (n + 1) fun v H2 n2 => Ik n κ v H2 n2 ∨ ∃ H3, (∀ x o, H3.get x = some o → H2.get x = some o) ∧ κ v H3 n2) : cJ Try.prog f vs hp K := by
  obtain ⟨ψ, hle, hr2⟩ := hr.hole
  refine hrun _ _ _ _ hs ψ h0 hp vs K hr2 (VRs.mono hle _ _ hargs) fun χ v H2 n2 u g hle2 hg hu hR => ?_
  rcases hR with ⟨S, O2, Q2, H3, v2, s0, o0, g1, g2, g3, g4, g5, g6, g7, g8, g9, g10⟩ | ⟨H3, g1, g2⟩
  · obtain ⟨j1, j2, j3⟩ := g1.2.2 0 s0 o0 g4 g5
    rcases hg.live s0 _ j1 with ⟨_, k2⟩ | ⟨q, ob, k1, _⟩
    · rw [gK, g6] at k2; cases k2
    · have e : q = ⟨(q.B, q.s).1, (q.B, q.s).2, q.T⟩ := rfl
      rw [e] at k1
      obtain ⟨ω, _, hle3, _, hr3⟩ := hg.EZ (Q := Q2 (q.B, q.s)) g1 g2 g3 g4 k1 (g8 _) (g7 _)
      exact hk ω _ _ n2 u g ((hle.trans hle2).trans hle3) hr3 (VR.mono hle3 _ _ (g9 _ _ _ _ k1 hu)) (g10 _)
  · exact hk χ v H3 n2 u g (hle.trans hle2) (hg.less g1) hu g2
end
end Go.Proofs.Ytapjijhjnloimaa
namespace Go.Proofs.Ytapjijhjnloimaa
open Go Go.RowKit
def eW (p : Nat × Nat) (S : Sr) (L : Smp) : HP := HP.exi (fun C : Ck5 => fF S C ∧ ab C = L) fun C => rp (dC S (pts C) C) p
def gB (S : Sr) (L : Smp) : Prop := ∃ C, fF S C ∧ ab C = L
def iX (H : AH) (n : Nat) : Prop := n < 800000 ∧ PM.get H n = none ∧ PM.get H (n + 1) = none ∧ PM.get H (n + 2) = none ∧ PM.get H (n + 3) = none
noncomputable def opS (H : AH) (n b : Nat) (S : Sr) (C : Ck5) : AH := PM.set (some (bV S C)) aa (PM.set (some (.cells (aJ (pts C)) true)) aa (PM.set (some (.cells (bG S (n + 1) (pts C).length) true)) aa (PM.set (some (.sep .emp)) aa H b) n) (n + 1)) (n + 2)
theorem tp (H : AH) (n b : Nat) (S : Sr) (C : Ck5) : xr ((dC S (pts C) C).map (cx fun c => n + c)) n (PM.set (some (.sep .emp)) aa H b) = opS H n b S C := by
  show xr [cx _ (.cells (bG S 1 (pts C).length) true), cx _ (.cells (aJ (pts C)) true), cx _ (bV S C)] n _ = _
  (try simp only [cx, eV])
  rfl
section
variable {H : AH} {n b : Nat} {S : Sr} {C : Ck5}
theorem kJ (hn : n < 800000) : cO (opS H n b S C) (n + 3) n (n + 1) (n + 2) S (pts C) C :=
  ⟨⟨by omega, by omega, by omega⟩, ⟨by omega, by omega, by omega⟩,
   PM.aw aa _ _ _ (ax (by omega)) (by omega) (PM.aw aa _ _ _ (ax (by omega)) (by omega) (PM.bj aa _ _ (ax (by omega)))),
   PM.aw aa _ _ _ (ax (by omega)) (by omega) (PM.bj aa _ _ (ax (by omega))), PM.bj aa _ _ (ax (by omega))⟩
theorem yN (hbn : b < n) (hn : n < 800000) : PM.get (opS H n b S C) b = some (.sep .emp) :=
  PM.aw aa _ _ _ (ax (by omega)) (by omega) (PM.aw aa _ _ _ (ax (by omega)) (by omega) (PM.aw aa _ _ _ (ax (by omega)) (by omega) (PM.bj aa _ _ (ax (by omega)))))
theorem Dn (hn : n < 800000) {x : Nat} {o : AO} (hx : x < n ∨ n + 3 ≤ x) (hxb : x ≠ b) (hbn : b < n) (h : PM.get H x = some o) : PM.get (opS H n b S C) x = some o :=
  PM.aw aa _ _ _ (ax (by omega)) (by omega) (PM.aw aa _ _ _ (ax (by omega)) (by omega) (PM.aw aa _ _ _ (ax (by omega)) (by omega) (PM.aw aa _ _ _ (ax (by omega)) hxb h)))
theorem iX.ne (hR : iX H n) {x : Nat} {o : AO} (h : PM.get H x = some o) : x ≠ n ∧ x ≠ n + 1 ∧ x ≠ n + 2 ∧ x ≠ n + 3 :=
  have key : ∀ m, PM.get H m = none → x ≠ m := fun m hm e => by rw [e, hm] at h; cases h
  ⟨key _ hR.2.1, key _ hR.2.2.1, key _ hR.2.2.2.1, key _ hR.2.2.2.2⟩
theorem cO.rq {H2 : AH} {n2 r k q : Nat} (h : cO H2 n2 r k q S (pts C) C) : yM H2 [r, k, q] (dC S (pts C) C) :=
  ⟨by simp [h.ne.1, h.ne.2.1, h.ne.2.2], rfl, fun i s o h1 h2 => by
    match i, h1, h2 with
    | 0, h1, h2 => injection h1 with h1; injection h2 with h2; subst h1 h2; exact ⟨h.hr, rfl, rfl⟩
    | 1, h1, h2 => injection h1 with h1; injection h2 with h2; subst h1 h2; exact ⟨by rw [cx, eV]; exact h.hk, rfl, jB _ _⟩
    | 2, h1, h2 => injection h1 with h1; injection h2 with h2; subst h1 h2; exact ⟨h.hq, rfl, rfl⟩⟩
theorem Ai {n2 r k q : Nat} {S' : Sr} {C' : Ck5} {H2 : AH} (hR : r < n2 ∧ k < n2 ∧ q < n2) (hne : r ≠ k ∧ r ≠ q ∧ k ≠ q) (hn : n2 < 890000) : cO (dD H2 n2 r k q S' (pts C') C') (n2 + 1) r n2 q S' (pts C') C' :=
  ⟨⟨by omega, by omega, by omega⟩, ⟨by omega, by omega, by omega⟩, PM.bj aa _ _ (ax (by omega)),
   PM.aw aa _ _ _ (ax (by omega)) (by omega) (PM.aw aa _ _ _ (ax (by omega)) (by omega) (PM.aw aa _ _ _ (ax (by omega)) (by omega) (PM.bj aa _ _ (ax (by omega))))),
   PM.aw aa _ _ _ (ax (by omega)) (by omega) (PM.aw aa _ _ _ (ax (by omega)) (by omega) (PM.bj aa _ _ (ax (by omega))))⟩
theorem vO {n2 r k q : Nat} {S' : Sr} {C' : Ck5} {H2 : AH} (hn : n2 < 890000) (hR : r < n2 ∧ k < n2 ∧ q < n2) {x : Nat} {o : AO} (hx : x ≠ r ∧ x ≠ k ∧ x ≠ q ∧ x ≠ n2) (h : PM.get H2 x = some o) : PM.get (dD H2 n2 r k q S' (pts C') C') x = some o :=
  PM.aw aa _ _ _ (ax (by omega)) hx.1 (PM.aw aa _ _ _ (ax (by omega)) hx.2.1 (PM.aw aa _ _ _ (ax (by omega)) hx.2.2.1 (PM.aw aa _ _ _ (ax (by omega)) hx.2.2.2 h)))
end
section
variable {f : FuncId} {run : List AV → AH → Nat → PK → Prop} {φ : Ph} {H : AH} {n : Nat} {h0 hp : Hp} {vs : Array Value} {κ : PK} {K : KH} {b : Nat} {p : Nat × Nat} {S : Sr} {L : Smp} {rest : List AV}
theorem Aj (hrun : aH f run) (hr : HR φ H n h0 hp) (hbn : b < n) (hb : PM.get H b = some (.sep (eW p S L))) (hR : iX H n) (hargs : VRs φ (ck p :: rest) vs.toList) (hk : bY φ h0 κ K)
    (hs : ∀ C, fF S C → ab C = L → ∃ v, run (.ptr n 0 :: rest) (opS H n b S C) (n + 3) (fun u H2 n2 => u = v ∧ H2 = opS H n b S C ∧ n2 = n + 3) ∧ κ v H (n + 3)) : cJ Try.prog f vs hp K := by
  obtain ⟨C, ⟨h5, hf⟩, hP⟩ := (hr.sep b _ hb).1
  obtain ⟨v, h1, h2⟩ := hs C h5 hf
  have h3 : aH f fun args H n κ => ∃ κ0 : PK, run args H n κ0 ∧ ∀ v H' n', κ0 v H' n' → κ v H' n' := fun args H n κ ⟨κ0, a1, a2⟩ φ h0 h vs K b1 b2 b3 => hrun args H n κ0 a1 φ h0 h vs K b1 b2 fun ψ v H' n' u g c1 c2 c3 c4 => b3 ψ v H' n' u g c1 c2 c3 (a2 _ _ _ c4)
  refine h3.Dm hr hbn hb hP hargs hk ?_
  rw [tp]
  refine ⟨_, h1, fun u H2 n2 ⟨e1, e2, e3⟩ => ?_⟩
  subst e1 e2 e3
  refine ⟨[n, n + 1, n + 2], _, eW p S L, H, (kJ hR.1).rq, yN hbn hR.1, by simp; omega, rfl, fun z X h hh => ⟨C, ⟨h5, hf⟩, hh⟩, fun x o hx => ?_, h2⟩
  by_cases hxb : x = b
  · subst hxb; rw [hb] at hx; injection hx with hx; exact .inl ⟨rfl, hx.symm⟩
  · have := hR.ne hx
    exact .inr ⟨hxb, by simp; omega, Dn hR.1 (by omega) hxb hbn hx⟩
theorem Ak (hrun : aH f run) (hr : HR φ H n h0 hp) (hbn : b < n) (hb : PM.get H b = some (.sep (eW p S L))) (hR : iX H n) (hargs : VRs φ (ck p :: rest) vs.toList) (hk : bY φ h0 κ K)
    (hs : ∀ C, fF S C → ab C = L → ∃ v o, run (.ptr n 0 :: rest) (opS H n b S C) (n + 3) (fun u H2 n2 => u = v ∧ H2 = PM.set (some o) aa (opS H n b S C) (n + 3) ∧ n2 = n + 4) ∧ κ v (PM.set (some o) aa H (n + 3)) (n + 4)) : cJ Try.prog f vs hp K := by
  obtain ⟨C, ⟨h5, hf⟩, hP⟩ := (hr.sep b _ hb).1
  obtain ⟨v, o0, h1, h2⟩ := hs C h5 hf
  have h3 : aH f fun args H n κ => ∃ κ0 : PK, run args H n κ0 ∧ ∀ v H' n', κ0 v H' n' → κ v H' n' := fun args H n κ ⟨κ0, a1, a2⟩ φ h0 h vs K b1 b2 b3 => hrun args H n κ0 a1 φ h0 h vs K b1 b2 fun ψ v H' n' u g c1 c2 c3 c4 => b3 ψ v H' n' u g c1 c2 c3 (a2 _ _ _ c4)
  refine h3.Dm hr hbn hb hP hargs hk ?_
  rw [tp]
  refine ⟨_, h1, fun u H2 n2 ⟨e1, e2, e3⟩ => ?_⟩
  subst e1 e2 e3
  have hat : cO (PM.set (some o0) aa (opS H n b S C) (n + 3)) (n + 4) n (n + 1) (n + 2) S (pts C) C := by
    have := kJ (H := H) (b := b) (S := S) (C := C) hR.1
    have hn := hR.1
    exact ⟨this.ne, ⟨by omega, by omega, by omega⟩, PM.aw aa _ _ _ (ax (by omega)) (by omega) this.hr, PM.aw aa _ _ _ (ax (by omega)) (by omega) this.hk, PM.aw aa _ _ _ (ax (by omega)) (by omega) this.hq⟩
  have hn := hR.1
  refine ⟨[n, n + 1, n + 2], _, eW p S L, _, hat.rq, PM.aw aa _ _ _ (ax (by omega)) (by omega) (yN hbn hR.1), by simp; omega, rfl, fun z X h hh => ⟨C, ⟨h5, hf⟩, hh⟩, fun x o hx => ?_, h2⟩
  rcases PM.an aa H (n + 3) x o hx with ⟨rfl, h6⟩ | ⟨h6, h7⟩
  · injection h6 with h6; subst h6
    exact .inr ⟨by omega, by simp, PM.bj aa _ _ (ax (by omega))⟩
  · by_cases hxb : x = b
    · subst hxb; rw [hb] at h7; injection h7 with h7; exact .inl ⟨rfl, h7.symm⟩
    · have := hR.ne h7
      exact .inr ⟨hxb, by simp; omega, PM.aw aa _ _ _ (ax (by omega)) h6 (Dn hR.1 (by omega) hxb hbn h7)⟩
theorem qh (hrun : aH f run) (hr : HR φ H n h0 hp) (hbn : b < n) (hb : PM.get H b = some (.sep (eW p S L))) (hR : iX H n) (hargs : VRs φ (ck p :: rest) vs.toList) (hk : bY φ h0 κ K) {v : AV} {S' : Sr} {L' : Smp}
    (hs : ∀ C, fF S C → ab C = L → run (.ptr n 0 :: rest) (opS H n b S C) (n + 3) (fun u H2 n2 => u = v ∧ ∃ C', fF S' C' ∧ ab C' = L' ∧ H2 = dD (opS H n b S C) (n + 3) n (n + 1) (n + 2) S' (pts C') C' ∧ n2 = n + 4))
    (hκ : gB S' L' → κ v (PM.set (some (.sep (eW p S' L'))) aa H b) (n + 4)) : cJ Try.prog f vs hp K := by
  obtain ⟨C, ⟨h5, hf⟩, hP⟩ := (hr.sep b _ hb).1
  have h1 := hs C h5 hf
  have h3 : aH f fun args H n κ => ∃ κ0 : PK, run args H n κ0 ∧ ∀ v H' n', κ0 v H' n' → κ v H' n' := fun args H n κ ⟨κ0, a1, a2⟩ φ h0 h vs K b1 b2 b3 => hrun args H n κ0 a1 φ h0 h vs K b1 b2 fun ψ v H' n' u g c1 c2 c3 c4 => b3 ψ v H' n' u g c1 c2 c3 (a2 _ _ _ c4)
  refine h3.Dm hr hbn hb hP hargs hk ?_
  rw [tp]
  refine ⟨_, h1, fun u H2 n2 ⟨e1, C', f1, f2, e2, e3⟩ => ?_⟩
  subst e1 e2 e3
  have hn := hR.1
  refine ⟨[n, n + 3, n + 2], _, eW p S' L', _, (Ai (by omega) (by omega) (by omega)).rq, vO (by omega) (by omega) (by omega) (yN hbn hR.1), by simp; omega, rfl, fun z X h hh => ⟨C', ⟨f1, f2⟩, hh⟩, fun x o hx => ?_, hκ ⟨C', f1, f2⟩⟩
  rcases PM.an aa H b x o hx with ⟨rfl, h6⟩ | ⟨h6, h7⟩
  · injection h6 with h6; exact .inl ⟨rfl, h6.symm⟩
  · have := hR.ne h7
    exact .inr ⟨h6, by simp; omega, vO (by omega) (by omega) (by omega) (Dn hR.1 (by omega) h6 hbn h7)⟩
end
end Go.Proofs.Ytapjijhjnloimaa
namespace Go.Proofs.Ytapjijhjnloimaa
open Go Go.RowKit
def Im : DT := [(15, [(some 0, [4]), (some 0, [66]), (some 0, [67]), (some 0, [5, 68]), (some 0, [69, 68]), (some 0, [68, 70]), (some 0, [71]), (some 0, [6, 72]), (some 0, [73, 72]), (some 0, [72, 74]), (some 0, [75]), (some 0, [7, 76]), (some 0, [77, 76]), (some 0, [76, 78]), (some 0, [79]), (some 0, [8, 80]), (some 0, [81, 80]), (some 0, [80, 82]), (some 0, [83]), (some 0, [9, 84]), (some 0, [85, 84]), (some 0, [84, 86]), (some 0, [87]), (some 0, [10, 88]), (some 0, [89, 88]), (some 0, [88, 90]), (some 0, [91]), (some 0, [11, 92]), (some 0, [93, 92]), (some 0, [92, 94]), (some 0, [95]), (some 0, [13, 96]), (some 0, [97, 96]), (some 0, [96, 98]), (some 0, [99]), (some 0, [14, 100]), (some 0, [100]), (some 0, [101, 102, 100]), (some 0, [100, 103]), (some 0, [104]), (some 0, [15, 105]), (some 0, [105, 106]), (some 0, [107]), (some 0, [16, 108]), (some 0, [108]), (some 0, [108]), (none, [110, 111, 108]), (none, [109, 112, 108]), (some 0, [108, 113]), (some 0, [114]), (some 0, [17, 115]), (some 0, [116, 115]), (some 0, [115, 117]), (some 0, [118]), (some 0, [1, 119]), (none, [120, 119]), (some 0, [121, 119]), (some 0, [119, 122]), (some 0, [123]), (some 0, [1, 124]), (none, [125, 124]), (some 0, [126, 124]), (some 0, [124, 127]), (some 0, [128]), (some 0, [1, 129]), (none, [130, 129]), (some 0, [131, 129]), (some 0, [129, 132]), (some 0, [133]), (some 0, [1, 134]), (none, [135, 134]), (some 0, [136, 134]), (some 0, [137, 134]), (some 0, [134, 138]), (some 0, [139]), (some 0, [1, 140]), (none, [141, 140]), (some 0, [142, 140]), (some 0, [140, 143]), (some 0, [144]), (some 0, [1, 145]), (none, [146, 145]), (some 0, [147, 145]), (some 0, [145, 148]), (some 0, [149]), (some 0, [1, 150]), (none, [151, 150]), (some 1, [16, 150]), (some 2, [153, 150]), (none, [152, 154, 150]), (some 0, [150, 155])]), (1000015, [])]
noncomputable def KSr : FuncId → EP := a9 15 tn (a9 28 tl (a9 16 tj (a9 22 tk (cD 23 (dF FA) (cD 30 (dF FB) (cD 24 (ln FJ) (cD 17 (qf 1000000 iy) (cD 19 (dF Ft) (cD 27 (dF yz) (cD 20 (dF CZ) (cD 33 (vK FL) (cD 31 (dF Fv) (cD 32 (dF Fx) (cD 18 (ln CX) evP))))))))))))))
theorem G5 : bH KSr := au (au (au (au (aZ (aZ (aZ (aZ (aZ (aZ (aZ (aZ (aZ (aZ (aZ bb CY (xo _)) Fy (iI _)) Fw (iI _)) Ii (G4 _)) C4 (iI _)) yA (iI _)) Fu (iI _)) yL Db) FK (xo _)) yB (iI _)) CN (iI _)) Dh) Dg) Di) Dk
noncomputable def Io : FuncId → EP := bR 21 Im KSr
theorem E0 : bH Io := aP G5 (by kernel_rfl) (by kernel_rfl)
abbrev s0 : Sr := ⟨128, 10, 3, -1, 0⟩
abbrev s1 : Sr := ⟨128, 10, 3, 5, 0⟩
abbrev s2 : Sr := ⟨128, 10, 3, 20, 10⟩
theorem Ip : jM 128 10 3 = some s0 := if_pos (by decide)
theorem KM : jM 128 (-1) 3 = none := if_neg (by decide)
theorem k_a : eG s0 [] 5 1 0 = ((s1, [(5, 1)]), 0) := by kernel_rfl
theorem k_b : eG s1 [(5, 1)] 20 2 0 = ((s2, [(20, 2)]), 0) := by kernel_rfl
theorem k_c : eG s2 [(20, 2)] 9 3 0 = ((s2, [(20, 2)]), 7) := by kernel_rfl
theorem k_d : eG s2 [(20, 2)] 10 3 0 = ((s2, [(10, 3), (20, 2)]), 0) := by kernel_rfl
theorem k_g : eG s2 [(10, 3), (20, 2)] 20 7 1 = ((s2, [(10, 3), (20, 2)]), 8) := by kernel_rfl
theorem k_n : aN [(10, 3), (20, 2)] 20 30 = [(10, 3)] := by kernel_rfl
theorem xt {P : Program} {t : TypeId} {H : AH} {a b c d : Int} (hp : dU P t = some [(0, 0), (0, 1)]) : oM P .eql t (.agg [.int .i64 a, .int .i64 b]) (.agg [.int .i64 c, .int .i64 d]) H = some (.bool (decide (a = c) && (decide (b = d) && true))) := by
  simp [oM, hp, nw, nth, mf]
abbrev kE : List (Nat × AV) := [(0, .bool false), (1, .ptr 0 0), (4, .si .i64 1), (5, .si .i64 0), (6, .si .i64 0), (7, .si .i64 7), (8, .si .i64 0), (9, .si .i64 8), (10, .si .i64 2), (11, .si .i64 0), (13, .si .i64 5), (14, .ptr 3 0), (15, .sb true), (16, .rw 4 0 2 2 0), (17, .si .i64 1)]
noncomputable def kM (C : Ck5) : AH := mkH [(0, .cells (bG s2 1 (pts C).length) true), (1, .cells (aJ (pts C)) true), (2, bV s2 C), (3, .cells [.int .i64 20, .int .i64 2] true), (4, .cells (smp [(20, 2), (10, 3)]) true)]
theorem Iq {σ : AE} {H : AH} {n : Nat} {C : Ck5} {l3 l4 : List AV} (e0 : mk (aA (pa 0) σ) = .sb false) (e1 : aA (pa 1) σ = .ptr 0 0) (e4 : mk (aA (pa 4) σ) = .si .i64 1) (e5 : mk (aA (pa 5) σ) = .si .i64 0) (e6 : mk (aA (pa 6) σ) = .si .i64 0) (e7 : mk (aA (pa 7) σ) = .si .i64 7) (e8 : mk (aA (pa 8) σ) = .si .i64 0) (e9 : mk (aA (pa 9) σ) = .si .i64 8) (e10 : mk (aA (pa 10) σ) = .si .i64 2) (e11 : mk (aA (pa 11) σ) = .si .i64 0) (e13 : mk (aA (pa 13) σ) = .si .i64 5) (e14 : aA (pa 14) σ = .ptr 8 0) (e15 : mk (aA (pa 15) σ) = .sb true) (e16 : aA (pa 16) σ = .rw 9 0 2 2 0) (e17 : mk (aA (pa 17) σ) = .si .i64 1)
    (h0 : PM.get H 0 = some (.cells (bG s2 10 (pts C).length) true)) (h1 : PM.get H 10 = some (.cells (aJ (pts C)) true)) (h2 : PM.get H 2 = some (bV s2 C)) (h3 : PM.get H 8 = some (.cells l3 true)) (g3 : l3.map mk = [.si .i64 20, .si .i64 2]) (h4 : PM.get H 9 = some (.cells l4 true)) (g4 : l4.map mk = smp [(20, 2), (10, 3)]) : Cov 0 σ H n (mkE kE, kM C, 5) := by
  refine Cov.ofR (m := 5) (p := 0) (fun c => if c = 1 then 10 else if c = 3 then 8 else if c = 4 then 9 else c) (by decide) (fun b hb => absurd hb (Nat.not_lt_zero b)) (fun x hx => ?_) (fun x hx => ?_) (fun x hx y hy e => ?_)
  · simp only [List.mem_cons, List.not_mem_nil, or_false] at hx
    rcases hx with rfl | rfl | rfl | rfl | rfl | rfl | rfl | rfl | rfl | rfl | rfl | rfl | rfl | rfl | rfl
    · exact ai.flat rfl e0
    · exact ai.ptr (by decide) e1
    · exact ai.flat rfl e4
    · exact ai.flat rfl e5
    · exact ai.flat rfl e6
    · exact ai.flat rfl e7
    · exact ai.flat rfl e8
    · exact ai.flat rfl e9
    · exact ai.flat rfl e10
    · exact ai.flat rfl e11
    · exact ai.flat rfl e13
    · exact ai.ptr (by decide) e14
    · exact ai.flat rfl e15
    · exact ai.rw (by decide) e16
    · exact ai.flat rfl e17
  · simp only [List.mem_cons, List.not_mem_nil, or_false] at hx
    rcases hx with rfl | rfl | rfl | rfl | rfl
    · exact ⟨Nat.le_of_ble_eq_true rfl, .inl ⟨_, h0, aU.bG rfl rfl rfl rfl rfl (ai.rw (Nat.le_of_ble_eq_true rfl) rfl)⟩⟩
    · exact ⟨Nat.le_of_ble_eq_true rfl, .inl ⟨_, h1, aU.aJ (aq _)⟩⟩
    · exact ⟨Nat.le_of_ble_eq_true rfl, .inl ⟨_, h2, aU.sep _⟩⟩
    · exact ⟨Nat.le_of_ble_eq_true rfl, .inl ⟨_, h3, aU.cL rfl g3 id⟩⟩
    · exact ⟨Nat.le_of_ble_eq_true rfl, .inl ⟨_, h4, aU.cL rfl g4 id⟩⟩
  · simp only [List.mem_cons, List.not_mem_nil, or_false] at hx hy
    rcases hx with rfl | rfl | rfl | rfl | rfl <;> rcases hy with rfl | rfl | rfl | rfl | rfl <;> simp at e ⊢
theorem Ir {o : Op} {σ : AE} {H : AH} {κ : AV → Prop} {v : AV} (hs : ∀ κ : AV → Prop, κ v → qP o σ H κ) (K : κ v) : qP o σ H κ := hs κ K
theorem vQ {ops : Array Oper} {o : Oper} {b : DB} {cd : CP} {hist : List (AH × Nat)} {σ : AE} {H : AH} {n : Nat} {k : KP} {j t i : Nat} {w : Bool} {r : AH × Nat} {v : AV} (hg : o.guard = some (j, w)) (hgs : eZ ops j = some t) (hq : aA (pa t) σ = .bool w) (hb : b.1 = some i) (hr : nth ((H, n) :: hist) i = some r) (hs : ∀ κ : AV → Prop, κ v → qP o.op (gy σ b.2) r.1 κ) (K : k (bU σ o.dst v) H n) : uw ops o b cd hist σ H n k := by
  unfold uw
  rw [hg]; dsimp only
  rw [hgs]; dsimp only
  rw [hq]; dsimp only
  have e : (w == w) = true := by cases w <;> rfl
  rw [e, hb]; dsimp only
  rw [hr]
  exact hs (fun v => k (bU σ o.dst v) H n) K
theorem It {σ : AE} {H : AH} {κ : AV → Prop} {ty r : TypeId} {x y : Operand} {a b c d : Int} (hp : dU Try.prog ty = some [(0, 0), (0, 1)]) (hx : eev σ x = .agg [.int .i64 a, .int .i64 b]) (hy : eev σ y = .agg [.int .i64 c, .int .i64 d]) (K : κ (.bool (decide (a = c) && (decide (b = d) && true)))) : qP (.binOp .eql ty x y r) σ H κ := by
  show wD .eql ty (eev σ x) (eev σ y) H κ
  rw [hx, hy]
  show bM (oM Try.prog .eql ty (.agg [.int .i64 a, .int .i64 b]) (.agg [.int .i64 c, .int .i64 d]) H) κ
  exact aF (xt hp) K
theorem G6 : iy [(20, 2), (10, 3)] [(20, 2), (10, 3)] = true := by kernel_rfl
theorem E1 : iy [(10, 3)] [(10, 3)] = true := by kernel_rfl
theorem Dp : az Io 6 21 [] .nil 0 (fun u _ _ => mkT u = AV.sb true) := by
  conv => whnf
  refine ⟨128, 10, 3, some s0, rfl, rfl, rfl, by decide, Ip, fun h5 => ?_⟩
  conv => whnf
  refine ⟨128, -1, 3, none, rfl, rfl, rfl, by decide, KM, ?_⟩
  conv => whnf
  refine ⟨0, 1, 2, s0, [], 5, 1, 0, [], s1, [(5, 1)], 0, rfl, ⟨_, _, rfl, rfl, rfl⟩, rfl, ⟨⟨by decide, by decide, by decide⟩, ⟨by decide, by decide, by decide⟩, rfl, rfl, rfl⟩, h5, ⟨by decide, by decide⟩, rfl, by decide, k_a, fun Ca ha fa => ?_⟩
  conv => whnf
  refine ⟨0, 3, 2, s1, Ca, 20, 2, 0, [(5, 1)], s2, [(20, 2)], 0, rfl, ⟨_, _, rfl, rfl, rfl⟩, rfl, ⟨⟨by decide, by decide, by decide⟩, ⟨by decide, by decide, by decide⟩, rfl, rfl, rfl⟩, ha, ⟨by decide, by decide⟩, fa, by decide, k_b, fun Cb hb fb => ?_⟩
  conv => whnf
  refine ⟨0, 4, 2, s2, Cb, 9, 3, 0, [(20, 2)], s2, [(20, 2)], 7, rfl, ⟨_, _, rfl, rfl, rfl⟩, rfl, ⟨⟨by decide, by decide, by decide⟩, ⟨by decide, by decide, by decide⟩, rfl, rfl, rfl⟩, hb, ⟨by decide, by decide⟩, fb, by decide, k_c, fun Cc hc fc => ?_⟩
  conv => whnf
  refine ⟨0, 5, 2, s2, Cc, 10, 3, 0, [(20, 2)], s2, [(10, 3), (20, 2)], 0, rfl, ⟨_, _, rfl, rfl, rfl⟩, rfl, ⟨⟨by decide, by decide, by decide⟩, ⟨by decide, by decide, by decide⟩, rfl, rfl, rfl⟩, hc, ⟨by decide, by decide⟩, fc, by decide, k_d, fun Cd hd fd => ?_⟩
  conv => whnf
  refine ⟨0, 6, 2, s2, Cd, 20, 7, 1, [(10, 3), (20, 2)], s2, [(10, 3), (20, 2)], 8, rfl, ⟨_, _, rfl, rfl, rfl⟩, rfl, ⟨⟨by decide, by decide, by decide⟩, ⟨by decide, by decide, by decide⟩, rfl, rfl, rfl⟩, hd, ⟨by decide, by decide⟩, fd, by decide, k_g, fun Cg hg fg => ?_⟩
  conv => whnf
  refine ⟨0, 7, 2, s2, Cg, .tup [.si .i64 2, .si .i64 0], rfl, ⟨⟨by decide, by decide, by decide⟩, ⟨by decide, by decide, by decide⟩, rfl, rfl, rfl⟩, ⟨_, 20, rfl, rfl, hg.gt, by rw [fg]; decide, by rw [fg]; kernel_rfl⟩, ?_⟩
  conv => whnf
  refine ⟨0, 7, 2, s2, Cg, .tup [.si .i64 0, .si .i64 5], rfl, ⟨⟨by decide, by decide, by decide⟩, ⟨by decide, by decide, by decide⟩, rfl, rfl, rfl⟩, ⟨_, 5, rfl, rfl, hg.gt, by rw [fg]; decide, by rw [fg]; kernel_rfl⟩, ?_⟩
  conv => whnf
  refine ⟨0, 7, 2, s2, Cg, .tup [.agg [.si .i64 20, .si .i64 2], .sb true], rfl, ⟨⟨by decide, by decide, by decide⟩, ⟨by decide, by decide, by decide⟩, rfl, rfl, rfl⟩, ⟨rfl, hg.gt, by rw [fg]; decide, by rw [fg]; kernel_rfl⟩, ?_⟩
  conv => whnf
  refine ⟨0, 7, 2, s2, Cg, [(20, 2), (10, 3)], rfl, ⟨⟨by decide, by decide, by decide⟩, ⟨by decide, by decide, by decide⟩, rfl, rfl, rfl⟩, ⟨by decide, rfl⟩, ⟨_, _, 0, 100, rfl, rfl, rfl, hg.okc, hg.gt.up, by rw [fg]; decide, by rw [fg]; kernel_rfl⟩, ?_⟩
  conv => whnf
  refine xF.mk { C : Ck5 // fF s2 C ∧ ab C = [(10, 3)] } 5 (fun C => (mkE kE, kM C.val)) ?_ ?_
  focus
    conv => whnf
    refine ⟨0, 7, 2, s2, Cg, 20, 30, [(10, 3), (20, 2)], [(10, 3)], 1, rfl, rfl, rfl, ⟨⟨by decide, by decide, by decide⟩, ⟨by decide, by decide, by decide⟩, rfl, rfl, rfl⟩, hg, fg, by decide, k_n, rfl, fun Cn hn fn => ?_⟩
    conv => whnf
    exact ⟨⟨Cn, hn, fn⟩, Iq rfl rfl rfl rfl rfl rfl rfl rfl rfl rfl rfl rfl rfl rfl rfl rfl rfl rfl rfl rfl rfl rfl⟩
  intro ⟨C, hC, fC⟩
  have hU : ((jN C).length : Int) = 1 := by
    rw [kI]
    have h1 := hC.gt.few
    rw [fC] at h1
    have h2 : C ≠ [] := fun e => by rw [e] at fC; cases fC
    have h3 : C.length ≤ 1 := h1
    have h4 : 0 < C.length := List.length_pos_iff.2 h2
    omega
  conv => whnf
  iterate 8
    refine aj.dec (fun _ => ?_) (fun z => absurd (by decide) z)
    conv => whnf
  refine aj.dec (fun _ => ?_) (fun z => absurd (by decide) z)
  refine aF (a := (kM C, 5)) rfl ?_
  refine Ir (v := .agg [.int .i64 20, .int .i64 2]) (fun κ h => h) ?_
  refine vQ (v := .agg [.int .i64 20, .int .i64 2]) rfl rfl rfl rfl rfl (fun κ h => h) ?_
  refine vQ (v := .bool true) rfl rfl rfl rfl rfl (fun κ h => It Dd rfl rfl h) ?_
  conv => whnf
  refine aj.sb (fun _ => ?_) (fun z => absurd z (by decide))
  conv => whnf
  refine ⟨[(20, 2), (10, 3)], [(20, 2), (10, 3)], (.inr (.inl (.inl ⟨4, 0, 0, smp [(20, 2), (10, 3)], smp [(20, 2), (10, 3)], ⟨rfl, by decide⟩, .inr ⟨true, rfl⟩, rfl, rfl⟩))), (.inr (.inr ⟨_, _, _, _, _, _, rfl, .inr ⟨_, rfl⟩, rfl, rfl, by decide⟩)), by decide, by decide, ?_⟩
  conv => whnf
  refine aj.sb (fun _ => ?_) (fun z => absurd (G6.symm.trans z) (by decide))
  conv => whnf
  refine aj.dec (fun _ => ?_) (fun z => absurd (by decide) z)
  conv => whnf
  refine ⟨0, 1, 2, s2, C, .si .i64 20, rfl, ⟨⟨by decide, by decide, by decide⟩, ⟨by decide, by decide, by decide⟩, rfl, rfl, rfl⟩, ⟨rfl, by decide, rfl⟩, ?_⟩
  conv => whnf
  refine aj.dec (fun _ => ?_) (fun z => absurd (by decide) z)
  conv => whnf
  refine ⟨0, 1, 2, s2, C, .si .i64 10, rfl, ⟨⟨by decide, by decide, by decide⟩, ⟨by decide, by decide, by decide⟩, rfl, rfl, rfl⟩, ⟨rfl, by decide, by decide, by decide, rfl⟩, ?_⟩
  conv => whnf
  refine aj.dec (fun _ => ?_) (fun z => absurd (by decide) z)
  conv => whnf
  refine ⟨0, 1, 2, s2, C, .si .i64 1, rfl, ⟨⟨by decide, by decide, by decide⟩, ⟨by decide, by decide, by decide⟩, rfl, rfl, rfl⟩, ⟨rfl, hC.okc, by rw [fC]; decide, by rw [fC]; rfl⟩, ?_⟩
  conv => whnf
  refine aj.dec (fun _ => ?_) (fun z => absurd (by decide) z)
  conv => whnf
  refine ⟨0, 1, 2, s2, C, jN C, rfl, ⟨⟨by decide, by decide, by decide⟩, ⟨by decide, by decide, by decide⟩, rfl, rfl, rfl⟩, ⟨by decide, rfl⟩, ⟨hC.okc, rfl⟩, ?_⟩
  conv => whnf
  refine aj.dec (fun _ => ?_) (fun z => absurd hU z)
  conv => whnf
  refine ⟨0, 1, 2, s2, C, .si .i64 10, rfl, ⟨⟨by decide, by decide, by decide⟩, ⟨by decide, by decide, by decide⟩, rfl, rfl, rfl⟩, ⟨rfl, by decide, rfl⟩, ?_⟩
  conv => whnf
  refine aj.dec (fun _ => ?_) (fun z => absurd (by decide) z)
  conv => whnf
  refine ⟨0, 1, 2, s2, C, .si .i64 3, rfl, ⟨⟨by decide, by decide, by decide⟩, ⟨by decide, by decide, by decide⟩, rfl, rfl, rfl⟩, ⟨rfl, by decide, rfl⟩, ?_⟩
  conv => whnf
  refine aj.dec (fun _ => ?_) (fun z => absurd (by decide) z)
  conv => whnf
  refine ⟨0, 1, 2, s2, C, [(10, 3)], rfl, ⟨⟨by decide, by decide, by decide⟩, ⟨by decide, by decide, by decide⟩, rfl, rfl, rfl⟩, ⟨by decide, rfl⟩, ⟨_, _, 0, 50, rfl, rfl, rfl, hC.okc, hC.gt.up, by rw [fC]; decide, by rw [fC]; kernel_rfl⟩, ?_⟩
  conv => whnf
  refine RSl.mk 1 2 rfl rfl (.inl rfl) (by decide) (by decide) ?_
  conv => whnf
  refine ⟨[(10, 3)], [(10, 3)], (.inr (.inl (.inl ⟨_, _, _, smp [(10, 3)], smp [(10, 3)], ⟨rfl, by decide⟩, .inr ⟨true, rfl⟩, rfl, rfl⟩))), (.inr (.inl (.inl ⟨4, 2, 0, smp [(20, 2), (10, 3)], smp [(10, 3)], ⟨rfl, by decide⟩, .inr ⟨true, rfl⟩, rfl, rfl⟩))), by decide, by decide, ?_⟩
  conv => whnf
  exact Eq.trans (b := AV.sb (iy [(10, 3)] [(10, 3)])) rfl (congrArg AV.sb E1)
end Go.Proofs.Ytapjijhjnloimaa
namespace Go.Proofs.Ytapjijhjnloimaa
open Go Go.RowKit
def fe (B : Sr → Smp → List AV → AV → Prop) (args : List AV) (H : AH) (n : Nat) (κ : PK) : Prop := match args with
  | x :: ar => ∃ (b : Nat) (p : Nat × Nat) (S : Sr) (L : Smp) (v : AV), x = ck p ∧ b < n ∧ PM.get H b = some (.sep (eW p S L)) ∧ iX H n ∧ B S L ar v ∧ κ v H (n + 3)
  | _ => False
theorem lW (B : Sr → Smp → List AV → AV → Prop) : jH (fe B) := fun args H n κ hs => by
  unfold fe at *
  split at hs
  · obtain ⟨b, p, S, L, v, h1, h2, h3, h4, h5, h6⟩ := hs
    exact ⟨_, _, _, h6, fun _ _ h => h, Nat.le_add_right _ _, fun κ' h => ⟨b, p, S, L, v, h1, h2, h3, h4, h5, h⟩⟩
  · exact hs.elim
theorem ib {f : FuncId} {A : Sr → Ck5 → List AV → AV → Prop} {B : Sr → Smp → List AV → AV → Prop} (hA : aH f (dF A)) (h : ∀ S C L ar v, fF S C → ab C = L → B S L ar v → A S C ar v) : aH f (fe B) := fun args H n κ hs φ h0' hp vs K hr hargs hk => by
  unfold fe at hs
  split at hs
  · obtain ⟨b, p, S, L, v, rfl, h2, h3, h4, h5, h6⟩ := hs
    exact Aj hA hr h2 h3 h4 hargs hk fun C h7 h8 => ⟨v, ⟨n, n + 1, n + 2, S, C, v, rfl, kJ h4.1, h S C L _ v h7 h8 h5, rfl, rfl, rfl⟩, h6⟩
  · exact hs.elim
def Iu (S : Sr) (_ : Smp) (ar : List AV) (v : AV) : Prop := ar = [] ∧ v = .si .i64 S.mx
def Iv (S : Sr) (_ : Smp) (ar : List AV) (v : AV) : Prop := ar = [] ∧ v = .si .i64 S.ret
def Iw (S : Sr) (_ : Smp) (ar : List AV) (v : AV) : Prop := ar = [] ∧ v = .si .i64 S.pol
def Ix (S : Sr) (_ : Smp) (ar : List AV) (v : AV) : Prop := ar = [] ∧ v = .si .i64 (aB S)
def Iy (_ : Sr) (L : Smp) (ar : List AV) (v : AV) : Prop := ∃ y t, ar = [y] ∧ mk y = .si .i64 t ∧ v = .tup [.si .i64 (gF L t).1, .si .i64 (gF L t).2]
def Iz (_ : Sr) (L : Smp) (ar : List AV) (v : AV) : Prop := ar = [] ∧ v = nM L
def FM (_ : Sr) (L : Smp) (ar : List AV) (v : AV) : Prop := ar = [] ∧ v = .si .i64 (L.length : Int)
theorem IA : aH 19 (fe Iu) := ib Fu fun S C L ar v h5 _ ⟨h1, h2⟩ => ⟨h1, h5.gt.lo, h2⟩
theorem IB : aH 31 (fe Iv) := ib Fw fun S C L ar v h5 _ ⟨h1, h2⟩ => ⟨h1, h5.gt.lo, h2⟩
theorem IC : aH 32 (fe Iw) := ib Fy fun S C L ar v h5 _ ⟨h1, h2⟩ => ⟨h1, h5.gt.lo, h2⟩
theorem ID : aH 27 (fe Ix) := ib yA fun S C L ar v h5 _ ⟨h1, h2⟩ => ⟨h1, h5.gt.lo, h5.num.ret, h5.num.mx, h2⟩
theorem IE : aH 23 (fe Iy) := ib CN fun S C L ar v h5 hf ⟨y, t, h1, h2, h3⟩ => by
  subst hf
  exact ⟨y, t, h1, h2, h5.gt, by have := h5.few; omega, h3⟩
theorem IF : aH 30 (fe Iz) := ib yB fun S C L ar v h5 hf ⟨h1, h2⟩ => by
  subst hf
  exact ⟨h1, h5.gt, by have := h5.few; omega, h2⟩
theorem G7 : aH 20 (fe FM) := ib C4 fun S C L ar v h5 hf ⟨h1, h2⟩ => by
  subst hf
  exact ⟨h1, h5.okc, by have := h5.few; omega, h2⟩
def nN (B : Smp → List AV → Smp → Prop) (args : List AV) (H : AH) (n : Nat) (κ : PK) : Prop := match args with
  | x :: ar => ∃ (b : Nat) (p : Nat × Nat) (S : Sr) (L O : Smp), x = ck p ∧ b < n ∧ PM.get H b = some (.sep (eW p S L)) ∧ iX H n ∧ B L ar O ∧ κ (.rw (n + 3) 0 O.length 2 0) (PM.set (some (.cells (smp O) true)) aa H (n + 3)) (n + 4)
  | _ => False
theorem Dq (B : Smp → List AV → Smp → Prop) : jH (nN B) := fun args H n κ hs => by
  unfold nN at *
  split at hs
  · obtain ⟨b, p, S, L, O, h1, h2, h3, h4, h5, h6⟩ := hs
    exact ⟨_, _, _, h6, fun x o hb => PM.gne (by have := h4.1; omega) (h4.ne hb).2.2.2 hb, Nat.le_add_right _ _, fun κ' h => ⟨b, p, S, L, O, h1, h2, h3, h4, h5, h⟩⟩
  · exact hs.elim
theorem vR {f : FuncId} {A : Sr → Ck5 → List AV → Smp → Prop} {B : Smp → List AV → Smp → Prop} (hA : aH f (ln A)) (h : ∀ S C L ar O, fF S C → ab C = L → B L ar O → A S C ar O) : aH f (nN B) := fun args H n κ hs φ h0' hp vs K hr hargs hk => by
  unfold nN at hs
  split at hs
  · obtain ⟨b, p, S, L, O, rfl, h2, h3, h4, h5, h6⟩ := hs
    refine Ak hA hr h2 h3 h4 hargs hk fun C h7 h8 => ⟨_, _, ⟨n, n + 1, n + 2, S, C, O, rfl, kJ h4.1, ⟨by have := h4.1; omega, ?_⟩, h S C L _ O h7 h8 h5, rfl, rfl, rfl⟩, h6⟩
    cases e : PM.get (opS H n b S C) (n + 3) with
    | none => rfl
    | some o =>
      have hn := h4.1
      rcases PM.an aa _ _ _ _ e with ⟨q, _⟩ | ⟨_, e⟩
      · omega
      rcases PM.an aa _ _ _ _ e with ⟨q, _⟩ | ⟨_, e⟩
      · omega
      rcases PM.an aa _ _ _ _ e with ⟨q, _⟩ | ⟨_, e⟩
      · omega
      rcases PM.an aa _ _ _ _ e with ⟨q, _⟩ | ⟨_, e⟩
      · omega
      rw [h4.2.2.2.2] at e; cases e
  · exact hs.elim
def IG (L : Smp) (ar : List AV) (O : Smp) : Prop := ∃ y z a b, ar = [y, z] ∧ mk y = .si .i64 a ∧ mk z = .si .i64 b ∧ O = eu a b L
def IH (L : Smp) (ar : List AV) (O : Smp) : Prop := ∃ y z a b, ar = [y, z] ∧ mk y = .si .i64 a ∧ mk z = .si .i64 b ∧ O = (eu a b L).reverse
theorem II : aH 18 (nN IG) := vR CY fun S C L ar O h5 hf ⟨y, z, a, b, h1, h2, h3, h4⟩ => by
  subst hf
  exact ⟨y, z, a, b, h1, h2, h3, h5.okc, h5.gt.up, by have := h5.few; omega, h4⟩
theorem IJ : aH 24 (nN IH) := vR FK fun S C L ar O h5 hf ⟨y, z, a, b, h1, h2, h3, h4⟩ => by
  subst hf
  exact ⟨y, z, a, b, h1, h2, h3, h5.okc, h5.gt.up, by have := h5.few; omega, h4⟩
def tq (args : List AV) (H : AH) (n : Nat) (κ : PK) : Prop := match args with
  | [x, y, z] => ∃ (b : Nat) (p : Nat × Nat) (S : Sr) (L : Smp) (t v q : Int) (S' : Sr) (L' : Smp) (e : Int), x = ck p ∧ b < n ∧ PM.get H b = some (.sep (eW p S L)) ∧ iX H n ∧ kl y t v ∧ mk z = .si .i64 q ∧ ba v ∧ L.length ≤ 40000 ∧ eG S L t v q = ((S', L'), e) ∧ (gB S' L' → κ (.si .i64 e) (PM.set (some (.sep (eW p S' L'))) aa H b) (n + 4))
  | _ => False
theorem G8 : aH 16 tq := fun args H n κ hs φ h0' hp vs K hr hargs hk => by
  unfold tq at hs
  split at hs
  · obtain ⟨b, p, S, L, t, v, q, S', L', e, rfl, h2, h3, h4, h5, h6, h7, h8, h9, h10⟩ := hs
    exact qh Dg hr h2 h3 h4 hargs hk (fun C g5 gf => ⟨n, n + 1, n + 2, S, C, t, v, q, L, S', L', e, rfl, h5, h6, kJ h4.1, g5, h7, gf, h8, h9, fun C' f1 f2 => ⟨rfl, C', f1, f2, rfl, rfl⟩⟩) h10
  · exact hs.elim
def tu (args : List AV) (H : AH) (n : Nat) (κ : PK) : Prop := match args with
  | [x, y, z] => ∃ (b : Nat) (p : Nat × Nat) (S : Sr) (L : Smp) (a c : Int) (L' : Smp) (m : Nat), x = ck p ∧ b < n ∧ PM.get H b = some (.sep (eW p S L)) ∧ iX H n ∧ mk y = .si .i64 a ∧ mk z = .si .i64 c ∧ L.length ≤ 40000 ∧ aN L a c = L' ∧ L.length - L'.length = m ∧ (gB S L' → κ (.si .i64 (m : Int)) (PM.set (some (.sep (eW p S L'))) aa H b) (n + 4))
  | _ => False
theorem G9 : aH 22 tu := fun args H n κ hs φ h0' hp vs K hr hargs hk => by
  unfold tu at hs
  split at hs
  · obtain ⟨b, p, S, L, a, c, L', m, rfl, h2, h3, h4, h5, h6, h8, h9, h11, h10⟩ := hs
    exact qh Dh hr h2 h3 h4 hargs hk (fun C g5 gf => ⟨n, n + 1, n + 2, S, C, a, c, L, L', m, rfl, h5, h6, kJ h4.1, g5, gf, h8, h9, h11, fun C' f1 f2 => ⟨rfl, C', f1, f2, rfl, rfl⟩⟩) h10
  · exact hs.elim
def tv (args : List AV) (H : AH) (n : Nat) (κ : PK) : Prop := match args with
  | [x, y, z] => ∃ (b : Nat) (p : Nat × Nat) (S : Sr) (L : Smp) (r q : Int) (S' : Sr) (L' : Smp) (e : Int), x = ck p ∧ b < n ∧ PM.get H b = some (.sep (eW p S L)) ∧ iX H n ∧ mk y = .si .i64 r ∧ mk z = .si .i64 q ∧ L.length ≤ 40000 ∧ ep S L r q = ((S', L'), e) ∧ (gB S' L' → κ (.si .i64 e) (PM.set (some (.sep (eW p S' L'))) aa H b) (n + 4))
  | _ => False
theorem Ha : aH 28 tv := fun args H n κ hs φ h0' hp vs K hr hargs hk => by
  unfold tv at hs
  split at hs
  · obtain ⟨b, p, S, L, r, q, S', L', e, rfl, h2, h3, h4, h5, h6, h8, h9, h10⟩ := hs
    exact qh Di hr h2 h3 h4 hargs hk (fun C g5 gf => ⟨n, n + 1, n + 2, S, C, r, q, L, S', L', e, rfl, h5, h6, kJ h4.1, g5, gf, h8, h9, fun C' f1 f2 => ⟨rfl, C', f1, f2, rfl, rfl⟩⟩) h10
  · exact hs.elim
theorem Al {H : AH} {n : Nat} {S : Sr} (hn : n < 900000) : cO (qa H n S) (n + 3) n (n + 1) (n + 2) S (pts []) [] :=
  ⟨⟨by omega, by omega, by omega⟩, ⟨by omega, by omega, by omega⟩, PM.gne (by omega) (by omega) (PM.gne (by omega) (by omega) (PM.geq (by omega))), PM.gne (by omega) (by omega) (PM.geq (by omega)), PM.geq (by omega)⟩
theorem vS {H : AH} {n x : Nat} {S : Sr} {o : AO} (hn : n < 900000) (hx : x ≠ n ∧ x ≠ n + 1 ∧ x ≠ n + 2) (h : PM.get H x = some o) : PM.get (qa H n S) x = some o :=
  PM.gne (by omega) hx.2.2 (PM.gne (by omega) hx.2.1 (PM.gne (by omega) hx.1 h))
def tw (args : List AV) (H : AH) (n : Nat) (κ : PK) : Prop := match args with
  | [x, y, z] => ∃ (sz ret q : Int) (r : Option Sr), mk x = .si .i64 sz ∧ mk y = .si .i64 ret ∧ mk z = .si .i64 q ∧ iX H n ∧ jM sz ret q = r ∧ match r with
    | none => κ (.tup [.nil, .int .i64 1]) H (n + 1)
    | some S => ∀ p, gB S [] → κ (.tup [ck p, .int .i64 0]) (PM.set (some (.sep (eW p S []))) aa H n) (n + 4)
  | _ => False
theorem Hb : aH 15 tw := fun args H n κ hs φ h0' hp vs K hr hargs hk => by
  unfold tw at hs
  split at hs
  · obtain ⟨sz, ret, q, r, h1, h2, h3, h4, h5, h6⟩ := hs
    have h9 := h4.1
    refine Dk.Il hr hargs hk ?_
    refine ⟨sz, ret, q, r, h1, h2, h3, by omega, h5, ?_⟩
    cases r with
    | none =>
      refine .inr ⟨H, fun x o hx => PM.gne (by omega) (h4.ne hx).1 hx, h6⟩
    | some S =>
      intro h5'
      refine .inl ⟨[n + 1, n + 2, n + 3], dC S (pts []) [], fun p => eW p S [], fun p => PM.set (some (.sep (eW p S []))) aa H n, fun p => .tup [ck p, .int .i64 0], n + 1, _, (Al (by omega)).rq, vS (by omega) (by omega) (PM.geq (by omega)), by simp, rfl, rfl, rfl, fun p z X h hh => ⟨[], ⟨h5', rfl⟩, hh⟩, fun p x o hx => ?_, fun p φ T u hφ hu => ?_, fun p => h6 p ⟨[], h5', rfl⟩⟩
      · rcases PM.an aa H n x o hx with ⟨rfl, e⟩ | ⟨e1, e2⟩
        · injection e with e; exact .inl ⟨rfl, e.symm⟩
        · have := h4.ne e2
          exact .inr ⟨e1, by simp; omega, vS (by omega) (by omega) (PM.gne (by omega) e1 e2)⟩
      · obtain ⟨cs, rfl, hc⟩ := hu.dH
        obtain ⟨w, us, q1, e1, r1⟩ := hc.cons_inv
        obtain ⟨pl, e2, e3⟩ := e1.cf
        rw [hφ] at e2; injection e2 with e2; subst e2
        exact .tup (by rw [q1]; exact .cons (by subst e3; exact rfl) r1)
  · exact hs.elim
noncomputable def KSq : FuncId → EP := a9 15 tw (a9 28 tv (a9 16 tq (a9 22 tu (cD 23 (fe Iy) (cD 30 (fe Iz) (cD 24 (nN IH) (cD 17 (qf 1000000 iy) (cD 19 (fe Iu) (cD 27 (fe Ix) (cD 20 (fe FM) (cD 31 (fe Iv) (cD 32 (fe Iw) (cD 18 (nN IG) evP)))))))))))))
theorem Hc : bH KSq := au (au (au (au (aZ (aZ (aZ (aZ (aZ (aZ (aZ (aZ (aZ (aZ bb II (Dq _)) IC (lW _)) IB (lW _)) G7 (lW _)) ID (lW _)) IA (lW _)) yL Db) IJ (Dq _)) IF (lW _)) IE (lW _)) G9) G8) Ha) Hb
def xu (args : List AV) (H : AH) (n : Nat) (κ : PK) : Prop := match args with
  | [] => κ (.sb true) H n
  | _ => False
theorem Dr : aH 21 xu := fun args H n κ hs φ h0' hp vs K hr hargs hk => by
  unfold xu at hs
  split at hs
  · exact gX (v := .bool true) E0 rfl Dp hs hr hk (by kernel_rfl) HR.ro0 (by rw [hargs.aY]; exact .nil)
  · exact hs.elim
end Go.Proofs.Ytapjijhjnloimaa
namespace Go.Proofs.Ytapjijhjnloimaa
open Go Go.RowKit Go.ChangeShapes Go.WideShapes
section
variable {H : Type} {enc : TypeId × Value → H} {P : Program} {W : World} {held : Bool}
def nO : List Value → Op4
  | [a, b, c, d] => (intOf a, intOf b, intOf c, intOf d)
  | _ => (0, 0, 0, 0)
theorem vT {Tr : TypeId → Value → Prop} : ∀ {rows : List (List Value)}, (∀ r ∈ rows, gY Tr [.int .i64, .int .i64, .int .i64, .int .i64] r) → Ci (rows.map nO) ∧ ∀ φ : Ph, VRs φ (jA (rows.map nO)) rows.flatten
  | [], _ => ⟨(fun o h => by cases h), fun φ => .nil⟩
  | r :: rows, h => by
    obtain ⟨g1, g2⟩ := h r List.mem_cons_self
    obtain ⟨k1, k2⟩ := vT (rows := rows) fun x hx => h x (List.mem_cons_of_mem _ hx)
    match r, g1, g2 with
    | [v, w, x, y], _, g2 =>
      obtain ⟨a, rfl, ha⟩ := g2 0 _ v rfl rfl
      obtain ⟨b, rfl, hb⟩ := g2 1 _ w rfl rfl
      obtain ⟨c, rfl, hc⟩ := g2 2 _ x rfl rfl
      obtain ⟨d, rfl, hd⟩ := g2 3 _ y rfl rfl
      refine ⟨fun o ho => ?_, fun φ => .cons (.si _ _) (.cons (.si _ _) (.cons (.si _ _) (.cons (.si _ _) (k2 φ))))⟩
      rcases List.mem_cons.1 ho with rfl | ho
      · exact ⟨.of ha, .of hb, .of hc, .of hd⟩
      · exact k1 o ho
theorem E2 {t e : TypeId} {d : Nat} {v : Value} {D : DataW H} {ps : List MemPlace} (ht : P.underlying t = some (.slice e)) (hk : zB P d e = some [.int .i64, .int .i64, .int .i64, .int .i64]) (hc2 : P.cellsOf e = 4) (hcell : v.cells.toList = [v]) (hd : DataW.Trod enc P W 0 (fun _ => true) held t v D ps) :
    ∃ (S : List Op4) (z : Fz → Prop), Ci S ∧ sr W z ∧ (∀ χ : Ph, (∀ q, z q → χ.z q) → VR χ (.fr S.length 4 (jA S)) v) ∧ (S = [] ∨ ∃ E F, D = .slice ((List.range S.length).map F) E) ∧ S.length ≤ maxLen := by
  obtain ⟨fuel, hf⟩ := hd
  rw [hcell] at hf
  obtain ⟨rows, h1, h2, h3, h4⟩ := wP ht hk rfl hc2 (by decide) hf
  obtain ⟨g2, g3⟩ := vT fun r hr => (h1 r hr).1
  rcases h4 with ⟨rfl, a, C, rfl, hC⟩ | ⟨b, off, cap, cc, u, fz, rfl, hcap, hb, hsz, hcell⟩
  · exact ⟨[], fun _ => False, (fun x h => by cases h), .none, fun χ _ => .fre hC, .inl rfl, Nat.zero_le _⟩
  · have hst : (jA (rows.map nO)).all rU = true := by
      rw [List.all_eq_true]
      intro y hy
      have := List.all_eq_true.1 (zR (rows.map nO)) y hy
      cases y <;> first | rfl | cases this
    obtain ⟨k1, k2⟩ := DS (m := rows.length) (k := 4) (L := jA (rows.map nO)) (z := fun q => q = ⟨b, off, jA (rows.map nO)⟩) hb hcap (by rw [nJ, List.length_map]) hsz hst rfl (g3 _) hcell
    exact ⟨rows.map nO, fun q => q = ⟨b, off, jA (rows.map nO)⟩, g2, fun q hq => by subst hq; exact k1, fun χ hχ => by rw [List.length_map]; exact k2 χ hχ, by rw [List.length_map]; exact h2.imp (fun q => by rw [q]; rfl) id, by rw [List.length_map]; exact h3⟩
end
end Go.Proofs.Ytapjijhjnloimaa
namespace Go.Proofs.Ytapjijhjnloimaa
open Go Go.RowKit
theorem ai.ck {H : AH} {m : Nat} {r : Nat → Nat} {a : AV} {p : Nat × Nat} (e : a = Go.Proofs.Ytapjijhjnloimaa.ck p) : ai H m r a (Go.Proofs.Ytapjijhjnloimaa.ck p) := by
  subst e
  exact fun φ ψ v _ _ h => h
def look (L : Smp) (t : Int) : Option Int := if has L t then some (vAt L (plc L t)) else none
def KO (p : Int) : Option Int → Int → Int
  | none, _ => 0
  | some o, v => (aS p o v).2
theorem rr (L : Smp) (t v p : Int) : (cN L t v p).2 = KO p (look L t) v := by
  unfold cN look
  by_cases h : has L t = true
  · rw [if_pos h, if_pos h]
    show _ = (aS p _ v).2
    by_cases q : (aS p (vAt L (plc L t)) v).2 ≠ 0
    · rw [if_pos q]
    · rw [if_neg q]; exact (by simpa using q : (aS p (vAt L (plc L t)) v).2 = 0).symm
  · rw [if_neg h, if_neg h]; rfl
theorem rv {L : Smp} {a b : Int} {x : Int × Int} : x ∈ aN L a b ↔ x ∈ L ∧ (x.1 < a ∨ b < x.1) := by unfold aN; rw [List.mem_filter]; simp
theorem Am {L : Smp} {a b : Int} (h : ∀ x ∈ L, ¬ (a ≤ x.1 ∧ x.1 ≤ b)) : eu a b L = [] := by
  unfold eu
  exact List.filter_eq_nil_iff.2 fun x hx => by have := h x hx; simpa using this
theorem gB.cI {S : Sr} {L : Smp} (h : gB S L) : ∀ x ∈ L, (0 ≤ x.1 ∧ x.1 < 1099511627776) ∧ ba x.2 := by
  obtain ⟨C, h1, rfl⟩ := h
  intro x hx
  obtain ⟨l, hl, hx⟩ := List.mem_flatten.1 hx
  obtain ⟨c, hc, rfl⟩ := List.mem_map.1 hl
  exact (h1.gt.cI c hc).2.1 x hx
theorem gB.num {S : Sr} {L : Smp} (h : gB S L) : jC S := by obtain ⟨C, h1, rfl⟩ := h; exact h1.num
theorem gB.nil {sz ret p : Int} {S : Sr} (h : jM sz ret p = some S) : gB S [] := ⟨[], (tm h).1, rfl⟩
end Go.Proofs.Ytapjijhjnloimaa
namespace Go.Proofs.Ytapjijhjnloimaa
open Go Go.RowKit
theorem Dt {L : Smp} {t v p : Int} (hL : ∀ x ∈ L, 0 ≤ x.1 ∧ x.1 < 1099511627776) (ht : 0 ≤ t ∧ t < 1099511627776) : ∀ x ∈ (cN L t v p).1, 0 ≤ x.1 ∧ x.1 < 1099511627776 := fun x hx => by
  unfold cN at hx
  split at hx
  · split at hx
    · exact hL x hx
    · have : x = (t, _) ∨ x ∈ L := List.mem_or_eq_of_mem_set hx |>.symm
      rcases this with rfl | hx
      · exact ht
      · exact hL x hx
  · rcases pF.1 hx with rfl | hx
    · exact ht
    · exact hL x hx
noncomputable def KOr : FuncId → EP := a9 21 xu KSq
theorem Hd : bH KOr := au Hc Dr
end Go.Proofs.Ytapjijhjnloimaa
namespace Go.Proofs.Ytapjijhjnloimaa
open Go Go.RowKit
def E3 : DT := [(8, [(some 1000000, [1, 3]), (none, [0, 1, 2, 3, 4, 5, 6, 7]), (none, [0, 2, 3, 1, 4, 5, 6, 7])])]
noncomputable def Hf : FuncId → EP := bR 29 E3 (a9 55 pW evP)
theorem E4 : bH Hf := aP (au bb Ej) (by kernel_rfl) (by kernel_rfl)
noncomputable def cyM (S : Sr) (C C' : Ck5) : AH := mkH [(0, .cells (bG S 1 (pts C).length) true), (1, .cells (aJ (pts C)) true), (2, bV S C), (3, bV S C'), (4, .cells (bG S 5 (pts C').length) true), (5, .cells (aJ (pts C')) true)]
abbrev cyo (C : Ck5) (i : Nat) : List (Nat × AV) := [(3, .ptr 4 0), (16, .rw 1 0 (pts C).length 1 0), (17, .si .i64 ((pts C).length : Int)), (18, .si .i64 (i : Int))]
theorem yO (k : Nat) {σ : AE} {H : AH} {n : Nat} {S : Sr} {C C' : Ck5} {a5 : AV} (le : List (Nat × AV)) (hk : 5 ≤ k) (he : ∀ x ∈ le, ai H 6 (fun c => if c = 5 then k else c) (aA (pa x.1) σ) x.2) (h0 : PM.get H 0 = some (.cells (bG S 1 (pts C).length) true)) (h1 : PM.get H 1 = some (.cells (aJ (pts C)) true)) (h2 : PM.get H 2 = some (bV S C)) (h3 : PM.get H 3 = some (bV S C'))
    (h4 : PM.get H 4 = some (.cells [.si .i64 (S.sz : Int), .si .i64 S.ret, .si .i64 S.pol, .si .i64 S.mx, .si .i64 S.fl, a5] true)) (h45 : ai H 6 (fun c => if c = 5 then k else c) a5 (.rw 5 0 (pts C').length 1 0)) (h5 : (∃ l, PM.get H k = some (.cells l true) ∧ l.map mk = aJ (pts C')) ∨ (C' = [] ∧ n ≤ k)) : Cov 4 σ H n (mkE le, cyM S C C', 6) := by
  refine Cov.ofR (m := 6) (p := 4) (fun c => if c = 5 then k else c) (by decide) (fun b hb => if_neg (by omega)) he ?_ (fun x hx y hy e => ?_)
  · intro x hx
    simp only [List.mem_cons, List.not_mem_nil, or_false] at hx
    rcases hx with rfl | rfl | rfl | rfl | rfl | rfl
    · exact ⟨Nat.le_of_ble_eq_true rfl, .inl ⟨_, h0, aU.bG rfl rfl rfl rfl rfl (ai.rw (Nat.le_of_ble_eq_true rfl) rfl)⟩⟩
    · exact ⟨Nat.le_of_ble_eq_true rfl, .inl ⟨_, h1, aU.aJ (aq _)⟩⟩
    · exact ⟨Nat.le_of_ble_eq_true rfl, .inl ⟨_, h2, aU.sep _⟩⟩
    · exact ⟨Nat.le_of_ble_eq_true rfl, .inl ⟨_, h3, aU.sep _⟩⟩
    · exact ⟨Nat.le_of_ble_eq_true rfl, .inl ⟨_, h4, aU.bG rfl rfl rfl rfl rfl h45⟩⟩
    · exact ⟨Nat.le_of_ble_eq_true rfl, h5.elim (fun ⟨l, q1, q2⟩ => .inl ⟨_, q1, aU.aJ q2⟩) (fun q => .inr ⟨by rw [q.1]; rfl, q.2⟩)⟩
  · simp only [List.mem_cons, List.not_mem_nil, or_false] at hx hy
    rcases hx with rfl | rfl | rfl | rfl | rfl | rfl <;> rcases hy with rfl | rfl | rfl | rfl | rfl | rfl <;> simp at e ⊢ <;> omega
theorem tz {H : AH} {σ : AE} {C : Ck5} {k i : Nat} (e3 : aA (pa 3) σ = .ptr 4 0) (e16 : aA (pa 16) σ = .rw 1 0 (pts C).length 1 0) (e17 : mk (aA (pa 17) σ) = .si .i64 ((pts C).length : Int)) (e18 : mk (aA (pa 18) σ) = .si .i64 (i : Int)) : ∀ x ∈ cyo C i, ai H 6 (fun c => if c = 5 then k else c) (aA (pa x.1) σ) x.2 := fun x hx => by
  simp only [List.mem_cons, List.not_mem_nil, or_false] at hx
  rcases hx with rfl | rfl | rfl | rfl
  · exact ai.ptr (Nat.le_of_ble_eq_true rfl) e3
  · exact ai.rw (Nat.le_of_ble_eq_true rfl) e16
  · exact ai.int e17
  · exact ai.int e18
def CyP (S : Sr) (C : Ck5) : PK := fun u H' m => u = .ptr 4 0 ∧ m = 6 ∧ ∃ C', cnt C' = cnt C ∧ H' = cyM S C C'
theorem An (S : Sr) (C : Ck5) (hO : Okc S C) : cT (az Hf 5 29) [.ptr 0 0] (mkH (ed (dC S (pts C) C ++ [bV S []]) 0)) 4 (CyP S C) := by
  have hl := hO.few
  have hlo := hO.lo
  show az Hf 5 _ _ _ _ _
  conv => whnf
  refine aj.cQ (fun z => absurd (show (0 : Int) < (S.sz : Int) by omega) z) (fun _ => ?_)
  conv => whnf
  refine bC.mk { x : Nat × Ck5 // x.1 ≤ C.length ∧ cnt x.2 = (cnt C).take x.1 } 6 (fun x => (mkE (cyo C x.val.1), cyM S C x.val.2)) (fun x => C.length - x.val.1) ⟨(0, []), Nat.zero_le _, rfl⟩ ?_ ?_
  focus
    exact yO (C' := []) 5 _ (Nat.le_refl _) (tz rfl rfl rfl rfl) rfl rfl rfl rfl rfl (ai.pj rfl) (.inr ⟨rfl, Nat.le_refl _⟩)
  intro ⟨(i, C'), hi, hC'⟩
  dsimp only at hi hC'
  have hw : IntKind.i64.wrap ((i : Int) + 1) = ((i + 1 : Nat) : Int) := by rw [aD (by omega) (by omega)]; omega
  have hl' : C'.length = i := by have := congrArg List.length hC'; rw [bX, List.length_take, bX] at this; omega
  conv => whnf
  refine aj.dec (fun h => ?_) (fun h => ?_)
  focus
    have h2 : i < C.length := by
      have h : (i : Int) < ((pts C).length : Int) := h
      rw [ak] at h; omega
    have hst : ∀ q, cnt (C' ++ [(q, C[i].2)]) = (cnt C).take (i + 1) := fun q => by
      rw [List.take_succ_eq_append_getElem (by rw [bX]; exact h2), ← hC']
      unfold cnt
      rw [List.map_append, List.getElem_map]; rfl
    have hM : ∀ q, (aJ (pts C') ++ [ck q]).map mk = aJ (pts (C' ++ [(q, C[i].2)])) := fun q => by rw [gG, mK, List.map_append, aq]; rfl
    have hln : ∀ q, (pts C').length + 1 = (pts (C' ++ [(q, C[i].2)])).length := fun q => by rw [ak, ak, List.length_append]; rfl
    conv => whnf
    refine Idx.mk i rfl (by rw [ak]; exact h2) ?_
    conv => whnf
    refine aF (b9 h2 (show 0 + i * 1 = i by omega)) ?_
    conv => whnf
    refine ⟨?_, ?_, trivial⟩
    focus
      conv => whnf
      refine ⟨2, 3, S.sz, C.take i, C.drop (i + 1), C', C[i].1, C[i].2, fun q => C' ++ [(q, C[i].2)], rfl, ⟨by decide, by decide, rfl, congrArg some (iW h2)⟩, by decide, ⟨by decide, by decide, rfl, rfl⟩, rfl, by decide, by omega, fun q => ⟨cZ.refl _ _, ?_⟩⟩
      conv => whnf
      refine iE.grow 1 8 1 (pts C').length [ck q] (aJ (pts C')) _ true vy (.old rfl) rfl rfl (.rw rfl (b7 (by rw [bA, Nat.mul_one]))) (by rw [ak]; omega) ?_
      conv => whnf
      exact ⟨⟨(i + 1, C' ++ [(q, C[i].2)]), h2, hst q⟩, by show C.length - (i + 1) < C.length - i; omega, yO 9 _ (by decide) (tz rfl rfl rfl (congrArg (AV.si .i64) hw)) rfl rfl rfl rfl rfl (ai.rw (Nat.le_of_ble_eq_true rfl) (congrArg (fun m => AV.rw 9 0 m 1 0) (hln q))) (.inl ⟨_, rfl, hM q⟩)⟩
    conv => whnf
    refine ⟨2, 3, S.sz, C.take i, C.drop (i + 1), C', C[i].1, C[i].2, fun q => C' ++ [(q, C[i].2)], rfl, ⟨by decide, by decide, rfl, congrArg some (iW h2)⟩, by decide, ⟨by decide, by decide, rfl, rfl⟩, rfl, by decide, by omega, fun q => ⟨cZ.refl _ _, ?_⟩⟩
    conv => whnf
    refine iE.grow 1 8 1 (pts C').length [ck q] (aJ (pts C')) _ true vy (.old rfl) rfl rfl (.rw rfl (b7 (by rw [bA, Nat.mul_one]))) (by rw [ak]; omega) ?_
    conv => whnf
    exact ⟨⟨(i + 1, C' ++ [(q, C[i].2)]), h2, hst q⟩, by show C.length - (i + 1) < C.length - i; omega, yO 9 _ (by decide) (tz rfl rfl rfl (congrArg (AV.si .i64) hw)) rfl rfl rfl rfl rfl (ai.rw (Nat.le_of_ble_eq_true rfl) (congrArg (fun m => AV.rw 9 0 m 1 0) (hln q))) (.inl ⟨_, rfl, hM q⟩)⟩
  have h2 : i = C.length := by
    have h : ¬ (i : Int) < ((pts C).length : Int) := h
    rw [ak] at h; omega
  have hE : cnt C' = cnt C := by rw [hC', h2, ← bX C, List.take_length]
  conv => whnf
  exact ⟨.ptr 4 0, cyM S C C', 6, yO 5 [(0, .ptr 4 0)] (Nat.le_refl _) (fun x hx => by
    simp only [List.mem_cons, List.not_mem_nil, or_false] at hx
    subst hx
    exact ai.ptr (Nat.le_of_ble_eq_true rfl) rfl) rfl rfl rfl rfl rfl (ai.rw (Nat.le_of_ble_eq_true rfl) rfl) (.inl ⟨_, rfl, aq _⟩), rfl, rfl, C', hE, rfl⟩
theorem xw {O : List AO} {H : AH} {n b : Nat} (x : Nat) (o : AO) (hx : (xr (O.map (cx fun c => n + c)) n (PM.set (some (.sep .emp)) aa H b)).get x = some o) : (∃ i o', x = n + i ∧ O[i]? = some o' ∧ o = cx (fun c => n + c) o') ∨ (x = b ∧ o = .sep .emp) ∨ (x ≠ b ∧ (x < n ∨ n + O.length ≤ x) ∧ H.get x = some o) := by
  rcases qg hx with ⟨i, h1, h2⟩ | ⟨h1, h2⟩
  · rw [List.getElem?_map, Option.map_eq_some_iff] at h2
    obtain ⟨o', h2, h3⟩ := h2
    exact .inl ⟨i, o', h1, h2, h3.symm⟩
  · rcases PM.an aa H b x o h2 with ⟨h3, h4⟩ | ⟨h3, h4⟩
    · injection h4 with h4; exact .inr (.inl ⟨h3, h4.symm⟩)
    · exact .inr (.inr ⟨h3, by rw [List.length_map] at h1; exact h1, h4⟩)
theorem tA {C C' : Ck5} (e : cnt C' = cnt C) {P : Smp → Prop} (h : ∀ c ∈ C, P c.2) : ∀ c ∈ C', P c.2 := fun c hc => by
  have : c.2 ∈ cnt C := by rw [← e]; exact List.mem_map_of_mem hc
  obtain ⟨d, hd, q⟩ := List.mem_map.1 this
  have hd2 : d.2 = c.2 := q
  rw [← hd2]; exact h d hd
theorem fF.cnt {S : Sr} {C C' : Ck5} (h : fF S C) (e : Go.Proofs.Ytapjijhjnloimaa.cnt C' = Go.Proofs.Ytapjijhjnloimaa.cnt C) : fF S C' := by
  have hf : ab C' = ab C := by unfold ab; rw [e]
  have hl : C'.length = C.length := by rw [← bX, e, bX]
  have hg : ∀ j (h1 : j < C'.length) (h2 : j < C.length), C'[j].2 = C[j].2 := fun j h1 h2 => by
    have : (Go.Proofs.Ytapjijhjnloimaa.cnt C')[j]? = (Go.Proofs.Ytapjijhjnloimaa.cnt C)[j]? := by rw [e]
    unfold Go.Proofs.Ytapjijhjnloimaa.cnt at this
    rw [List.getElem?_map, List.getElem?_map, List.getElem?_eq_getElem h1, List.getElem?_eq_getElem h2] at this
    injection this
  refine ⟨⟨⟨h.gt.lo, h.gt.hi, by rw [hf]; exact h.gt.up, tA e h.gt.cI, tA e (P := fun l => (aQ l).length ≤ 8 * S.sz) h.gt.fit⟩, tA e (P := fun l => l ≠ []) h.gt.all⟩, fun j h1 h2 => ?_, h.num, by rw [hf]; exact h.few⟩
  rw [hg j (by omega) (by omega), hg (j + 1) (by omega) (by omega)]
  exact h.wh j (by omega) (by omega)
def qi (args : List AV) (H : AH) (n : Nat) (κ : PK) : Prop := match args with
  | [x] => ∃ (b : Nat) (p : Nat × Nat) (S : Sr) (L : Smp), x = ck p ∧ b < n ∧ PM.get H b = some (.sep (eW p S L)) ∧ iX H n ∧ iX H (n + 4) ∧ ∀ p2, κ (ck p2) (PM.set (some (.sep (eW p2 S L))) aa H n) (n + 7)
  | _ => False
noncomputable def cyH (H : AH) (n : Nat) (S : Sr) (C C' : Ck5) : AH := PM.set (some (.cells (bG S (n + 2) (pts C).length) true)) aa (PM.set (some (.cells (aJ (pts C)) true)) aa (PM.set (some (bV S C)) aa (PM.set (some (bV S C')) aa (PM.set (some (.cells (bG S (n + 6) (pts C').length) true)) aa (PM.set (some (.cells (aJ (pts C')) true)) aa H (n + 6)) (n + 5)) (n + 4)) (n + 3)) (n + 2)) (n + 1)
theorem Du {H : AH} {n x : Nat} {S : Sr} {C C' : Ck5} {o : AO} (hn : n < 800000) (hx : x < n + 1 ∨ n + 7 ≤ x) (h : PM.get H x = some o) : PM.get (cyH H n S C C') x = some o :=
  PM.gne (by omega) (by omega) (PM.gne (by omega) (by omega) (PM.gne (by omega) (by omega) (PM.gne (by omega) (by omega) (PM.gne (by omega) (by omega) (PM.gne (by omega) (by omega) h)))))
theorem Hg {H : AH} {n : Nat} {S : Sr} {C C' : Ck5} (hn : n < 800000) : cO (cyH H n S C C') (n + 7) (n + 1) (n + 2) (n + 3) S (pts C) C :=
  ⟨⟨by omega, by omega, by omega⟩, ⟨by omega, by omega, by omega⟩, PM.geq (by omega), PM.gne (by omega) (by omega) (PM.geq (by omega)), PM.gne (by omega) (by omega) (PM.gne (by omega) (by omega) (PM.geq (by omega)))⟩
noncomputable def Hh (H : AH) (n b : Nat) (S : Sr) (C C' : Ck5) (Q : HP) : AH := PM.set (some (.sep Q)) aa (PM.set none aa (PM.set none aa (PM.set none aa (cyH H n S C C') (n + 1)) (n + 2)) (n + 3)) b
theorem qj {H : AH} {n b x : Nat} {S : Sr} {C C' : Ck5} {Q : HP} {o : AO} (hn : n < 800000) (hb : b < n) (hx : x ≠ b ∧ x ≠ n + 1 ∧ x ≠ n + 2 ∧ x ≠ n + 3) (h : PM.get (cyH H n S C C') x = some o) : PM.get (Hh H n b S C C' Q) x = some o :=
  PM.gne (by omega) hx.1 (PM.gne (by omega) hx.2.2.2 (PM.gne (by omega) hx.2.2.1 (PM.gne (by omega) hx.2.1 h)))
theorem E5 {H : AH} {n b : Nat} {S : Sr} {C C' : Ck5} {Q : HP} (hn : n < 800000) (hb : b < n) : cO (Hh H n b S C C' Q) (n + 7) (n + 5) (n + 6) (n + 4) S (pts C') C' :=
  ⟨⟨by omega, by omega, by omega⟩, ⟨by omega, by omega, by omega⟩,
   qj hn hb (by omega) (PM.gne (by omega) (by omega) (PM.gne (by omega) (by omega) (PM.gne (by omega) (by omega) (PM.gne (by omega) (by omega) (PM.geq (by omega)))))),
   qj hn hb (by omega) (PM.gne (by omega) (by omega) (PM.gne (by omega) (by omega) (PM.gne (by omega) (by omega) (PM.gne (by omega) (by omega) (PM.gne (by omega) (by omega) (PM.geq (by omega))))))),
   qj hn hb (by omega) (PM.gne (by omega) (by omega) (PM.gne (by omega) (by omega) (PM.gne (by omega) (by omega) (PM.geq (by omega)))))⟩
theorem E6 : aH 29 qi := fun args H n κ hs φ h0' hp vs K hr hargs hk => by
  unfold qi at hs
  split at hs
  · obtain ⟨b, p, S, L, rfl, hbn, hb, hR, hR2, hs⟩ := hs
    have hn := hR.1
    obtain ⟨ψ1, l1, hr1⟩ := hr.hole
    have hb1 : PM.get (PM.set (some (.sep .emp)) aa H n) b = some (.sep (eW p S L)) := PM.gne (by omega) (by omega) hb
    obtain ⟨C, ⟨h5, hf⟩, hP⟩ := (hr1.sep b _ hb1).1
    obtain ⟨ψ2, T, l2, hψ2, hr2⟩ := hr1.Dl (O := dC S (pts C) C) (show b < n + 1 by omega) hb1 hP xw
    rw [tp] at hr2
    have hr2 : HR ψ2 (opS (PM.set (some (.sep .emp)) aa H n) (n + 1) b S C) (n + 4) h0' hp := hr2
    obtain ⟨ψ3, l3, hr3⟩ := hr2.HD
    have hat := kJ (H := PM.set (some (.sep .emp)) aa H n) (n := n + 1) (b := b) (S := S) (C := C)
    have hob := yN (H := PM.set (some (.sep .emp)) aa H n) (n := n + 1) (b := b) (S := S) (C := C) (by omega)
    have hox : ∀ x o, PM.get H x = some o → x ≠ b → PM.get (opS (PM.set (some (.sep .emp)) aa H n) (n + 1) b S C) x = some o := fun x o hx hxb => by
      have := hR.ne hx
      have := hR2.ne hx
      by_cases q : n + 4 ≤ x ∨ x < n + 1
      · have hxn : x ≠ n := by omega
        unfold opS
        exact PM.gne (by omega) (by omega) (PM.gne (by omega) (by omega) (PM.gne (by omega) (by omega) (PM.gne (by omega) hxb (PM.gne (by omega) hxn hx))))
      · omega
    have hhole : PM.get (opS (PM.set (some (.sep .emp)) aa H n) (n + 1) b S C) n = some (.sep .emp) := PM.gne (by omega) (by omega) (PM.gne (by omega) (by omega) (PM.gne (by omega) (by omega) (PM.gne (by omega) (by omega) (PM.geq (by omega)))))
    generalize hO : opS (PM.set (some (.sep .emp)) aa H n) (n + 1) b S C = O at *
    have hnn : n + 1 < 800000 := by have := hR2.1; omega
    obtain ⟨a1, a2, a3, a4, a5⟩ := hat hnn
    have hob := hob hnn
    obtain ⟨w1, us1, q1, e1, r1⟩ := hargs.cons_inv
    have e1 : w1 = m8 p := e1
    subst e1
    have hψ3 : ψ3 (n + 1) = some ⟨p.1, p.2, T⟩ := l3.b _ _ hψ2
    have hh : gz (PM.set (some (.sep (pk []))) aa O (n + 4)) (n + 5) [n + 1, n + 2, n + 3, n + 4] (dC S (pts C) C ++ [bV S []]) := ⟨by simp, rfl, fun i s o h1 h2 => by
      match i, h1, h2 with
      | 0, h1, h2 => injection h1 with h1; injection h2 with h2; subst h1 h2; exact ⟨by omega, PM.gne (by omega) (by omega) a3, .inr rfl⟩
      | 1, h1, h2 => injection h1 with h1; injection h2 with h2; subst h1 h2; exact ⟨by omega, PM.gne (by omega) (by omega) (by rw [cx, eV]; exact a4), .inr rfl⟩
      | 2, h1, h2 => injection h1 with h1; injection h2 with h2; subst h1 h2; exact ⟨by omega, PM.gne (by omega) (by omega) a5, .inr rfl⟩
      | 3, h1, h2 => injection h1 with h1; injection h2 with h2; subst h1 h2; exact ⟨by omega, PM.geq (by omega), .inr rfl⟩⟩
    refine cY (args0 := [.ptr 0 0]) (κ := fun v H2 n2 => v = .ptr (n + 5) 0 ∧ n2 = n + 7 ∧ ∃ C', cnt C' = cnt C ∧ H2 = cyH (PM.set (some (.sep (pk []))) aa O (n + 4)) n S C C') (aI E4 5 _).cT (by kernel_rfl) hr3 hh (by rw [q1]; exact .cons (VR.lL hψ3) (VRs.mono ((l1.trans l2).trans l3) _ _ r1)) ?_ (An S C h5.okc) fun u H' n' ⟨g0, g1, C', g2, g3⟩ => ?_
    · intro χ v H2 n2 u g hle2 hg hu ⟨g1, g2, C', g3, g4⟩
      subst g1 g2 g4
      obtain ⟨ω1, _, k1, _, hr4⟩ := hg.EZ (O := dC S (pts C) C) (S := [n + 1, n + 2, n + 3]) (b := b) (p := p) (Q := eW p S L) (H' := Hh (PM.set (some (.sep (pk []))) aa O (n + 4)) n b S C C' (eW p S L)) (Hg hn).rq (Du hn (by omega) (PM.gne (by omega) (by omega) hob)) (by simp; omega) rfl (hle2.b _ _ hψ3) (fun x o hx => by
        rcases PM.an aa _ b x o hx with ⟨j1, j2⟩ | ⟨j1, j2⟩
        · injection j2 with j2; exact .inl ⟨j1, j2.symm⟩
        rcases PM.an aa _ _ x o j2 with ⟨_, j3⟩ | ⟨j3, j4⟩
        · cases j3
        rcases PM.an aa _ _ x o j4 with ⟨_, j5⟩ | ⟨j5, j6⟩
        · cases j5
        rcases PM.an aa _ _ x o j6 with ⟨_, j7⟩ | ⟨j7, j8⟩
        · cases j7
        exact .inr ⟨j1, by simp; omega, j8⟩) fun z X h hh => ⟨C, ⟨h5, hf⟩, hh⟩
      have at2 := E5 (H := PM.set (some (.sep (pk []))) aa O (n + 4)) (S := S) (C := C) (C' := C') (Q := eW p S L) hn hbn
      rcases hr4.live _ _ at2.hr with ⟨_, k2⟩ | ⟨q, ob, k2, _⟩
      · cases k2
      have eq : q = ⟨(q.B, q.s).1, (q.B, q.s).2, q.T⟩ := rfl
      rw [eq] at k2
      obtain ⟨ω2, _, k3, _, hr5⟩ := hr4.EZ (O := dC S (pts C') C') (S := [n + 5, n + 6, n + 4]) (b := n) (p := (q.B, q.s)) (Q := eW (q.B, q.s) S L) (H' := PM.set (some (.sep (eW (q.B, q.s) S L))) aa H n) at2.rq (qj hn hbn (by omega) (Du hn (by omega) (PM.gne (by omega) (by omega) hhole))) (by simp) rfl k2 (fun x o hx => by
        rcases PM.an aa _ n x o hx with ⟨j1, j2⟩ | ⟨j1, j2⟩
        · injection j2 with j2; exact .inl ⟨j1, j2.symm⟩
        have := hR.ne j2
        have := hR2.ne j2
        refine .inr ⟨j1, by simp; omega, ?_⟩
        by_cases hxb : x = b
        · subst hxb
          rw [hb] at j2; injection j2 with j2; subst j2
          exact PM.geq (by omega)
        · exact qj hn hbn (by omega) (Du hn (by omega) (PM.gne (by omega) (by omega) (hox x o j2 hxb)))) fun z X h hh => ⟨C', ⟨h5.cnt g3, by unfold ab; rw [g3]; exact hf⟩, hh⟩
      obtain ⟨pl, f1, f2⟩ := hu.cf
      have f3 := k1.b _ _ f1
      rw [k2] at f3; injection f3 with f3
      refine hk ω2 (ck (q.B, q.s)) _ _ u g (((((l1.trans l2).trans l3).trans hle2).trans k1).trans k3) hr5 ?_ (hs (q.B, q.s))
      subst f2 f3
      exact rfl
    · subst g0 g1 g3
      refine ⟨6, gu [n + 1, n + 2, n + 3, n + 4] (n + 5) (PM.set (some (.sep (pk []))) aa O (n + 4)) [(0, some (.cells (bG S 1 (pts C).length) true)), (1, some (.cells (aJ (pts C)) true)), (2, some (bV S C)), (3, some (bV S C')), (4, some (.cells (bG S 5 (pts C').length) true)), (5, some (.cells (aJ (pts C')) true))], Nat.le_of_ble_eq_true rfl, dk.put (Nat.le_of_ble_eq_true rfl) rfl (fun x hx o ho => ?_), rfl, rfl, rfl, C', g2, ?_⟩
      · simp only [List.mem_cons, List.not_mem_nil, or_false] at hx
        rcases hx with rfl | rfl | rfl | rfl | rfl | rfl
        · injection ho with ho; subst ho; exact ⟨rfl, rfl, rfl⟩
        · injection ho with ho; subst ho; exact ⟨rfl, rfl, jB _ _⟩
        · injection ho with ho; subst ho; exact ⟨rfl, rfl, rfl⟩
        · injection ho with ho; subst ho; exact ⟨rfl, rfl, rfl⟩
        · injection ho with ho; subst ho; exact ⟨rfl, rfl, rfl⟩
        · injection ho with ho; subst ho; exact ⟨rfl, rfl, jB _ _⟩
      · simp only [gu, Option.map_some, Option.map_none, cx, eV]
        rfl
  · exact hs.elim
end Go.Proofs.Ytapjijhjnloimaa
namespace Go.Proofs.Ytapjijhjnloimaa
open Go Go.RowKit
structure LnI (X : Sr) (L : Smp) : Prop where
  ok : gB X L
  fl : X.fl = aB X
  lt : aB X < 1099511627776
  up : ∀ x ∈ L, aB X ≤ x.1
theorem LnI.new {r : Int} {S : Sr} (hr : 0 ≤ r ∧ r ≤ 255) (h : jM 200 r 3 = some S) : LnI S [] := by
  have e := (tm h).2
  have hl : aB S = 0 := by subst e; unfold aB; dsimp only; split <;> omega
  exact ⟨.nil h, by rw [hl]; subst e; rfl, by omega, fun x hx => by cases hx⟩
theorem vU {X : Sr} : X.fl ≤ aB X := by unfold aB; split <;> omega
theorem iY (X : Sr) : aB { X with fl := aB X } = aB X := by
  unfold aB
  dsimp only
  by_cases h : X.ret = 0
  · rw [if_pos h, if_pos h]
  · rw [if_neg h, if_neg h]; omega
theorem Dv {X : Sr} {L : Smp} (hp : ∀ x ∈ L, 0 ≤ x.1) (hlt : aB X < 1099511627776) (hok : gB (p9 X L).1 (p9 X L).2) : LnI (p9 X L).1 (p9 X L).2 :=
  ⟨hok, (iY X).symm, by show aB { X with fl := aB X } < _; rw [iY]; exact hlt, fun x hx => by
    show aB { X with fl := aB X } ≤ _
    rw [iY]
    obtain ⟨h1, h2⟩ := rv.1 hx
    have := hp x h1
    omega⟩
section
variable {X : Sr} {L : Smp}
theorem LnI.pos (h : LnI X L) : ∀ x ∈ L, 0 ≤ x.1 := fun x hx => (h.ok.cI x hx).1.1
theorem LnI.Hk (h : LnI X L) : 0 ≤ aB X := h.ok.num.line.1
theorem LnI.del (h : LnI X L) {a b : Int} {L' : Smp} (e : aN L a b = L') (hk : gB X L') : LnI X L' := by
  subst e
  exact ⟨hk, h.fl, h.lt, fun x hx => h.up x (rv.1 hx).1⟩
theorem LnI.alt (h : LnI X L) {r p : Int} {X' : Sr} {L' : Smp} {e : Int} (he : ep X L r p = ((X', L'), e)) (hk : gB X' L') : LnI X' L' ∧ aB X ≤ aB X' := by
  unfold ep at he
  split at he
  · rename_i hq
    injection he with he1 he2
    injection he1 with he3 he4
    subst he3 he4
    have hle : aB X ≤ aB { X with ret := r, pol := p } := by rw [← h.fl]; exact vU (X := { X with ret := r, pol := p })
    have hlt : aB { X with ret := r, pol := p } < 1099511627776 := by
      have h1 := h.ok.num.mx
      have h2 := h.lt
      have h3 := h.fl
      unfold aB
      dsimp only
      split <;> omega
    exact ⟨Dv h.pos hlt hk, Int.le_trans hle (Int.le_of_eq (iY _).symm)⟩
  · injection he with he1 he2
    injection he1 with he3 he4
    subst he3 he4
    exact ⟨h, Int.le_refl _⟩
theorem LnI.add (h : LnI X L) {t v : Int} {X' : Sr} {L' : Smp} {e : Int} (he : eG X L t v 3 = ((X', L'), e)) (hk : gB X' L') : LnI X' L' ∧ aB X ≤ aB X' ∧ (e = 7 ↔ 0 ≤ t ∧ t < aB X) := by
  have herr : (cN L t v (if (3 : Int) = 0 then X.pol else 3)).2 = 0 := by
    rw [if_neg (by decide), rr]
    cases look L t <;> rfl
  have hlt := h.lt
  unfold eG at he
  by_cases h1 : t < 0 ∨ 1099511627776 ≤ t ∨ ((3 : Int) ≠ 0 ∧ ¬ (1 ≤ (3 : Int) ∧ (3 : Int) ≤ 6))
  · rw [if_pos h1] at he
    injection he with he1 he2
    injection he1 with he3 he4
    subst he3 he4 he2
    exact ⟨h, Int.le_refl _, by omega⟩
  rw [if_neg h1] at he
  by_cases h2 : t < aB X
  · rw [if_pos h2] at he
    injection he with he1 he2
    injection he1 with he3 he4
    subst he3 he4 he2
    exact ⟨h, Int.le_refl _, by omega⟩
  rw [if_neg h2, if_pos herr] at he
  injection he with he1 he2
  injection he1 with he3 he4
  subst he3 he4 he2
  have hle : aB X ≤ aB { X with mx := max X.mx t } := by rw [← h.fl]; exact vU (X := { X with mx := max X.mx t })
  have hlt2 : aB { X with mx := max X.mx t } < 1099511627776 := by
    have h1 := h.ok.num.mx
    have h2 := h.ok.num.ret
    have h3 := h.fl
    unfold aB
    dsimp only
    split <;> omega
  have hp : ∀ x ∈ (cN L t v (if (3 : Int) = 0 then X.pol else 3)).1, 0 ≤ x.1 := fun x hx => (Dt (fun y hy => (h.ok.cI y hy).1) (by omega) x hx).1
  exact ⟨Dv hp hlt2 hk, Int.le_trans hle (Int.le_of_eq (iY _).symm), by omega⟩
theorem LnI.none (h : LnI X L) : eu 0 (aB X - 1) L = [] := Am fun x hx => by have := h.up x hx; omega
theorem LnI.w (h : LnI X L) : IntKind.i64.wrap (aB X - 1) = aB X - 1 := aD (by have := h.Hk; omega) (by have := h.lt; omega)
theorem LnI.on (h : LnI X L) (v : Int) : ∃ X' L', eG X L (aB X) v 3 = ((X', L'), 0) := by
  have herr : (cN L (aB X) v (if (3 : Int) = 0 then X.pol else 3)).2 = 0 := by
    rw [if_neg (by decide), rr]
    cases look L (aB X) <;> rfl
  have h1 := h.lt
  have h2 := h.Hk
  unfold eG
  rw [if_neg (by omega), if_neg (by omega), if_pos herr]
  exact ⟨_, _, rfl⟩
theorem LnI.below (h : LnI X L) (h0 : aB X ≠ 0) : eG X L (aB X - 1) 0 3 = ((X, L), 7) := by
  have h1 := h.lt
  have h2 := h.Hk
  unfold eG
  rw [if_neg (by omega), if_pos (by omega)]
end
theorem IK {e t l : Int} (h : e = 7 ↔ 0 ≤ t ∧ t < l) (h0 : 0 ≤ t) : (decide (e = 7) == decide (t < l)) = true := by
  have e2 : decide (e = 7) = decide (t < l) := decide_eq_decide.2 ⟨fun q => (h.1 q).2, fun q => h.2 ⟨h0, q⟩⟩
  rw [e2]; simp
theorem IL {e t l : Int} (h : e = 7 ↔ 0 ≤ t ∧ t < l) (h0 : ¬ 0 ≤ t) : (decide (e = 7) == false) = true := by
  rw [decide_eq_false (fun q => h0 (h.1 q).1)]; rfl
noncomputable def KLn : FuncId → EP := bR 7 [] (a9 29 qi KOr)
theorem Hl : bH KLn := aP (au Hd E6) (by kernel_rfl) (by kernel_rfl)
noncomputable def Hm (c d : Int) (M : List Op4) (va : Nat × Nat) (X : Sr) (L : Smp) (i : Nat) : AE × AH := (mkE [(1, .fr M.length 4 (jA M)), (2, .si .u8 d), (7, ck va), (9, .si .i64 ((i : Int)))], mkH [(0, .sep (eW va X L))])
theorem kK {c d : Int} {M : List Op4} {va : Nat × Nat} {X : Sr} {L : Smp} {i : Nat} {p n : Nat} {σ : AE} {H : AH} (hp : p ≤ 0) (e1 : aA (pa 1) σ = .fr M.length 4 (jA M)) (e2 : ai H 1 (fun b => b) (aA (pa 2) σ) (.si .u8 d)) (e7 : aA (pa 7) σ = ck va) (e9 : mk (aA (pa 9) σ) = .si .i64 ((i : Int))) (h0 : H.get 0 = some (.sep (eW va X L))) : Cov p σ H n ((Hm c d M va X L i).1, (Hm c d M va X L i).2, 1) := by
  refine Cov.ofR (fun b => b) (by omega) (fun b hb => rfl) ?_ ?_ ?_
  · intro x hx
    simp only [List.mem_cons, List.not_mem_nil, or_false] at hx
    rcases hx with rfl | rfl | rfl | rfl
    · exact ai.frE e1
    · exact e2
    · exact ai.ck e7
    · exact .int e9
  · intro x hx
    simp only [List.mem_cons, List.not_mem_nil, or_false] at hx
    subst hx
    exact ⟨by simp, .inl ⟨_, h0, aU.sep _⟩⟩
  · intro x hx y hy
    simp only [List.mem_cons, List.not_mem_nil, or_false] at hx hy
    subst hx hy
    exact fun q => rfl
theorem tB (c : Int) (M : List Op4) (d : Int) (hc : 0 ≤ c ∧ c ≤ 255) (hM : Ci M) (hl : M.length ≤ 8796093022208) (hd : 0 ≤ d ∧ d ≤ 255) : az KLn 6 7 [.si .u8 c, .fr M.length 4 (jA M), .si .u8 d] .nil 0 fun v _ _ => v = .bool true ∨ v = .sb true := by
  have hdw : ba (IntKind.i64.wrap d) := by rw [aD (by omega) (by omega)]; exact ⟨by omega, by omega⟩
  have hcw : IntKind.i64.wrap c = c := aD (by omega) (by omega)
  have hnew : jM 200 c 3 = some ⟨200, c, 3, -1, 0⟩ := if_pos (by omega)
  conv => whnf
  refine ⟨200, c, 3, some ⟨200, c, 3, -1, 0⟩, rfl, congrArg (AV.si .i64) hcw, rfl, ⟨by decide, rfl, rfl, rfl, rfl⟩, hnew, fun va hs => ?_⟩
  conv => whnf
  refine bC.mk { x : Nat × Sr × Smp // x.1 ≤ 60 ∧ LnI x.2.1 x.2.2 ∧ x.2.2.length ≤ x.1 } 1 (fun x => Hm c d M va x.val.2.1 x.val.2.2 x.val.1) (fun x => 60 - x.val.1) ⟨(0, ⟨200, c, 3, -1, 0⟩, []), Nat.zero_le _, LnI.new hc hnew, Nat.le_refl _⟩ ?_ ?_
  focus
    exact kK (c := c) (i := 0) (Nat.le_refl _) rfl (ai.int rfl) rfl rfl rfl
  intro ⟨(i, X, L), hi, hI, hil⟩
  dsimp only at hi hI hil
  have hlen : L.length ≤ 40000 := by omega
  have hw : IntKind.i64.wrap ((i : Int) + 1) = ((i + 1 : Nat) : Int) := by rw [aD (by omega) (by omega)]; omega
  conv => whnf
  refine aj.dec (fun h => ?_) (fun h => ?_)
  focus
    have h2 : i < M.length := Int.ofNat_lt.1 h
    have hop := (hM _ (List.getElem_mem h2)).2.2.1
    conv => whnf
    refine aj.dec (fun h60 => ?_) (fun h60 => ?_)
    focus
      have h3 : i < 60 := by have h60 : (i : Int) < 60 := h60; omega
      conv => whnf
      refine ⟨0, va, X, L, .si .i64 (aB X), rfl, by decide, rfl, ⟨by decide, rfl, rfl, rfl, rfl⟩, ⟨rfl, rfl⟩, ?_⟩
      conv => whnf
      refine Idx.mk i rfl h2 ?_
      conv => whnf
      refine aF (Ch h2 rfl) ?_
      conv => whnf
      refine aj.dec (fun hk1 => ?_) (fun hk1 => ?_)
      focus
        conv => whnf
        refine ⟨0, va, X, L, M[i].2.1, M[i].2.2.1, (aN L M[i].2.1 M[i].2.2.1), _, rfl, by decide, rfl, ⟨by decide, rfl, rfl, rfl, rfl⟩, rfl, rfl, hlen, rfl, rfl, fun hk => ?_⟩
        have hI2 := hI.del rfl hk
        have hl2 := iV L M[i].2.1 M[i].2.2.1
        conv => whnf
        refine ⟨0, va, X, (aN L M[i].2.1 M[i].2.2.1), .si .i64 (aB X), rfl, by decide, rfl, ⟨by decide, rfl, rfl, rfl, rfl⟩, ⟨rfl, rfl⟩, ?_⟩
        conv => whnf
        refine aj.dec (fun z => absurd z (Int.not_lt.2 (Int.le_refl _))) (fun _ => ?_)
        conv => whnf
        refine aj.cQ (fun z => absurd hk1 z) (fun _ => ?_)
        conv => whnf
        refine ⟨0, va, X, (aN L M[i].2.1 M[i].2.2.1), .si .i64 (aB X), rfl, by decide, rfl, ⟨by decide, rfl, rfl, rfl, rfl⟩, ⟨rfl, rfl⟩, ?_⟩
        conv => whnf
        refine ⟨0, va, X, (aN L M[i].2.1 M[i].2.2.1), [], rfl, by decide, rfl, ⟨by decide, rfl, rfl, rfl, rfl⟩, ⟨_, _, 0, aB X - 1, rfl, rfl, congrArg (AV.si .i64) hI2.w, hI2.none.symm⟩, ?_⟩
        conv => whnf
        refine aj.cQ (fun z => absurd rfl z) (fun _ => ?_)
        conv => whnf
        exact ⟨⟨(i + 1, X, (aN L M[i].2.1 M[i].2.2.1)), h3, hI2, by dsimp only; omega⟩, by show 60 - (i + 1) < 60 - i; omega, kK (c := c) (Nat.le_refl _) rfl (ai.int rfl) rfl (congrArg (AV.si .i64) hw) rfl⟩
      conv => whnf
      refine aj.dec (fun hk2 => ?_) (fun hk2 => ?_)
      focus
        conv => whnf
        refine ⟨0, va, X, L, M[i].2.1, M[i].2.2.2, (ep X L M[i].2.1 M[i].2.2.2).1.1, (ep X L M[i].2.1 M[i].2.2.2).1.2, _, rfl, by decide, rfl, ⟨by decide, rfl, rfl, rfl, rfl⟩, rfl, rfl, hlen, rfl, fun hk => ?_⟩
        obtain ⟨hI2, hle⟩ := hI.alt rfl hk
        have hl2 := vN X L M[i].2.1 M[i].2.2.2
        conv => whnf
        refine ⟨0, va, (ep X L M[i].2.1 M[i].2.2.2).1.1, (ep X L M[i].2.1 M[i].2.2.2).1.2, .si .i64 (aB (ep X L M[i].2.1 M[i].2.2.2).1.1), rfl, by decide, rfl, ⟨by decide, rfl, rfl, rfl, rfl⟩, ⟨rfl, rfl⟩, ?_⟩
        conv => whnf
        refine aj.dec (fun z => absurd z (Int.not_lt.2 hle)) (fun _ => ?_)
        conv => whnf
        refine aj.cQ (fun _ => ?_) (fun z => absurd z hk1)
        conv => whnf
        refine aj.cQ (fun z => absurd hk2 z) (fun _ => ?_)
        conv => whnf
        refine ⟨0, va, (ep X L M[i].2.1 M[i].2.2.2).1.1, (ep X L M[i].2.1 M[i].2.2.2).1.2, .si .i64 (aB (ep X L M[i].2.1 M[i].2.2.2).1.1), rfl, by decide, rfl, ⟨by decide, rfl, rfl, rfl, rfl⟩, ⟨rfl, rfl⟩, ?_⟩
        conv => whnf
        refine ⟨0, va, (ep X L M[i].2.1 M[i].2.2.2).1.1, (ep X L M[i].2.1 M[i].2.2.2).1.2, [], rfl, by decide, rfl, ⟨by decide, rfl, rfl, rfl, rfl⟩, ⟨_, _, 0, aB (ep X L M[i].2.1 M[i].2.2.2).1.1 - 1, rfl, rfl, congrArg (AV.si .i64) hI2.w, hI2.none.symm⟩, ?_⟩
        conv => whnf
        refine aj.cQ (fun z => absurd rfl z) (fun _ => ?_)
        conv => whnf
        exact ⟨⟨(i + 1, (ep X L M[i].2.1 M[i].2.2.2).1.1, (ep X L M[i].2.1 M[i].2.2.2).1.2), h3, hI2, by dsimp only; omega⟩, by show 60 - (i + 1) < 60 - i; omega, kK (c := c) (Nat.le_refl _) rfl (ai.int rfl) rfl (congrArg (AV.si .i64) hw) rfl⟩
      obtain ⟨⟨⟨X', L'⟩, e⟩, he⟩ : ∃ r, eG X L M[i].2.1 M[i].2.2.1 3 = r := ⟨_, rfl⟩
      have hl2 := vM X L M[i].2.1 M[i].2.2.1 3
      rw [he] at hl2
      dsimp only at hl2
      conv => whnf
      refine ⟨0, va, X, L, M[i].2.1, M[i].2.2.1, 3, X', L', e, rfl, by decide, rfl, ⟨by decide, rfl, rfl, rfl, rfl⟩, ⟨_, _, rfl, rfl, rfl⟩, rfl, hop, hlen, he, fun hk => ?_⟩
      obtain ⟨hI2, hle, h7⟩ := hI.add he hk
      have hq1 := IK h7
      have hq2 := IL h7
      conv => whnf
      refine ⟨0, va, X', L', .si .i64 (aB X'), rfl, by decide, rfl, ⟨by decide, rfl, rfl, rfl, rfl⟩, ⟨rfl, rfl⟩, ?_⟩
      conv => whnf
      refine aj.dec (fun z => absurd z (Int.not_lt.2 hle)) (fun _ => ?_)
      conv => whnf
      refine aj.cQ (fun _ => ?_) (fun z => absurd z hk1)
      conv => whnf
      refine aj.cQ (fun _ => ?_) (fun z => absurd z hk2)
      conv => whnf
      refine aj.dec (fun h0 => ?_) (fun h0 => ?_)
      focus
        conv => whnf
        refine aj.nsb (fun z => absurd ((hq1 h0).symm.trans z) (by decide)) (fun _ => ?_)
        conv => whnf
        refine ⟨0, va, X', L', .si .i64 (aB X'), rfl, by decide, rfl, ⟨by decide, rfl, rfl, rfl, rfl⟩, ⟨rfl, rfl⟩, ?_⟩
        conv => whnf
        refine ⟨0, va, X', L', [], rfl, by decide, rfl, ⟨by decide, rfl, rfl, rfl, rfl⟩, ⟨_, _, 0, aB X' - 1, rfl, rfl, congrArg (AV.si .i64) hI2.w, hI2.none.symm⟩, ?_⟩
        conv => whnf
        refine aj.cQ (fun z => absurd rfl z) (fun _ => ?_)
        conv => whnf
        exact ⟨⟨(i + 1, X', L'), h3, hI2, by dsimp only; omega⟩, by show 60 - (i + 1) < 60 - i; omega, kK (c := c) (Nat.le_refl _) rfl (ai.int rfl) rfl (congrArg (AV.si .i64) hw) rfl⟩
      conv => whnf
      refine aj.nsb (fun z => absurd ((hq2 h0).symm.trans z) (by decide)) (fun _ => ?_)
      conv => whnf
      refine ⟨0, va, X', L', .si .i64 (aB X'), rfl, by decide, rfl, ⟨by decide, rfl, rfl, rfl, rfl⟩, ⟨rfl, rfl⟩, ?_⟩
      conv => whnf
      refine ⟨0, va, X', L', [], rfl, by decide, rfl, ⟨by decide, rfl, rfl, rfl, rfl⟩, ⟨_, _, 0, aB X' - 1, rfl, rfl, congrArg (AV.si .i64) hI2.w, hI2.none.symm⟩, ?_⟩
      conv => whnf
      refine aj.cQ (fun z => absurd rfl z) (fun _ => ?_)
      conv => whnf
      exact ⟨⟨(i + 1, X', L'), h3, hI2, by dsimp only; omega⟩, by show 60 - (i + 1) < 60 - i; omega, kK (c := c) (Nat.le_refl _) rfl (ai.int rfl) rfl (congrArg (AV.si .i64) hw) rfl⟩
    conv => whnf
    refine ⟨0, va, X, L, rfl, by decide, rfl, ⟨by decide, rfl, rfl, rfl, rfl⟩, ⟨by decide, rfl, rfl, rfl, rfl⟩, fun vb => ?_⟩
    conv => whnf
    refine ⟨0, va, X, L, .si .i64 (aB X), rfl, by decide, rfl, ⟨by decide, rfl, rfl, rfl, rfl⟩, ⟨rfl, rfl⟩, ?_⟩
    obtain ⟨X1, L1, hon⟩ := hI.on (IntKind.i64.wrap d)
    conv => whnf
    refine ⟨1, vb, X, L, aB X, IntKind.i64.wrap d, 3, X1, L1, 0, rfl, by decide, rfl, ⟨by decide, rfl, rfl, rfl, rfl⟩, ⟨_, _, rfl, rfl, rfl⟩, rfl, hdw, hlen, hon, fun _ => ?_⟩
    conv => whnf
    refine aj.dec (fun _ => ?_) (fun z => absurd rfl z)
    conv => whnf
    refine aj.dec (fun hz => ?_) (fun hz => ?_)
    focus
      conv => whnf
      exact .inr rfl
    have hbl := hI.below hz
    conv => whnf
    refine ⟨0, va, X, L, aB X - 1, 0, 3, X, L, 7, rfl, by decide, rfl, ⟨by decide, rfl, rfl, rfl, rfl⟩, ⟨_, _, rfl, congrArg (AV.si .i64) hI.w, rfl⟩, rfl, ⟨by decide, by decide⟩, hlen, hbl, fun _ => ?_⟩
    conv => whnf
    refine aj.dec (fun _ => ?_) (fun z => absurd rfl z)
    conv => whnf
    exact .inr rfl
  conv => whnf
  refine ⟨0, va, X, L, rfl, by decide, rfl, ⟨by decide, rfl, rfl, rfl, rfl⟩, ⟨by decide, rfl, rfl, rfl, rfl⟩, fun vb => ?_⟩
  conv => whnf
  refine ⟨0, va, X, L, .si .i64 (aB X), rfl, by decide, rfl, ⟨by decide, rfl, rfl, rfl, rfl⟩, ⟨rfl, rfl⟩, ?_⟩
  obtain ⟨X1, L1, hon⟩ := hI.on (IntKind.i64.wrap d)
  conv => whnf
  refine ⟨1, vb, X, L, aB X, IntKind.i64.wrap d, 3, X1, L1, 0, rfl, by decide, rfl, ⟨by decide, rfl, rfl, rfl, rfl⟩, ⟨_, _, rfl, rfl, rfl⟩, rfl, hdw, hlen, hon, fun _ => ?_⟩
  conv => whnf
  refine aj.dec (fun _ => ?_) (fun z => absurd rfl z)
  conv => whnf
  refine aj.dec (fun hz => ?_) (fun hz => ?_)
  focus
    conv => whnf
    exact .inr rfl
  have hbl := hI.below hz
  conv => whnf
  refine ⟨0, va, X, L, aB X - 1, 0, 3, X, L, 7, rfl, by decide, rfl, ⟨by decide, rfl, rfl, rfl, rfl⟩, ⟨_, _, rfl, congrArg (AV.si .i64) hI.w, rfl⟩, rfl, ⟨by decide, by decide⟩, hlen, hbl, fun _ => ?_⟩
  conv => whnf
  refine aj.dec (fun _ => ?_) (fun z => absurd rfl z)
  conv => whnf
  exact .inr rfl
end Go.Proofs.Ytapjijhjnloimaa
