/- Texts of our own, joined: the engine, the machine that runs code, and what is known of the functions. -/
import Derived.Test.YtdfeigkooeeeaaaJi
import Derived.Test.YtdfeigkooeeeaaaJh
set_option linter.unusedSimpArgs false
set_option linter.unusedVariables false
namespace Go.Proofs.Ytdfeigkooeeeaaa
open Go Go.RowKit
set_option maxRecDepth 20000
noncomputable def sampR (R : Rd) : Rd := valR (timeR (keyR R))
def loopR (f : Rd → Rd) : Nat → Rd → Rd
  | 0, R => R
  | k + 1, R => if moreR R = true then loopR f k (f R) else R
noncomputable def maddR (R : Rd) : Rd := loopR sampR (sampR R).ws.length (sampR R)
theorem next_ws (R : Rd) : (nextR R).2.ws.length ≤ R.ws.length ∧ (moreR R = true → (nextR R).2.ws.length < R.ws.length) := by
  unfold nextR
  split
  · rename_i h
    have hp : 0 < R.ws.length := by unfold moreR at h; simp at h; exact h.2
    exact ⟨by simp, fun _ => by simp; omega⟩
  · rename_i h
    exact ⟨by rw [fail_ws]; exact Nat.le_refl _, fun q => absurd q h⟩
theorem told_ws (g : List Nat → Int × Int) (R : Rd) : (toldR g R).2.ws.length ≤ R.ws.length := by
  unfold toldR
  dsimp only
  split
  · exact (next_ws R).1
  · rw [fail_ws]; exact (next_ws R).1
theorem or_ws (w : List Nat) (z : Int) (R : Rd) : (orR w z R).2.ws.length ≤ R.ws.length := by
  unfold orR
  split
  · exact (next_ws R).1
  · exact told_ws _ R
theorem samp_ws (R : Rd) : (sampR R).ws.length ≤ R.ws.length ∧ (moreR R = true → (sampR R).ws.length < R.ws.length) := by
  have h1 : (keyR R).ws.length = (nextR R).2.ws.length := rfl
  have h2 : (timeR (keyR R)).ws.length ≤ (keyR R).ws.length := or_ws [42] (-1) (keyR R)
  have h3 : (sampR R).ws.length ≤ (timeR (keyR R)).ws.length := told_ws numF (timeR (keyR R))
  have h4 := next_ws R
  exact ⟨by omega, fun h => by have := h4.2 h; omega⟩
theorem more_len {R : Rd} (h : moreR R = true) : 0 < R.ws.length := by unfold moreR at h; simp at h; exact h.2
theorem loop_any {f : Rd → Rd} (hf : ∀ R, moreR R = true → (f R).ws.length < R.ws.length) : ∀ (k l : Nat) (R : Rd), R.ws.length ≤ k → R.ws.length ≤ l → loopR f k R = loopR f l R
  | 0, 0, R, _, _ => rfl
  | 0, l + 1, R, h, _ => by
    have : ¬ moreR R = true := fun q => by have := more_len q; omega
    unfold loopR; rw [if_neg this]
  | k + 1, 0, R, _, h => by
    have : ¬ moreR R = true := fun q => by have := more_len q; omega
    unfold loopR; rw [if_neg this]
  | k + 1, l + 1, R, h1, h2 => by
    unfold loopR
    split
    · rename_i q
      have := hf R q
      exact loop_any hf k l (f R) (by omega) (by omega)
    · rfl
theorem loop_go {f : Rd → Rd} (hf : ∀ R, moreR R = true → (f R).ws.length < R.ws.length) {R : Rd} (h : moreR R = true) : loopR f (f R).ws.length (f R) = loopR f R.ws.length R := by
  have h1 := more_len h
  have h2 := hf R h
  obtain ⟨k, hk⟩ : ∃ k, R.ws.length = k + 1 := ⟨R.ws.length - 1, by omega⟩
  rw [hk]
  conv => rhs; unfold loopR
  rw [if_pos h]
  exact loop_any hf _ _ _ (Nat.le_refl _) (by omega)
theorem loop_stop {f : Rd → Rd} {R : Rd} (h : ¬ moreR R = true) : ∀ k, loopR f k R = R
  | 0 => rfl
  | k + 1 => by unfold loopR; rw [if_neg h]
theorem key_rows (R : Rd) : (keyR R).ks.length = R.ks.length + 1 ∧ (keyR R).ts = R.ts ∧ (keyR R).vs = R.vs := by
  have h := next_same R
  refine ⟨?_, h.ts, h.vs⟩
  show ((nextR R).2.ks ++ [(nextR R).1]).length = _
  rw [h.ks]; simp
theorem time_rows (R : Rd) : (timeR R).ts.length = R.ts.length + 1 ∧ (timeR R).ks = R.ks ∧ (timeR R).vs = R.vs := by
  have h := or_same [42] (-1) R
  refine ⟨?_, h.ks, h.vs⟩
  show ((orR [42] (-1) R).2.ts ++ [(orR [42] (-1) R).1]).length = _
  rw [h.ts]; simp
theorem val_rows (R : Rd) : (valR R).vs.length = R.vs.length + 1 ∧ (valR R).ks = R.ks ∧ (valR R).ts = R.ts := by
  have h := told_same numF R
  refine ⟨?_, h.ks, h.ts⟩
  show ((toldR numF R).2.vs ++ [(toldR numF R).1]).length = _
  rw [h.vs]; simp
theorem samp_rows (R : Rd) : (sampR R).ks.length = R.ks.length + 1 ∧ (sampR R).ts.length = R.ts.length + 1 ∧ (sampR R).vs.length = R.vs.length + 1 := by
  have k := key_rows R
  have t := time_rows (keyR R)
  have v := val_rows (timeR (keyR R))
  refine ⟨?_, ?_, ?_⟩
  · show (valR (timeR (keyR R))).ks.length = _; rw [v.2.1, t.2.1, k.1]
  · show (valR (timeR (keyR R))).ts.length = _; rw [v.2.2, t.1, k.2.1]
  · show (valR (timeR (keyR R))).vs.length = _; rw [v.1, t.2.2, k.2.2]
theorem WOk.key {R : Rd} (h : WOk R) : WOk (keyR R) := h.next.2
theorem WOk.time {R : Rd} (h : WOk R) : WOk (timeR R) := h.or [42] (-1)
theorem WOk.val {R : Rd} (h : WOk R) : WOk (valR R) := h.told numF
theorem WOk.samp {R : Rd} (h : WOk R) : WOk (sampR R) := h.key.time.val
def Bd (B : Nat) (R : Rd) : Prop := WOk R ∧ R.ks.length + R.ws.length ≤ B ∧ R.ts.length + R.ws.length ≤ B ∧ R.vs.length + R.ws.length ≤ B
theorem Bd.samp {B : Nat} {R : Rd} (h : Bd B R) : Bd (B + 1) (sampR R) ∧ (moreR R = true → Bd B (sampR R)) := by
  have r := samp_rows R
  have w := samp_ws R
  obtain ⟨h0, h1, h2, h3⟩ := h
  exact ⟨⟨h0.samp, by omega, by omega, by omega⟩, fun q => by have := w.2 q; exact ⟨h0.samp, by omega, by omega, by omega⟩⟩
noncomputable def KSa : FuncId → EP := withN 53 (natRdP (fun R => R.ks.length ≤ 1000000) noA (unitV keyR)) (withN 69 (natRdP (fun R => WOk R ∧ R.ts.length ≤ 1000000) noA (unitV timeR)) (withN 68 (natRdP (fun R => WOk R ∧ R.vs.length ≤ 1000000) noA (unitV valR)) evP))
theorem KSa_ok : TabP KSa := withN_ok (withN_ok (withN_ok evP_ok n_valR) n_timeR) n_keyR
set_option maxHeartbeats 8000000 in
set_option maxRecDepth 100000 in
theorem sample_runC (R : Rd) (hok : Bd 900000 R) : postC (callT KSa 4 67) (.ptr 0 0 :: []) (mkH (memO (rdO R) 0)) 7 (RdP (unitV sampR R).1 (unitV sampR R).2) := by
  obtain ⟨h0, h1, h2, h3⟩ := hok
  have k := key_rows R
  have t := time_rows (keyR R)
  have b1 : R.ks.length ≤ 1000000 := by omega
  have b2 : (keyR R).ts.length ≤ 1000000 := by rw [k.2.1]; omega
  have b3 : (timeR (keyR R)).vs.length ≤ 1000000 := by rw [t.2.2, k.2.2]; omega
  show callT KSa 4 67 _ _ _ _
  conv => whnf
  refine ⟨0, 1, 2, 3, 4, 5, 6, R, rfl, rfl, ⟨by decide, by decide, rfl, rfl, rfl, rfl, rfl, rfl, rfl⟩, b1, ?_⟩
  conv => whnf
  refine ⟨0, 7, 8, 9, 10, 11, 12, keyR R, rfl, rfl, ⟨by decide, by decide, rfl, rfl, rfl, rfl, rfl, rfl, rfl⟩, ⟨h0.key, b2⟩, ?_⟩
  conv => whnf
  refine ⟨0, 13, 14, 15, 16, 17, 18, timeR (keyR R), rfl, rfl, ⟨by decide, by decide, rfl, rfl, rfl, rfl, rfl, rfl, rfl⟩, ⟨h0.key.time, b3⟩, ?_⟩
  conv => whnf
  exact rdLeafP 19 20 21 22 23 24 (.same rfl) (by decide) rfl rfl rfl (txts_map _) rfl (ints_map _) rfl (ints_map _) rfl (labs_map _) rfl (ints_map _) rfl (txts_map _)
theorem n_sample : NatP 67 (natRdP (Bd 900000) noA (unitV sampR)) := natRdP_of (callT_nat KSa_ok 4 _) (by kernel_rfl) noA_ok (fun _ => rfl) (fun R => ⟨rfl, fun _ => rfl⟩) fun R h => sample_runC R h
noncomputable def KMa : FuncId → EP := withN 67 (natRdP (Bd 900000) noA (unitV sampR)) evP
theorem KMa_ok : TabP KMa := withN_ok evP_ok n_sample
/-- A reader behind a loop's round. -/
noncomputable def rdS (R : Rd) : AE × AH := (mkE [(0, .ptr 0 0)], rdM R)
theorem rdCovS {σ : AE} {H : AH} {n : Nat} {R : Rd} (j1 j2 j3 j4 j5 j6 : Nat) {l l1 l2 l3 l4 l5 l6 : List AV} (he : getq (pa 0) σ = .ptr 0 0) (hd : [0, j1, j2, j3, j4, j5, j6].Nodup) (h0 : PM.get H 0 = some (.cells l true)) (hm : l.map mk = rdC j1 j2 j3 j4 j5 j6 R) (r1 : PM.get H j1 = some (.cells l1 true)) (m1 : l1.map mk = txts R.ks) (r2 : PM.get H j2 = some (.cells l2 true)) (m2 : l2.map mk = ints R.ts) (r3 : PM.get H j3 = some (.cells l3 true)) (m3 : l3.map mk = ints R.vs) (r4 : PM.get H j4 = some (.cells l4 true)) (m4 : l4.map mk = labs R.ls) (r5 : PM.get H j5 = some (.cells l5 true)) (m5 : l5.map mk = ints R.q.times) (r6 : PM.get H j6 = some (.cells l6 true)) (m6 : l6.map mk = txts R.fs) : Cov 7 σ H n ((rdS R).1, (rdS R).2, 13) :=
  rdCovG j1 j2 j3 j4 j5 j6 (le := [(0, .ptr 0 0)]) (fun x hx => by
    simp only [List.mem_cons, List.not_mem_nil, or_false] at hx
    subst hx
    exact SubV.ptr (Nat.le_of_ble_eq_true rfl) (by rw [he]; rfl)) hd h0 hm r1 m1 r2 m2 r3 m3 r4 m4 r5 m5 r6 m6
set_option maxHeartbeats 8000000 in
set_option maxRecDepth 100000 in
theorem madd_runC (R : Rd) (hok : Bd 800000 R) : postC (callT KMa 4 47) (.ptr 0 0 :: []) (mkH (memO (rdO R) 0)) 7 (RdP (unitV maddR R).1 (unitV maddR R).2) := by
  have hs := hok.samp.1
  have leaf : ∀ {R' : Rd} {H' : AH} {n' : Nat} {l : List AV}, maddR R = R' → PM.get H' 0 = some (.cells l true) → l.map mk = rdC 7 8 9 10 11 12 R' → PM.get H' 7 = some (.cells (txts R'.ks) true) → PM.get H' 8 = some (.cells (ints R'.ts) true) → PM.get H' 9 = some (.cells (ints R'.vs) true) → PM.get H' 10 = some (.cells (labs R'.ls) true) → PM.get H' 11 = some (.cells (ints R'.q.times) true) → PM.get H' 12 = some (.cells (txts R'.fs) true) → ∃ v2 H2 m, Cov 7 (mkE [(0, .tup [])]) H' n' (mkE [(0, v2)], H2, m) ∧ RdP (unitV maddR R).1 (unitV maddR R).2 v2 H2 m := fun e h0 hm r1 r2 r3 r4 r5 r6 => by
    unfold unitV; rw [e]
    exact rdLeafP 7 8 9 10 11 12 (.same rfl) (by decide) h0 hm r1 (txts_map _) r2 (ints_map _) r3 (ints_map _) r4 (labs_map _) r5 (ints_map _) r6 (txts_map _)
  show callT KMa 4 47 _ _ _ _
  conv => whnf
  refine ⟨0, 1, 2, 3, 4, 5, 6, R, rfl, rfl, ⟨by decide, by decide, rfl, rfl, rfl, rfl, rfl, rfl, rfl⟩, ⟨hok.1, by have := hok.2.1; omega, by have := hok.2.2.1; omega, by have := hok.2.2.2; omega⟩, ?_⟩
  conv => whnf
  refine LoopP.mk { X : Rd // Bd 800001 X ∧ loopR sampR X.ws.length X = maddR R } 13 (fun X => rdS X.val) (fun X => X.val.ws.length) ⟨sampR R, hs, rfl⟩ ?_ ?_
  · exact rdCovS 7 8 9 10 11 12 rfl (by decide) rfl rfl rfl (txts_map _) rfl (ints_map _) rfl (ints_map _) rfl (labs_map _) rfl (ints_map _) rfl (txts_map _)
  · intro ⟨X, hB, hX⟩
    conv => whnf
    refine Fork.dec (fun h0 => ?_) (fun h0 => ?_)
    · conv => whnf
      refine Fork.dec (fun hp => ?_) (fun hp => ?_)
      · have hp : 0 < X.ws.length := by exact Int.ofNat_lt.1 hp
        have hm := more_yes h0 hp
        have hg := (loop_go (f := sampR) (fun R q => (samp_ws R).2 q) hm).trans hX
        have hb := hB.samp.2 hm
        have hlt := (samp_ws X).2 hm
        conv => whnf
        refine ⟨0, 7, 8, 9, 10, 11, 12, X, rfl, rfl, ⟨by decide, by decide, rfl, rfl, rfl, rfl, rfl, rfl, rfl⟩, ⟨hB.1, by have := hB.2.1; omega, by have := hB.2.2.1; omega, by have := hB.2.2.2; omega⟩, ?_⟩
        conv => whnf
        exact ⟨⟨sampR X, hb, hg⟩, hlt, rdCovS 13 14 15 16 17 18 rfl (by decide) rfl rfl rfl (txts_map _) rfl (ints_map _) rfl (ints_map _) rfl (labs_map _) rfl (ints_map _) rfl (txts_map _)⟩
      · have hp : ¬ 0 < X.ws.length := fun q => hp (by exact Int.ofNat_lt.2 q)
        have e : maddR R = X := by rw [← hX, loop_stop (more_no2 hp)]
        conv => whnf
        exact leaf e rfl rfl rfl rfl rfl rfl rfl rfl
    · have e : maddR R = X := by rw [← hX, loop_stop (more_no1 h0)]
      conv => whnf
      exact leaf e rfl rfl rfl rfl rfl rfl rfl rfl
theorem n_madd : NatP 47 (natRdP (Bd 800000) noA (unitV maddR)) := natRdP_of (callT_nat KMa_ok 4 _) (by kernel_rfl) noA_ok (fun _ => rfl) (fun R => ⟨rfl, fun _ => rfl⟩) fun R h => madd_runC R h
end Go.Proofs.Ytdfeigkooeeeaaa
namespace Go.Proofs.Ytdfeigkooeeeaaa
open Go Go.RowKit
set_option maxRecDepth 20000
section
variable {φ ψ : Ph} {H : AH} {n : Nat} {h0 hp : Hp}
/-- What a run of its own froze is frozen for its caller too. -/
theorem stabUse {H' : AH} {n' : Nat} {g : Hp} (hr : HR φ H n h0 hp) (hg : HR ψ H' n' hp g) (hy : ∀ q, ψ.y q → φ.z q) : ∃ χ, PLe φ χ ∧ HR χ H n h0 g ∧ ∀ v w, stab v = true → VR ψ v w → VR χ v w := by
  have hg2 : HR φ H n h0 g := hr.grow (fun b o hb => (hg.base b o hb).2) hg.size
  have hb0 : ∀ B, hp.f B = none → h0.f B = none := fun B e => by
    cases q : h0.f B with
    | none => rfl
    | some o => have := (hr.base B o q).2; rw [e] at this; cases this
  have own : ∀ B, hp.f B = none → ∀ b o p, H.get b = some o → o.own = true → φ b = some p → p.B ≠ B := fun B e b o p hb hw hp' q => by
    obtain ⟨ob, _, h1, _⟩ := hr.of hb hp'
    rw [q, e] at h1; cases h1
  have sub : ∀ q, ψ.z q → (φ.more fun q => ψ.z q ∧ hp.f q.B = none).z q := fun q hq => by
    obtain ⟨⟨_, hyq⟩, _⟩ := hg.frz q hq
    rcases hyq with hyq | hyq
    · exact .inl (hy q hyq)
    · exact .inr ⟨hq, hyq⟩
  refine ⟨φ.more fun q => ψ.z q ∧ hp.f q.B = none, φ.more_le _, hg2.more fun q hq => ?_, fun v w hs hv => stab_VR sub hs hv⟩
  obtain ⟨⟨hf, _⟩, _⟩ := hg.frz q hq.1
  exact ⟨FzR.mono sub hf, hb0 _ hq.2, own _ hq.2⟩
/-- A run on a memory of its own that yields frozen rows alone. -/
theorem smallStab {f : FuncId} {run : List AV → AH → Nat → PK → Prop} (hrun : NatP f run) {args0 : List AV} {H0 : AH} {n0 : Nat} {Q : AV → Prop} (hQ : ∀ v, Q v → stab v = true) (h : run args0 H0 n0 fun u _ _ => Q u)
    {vs : Array Value} {κ : PK} {K : KH} (hk' : ∀ v, Q v → κ v H n) (hr : HR φ H n h0 hp) (hk : ThenP φ h0 κ K) (hic : isCall Try.prog f = true) {φ0 : Ph} (hr0 : Wf hp → HR φ0 H0 n0 hp hp) (hy : φ0.y = φ.z) (hargs : VRs φ0 args0 vs.toList) : CallF Try.prog f vs hp K := by
  have key : Wf hp → CallF Try.prog f vs hp K := fun hw => hrun args0 H0 n0 _ h φ0 hp hp vs K (hr0 hw) hargs fun ψ u H' n' w g hle hg hu he => by
    obtain ⟨χ, h1, h2, h3⟩ := stabUse hr hg (fun q hq => hy ▸ hle.y q hq)
    exact hk χ u H n w g h1 h2 (h3 u w (hQ u he) hu) (hk' u he)
  exact ⟨hic, fun w hi => (key hi.wf).2 w hi⟩
end
/-- A row of one's own is frozen: its block has no name any more. -/
theorem HR.frzC {φ : Ph} {H : AH} {n : Nat} {h0 h : Hp} (hr : HR φ H n h0 h) {b m k x : Nat} {l s : List AV} {z : Bool} {v : Value} (hb : H.get b = some (.cells l z)) (hv : VR φ (.rw b 0 m k x) v) (hx : x ≠ 4) (hs : s.all flat.flat1 = true) (hsl : s.length = m * k) (hmk : l.map Go.Proofs.Ytdfeigkooeeeaaa.mk = s.map Go.Proofs.Ytdfeigkooeeeaaa.mk) :
    ∃ χ, PLe φ χ ∧ HR χ (H.set none depthH b) n h0 h ∧ VR χ (.fr m k s) v := by
  have hk := hr.kill depthH b
  have hll : l.length = m * k := by have := congrArg List.length hmk; simp only [List.length_map] at this; omega
  have hst : s.all stab = true := by
    rw [List.all_eq_true] at hs ⊢
    intro y hy
    have := hs y hy
    cases y <;> first | rfl | cases this
  rcases hv.rw_inv with ⟨h1, hem⟩ | ⟨p, a, C, hpb, rfl, h2, h3, h4, h5, _, _⟩
  · have hs0 : s = [] := List.eq_nil_of_length_eq_zero (by rw [hsl, h1, Nat.zero_mul])
    subst h1 hs0
    rw [hem.nil hx]
    exact ⟨φ, .refl φ, hk, .fre fun _ => rfl⟩
  · by_cases hm : m = 0
    · have hs0 : s = [] := List.eq_nil_of_length_eq_zero (by rw [hsl, hm, Nat.zero_mul])
      subst hm hs0
      exact ⟨φ, .refl φ, hk, .fre fun q => by cases q⟩
    · have ha := h2 hm
      subst ha
      obtain ⟨ob, hq0, hq1, cc, t, fz, rfl, o1, o2, o3, o4, o5⟩ := hr.of hb hpb
      refine ⟨φ.more fun q => q = ⟨p.B, p.s + 0, s⟩, φ.more_le _, hk.more fun q hq => ?_, ?_⟩
      · subst hq
        refine ⟨⟨⟨(hr.dom _ _ hpb).2, hst⟩, cc, t, fz, hq1, (show p.s + 0 + s.length ≤ cc.size by omega), CR.mk_flat o5 hmk hs⟩, hq0, fun b' o' p' e1 e2 e3 e4 => ?_⟩
        rcases PM.get_set depthH H b b' o' e1 with ⟨_, h⟩ | ⟨h6, h7⟩
        · cases h
        · exact h6 (hr.inj b' b o' _ p' p h7 hb e2 rfl e3 hpb e4)
      · have : VR (φ.more fun q => q = ⟨p.B, p.s + 0, s⟩) (.fr m k s) (.slice (some ⟨p.B, p.s + 0 + 0, none⟩) m C) := .fr (q := ⟨p.B, p.s + 0, s⟩) (o := 0) (.inr rfl) h4 (subL_all hsl)
        exact this
theorem VRs.at' {φ : Ph} : ∀ {l : List AV} {vs : List Value}, VRs φ l vs → ∀ {i : Nat} {a : AV}, l[i]? = some a → ∃ v, vs[i]? = some v ∧ VR φ a v
  | [], _, _, i, a, h => by simp at h
  | b :: l, vs, hv, i, a, h => by
    obtain ⟨v, us, rfl, h1, h2⟩ := hv.cons_inv
    cases i with
    | zero => simp at h; subst h; exact ⟨v, rfl, h1⟩
    | succ i => simp at h; obtain ⟨w, h3, h4⟩ := VRs.at' h2 h; exact ⟨w, by simpa using h3, h4⟩
theorem VRs.set' {φ χ : Ph} (hle : SLe φ χ) : ∀ {l : List AV} {vs : List Value}, VRs φ l vs → ∀ {i : Nat} {a' : AV} {v : Value}, vs[i]? = some v → VR χ a' v → VRs χ (l.set i a') vs
  | [], _, hv, i, a', v, h, _ => by rw [hv.nil_inv] at h; simp at h
  | b :: l, vs, hv, i, a', v, h, hx => by
    obtain ⟨w, us, rfl, h1, h2⟩ := hv.cons_inv
    cases i with
    | zero => simp at h; subst h; exact .cons hx (VRs.smono hle _ _ h2)
    | succ i => simp at h; exact .cons (h1.smono hle) (VRs.set' hle h2 h hx)
/-- A struct's row is frozen. -/
theorem FzTo.aggRow {H : AH} {n i b m k : Nat} {l L s : List AV} {x : AV} {z : Bool} (hi : l[i]? = some (.rw b 0 m k 0)) (hb : H.get b = some (.cells L z)) (hs : s.all flat.flat1 = true) (hsl : s.length = m * k) (hmk : L.map mk = s.map mk) :
    ∀ (φ : Ph) (h0 h : Hp) (w : Value), HR φ H n h0 h → VR φ (.tup [.agg l, x]) w → ∃ ψ, PLe φ ψ ∧ HR ψ (H.set none depthH b) n h0 h ∧ VR ψ (.tup [.agg (l.set i (.fr m k s)), x]) w := fun φ h0 h w hr hw => by
  obtain ⟨cs, rfl, hv⟩ := hw.tup_inv
  obtain ⟨v1, v2, rfl, e1, e2⟩ := vs2 hv
  obtain ⟨ds, rfl, hd⟩ := e1.agg_inv
  obtain ⟨v, h1, h2⟩ := VRs.at' hd hi
  obtain ⟨χ, k1, k2, k3⟩ := hr.frzC hb h2 (by decide) hs hsl hmk
  exact ⟨χ, k1, k2, .tup (.cons (.agg (VRs.set' k1.s hd h1 k3)) (.cons (e2.smono k1.s) .nil))⟩
end Go.Proofs.Ytdfeigkooeeeaaa
namespace Go.Proofs.Ytdfeigkooeeeaaa
open Go Go.RowKit
set_option maxRecDepth 20000
/-- Frozen rows, texts and numbers, alone or in a struct that comes with another value. -/
def stab2 : AV → Bool
  | .tup [.agg l, x] => l.all stab && stab x
  | v => stab v
theorem stabs_VR {φ ψ : Ph} (hz : ∀ q, φ.z q → ψ.z q) : ∀ {l : List AV} {vs : List Value}, l.all stab = true → VRs φ l vs → VRs ψ l vs
  | [], _, _, h => by rw [h.nil_inv]; exact .nil
  | a :: l, vs, hs, h => by
    obtain ⟨v, us, rfl, h1, h2⟩ := h.cons_inv
    simp only [List.all_cons, Bool.and_eq_true] at hs
    exact .cons (stab_VR hz hs.1 h1) (stabs_VR hz hs.2 h2)
theorem tup_stab {φ ψ : Ph} (hz : ∀ q, φ.z q → ψ.z q) {l : List AV} {x : AV} {w : Value} (hl : l.all stab = true) (hx : stab x = true) (h : VR φ (.tup [.agg l, x]) w) : VR ψ (.tup [.agg l, x]) w := by
  obtain ⟨cs, rfl, hv⟩ := h.tup_inv
  obtain ⟨v1, v2, rfl, e1, e2⟩ := vs2 hv
  obtain ⟨ds, rfl, hd⟩ := e1.agg_inv
  exact .tup (.cons (.agg (stabs_VR hz hl hd)) (.cons (stab_VR hz hx e2) .nil))
def namN : List (Nat × List Nat) := [(1, [84, 83, 46, 67, 82, 69, 65, 84, 69]), (2, [84, 83, 46, 65, 76, 84, 69, 82]), (3, [84, 83, 46, 65, 68, 68]), (4, [84, 83, 46, 77, 65, 68, 68]), (5, [84, 83, 46, 73, 78, 67, 82, 66, 89]), (6, [84, 83, 46, 68, 69, 67, 82, 66, 89]), (7, [84, 83, 46, 68, 69, 76]), (8, [68, 69, 76]), (9, [84, 83, 46, 67, 82, 69, 65, 84, 69, 82, 85, 76, 69]), (10, [84, 83, 46, 68, 69, 76, 69, 84, 69, 82, 85, 76, 69]), (11, [84, 83, 46, 71, 69, 84]), (12, [84, 83, 46, 77, 71, 69, 84]), (13, [84, 83, 46, 82, 65, 78, 71, 69]), (14, [84, 83, 46, 77, 82, 65, 78, 71, 69]), (15, [84, 83, 46, 81, 85, 69, 82, 89, 73, 78, 68, 69, 88]), (16, [84, 83, 46, 73, 78, 70, 79])]
def bakN : List (Nat × List Nat) := [(13, [84, 83, 46, 82, 69, 86, 82, 65, 78, 71, 69]), (14, [84, 83, 46, 77, 82, 69, 86, 82, 65, 78, 71, 69])]
def natWhK (args : List AV) (H : AH) (n : Nat) (κ : PK) : Prop := match args with
  | [x, y] => ∃ (b : Nat) (N : List (Nat × List Nat)) (w : List Nat) (k : Nat), mk x = .ss w ∧ y = .map b ∧ b < n ∧ H.get b = some (.map (entC N)) ∧ apartC N = true ∧ (∀ c ∈ w, c < 256) ∧ w.length ≤ 1000000 ∧ whF N (upF w) = k ∧ κ (.si .i64 (Int.ofNat k)) H n
  | _ => False
theorem n_whichK : NatP 23 natWhK := fun args H n κ hs => n_which args H n κ (by
  unfold natWhK at hs
  unfold natWh
  split at hs
  · obtain ⟨b, N, w, k, h1, h2, h3, h4, h5, h6, h7, h8, h9⟩ := hs
    subst h8
    exact ⟨b, N, w, h1, h2, h3, h4, h5, h6, h7, h9⟩
  · exact hs.elim)
/-! ### a reader that is new -/
def noQ : Qry := ⟨0, 0, false, 0, 0, 0, 0, false, [], false, 0, 0⟩
def newR (ws : List (List Nat)) (k : Int) (b : Bool) : Rd := ⟨ws, 0, k, [], [], [], -1, -1, 0, [], false, 0, 0, 0, 0, 0, { noQ with back := b }, [], [], 0⟩
def rdC0 (R : Rd) : List AV := .fr R.ws.length 1 (txts R.ws) :: .si .i64 R.e :: cmC .nsl .nsl .nsl .nsl .nsl .nsl R
inductive NR : List AV → List AV → Prop where
  | nil : NR [] []
  | same (a : AV) {l m : List AV} (h : NR l m) : NR (a :: l) (a :: m)
  | row (b k : Nat) {l m : List AV} (h : NR l m) : NR (.nsl :: l) (.rw b 0 0 k 0 :: m)
theorem NR.at : ∀ {l0 l1 : List AV}, NR l0 l1 → ∀ {l : List AV}, l.map Go.Proofs.Ytdfeigkooeeeaaa.mk = l0 → ∀ (φ : Ph) (i : Nat) (a' : AV), l1[i]? = some a' → ∃ a, l[i]? = some a ∧ ∀ v, VR φ a v → VR φ a' v
  | _, _, .nil, l, e, φ, i, a', h => by simp at h
  | _, _, .same a hn, l, e, φ, i, a', h => by
    cases l with
    | nil => cases e
    | cons x l =>
      simp only [List.map_cons, List.cons.injEq] at e
      cases i with
      | zero => simp at h; subst h; exact ⟨x, rfl, fun v hv => by rw [← e.1]; exact hv.mk⟩
      | succ i => simp at h; obtain ⟨y, h1, h2⟩ := NR.at hn e.2 φ i a' h; exact ⟨y, by simpa using h1, h2⟩
  | _, _, .row b k hn, l, e, φ, i, a', h => by
    cases l with
    | nil => cases e
    | cons x l =>
      simp only [List.map_cons, List.cons.injEq] at e
      cases i with
      | zero =>
        simp at h; subst h
        refine ⟨x, rfl, fun v hv => ?_⟩
        have h1 := hv.mk
        rw [e.1] at h1
        rw [h1.nsl_inv]
        simp only [VR]; exact .inl ⟨trivial, .inl rfl⟩
      | succ i => simp at h; obtain ⟨y, h1, h2⟩ := NR.at hn e.2 φ i a' h; exact ⟨y, by simpa using h1, h2⟩
noncomputable def rdNew (H : AH) (n r : Nat) (R : Rd) : AH := PM.set (some (.cells (rdC n (n + 1) (n + 2) (n + 3) (n + 4) (n + 5) R) true)) depthH (PM.set (some (.cells [] true)) depthH (PM.set (some (.cells [] true)) depthH (PM.set (some (.cells [] true)) depthH (PM.set (some (.cells [] true)) depthH (PM.set (some (.cells [] true)) depthH (PM.set (some (.cells [] true)) depthH H n) (n + 1)) (n + 2)) (n + 3)) (n + 4)) (n + 5)) r
theorem newR_NR (ws : List (List Nat)) (k : Int) (b : Bool) (n : Nat) : NR (rdC0 (newR ws k b)) (rdC n (n + 1) (n + 2) (n + 3) (n + 4) (n + 5) (newR ws k b)) :=
  .same _ (.same _ (.same _ (.row _ _ (.row _ _ (.row _ _ (.same _ (.same _ (.same _ (.row _ _ (.same _ (.same _ (.same _ (.same _ (.same _ (.same _ (.same _ (.same _ (.same _ (.same _ (.same _ (.same _ (.same _ (.same _ (.row _ _ (.same _ (.same _ (.same _ (.row _ _ (.same _ (.same _ .nil))))))))))))))))))))))))))))))
theorem Recast.reader {H : AH} {n r : Nat} {l : List AV} {ws : List (List Nat)} {k : Int} {b : Bool} (hr : H.get r = some (.cells l true)) (hl : l.map Go.Proofs.Ytdfeigkooeeeaaa.mk = rdC0 (newR ws k b)) (hrn : r < n) (hn : n + 10 < 2 ^ 40) : Recast H n (rdNew H n r (newR ws k b)) (n + 6) := fun φ h0 h h1 => by
  have a1 := h1.phantom (o := .cells [] true) rfl
  have a2 := a1.phantom (o := .cells [] true) rfl
  have a3 := a2.phantom (o := .cells [] true) rfl
  have a4 := a3.phantom (o := .cells [] true) rfl
  have a5 := a4.phantom (o := .cells [] true) rfl
  have a6 := a5.phantom (o := .cells [] true) rfl
  have g1 := PM.get_set_ne (v := some (AO.cells [] true)) depthH _ n r (by show n + 1 < 2 ^ 40; omega) (by omega) hr
  have g2 := PM.get_set_ne (v := some (AO.cells [] true)) depthH _ (n + 1) r (by show n + 1 + 1 < 2 ^ 40; omega) (by omega) g1
  have g3 := PM.get_set_ne (v := some (AO.cells [] true)) depthH _ (n + 2) r (by show n + 2 + 1 < 2 ^ 40; omega) (by omega) g2
  have g4 := PM.get_set_ne (v := some (AO.cells [] true)) depthH _ (n + 3) r (by show n + 3 + 1 < 2 ^ 40; omega) (by omega) g3
  have g5 := PM.get_set_ne (v := some (AO.cells [] true)) depthH _ (n + 4) r (by show n + 4 + 1 < 2 ^ 40; omega) (by omega) g4
  have g6 := PM.get_set_ne (v := some (AO.cells [] true)) depthH _ (n + 5) r (by show n + 5 + 1 < 2 ^ 40; omega) (by omega) g5
  exact a6.recell g6 (by have := congrArg List.length hl; rw [List.length_map] at this; rw [this]; rfl) fun i a' hi => (newR_NR ws k b n).at hl φ i a' hi
end Go.Proofs.Ytdfeigkooeeeaaa
namespace Go.Proofs.Ytdfeigkooeeeaaa
open Go Go.RowKit
set_option maxRecDepth 20000
def natMk (es : List (AV × AV)) (args : List AV) (H : AH) (n : Nat) (κ : PK) : Prop := match args with
  | [] => κ (.map n) (H.set (some (.map es)) depthH n) (n + 1)
  | _ => False
theorem natMk_of {f : FuncId} {es : List (AV × AV)} (hic : isCall Try.prog f = true) (hren : ∀ r, renE r es = es) (hlt : ltE 1 es = true) (h : ∀ Q : PK, callT evP 3 f [] .nil 0 Q = Q (.map 0) (mkH [(0, .map es)]) 1) : NatP f (natMk es) := fun args H n κ hs φ h0' hp vs K hr hargs hk => by
  unfold natMk at hs
  split at hs
  · refine framed (S := []) (O := []) (args0 := []) (callT_nat evP_ok 3 _) hic hr ⟨List.nodup_nil, rfl, fun i s o h1 h2 => by simp at h1⟩ hargs hk (Q := fun u H' n' => u = .map 0 ∧ H' = mkH [(0, .map es)] ∧ n' = 1) ((h _).mpr ⟨rfl, rfl, rfl⟩) fun u H' n' ⟨g0, g1, g2⟩ => ?_
    subst g0 g1 g2
    refine ⟨1, putH [] n H [(0, some (.map es))], Nat.zero_le _, After.put (Nat.zero_le _) rfl (fun x hx o ho => ?_), rfl, ?_⟩
    · simp only [List.mem_cons, List.not_mem_nil, or_false] at hx
      subst hx
      injection ho with ho; subst ho; exact ⟨rfl, rfl, hlt⟩
    · have e : putH [] n H [(0, some (.map es))] = H.set (some (.map es)) depthH n := by
        simp only [putH, Option.map_some, renO, hren]
        rfl
      rw [e]; exact hs
  · exact hs.elim
def redN : List (AV × AV) := [(.int .i64 1, .fn 45 [] []), (.int .i64 2, .fn 45 [] []), (.int .i64 3, .fn 46 [] []), (.int .i64 4, .fn 47 [] []), (.int .i64 5, .fn 48 [] []), (.int .i64 6, .fn 48 [] []), (.int .i64 7, .fn 49 [] []), (.int .i64 8, .fn 50 [] []), (.int .i64 9, .fn 51 [] []), (.int .i64 10, .fn 52 [] []), (.int .i64 11, .fn 53 [] []), (.int .i64 12, .fn 54 [] []), (.int .i64 13, .fn 55 [] []), (.int .i64 14, .fn 56 [] []), (.int .i64 15, .fn 57 [] []), (.int .i64 16, .fn 53 [] [])]
theorem n_names : NatP 24 (natMk (entC namN)) := natMk_of (by kernel_rfl) (fun r => entC_ren r _) (entC_lt 1 _) (fun Q => by kernel_rfl)
theorem n_back : NatP 25 (natMk (entC bakN)) := natMk_of (by kernel_rfl) (fun r => entC_ren r _) (entC_lt 1 _) (fun Q => by kernel_rfl)
theorem n_reads : NatP 26 (natMk redN) := natMk_of (by kernel_rfl) (fun r => rfl) rfl (fun Q => by kernel_rfl)
end Go.Proofs.Ytdfeigkooeeeaaa
namespace Go.Proofs.Ytdfeigkooeeeaaa
open Go Go.RowKit
set_option maxRecDepth 20000
def cmF (R : Rd) : List AV := cmC (.fr R.ks.length 1 (txts R.ks)) (.fr R.ts.length 1 (ints R.ts)) (.fr R.vs.length 1 (ints R.vs)) (.fr R.ls.length 2 (labs R.ls)) (.fr R.q.times.length 1 (ints R.q.times)) (.fr R.fs.length 1 (txts R.fs)) R
def zeroR : Rd := ⟨[], 0, 0, [], [], [], 0, 0, 0, [], false, 0, 0, 0, 0, 0, noQ, [], [], 0⟩
def finR (R : Rd) : Rd := if moreR R = true then failR R 14 else R
/-- What Parse tells. -/
def resV (R : Rd) : AV := .tup [.agg (cmF (if R.e = 0 then R else zeroR)), .si .i64 R.e]
inductive NF : List AV → List AV → Prop where
  | nil : NF [] []
  | same (a : AV) {l m : List AV} (h : NF l m) : NF (a :: l) (a :: m)
  | row (k : Nat) {l m : List AV} (h : NF l m) : NF (.nsl :: l) (.fr 0 k [] :: m)
theorem NF.vrs {φ : Ph} : ∀ {l0 l1 : List AV}, NF l0 l1 → ∀ {l : List AV}, l.map Go.Proofs.Ytdfeigkooeeeaaa.mk = l0 → ∀ {vs : List Value}, VRs φ l vs → VRs φ l1 vs
  | _, _, .nil, l, e, vs, h => by
    cases l with
    | nil => exact h
    | cons _ _ => cases e
  | _, _, .same a hn, l, e, vs, h => by
    cases l with
    | nil => cases e
    | cons x l =>
      simp only [List.map_cons, List.cons.injEq] at e
      obtain ⟨v, us, rfl, h1, h2⟩ := h.cons_inv
      exact .cons (by rw [← e.1]; exact h1.mk) (NF.vrs hn e.2 h2)
  | _, _, .row k hn, l, e, vs, h => by
    cases l with
    | nil => cases e
    | cons x l =>
      simp only [List.map_cons, List.cons.injEq] at e
      obtain ⟨v, us, rfl, h1, h2⟩ := h.cons_inv
      refine .cons ?_ (NF.vrs hn e.2 h2)
      have h3 := h1.mk
      rw [e.1] at h3
      rw [h3.nsl_inv]; exact .fre fun _ => rfl
theorem tup_to {φ : Ph} {l l1 : List AV} {x : AV} {z : Int} (h : NF (l.map Go.Proofs.Ytdfeigkooeeeaaa.mk) l1) (hx : Go.Proofs.Ytdfeigkooeeeaaa.mk x = .si .i64 z) {w : Value} (hw : VR φ (.tup [.agg l, x]) w) : VR φ (.tup [.agg l1, .si .i64 z]) w := by
  obtain ⟨cs, rfl, hv⟩ := hw.tup_inv
  obtain ⟨v1, v2, rfl, e1, e2⟩ := vs2 hv
  obtain ⟨ds, rfl, hd⟩ := e1.agg_inv
  exact .tup (.cons (.agg (h.vrs rfl hd)) (.cons (by have := e2.mk; rw [hx] at this; exact this) .nil))
def FzT (u : AV) (H : AH) (n : Nat) (v : AV) : Prop := ∀ (φ : Ph) (h0 h : Hp) (w : Value), HR φ H n h0 h → VR φ u w → ∃ ψ, PLe φ ψ ∧ (∃ H2, HR ψ H2 n h0 h) ∧ VR ψ v w
/-- What is yielded, told anew, and nothing else. -/
def postF (g : List AV → AH → Nat → PK → Prop) (args : List AV) (H : AH) (n : Nat) (Q : AV → Prop) : Prop := g args H n fun u H' n' => ∃ v, FzT u H' n' v ∧ Q v
theorem FzT.zero {l : List AV} {x : AV} {H : AH} {n : Nat} {R : Rd} (he : ¬ R.e = 0) (h : NF (l.map Go.Proofs.Ytdfeigkooeeeaaa.mk) (cmF zeroR)) (hx : Go.Proofs.Ytdfeigkooeeeaaa.mk x = .si .i64 R.e) : FzT (.tup [.agg l, x]) H n (resV R) := fun φ h0 h1 w hr hw => ⟨φ, .refl φ, ⟨H, hr⟩, by
  unfold resV; rw [if_neg he]; exact tup_to h hx hw⟩
theorem FzT.rows {H : AH} {n : Nat} {R : Rd} {x : AV} (a b c d e f : Nat) (hd : [a, b, c, d, e, f].Nodup) (hn : a + 1 < 2 ^ 40 ∧ b + 1 < 2 ^ 40 ∧ c + 1 < 2 ^ 40 ∧ d + 1 < 2 ^ 40 ∧ e + 1 < 2 ^ 40) (he : R.e = 0) (hx : Go.Proofs.Ytdfeigkooeeeaaa.mk x = .si .i64 R.e)
    (r1 : H.get a = some (.cells (txts R.ks) true)) (r2 : H.get b = some (.cells (ints R.ts) true)) (r3 : H.get c = some (.cells (ints R.vs) true)) (r4 : H.get d = some (.cells (labs R.ls) true)) (r5 : H.get e = some (.cells (ints R.q.times) true)) (r6 : H.get f = some (.cells (txts R.fs) true)) :
    FzT (.tup [.agg (cmC (.rw a 0 R.ks.length 1 0) (.rw b 0 R.ts.length 1 0) (.rw c 0 R.vs.length 1 0) (.rw d 0 R.ls.length 2 0) (.rw e 0 R.q.times.length 1 0) (.rw f 0 R.fs.length 1 0) R), x]) H n (resV R) := fun φ h0 h w hr hw => by
  simp only [List.nodup_cons, List.mem_cons, List.not_mem_nil, or_false, not_or, List.nodup_nil, and_true, not_false_eq_true] at hd
  obtain ⟨ψ1, p1, q1, w1⟩ := FzTo.aggRow (i := 1) (s := txts R.ks) rfl r1 (txts_flat _) (by rw [txts_length, Nat.mul_one]) rfl φ h0 h w hr hw
  obtain ⟨ψ2, p2, q2, w2⟩ := FzTo.aggRow (i := 2) (s := ints R.ts) rfl (PM.get_set_ne _ _ _ _ hn.1 (by omega) r2) (ints_flat _) (by rw [ints_length, Nat.mul_one]) rfl ψ1 h0 h w q1 w1
  obtain ⟨ψ3, p3, q3, w3⟩ := FzTo.aggRow (i := 3) (s := ints R.vs) rfl (PM.get_set_ne _ _ _ _ hn.2.1 (by omega) (PM.get_set_ne _ _ _ _ hn.1 (by omega) r3)) (ints_flat _) (by rw [ints_length, Nat.mul_one]) rfl ψ2 h0 h w q2 w2
  obtain ⟨ψ4, p4, q4, w4⟩ := FzTo.aggRow (i := 7) (s := labs R.ls) rfl (PM.get_set_ne _ _ _ _ hn.2.2.1 (by omega) (PM.get_set_ne _ _ _ _ hn.2.1 (by omega) (PM.get_set_ne _ _ _ _ hn.1 (by omega) r4))) (labs_flat _) (labs_length _) rfl ψ3 h0 h w q3 w3
  obtain ⟨ψ5, p5, q5, w5⟩ := FzTo.aggRow (i := 22) (s := ints R.q.times) rfl (PM.get_set_ne _ _ _ _ hn.2.2.2.1 (by omega) (PM.get_set_ne _ _ _ _ hn.2.2.1 (by omega) (PM.get_set_ne _ _ _ _ hn.2.1 (by omega) (PM.get_set_ne _ _ _ _ hn.1 (by omega) r5)))) (ints_flat _) (by rw [ints_length, Nat.mul_one]) rfl ψ4 h0 h w q4 w4
  obtain ⟨ψ6, p6, q6, w6⟩ := FzTo.aggRow (i := 26) (s := txts R.fs) rfl (PM.get_set_ne _ _ _ _ hn.2.2.2.2 (by omega) (PM.get_set_ne _ _ _ _ hn.2.2.2.1 (by omega) (PM.get_set_ne _ _ _ _ hn.2.2.1 (by omega) (PM.get_set_ne _ _ _ _ hn.2.1 (by omega) (PM.get_set_ne _ _ _ _ hn.1 (by omega) r6))))) (txts_flat _) (by rw [txts_length, Nat.mul_one]) rfl ψ5 h0 h w q5 w5
  refine ⟨ψ6, ((((p1.trans p2).trans p3).trans p4).trans p5).trans p6, ⟨_, q6⟩, ?_⟩
  unfold resV; rw [if_pos he]
  obtain ⟨cs, rfl, hv⟩ := w6.tup_inv
  obtain ⟨v1, v2, rfl, e1, e2⟩ := vs2 hv
  exact .tup (.cons e1 (.cons (by have := e2.mk; rw [hx] at this; exact this) .nil))
theorem apart_nam : apartC namN = true := by decide +kernel
theorem apart_bak : apartC bakN = true := by decide +kernel
def zeroL : List AV := cmC .nsl .nsl .nsl .nsl .nsl .nsl zeroR
theorem zero_NF : NF zeroL (cmF zeroR) :=
  .same _ (.row _ (.row _ (.row _ (.same _ (.same _ (.same _ (.row _ (.same _ (.same _ (.same _ (.same _ (.same _ (.same _ (.same _ (.same _ (.same _ (.same _ (.same _ (.same _ (.same _ (.same _ (.row _ (.same _ (.same _ (.same _ (.row _ (.same _ (.same _ .nil))))))))))))))))))))))))))))
def pre0 (g : List AV → AH → Nat → PK → Prop) (args : List AV) (H : AH) (n : Nat) (κ : PK) : Prop := ∃ H2 n2, Recast H n H2 n2 ∧ g args H2 n2 κ
theorem NatP.pre0 {f : FuncId} {g : List AV → AH → Nat → PK → Prop} (hg : NatP f g) : NatP f (pre0 g) := fun args H n κ ⟨H2, n2, h1, h2⟩ φ h0 h vs K hr ha hk => hg args H2 n2 κ h2 φ h0 h vs K (h1 φ h0 h hr) ha hk
def d_parse : DT := [(4, [(some 1000000, [3, 4]), (none, [0, 1, 2, 3, 4, 5, 6, 7, 8, 9]), (none, [0, 1, 2, 4, 3, 5, 6, 7, 8, 9])]), (5, [(some 1000000, [2, 3]), (none, [0, 1, 2, 3, 4, 5]), (none, [0, 1, 3, 2, 4, 5])]),
  (8, [(some 1000000, [0, 5]), (none, [0, 1, 2, 3, 4, 5, 6, 7, 8, 9, 10, 11]), (none, [1, 2, 3, 4, 5, 0, 6, 7, 8, 9, 10, 11])]),
  (15, [(some 1000000, [4, 5]), (none, [0, 1, 2, 3, 4, 5, 6]), (none, [0, 1, 2, 3, 5, 4, 6])])]
noncomputable def KPm : FuncId → EP := withD 14 d_parse (withN 23 natWhK (withN 47 (pre0 (natRdP (Bd 800000) noA (unitV maddR))) (withN 24 (natMk (entC namN)) (withN 25 (natMk (entC bakN)) (withN 26 (natMk redN) evP)))))
theorem KPm_ok : TabP KPm := withD_ok (withN_ok (withN_ok (withN_ok (withN_ok (withN_ok evP_ok n_reads) n_back) n_names) n_madd.pre0) n_whichK) (by kernel_rfl) (by kernel_rfl)
set_option maxHeartbeats 16000000 in
set_option maxRecDepth 100000 in
theorem parseM_run (W : List (List Nat)) (hp : 0 < W.length) (hl : W.length ≤ 700000) (hw : ∀ w ∈ W, (∀ c ∈ w, c < 256) ∧ w.length ≤ 1000000) (h4 : whF namN (upF (W.headD [])) = 4) (h0 : whF bakN (upF (W.headD [])) = 0) :
    postF (callT KPm 5 14) [.fr W.length 1 (txts W)] .nil 0 (fun v => v = resV (finR (maddR (newR W.tail 4 false)))) := by
  have hne : ¬ ((W.length : Int) = 0) := by omega
  have hh := hw _ (List.getElem_mem hp)
  rw [head_at hp] at hh
  have hB : Bd 800000 (newR W.tail 4 false) := ⟨fun w h => hw w (List.mem_of_mem_tail h), by simp [newR]; omega, by simp [newR]; omega, by simp [newR]; omega⟩
  obtain ⟨X, hX⟩ : ∃ X, X = maddR (newR W.tail 4 false) := ⟨_, rfl⟩
  show callT KPm 5 14 _ _ _ _
  conv => whnf
  refine Fork.dec (fun q => absurd q hne) (fun _ => ?_)
  conv => whnf
  refine RSl.mk 1 _ rfl rfl (.inl rfl) hp (Nat.le_refl _) ?_
  conv => whnf
  refine ⟨?_, ?_, trivial⟩
  · conv => whnf
    refine Idx.mk 0 rfl hp ?_
    conv => whnf
    refine optP_of (txts_nth0 hp) ?_
    conv => whnf
    refine ⟨_, namN, W.headD [], 4, rfl, rfl, by decide, rfl, apart_nam, hh.1, hh.2, h4, ?_⟩
    conv => whnf
    refine ⟨?_, ?_, trivial⟩
    · conv => whnf
      refine Idx.mk 0 rfl hp ?_
      conv => whnf
      refine optP_of (txts_nth0 hp) ?_
      conv => whnf
      refine ⟨_, bakN, W.headD [], 0, rfl, rfl, by decide, rfl, apart_bak, hh.1, hh.2, h0, ?_⟩
      conv => whnf
      refine Fork.dec (fun q => absurd q (by decide)) (fun _ => ?_)
      conv => whnf
      refine ⟨?_, ?_, trivial⟩
      · conv => whnf
        refine Ask.mk _ rfl ?_
        conv => whnf
        refine ⟨_, _, Recast.reader (r := 1) (ws := W.tail) (k := 4) (b := false) rfl (congrArg (fun a => a :: (rdC0 (newR W.tail 4 false)).tail) (tail_fr W)) (by decide) (by decide), 1, 5, 6, 7, 8, 9, 10, newR W.tail 4 false, rfl, rfl, ⟨by decide, by decide, rfl, rfl, rfl, rfl, rfl, rfl, rfl⟩, hB, ?_⟩
        conv => whnf
        refine Fork.dec (fun he => ?_) (fun he => ?_)
        · have he : (maddR (newR W.tail 4 false)).e = 0 := he
          conv => whnf
          refine Fork.dec (fun hq => ?_) (fun hq => ?_)
          · have hq : 0 < (maddR (newR W.tail 4 false)).ws.length := by exact Int.ofNat_lt.1 hq
            have hf : finR (maddR (newR W.tail 4 false)) = { (maddR (newR W.tail 4 false)) with e := 14 } := by unfold finR failR; rw [if_pos (more_yes he hq), if_pos he]
            have hz : ¬ (finR (maddR (newR W.tail 4 false))).e = 0 := by rw [hf]; show ¬ (14 : Int) = 0; decide
            have hx : AV.si .i64 14 = .si .i64 (finR (maddR (newR W.tail 4 false))).e := by rw [hf]
            conv => whnf
            refine Fork.dec (fun _ => ?_) (fun q => absurd he q)
            conv => whnf
            refine ⟨?_, ?_, trivial⟩
            · conv => whnf
              exact ⟨_, FzT.zero (R := finR (maddR (newR W.tail 4 false))) hz zero_NF (hx), rfl⟩
            · conv => whnf
              exact ⟨_, FzT.zero (R := finR (maddR (newR W.tail 4 false))) hz zero_NF (hx), rfl⟩
          · have hq : ¬ 0 < (maddR (newR W.tail 4 false)).ws.length := fun q => hq (by exact Int.ofNat_lt.2 q)
            have hf : finR (maddR (newR W.tail 4 false)) = (maddR (newR W.tail 4 false)) := by unfold finR; rw [if_neg (more_no2 hq)]
            have hx : AV.si .i64 0 = .si .i64 (maddR (newR W.tail 4 false)).e := by rw [he]
            conv => whnf
            refine Fork.ndec (fun q => absurd he q) (fun _ => ?_)
            conv => whnf
            exact ⟨_, FzT.rows 11 12 13 14 15 16 (by decide) (by decide) he hx rfl rfl rfl rfl rfl rfl, congrArg resV hf.symm⟩
        · have he : ¬ (maddR (newR W.tail 4 false)).e = 0 := he
          have hf : finR (maddR (newR W.tail 4 false)) = (maddR (newR W.tail 4 false)) := by unfold finR; rw [if_neg (more_no1 he)]
          have hz : ¬ (finR (maddR (newR W.tail 4 false))).e = 0 := by rw [hf]; exact he
          have hx : AV.si .i64 (maddR (newR W.tail 4 false)).e = .si .i64 (finR (maddR (newR W.tail 4 false))).e := by rw [hf]
          conv => whnf
          refine Fork.ndec (fun _ => ?_) (fun q => absurd q he)
          conv => whnf
          refine ⟨?_, ?_, trivial⟩
          · conv => whnf
            exact ⟨_, FzT.zero (R := finR (maddR (newR W.tail 4 false))) hz zero_NF (hx), rfl⟩
          · conv => whnf
            exact ⟨_, FzT.zero (R := finR (maddR (newR W.tail 4 false))) hz zero_NF (hx), rfl⟩
      · conv => whnf
        refine Ask.mk _ rfl ?_
        conv => whnf
        refine ⟨_, _, Recast.reader (r := 1) (ws := W.tail) (k := 4) (b := false) rfl (congrArg (fun a => a :: (rdC0 (newR W.tail 4 false)).tail) (tail_fr W)) (by decide) (by decide), 1, 5, 6, 7, 8, 9, 10, newR W.tail 4 false, rfl, rfl, ⟨by decide, by decide, rfl, rfl, rfl, rfl, rfl, rfl, rfl⟩, hB, ?_⟩
        conv => whnf
        refine Fork.dec (fun he => ?_) (fun he => ?_)
        · have he : (maddR (newR W.tail 4 false)).e = 0 := he
          conv => whnf
          refine Fork.dec (fun hq => ?_) (fun hq => ?_)
          · have hq : 0 < (maddR (newR W.tail 4 false)).ws.length := by exact Int.ofNat_lt.1 hq
            have hf : finR (maddR (newR W.tail 4 false)) = { (maddR (newR W.tail 4 false)) with e := 14 } := by unfold finR failR; rw [if_pos (more_yes he hq), if_pos he]
            have hz : ¬ (finR (maddR (newR W.tail 4 false))).e = 0 := by rw [hf]; show ¬ (14 : Int) = 0; decide
            have hx : AV.si .i64 14 = .si .i64 (finR (maddR (newR W.tail 4 false))).e := by rw [hf]
            conv => whnf
            refine Fork.dec (fun _ => ?_) (fun q => absurd he q)
            conv => whnf
            refine ⟨?_, ?_, trivial⟩
            · conv => whnf
              exact ⟨_, FzT.zero (R := finR (maddR (newR W.tail 4 false))) hz zero_NF (hx), rfl⟩
            · conv => whnf
              exact ⟨_, FzT.zero (R := finR (maddR (newR W.tail 4 false))) hz zero_NF (hx), rfl⟩
          · have hq : ¬ 0 < (maddR (newR W.tail 4 false)).ws.length := fun q => hq (by exact Int.ofNat_lt.2 q)
            have hf : finR (maddR (newR W.tail 4 false)) = (maddR (newR W.tail 4 false)) := by unfold finR; rw [if_neg (more_no2 hq)]
            have hx : AV.si .i64 0 = .si .i64 (maddR (newR W.tail 4 false)).e := by rw [he]
            conv => whnf
            refine Fork.ndec (fun q => absurd he q) (fun _ => ?_)
            conv => whnf
            exact ⟨_, FzT.rows 11 12 13 14 15 16 (by decide) (by decide) he hx rfl rfl rfl rfl rfl rfl, congrArg resV hf.symm⟩
        · have he : ¬ (maddR (newR W.tail 4 false)).e = 0 := he
          have hf : finR (maddR (newR W.tail 4 false)) = (maddR (newR W.tail 4 false)) := by unfold finR; rw [if_neg (more_no1 he)]
          have hz : ¬ (finR (maddR (newR W.tail 4 false))).e = 0 := by rw [hf]; exact he
          have hx : AV.si .i64 (maddR (newR W.tail 4 false)).e = .si .i64 (finR (maddR (newR W.tail 4 false))).e := by rw [hf]
          conv => whnf
          refine Fork.ndec (fun _ => ?_) (fun q => absurd q he)
          conv => whnf
          refine ⟨?_, ?_, trivial⟩
          · conv => whnf
            exact ⟨_, FzT.zero (R := finR (maddR (newR W.tail 4 false))) hz zero_NF (hx), rfl⟩
          · conv => whnf
            exact ⟨_, FzT.zero (R := finR (maddR (newR W.tail 4 false))) hz zero_NF (hx), rfl⟩
    · conv => whnf
      refine Idx.mk 0 rfl hp ?_
      conv => whnf
      refine optP_of (txts_nth0 hp) ?_
      conv => whnf
      refine ⟨_, bakN, W.headD [], 0, rfl, rfl, by decide, rfl, apart_bak, hh.1, hh.2, h0, ?_⟩
      conv => whnf
      refine Fork.dec (fun q => absurd q (by decide)) (fun _ => ?_)
      conv => whnf
      refine ⟨?_, ?_, trivial⟩
      · conv => whnf
        refine Ask.mk _ rfl ?_
        conv => whnf
        refine ⟨_, _, Recast.reader (r := 1) (ws := W.tail) (k := 4) (b := false) rfl (congrArg (fun a => a :: (rdC0 (newR W.tail 4 false)).tail) (tail_fr W)) (by decide) (by decide), 1, 5, 6, 7, 8, 9, 10, newR W.tail 4 false, rfl, rfl, ⟨by decide, by decide, rfl, rfl, rfl, rfl, rfl, rfl, rfl⟩, hB, ?_⟩
        conv => whnf
        refine Fork.dec (fun he => ?_) (fun he => ?_)
        · have he : (maddR (newR W.tail 4 false)).e = 0 := he
          conv => whnf
          refine Fork.dec (fun hq => ?_) (fun hq => ?_)
          · have hq : 0 < (maddR (newR W.tail 4 false)).ws.length := by exact Int.ofNat_lt.1 hq
            have hf : finR (maddR (newR W.tail 4 false)) = { (maddR (newR W.tail 4 false)) with e := 14 } := by unfold finR failR; rw [if_pos (more_yes he hq), if_pos he]
            have hz : ¬ (finR (maddR (newR W.tail 4 false))).e = 0 := by rw [hf]; show ¬ (14 : Int) = 0; decide
            have hx : AV.si .i64 14 = .si .i64 (finR (maddR (newR W.tail 4 false))).e := by rw [hf]
            conv => whnf
            refine Fork.dec (fun _ => ?_) (fun q => absurd he q)
            conv => whnf
            refine ⟨?_, ?_, trivial⟩
            · conv => whnf
              exact ⟨_, FzT.zero (R := finR (maddR (newR W.tail 4 false))) hz zero_NF (hx), rfl⟩
            · conv => whnf
              exact ⟨_, FzT.zero (R := finR (maddR (newR W.tail 4 false))) hz zero_NF (hx), rfl⟩
          · have hq : ¬ 0 < (maddR (newR W.tail 4 false)).ws.length := fun q => hq (by exact Int.ofNat_lt.2 q)
            have hf : finR (maddR (newR W.tail 4 false)) = (maddR (newR W.tail 4 false)) := by unfold finR; rw [if_neg (more_no2 hq)]
            have hx : AV.si .i64 0 = .si .i64 (maddR (newR W.tail 4 false)).e := by rw [he]
            conv => whnf
            refine Fork.ndec (fun q => absurd he q) (fun _ => ?_)
            conv => whnf
            exact ⟨_, FzT.rows 11 12 13 14 15 16 (by decide) (by decide) he hx rfl rfl rfl rfl rfl rfl, congrArg resV hf.symm⟩
        · have he : ¬ (maddR (newR W.tail 4 false)).e = 0 := he
          have hf : finR (maddR (newR W.tail 4 false)) = (maddR (newR W.tail 4 false)) := by unfold finR; rw [if_neg (more_no1 he)]
          have hz : ¬ (finR (maddR (newR W.tail 4 false))).e = 0 := by rw [hf]; exact he
          have hx : AV.si .i64 (maddR (newR W.tail 4 false)).e = .si .i64 (finR (maddR (newR W.tail 4 false))).e := by rw [hf]
          conv => whnf
          refine Fork.ndec (fun _ => ?_) (fun q => absurd q he)
          conv => whnf
          refine ⟨?_, ?_, trivial⟩
          · conv => whnf
            exact ⟨_, FzT.zero (R := finR (maddR (newR W.tail 4 false))) hz zero_NF (hx), rfl⟩
          · conv => whnf
            exact ⟨_, FzT.zero (R := finR (maddR (newR W.tail 4 false))) hz zero_NF (hx), rfl⟩
      · conv => whnf
        refine Ask.mk _ rfl ?_
        conv => whnf
        refine ⟨_, _, Recast.reader (r := 1) (ws := W.tail) (k := 4) (b := false) rfl (congrArg (fun a => a :: (rdC0 (newR W.tail 4 false)).tail) (tail_fr W)) (by decide) (by decide), 1, 5, 6, 7, 8, 9, 10, newR W.tail 4 false, rfl, rfl, ⟨by decide, by decide, rfl, rfl, rfl, rfl, rfl, rfl, rfl⟩, hB, ?_⟩
        conv => whnf
        refine Fork.dec (fun he => ?_) (fun he => ?_)
        · have he : (maddR (newR W.tail 4 false)).e = 0 := he
          conv => whnf
          refine Fork.dec (fun hq => ?_) (fun hq => ?_)
          · have hq : 0 < (maddR (newR W.tail 4 false)).ws.length := by exact Int.ofNat_lt.1 hq
            have hf : finR (maddR (newR W.tail 4 false)) = { (maddR (newR W.tail 4 false)) with e := 14 } := by unfold finR failR; rw [if_pos (more_yes he hq), if_pos he]
            have hz : ¬ (finR (maddR (newR W.tail 4 false))).e = 0 := by rw [hf]; show ¬ (14 : Int) = 0; decide
            have hx : AV.si .i64 14 = .si .i64 (finR (maddR (newR W.tail 4 false))).e := by rw [hf]
            conv => whnf
            refine Fork.dec (fun _ => ?_) (fun q => absurd he q)
            conv => whnf
            refine ⟨?_, ?_, trivial⟩
            · conv => whnf
              exact ⟨_, FzT.zero (R := finR (maddR (newR W.tail 4 false))) hz zero_NF (hx), rfl⟩
            · conv => whnf
              exact ⟨_, FzT.zero (R := finR (maddR (newR W.tail 4 false))) hz zero_NF (hx), rfl⟩
          · have hq : ¬ 0 < (maddR (newR W.tail 4 false)).ws.length := fun q => hq (by exact Int.ofNat_lt.2 q)
            have hf : finR (maddR (newR W.tail 4 false)) = (maddR (newR W.tail 4 false)) := by unfold finR; rw [if_neg (more_no2 hq)]
            have hx : AV.si .i64 0 = .si .i64 (maddR (newR W.tail 4 false)).e := by rw [he]
            conv => whnf
            refine Fork.ndec (fun q => absurd he q) (fun _ => ?_)
            conv => whnf
            exact ⟨_, FzT.rows 11 12 13 14 15 16 (by decide) (by decide) he hx rfl rfl rfl rfl rfl rfl, congrArg resV hf.symm⟩
        · have he : ¬ (maddR (newR W.tail 4 false)).e = 0 := he
          have hf : finR (maddR (newR W.tail 4 false)) = (maddR (newR W.tail 4 false)) := by unfold finR; rw [if_neg (more_no1 he)]
          have hz : ¬ (finR (maddR (newR W.tail 4 false))).e = 0 := by rw [hf]; exact he
          have hx : AV.si .i64 (maddR (newR W.tail 4 false)).e = .si .i64 (finR (maddR (newR W.tail 4 false))).e := by rw [hf]
          conv => whnf
          refine Fork.ndec (fun _ => ?_) (fun q => absurd q he)
          conv => whnf
          refine ⟨?_, ?_, trivial⟩
          · conv => whnf
            exact ⟨_, FzT.zero (R := finR (maddR (newR W.tail 4 false))) hz zero_NF (hx), rfl⟩
          · conv => whnf
            exact ⟨_, FzT.zero (R := finR (maddR (newR W.tail 4 false))) hz zero_NF (hx), rfl⟩
  · conv => whnf
    refine Idx.mk 0 rfl hp ?_
    conv => whnf
    refine optP_of (txts_nth0 hp) ?_
    conv => whnf
    refine ⟨_, namN, W.headD [], 4, rfl, rfl, by decide, rfl, apart_nam, hh.1, hh.2, h4, ?_⟩
    conv => whnf
    refine ⟨?_, ?_, trivial⟩
    · conv => whnf
      refine Idx.mk 0 rfl hp ?_
      conv => whnf
      refine optP_of (txts_nth0 hp) ?_
      conv => whnf
      refine ⟨_, bakN, W.headD [], 0, rfl, rfl, by decide, rfl, apart_bak, hh.1, hh.2, h0, ?_⟩
      conv => whnf
      refine Fork.dec (fun q => absurd q (by decide)) (fun _ => ?_)
      conv => whnf
      refine ⟨?_, ?_, trivial⟩
      · conv => whnf
        refine Ask.mk _ rfl ?_
        conv => whnf
        refine ⟨_, _, Recast.reader (r := 1) (ws := W.tail) (k := 4) (b := false) rfl (congrArg (fun a => a :: (rdC0 (newR W.tail 4 false)).tail) (tail_fr W)) (by decide) (by decide), 1, 5, 6, 7, 8, 9, 10, newR W.tail 4 false, rfl, rfl, ⟨by decide, by decide, rfl, rfl, rfl, rfl, rfl, rfl, rfl⟩, hB, ?_⟩
        conv => whnf
        refine Fork.dec (fun he => ?_) (fun he => ?_)
        · have he : (maddR (newR W.tail 4 false)).e = 0 := he
          conv => whnf
          refine Fork.dec (fun hq => ?_) (fun hq => ?_)
          · have hq : 0 < (maddR (newR W.tail 4 false)).ws.length := by exact Int.ofNat_lt.1 hq
            have hf : finR (maddR (newR W.tail 4 false)) = { (maddR (newR W.tail 4 false)) with e := 14 } := by unfold finR failR; rw [if_pos (more_yes he hq), if_pos he]
            have hz : ¬ (finR (maddR (newR W.tail 4 false))).e = 0 := by rw [hf]; show ¬ (14 : Int) = 0; decide
            have hx : AV.si .i64 14 = .si .i64 (finR (maddR (newR W.tail 4 false))).e := by rw [hf]
            conv => whnf
            refine Fork.dec (fun _ => ?_) (fun q => absurd he q)
            conv => whnf
            refine ⟨?_, ?_, trivial⟩
            · conv => whnf
              exact ⟨_, FzT.zero (R := finR (maddR (newR W.tail 4 false))) hz zero_NF (hx), rfl⟩
            · conv => whnf
              exact ⟨_, FzT.zero (R := finR (maddR (newR W.tail 4 false))) hz zero_NF (hx), rfl⟩
          · have hq : ¬ 0 < (maddR (newR W.tail 4 false)).ws.length := fun q => hq (by exact Int.ofNat_lt.2 q)
            have hf : finR (maddR (newR W.tail 4 false)) = (maddR (newR W.tail 4 false)) := by unfold finR; rw [if_neg (more_no2 hq)]
            have hx : AV.si .i64 0 = .si .i64 (maddR (newR W.tail 4 false)).e := by rw [he]
            conv => whnf
            refine Fork.ndec (fun q => absurd he q) (fun _ => ?_)
            conv => whnf
            exact ⟨_, FzT.rows 11 12 13 14 15 16 (by decide) (by decide) he hx rfl rfl rfl rfl rfl rfl, congrArg resV hf.symm⟩
        · have he : ¬ (maddR (newR W.tail 4 false)).e = 0 := he
          have hf : finR (maddR (newR W.tail 4 false)) = (maddR (newR W.tail 4 false)) := by unfold finR; rw [if_neg (more_no1 he)]
          have hz : ¬ (finR (maddR (newR W.tail 4 false))).e = 0 := by rw [hf]; exact he
          have hx : AV.si .i64 (maddR (newR W.tail 4 false)).e = .si .i64 (finR (maddR (newR W.tail 4 false))).e := by rw [hf]
          conv => whnf
          refine Fork.ndec (fun _ => ?_) (fun q => absurd q he)
          conv => whnf
          refine ⟨?_, ?_, trivial⟩
          · conv => whnf
            exact ⟨_, FzT.zero (R := finR (maddR (newR W.tail 4 false))) hz zero_NF (hx), rfl⟩
          · conv => whnf
            exact ⟨_, FzT.zero (R := finR (maddR (newR W.tail 4 false))) hz zero_NF (hx), rfl⟩
      · conv => whnf
        refine Ask.mk _ rfl ?_
        conv => whnf
        refine ⟨_, _, Recast.reader (r := 1) (ws := W.tail) (k := 4) (b := false) rfl (congrArg (fun a => a :: (rdC0 (newR W.tail 4 false)).tail) (tail_fr W)) (by decide) (by decide), 1, 5, 6, 7, 8, 9, 10, newR W.tail 4 false, rfl, rfl, ⟨by decide, by decide, rfl, rfl, rfl, rfl, rfl, rfl, rfl⟩, hB, ?_⟩
        conv => whnf
        refine Fork.dec (fun he => ?_) (fun he => ?_)
        · have he : (maddR (newR W.tail 4 false)).e = 0 := he
          conv => whnf
          refine Fork.dec (fun hq => ?_) (fun hq => ?_)
          · have hq : 0 < (maddR (newR W.tail 4 false)).ws.length := by exact Int.ofNat_lt.1 hq
            have hf : finR (maddR (newR W.tail 4 false)) = { (maddR (newR W.tail 4 false)) with e := 14 } := by unfold finR failR; rw [if_pos (more_yes he hq), if_pos he]
            have hz : ¬ (finR (maddR (newR W.tail 4 false))).e = 0 := by rw [hf]; show ¬ (14 : Int) = 0; decide
            have hx : AV.si .i64 14 = .si .i64 (finR (maddR (newR W.tail 4 false))).e := by rw [hf]
            conv => whnf
            refine Fork.dec (fun _ => ?_) (fun q => absurd he q)
            conv => whnf
            refine ⟨?_, ?_, trivial⟩
            · conv => whnf
              exact ⟨_, FzT.zero (R := finR (maddR (newR W.tail 4 false))) hz zero_NF (hx), rfl⟩
            · conv => whnf
              exact ⟨_, FzT.zero (R := finR (maddR (newR W.tail 4 false))) hz zero_NF (hx), rfl⟩
          · have hq : ¬ 0 < (maddR (newR W.tail 4 false)).ws.length := fun q => hq (by exact Int.ofNat_lt.2 q)
            have hf : finR (maddR (newR W.tail 4 false)) = (maddR (newR W.tail 4 false)) := by unfold finR; rw [if_neg (more_no2 hq)]
            have hx : AV.si .i64 0 = .si .i64 (maddR (newR W.tail 4 false)).e := by rw [he]
            conv => whnf
            refine Fork.ndec (fun q => absurd he q) (fun _ => ?_)
            conv => whnf
            exact ⟨_, FzT.rows 11 12 13 14 15 16 (by decide) (by decide) he hx rfl rfl rfl rfl rfl rfl, congrArg resV hf.symm⟩
        · have he : ¬ (maddR (newR W.tail 4 false)).e = 0 := he
          have hf : finR (maddR (newR W.tail 4 false)) = (maddR (newR W.tail 4 false)) := by unfold finR; rw [if_neg (more_no1 he)]
          have hz : ¬ (finR (maddR (newR W.tail 4 false))).e = 0 := by rw [hf]; exact he
          have hx : AV.si .i64 (maddR (newR W.tail 4 false)).e = .si .i64 (finR (maddR (newR W.tail 4 false))).e := by rw [hf]
          conv => whnf
          refine Fork.ndec (fun _ => ?_) (fun q => absurd q he)
          conv => whnf
          refine ⟨?_, ?_, trivial⟩
          · conv => whnf
            exact ⟨_, FzT.zero (R := finR (maddR (newR W.tail 4 false))) hz zero_NF (hx), rfl⟩
          · conv => whnf
            exact ⟨_, FzT.zero (R := finR (maddR (newR W.tail 4 false))) hz zero_NF (hx), rfl⟩
    · conv => whnf
      refine Idx.mk 0 rfl hp ?_
      conv => whnf
      refine optP_of (txts_nth0 hp) ?_
      conv => whnf
      refine ⟨_, bakN, W.headD [], 0, rfl, rfl, by decide, rfl, apart_bak, hh.1, hh.2, h0, ?_⟩
      conv => whnf
      refine Fork.dec (fun q => absurd q (by decide)) (fun _ => ?_)
      conv => whnf
      refine ⟨?_, ?_, trivial⟩
      · conv => whnf
        refine Ask.mk _ rfl ?_
        conv => whnf
        refine ⟨_, _, Recast.reader (r := 1) (ws := W.tail) (k := 4) (b := false) rfl (congrArg (fun a => a :: (rdC0 (newR W.tail 4 false)).tail) (tail_fr W)) (by decide) (by decide), 1, 5, 6, 7, 8, 9, 10, newR W.tail 4 false, rfl, rfl, ⟨by decide, by decide, rfl, rfl, rfl, rfl, rfl, rfl, rfl⟩, hB, ?_⟩
        conv => whnf
        refine Fork.dec (fun he => ?_) (fun he => ?_)
        · have he : (maddR (newR W.tail 4 false)).e = 0 := he
          conv => whnf
          refine Fork.dec (fun hq => ?_) (fun hq => ?_)
          · have hq : 0 < (maddR (newR W.tail 4 false)).ws.length := by exact Int.ofNat_lt.1 hq
            have hf : finR (maddR (newR W.tail 4 false)) = { (maddR (newR W.tail 4 false)) with e := 14 } := by unfold finR failR; rw [if_pos (more_yes he hq), if_pos he]
            have hz : ¬ (finR (maddR (newR W.tail 4 false))).e = 0 := by rw [hf]; show ¬ (14 : Int) = 0; decide
            have hx : AV.si .i64 14 = .si .i64 (finR (maddR (newR W.tail 4 false))).e := by rw [hf]
            conv => whnf
            refine Fork.dec (fun _ => ?_) (fun q => absurd he q)
            conv => whnf
            refine ⟨?_, ?_, trivial⟩
            · conv => whnf
              exact ⟨_, FzT.zero (R := finR (maddR (newR W.tail 4 false))) hz zero_NF (hx), rfl⟩
            · conv => whnf
              exact ⟨_, FzT.zero (R := finR (maddR (newR W.tail 4 false))) hz zero_NF (hx), rfl⟩
          · have hq : ¬ 0 < (maddR (newR W.tail 4 false)).ws.length := fun q => hq (by exact Int.ofNat_lt.2 q)
            have hf : finR (maddR (newR W.tail 4 false)) = (maddR (newR W.tail 4 false)) := by unfold finR; rw [if_neg (more_no2 hq)]
            have hx : AV.si .i64 0 = .si .i64 (maddR (newR W.tail 4 false)).e := by rw [he]
            conv => whnf
            refine Fork.ndec (fun q => absurd he q) (fun _ => ?_)
            conv => whnf
            exact ⟨_, FzT.rows 11 12 13 14 15 16 (by decide) (by decide) he hx rfl rfl rfl rfl rfl rfl, congrArg resV hf.symm⟩
        · have he : ¬ (maddR (newR W.tail 4 false)).e = 0 := he
          have hf : finR (maddR (newR W.tail 4 false)) = (maddR (newR W.tail 4 false)) := by unfold finR; rw [if_neg (more_no1 he)]
          have hz : ¬ (finR (maddR (newR W.tail 4 false))).e = 0 := by rw [hf]; exact he
          have hx : AV.si .i64 (maddR (newR W.tail 4 false)).e = .si .i64 (finR (maddR (newR W.tail 4 false))).e := by rw [hf]
          conv => whnf
          refine Fork.ndec (fun _ => ?_) (fun q => absurd q he)
          conv => whnf
          refine ⟨?_, ?_, trivial⟩
          · conv => whnf
            exact ⟨_, FzT.zero (R := finR (maddR (newR W.tail 4 false))) hz zero_NF (hx), rfl⟩
          · conv => whnf
            exact ⟨_, FzT.zero (R := finR (maddR (newR W.tail 4 false))) hz zero_NF (hx), rfl⟩
      · conv => whnf
        refine Ask.mk _ rfl ?_
        conv => whnf
        refine ⟨_, _, Recast.reader (r := 1) (ws := W.tail) (k := 4) (b := false) rfl (congrArg (fun a => a :: (rdC0 (newR W.tail 4 false)).tail) (tail_fr W)) (by decide) (by decide), 1, 5, 6, 7, 8, 9, 10, newR W.tail 4 false, rfl, rfl, ⟨by decide, by decide, rfl, rfl, rfl, rfl, rfl, rfl, rfl⟩, hB, ?_⟩
        conv => whnf
        refine Fork.dec (fun he => ?_) (fun he => ?_)
        · have he : (maddR (newR W.tail 4 false)).e = 0 := he
          conv => whnf
          refine Fork.dec (fun hq => ?_) (fun hq => ?_)
          · have hq : 0 < (maddR (newR W.tail 4 false)).ws.length := by exact Int.ofNat_lt.1 hq
            have hf : finR (maddR (newR W.tail 4 false)) = { (maddR (newR W.tail 4 false)) with e := 14 } := by unfold finR failR; rw [if_pos (more_yes he hq), if_pos he]
            have hz : ¬ (finR (maddR (newR W.tail 4 false))).e = 0 := by rw [hf]; show ¬ (14 : Int) = 0; decide
            have hx : AV.si .i64 14 = .si .i64 (finR (maddR (newR W.tail 4 false))).e := by rw [hf]
            conv => whnf
            refine Fork.dec (fun _ => ?_) (fun q => absurd he q)
            conv => whnf
            refine ⟨?_, ?_, trivial⟩
            · conv => whnf
              exact ⟨_, FzT.zero (R := finR (maddR (newR W.tail 4 false))) hz zero_NF (hx), rfl⟩
            · conv => whnf
              exact ⟨_, FzT.zero (R := finR (maddR (newR W.tail 4 false))) hz zero_NF (hx), rfl⟩
          · have hq : ¬ 0 < (maddR (newR W.tail 4 false)).ws.length := fun q => hq (by exact Int.ofNat_lt.2 q)
            have hf : finR (maddR (newR W.tail 4 false)) = (maddR (newR W.tail 4 false)) := by unfold finR; rw [if_neg (more_no2 hq)]
            have hx : AV.si .i64 0 = .si .i64 (maddR (newR W.tail 4 false)).e := by rw [he]
            conv => whnf
            refine Fork.ndec (fun q => absurd he q) (fun _ => ?_)
            conv => whnf
            exact ⟨_, FzT.rows 11 12 13 14 15 16 (by decide) (by decide) he hx rfl rfl rfl rfl rfl rfl, congrArg resV hf.symm⟩
        · have he : ¬ (maddR (newR W.tail 4 false)).e = 0 := he
          have hf : finR (maddR (newR W.tail 4 false)) = (maddR (newR W.tail 4 false)) := by unfold finR; rw [if_neg (more_no1 he)]
          have hz : ¬ (finR (maddR (newR W.tail 4 false))).e = 0 := by rw [hf]; exact he
          have hx : AV.si .i64 (maddR (newR W.tail 4 false)).e = .si .i64 (finR (maddR (newR W.tail 4 false))).e := by rw [hf]
          conv => whnf
          refine Fork.ndec (fun _ => ?_) (fun q => absurd q he)
          conv => whnf
          refine ⟨?_, ?_, trivial⟩
          · conv => whnf
            exact ⟨_, FzT.zero (R := finR (maddR (newR W.tail 4 false))) hz zero_NF (hx), rfl⟩
          · conv => whnf
            exact ⟨_, FzT.zero (R := finR (maddR (newR W.tail 4 false))) hz zero_NF (hx), rfl⟩
end Go.Proofs.Ytdfeigkooeeeaaa
namespace Go.Proofs.Ytdfeigkooeeeaaa
open Go Go.RowKit
set_option maxRecDepth 20000
section
variable {φ ψ : Ph} {H : AH} {n : Nat} {h0 hp : Hp}
theorem stabUseZ {H' : AH} {n' : Nat} {g : Hp} (hr : HR φ H n h0 hp) (hg : HR ψ H' n' hp g) (hy : ∀ q, ψ.y q → φ.z q) : ∃ χ, PLe φ χ ∧ HR χ H n h0 g ∧ ∀ q, ψ.z q → χ.z q := by
  have hg2 : HR φ H n h0 g := hr.grow (fun b o hb => (hg.base b o hb).2) hg.size
  have hb0 : ∀ B, hp.f B = none → h0.f B = none := fun B e => by
    cases q : h0.f B with
    | none => rfl
    | some o => have := (hr.base B o q).2; rw [e] at this; cases this
  have own : ∀ B, hp.f B = none → ∀ b o p, H.get b = some o → o.own = true → φ b = some p → p.B ≠ B := fun B e b o p hb hw hp' q => by
    obtain ⟨ob, _, h1, _⟩ := hr.of hb hp'
    rw [q, e] at h1; cases h1
  have sub : ∀ q, ψ.z q → (φ.more fun q => ψ.z q ∧ hp.f q.B = none).z q := fun q hq => by
    obtain ⟨⟨_, hyq⟩, _⟩ := hg.frz q hq
    rcases hyq with hyq | hyq
    · exact .inl (hy q hyq)
    · exact .inr ⟨hq, hyq⟩
  refine ⟨φ.more fun q => ψ.z q ∧ hp.f q.B = none, φ.more_le _, hg2.more fun q hq => ?_, sub⟩
  obtain ⟨⟨hf, _⟩, _⟩ := hg.frz q hq.1
  exact ⟨FzR.mono sub hf, hb0 _ hq.2, own _ hq.2⟩
/-- A run on a memory of its own that yields a struct of frozen rows, with another value. -/
theorem smallF {f : FuncId} {run : List AV → AH → Nat → PK → Prop} (hrun : NatP f run) {args0 : List AV} {H0 : AH} {n0 : Nat} {l : List AV} {x : AV} (hl : l.all stab = true) (hx : stab x = true) (h : postF run args0 H0 n0 fun v => v = .tup [.agg l, x])
    {vs : Array Value} {κ : PK} {K : KH} (hk' : κ (.tup [.agg l, x]) H n) (hr : HR φ H n h0 hp) (hk : ThenP φ h0 κ K) (hic : isCall Try.prog f = true) {φ0 : Ph} (hr0 : Wf hp → HR φ0 H0 n0 hp hp) (hy : φ0.y = φ.z) (hargs : VRs φ0 args0 vs.toList) : CallF Try.prog f vs hp K := by
  have key : Wf hp → CallF Try.prog f vs hp K := fun hw => hrun args0 H0 n0 _ h φ0 hp hp vs K (hr0 hw) hargs fun ψ u H' n' w g hle hg hu ⟨v, hf, hv⟩ => by
    subst hv
    obtain ⟨ψ2, p2, ⟨H2, g2⟩, v2⟩ := hf ψ hp g w hg hu
    obtain ⟨χ, h1, h2, h3⟩ := stabUseZ hr g2 (fun q hq => hy ▸ (hle.trans p2).y q hq)
    exact hk χ _ H n w g h1 h2 (tup_stab h3 hl hx v2) hk'
  exact ⟨hic, fun w hi => (key hi.wf).2 w hi⟩
end
def natPm (args : List AV) (H : AH) (n : Nat) (κ : PK) : Prop := match args with
  | [x] => ∃ (b m : Nat) (W : List (List Nat)) (l : List AV), x = .rw b 0 m 1 0 ∧ m = W.length ∧ H.get b = some (.cells l true) ∧ l.map mk = txts W ∧ 0 < W.length ∧ W.length ≤ 700000 ∧ (∀ w ∈ W, (∀ c ∈ w, c < 256) ∧ w.length ≤ 1000000) ∧ whF namN (upF (W.headD [])) = 4 ∧ whF bakN (upF (W.headD [])) = 0 ∧
      κ (resV (finR (maddR (newR W.tail 4 false)))) (H.set none depthH b) n
  | _ => False
theorem cmF_stab (R : Rd) : (cmF R).all stab = true := rfl
theorem n_parseM : NatP 14 natPm := fun args H n κ hs φ h0' hp vs K hr hargs hk => by
  unfold natPm at hs
  split at hs
  · obtain ⟨x, rfl, e1⟩ := vs1 hargs
    obtain ⟨b, m, W, l, rfl, rfl, hb, hl, g1, g2, g3, g4, g5, hs⟩ := hs
    obtain ⟨χ, h1, h2, h3⟩ := hr.frzC (s := txts W) hb e1 (by decide) (txts_flat W) (by rw [txts_length, Nat.mul_one]) (by rw [hl, txts_map])
    exact smallF (callT_nat KPm_ok 5 _) (l := cmF (if (finR (maddR (newR W.tail 4 false))).e = 0 then finR (maddR (newR W.tail 4 false)) else zeroR)) (x := .si .i64 (finR (maddR (newR W.tail 4 false))).e) (cmF_stab _) rfl (parseM_run W g1 g2 g3 g4 g5) hs h2 (fun ψ v H' n' u g hle => hk ψ v H' n' u g (h1.trans hle)) (by kernel_rfl) (φ0 := ⟨fun _ => none, χ.z, χ.z⟩) (fun hw => h2.withz (start_none hw) (fun _ _ h => by cases h) (fun _ h => h)) rfl
      (.cons (stab_VR (ψ := ⟨fun _ => none, χ.z, χ.z⟩) (fun _ h => h) rfl h3) .nil)
  · exact hs.elim
end Go.Proofs.Ytdfeigkooeeeaaa
namespace Go.Proofs.Ytdfeigkooeeeaaa
open Go Go.RowKit
set_option maxRecDepth 20000
theorem digs_ne_star (z : Int) : digs z ≠ [42] := fun h => by
  have := (digs_form z 42 [] h).1
  omega
theorem samp_eq {R : Rd} {key tw rest : List (List Nat)} {k : List Nat} {w : List Nat} {tv v : Int} (h0 : R.e = 0) (hw : R.ws = k :: w :: digs v :: rest) (ht : (w = [42] ∧ tv = -1) ∨ (w = digs tv ∧ In64 tv)) (hv : In64 v) :
    sampR R = { R with ws := rest, ks := R.ks ++ [k], ts := R.ts ++ [tv], vs := R.vs ++ [v] } := by
  have m1 : moreR R = true := more_yes h0 (by rw [hw]; exact Nat.succ_pos _)
  have e1 : keyR R = { R with ws := w :: digs v :: rest, ks := R.ks ++ [k] } := by
    unfold keyR nextR; rw [if_pos m1, hw]; rfl
  have e2 : timeR (keyR R) = { R with ws := digs v :: rest, ks := R.ks ++ [k], ts := R.ts ++ [tv] } := by
    rw [e1]
    have m2 : moreR { R with ws := w :: digs v :: rest, ks := R.ks ++ [k] } = true := more_yes h0 (Nat.succ_pos _)
    rcases ht with ⟨rfl, rfl⟩ | ⟨rfl, ht⟩
    · unfold timeR orR
      rw [m2]
      have : beqL ([42] : List Nat) [42] = true := beqL_is.2 rfl
      simp only [List.headD_cons, this, Bool.and_self, if_true, nextR, m2, List.tail_cons]
    · have hb : beqL (digs tv) [42] = false := by
        cases h : beqL (digs tv) [42] with
        | false => rfl
        | true => exact absurd (beqL_is.1 h) (digs_ne_star tv)
      unfold timeR orR
      simp only [List.headD_cons, hb, Bool.and_false, Bool.false_eq_true, if_false, toldR, nextR, m2, if_true, List.tail_cons, num_digs ht]
  unfold sampR
  rw [e2]
  have m3 : moreR { R with ws := digs v :: rest, ks := R.ks ++ [k], ts := R.ts ++ [tv] } = true := more_yes h0 (Nat.succ_pos _)
  unfold valR
  simp only [toldR, nextR, m3, if_true, List.headD_cons, List.tail_cons, num_digs hv]
section
variable (k : List Nat) (tw : Nat → List Nat) (tv vv : Nat → Int)
def smWs (I : List Nat) : List (List Nat) := I.flatMap fun i => [k, tw i, digs (vv i)]
def addS (R : Rd) (I : List Nat) : Rd := { R with ws := [], ks := R.ks ++ I.map (fun _ => k), ts := R.ts ++ I.map tv, vs := R.vs ++ I.map vv }
theorem loop_samps (h : ∀ i, ((tw i = [42] ∧ tv i = -1) ∨ (tw i = digs (tv i) ∧ In64 (tv i))) ∧ In64 (vv i)) : ∀ (I : List Nat) (f : Nat) (R : Rd), R.e = 0 → R.ws = smWs k tw vv I → R.ws.length ≤ f → loopR sampR f R = addS k tv vv R I
  | [], f, R, h0, hw, _ => by
    have hn : ¬ moreR R = true := more_no2 (by rw [hw]; exact Nat.lt_irrefl 0)
    rw [loop_stop hn]
    have hw : R.ws = [] := hw
    unfold addS
    cases R
    simp only [List.map_nil, List.append_nil] at hw ⊢
    subst hw; rfl
  | i :: I, f, R, h0, hw, hf => by
    have hw : R.ws = k :: tw i :: digs (vv i) :: smWs k tw vv I := hw
    have hl : 0 < R.ws.length := by rw [hw]; exact Nat.succ_pos _
    obtain ⟨g, rfl⟩ : ∃ g, f = g + 1 := ⟨f - 1, by omega⟩
    unfold loopR
    rw [if_pos (more_yes h0 hl), samp_eq (key := []) (tw := []) h0 hw (h i).1 (h i).2]
    refine (loop_samps h I g _ (by exact h0) rfl (by rw [hw] at hf; simp only [List.length_cons] at hf ⊢; omega)).trans ?_
    simp [addS]
theorem madd_samps (h : ∀ i, ((tw i = [42] ∧ tv i = -1) ∨ (tw i = digs (tv i) ∧ In64 (tv i))) ∧ In64 (vv i)) (i : Nat) (I : List Nat) (R : Rd) (h0 : R.e = 0) (hw : R.ws = smWs k tw vv (i :: I)) : finR (maddR R) = addS k tv vv R (i :: I) := by
  have hw : R.ws = k :: tw i :: digs (vv i) :: smWs k tw vv I := hw
  have e : maddR R = addS k tv vv R (i :: I) := by
    unfold maddR
    rw [samp_eq (key := []) (tw := []) h0 hw (h i).1 (h i).2]
    refine (loop_samps k tw tv vv h I _ _ (by exact h0) rfl (Nat.le_refl _)).trans ?_
    simp [addS]
  rw [e]
  unfold finR
  exact if_neg (more_no2 (R := addS k tv vv R (i :: I)) (Nat.lt_irrefl 0))
end
/-! ### the words of CommandTimes -/
def smF (M : Smp) (i : Nat) : Int × Int := M.getD i (0, 0)
theorem smF_at {M : Smp} {i : Nat} (h : i < M.length) : smF M i = M[i] := by unfold smF; rw [List.getD_eq_getElem?_getD, List.getElem?_eq_getElem h]; rfl
def tiW (S : Nat → Bool) (M : Smp) (i : Nat) : List Nat := cond (S i) [42] (digs (smF M i).1)
def tiV (S : Nat → Bool) (M : Smp) (i : Nat) : Int := cond (S i) (-1) (smF M i).1
def maddW : List Nat := [116, 115, 46, 109, 97, 100, 100]
def wTo (key : List Nat) (S : Nat → Bool) (M : Smp) (i : Nat) : List (List Nat) := maddW :: smWs key (tiW S M) (fun i => (smF M i).2) (List.range i)
theorem wTo_succ (key : List Nat) (S : Nat → Bool) (M : Smp) (i : Nat) : wTo key S M (i + 1) = wTo key S M i ++ [key, tiW S M i, digs (smF M i).2] := by
  unfold wTo smWs
  rw [List.range_succ, List.flatMap_append]
  simp
theorem wTo_length (key : List Nat) (S : Nat → Bool) (M : Smp) (i : Nat) : (wTo key S M i).length = 1 + 3 * i := by
  induction i with
  | zero => rfl
  | succ i ih => rw [wTo_succ, List.length_append, ih]; simp; omega
theorem smF_in {M : Smp} (hM : ∀ x ∈ M, In64 x.1 ∧ In64 x.2) (i : Nat) : In64 (smF M i).1 ∧ In64 (smF M i).2 := by
  by_cases h : i < M.length
  · rw [smF_at h]; exact hM _ (List.getElem_mem h)
  · unfold smF; rw [List.getD_eq_getElem?_getD, List.getElem?_eq_none (by omega)]; exact ⟨by unfold In64; decide, by unfold In64; decide⟩
theorem tiW_or {S : Nat → Bool} {M : Smp} (hM : ∀ x ∈ M, In64 x.1 ∧ In64 x.2) (i : Nat) : ((tiW S M i = [42] ∧ tiV S M i = -1) ∨ (tiW S M i = digs (tiV S M i) ∧ In64 (tiV S M i))) ∧ In64 (smF M i).2 := by
  have h := smF_in hM i
  refine ⟨?_, h.2⟩
  unfold tiW tiV
  cases S i with
  | true => exact .inl ⟨rfl, rfl⟩
  | false => exact .inr ⟨rfl, h.1⟩
theorem wTo_ok {key : List Nat} (S : Nat → Bool) (M : Smp) (hk : (∀ c ∈ key, c < 256) ∧ key.length ≤ 1000000) (i : Nat) : ∀ w ∈ wTo key S M i, (∀ c ∈ w, c < 256) ∧ w.length ≤ 1000000 := by
  have hd : ∀ z, (∀ c ∈ digs z, c < 256) ∧ (digs z).length ≤ 1000000 := fun z => ⟨digs_lt z, by have := digs_len z; omega⟩
  induction i with
  | zero => intro w hw; rw [show w = maddW from List.mem_singleton.1 hw]; decide
  | succ i ih =>
    intro w hw
    rw [wTo_succ] at hw
    rcases List.mem_append.1 hw with hw | hw
    · exact ih w hw
    · simp only [List.mem_cons, List.not_mem_nil, or_false] at hw
      rcases hw with rfl | rfl | rfl
      · exact hk
      · unfold tiW
        cases S i with
        | true => exact (⟨by decide, by decide⟩ : (∀ c ∈ ([42] : List Nat), c < 256) ∧ ([42] : List Nat).length ≤ 1000000)
        | false => exact hd _
      · exact hd _
/-- What Parse tells of the words of CommandTimes. -/
def timR (key : List Nat) (S : Nat → Bool) (M : Smp) : Rd := { newR [] 4 false with ks := (List.range M.length).map (fun _ => key), ts := (List.range M.length).map (tiV S M), vs := (List.range M.length).map fun i => (smF M i).2 }
theorem times_law (key : List Nat) (S : Nat → Bool) {M : Smp} (hM : ∀ x ∈ M, In64 x.1 ∧ In64 x.2) (hp : 0 < M.length) : finR (maddR (newR (wTo key S M M.length).tail 4 false)) = timR key S M := by
  obtain ⟨n, hn⟩ : ∃ n, M.length = n + 1 := ⟨M.length - 1, by omega⟩
  have hr : List.range M.length = 0 :: (List.range n).map Nat.succ := by rw [hn, List.range_succ_eq_map]
  rw [madd_samps key (tiW S M) (tiV S M) (fun i => (smF M i).2) (fun i => tiW_or hM i) 0 ((List.range n).map Nat.succ) _ rfl (by rw [← hr]; rfl), ← hr]
  rfl
theorem timR_rows (key : List Nat) (S : Nat → Bool) (M : Smp) : ∃ (A : List (List Nat)) (B C : List Int), timR key S M = { newR [] 4 false with ks := A, ts := B, vs := C } ∧ A.length = M.length ∧ B.length = M.length ∧ C.length = M.length ∧
    (∀ j, j < M.length → nth (txts A) (j * 1) = some (.ss key)) ∧ (∀ j, j < M.length → nth (ints B) (j * 1) = some (.si .i64 (tiV S M j))) ∧ (∀ j, j < M.length → nth (ints C) (j * 1) = some (.si .i64 (smF M j).2)) :=
  ⟨_, _, _, rfl, by simp, by simp, by simp, fun j h => by rw [nth_eq]; simp [txts, h], fun j h => by rw [nth_eq]; simp [ints, h], fun j h => by rw [nth_eq]; simp [ints, h]⟩
theorem times_none (key : List Nat) (S : Nat → Bool) {M : Smp} (hp : M.length = 0) : ∃ X : Rd, finR (maddR (newR (wTo key S M M.length).tail 4 false)) = X ∧ X.e = 14 := by
  rw [hp]
  refine ⟨_, rfl, ?_⟩
  have : (finR (maddR (newR [] 4 false))).e = 14 := by decide +kernel
  exact this
theorem wTo_head (key : List Nat) (S : Nat → Bool) (M : Smp) (i : Nat) : (wTo key S M i).headD [] = maddW := rfl
theorem wh_madd : whF namN (upF maddW) = 4 ∧ whF bakN (upF maddW) = 0 := by decide +kernel
end Go.Proofs.Ytdfeigkooeeeaaa
namespace Go.Proofs.Ytdfeigkooeeeaaa
open Go Go.RowKit
set_option maxRecDepth 20000
theorem decC_spec : ∀ {es : List (AV × AV)} {N : List (Nat × List Nat)}, decC es = some N → es = entC N
  | [], N, h => by
    injection h with h; subst h; rfl
  | (a, b) :: es, N, h => by
    unfold decC at h
    split at h
    · rename_i q; cases q
    · rename_i k s es' e
      injection e with e1 e2; injection e1 with e1 e3; subst e1 e2 e3
      split at h
      · rename_i N' hN'
        injection h with h; subst h
        rw [decC_spec hN']; rfl
      · cases h
    · cases h
theorem whQ_inv {args : List AV} {H : AH} {n : Nat} {κ : KA} {r : AV × AH × Nat} (h : whQ args H n κ = some r) : ∃ (b : Nat) (N : List (Nat × List Nat)) (w : List Nat), args = [.str w, .map b] ∧ H.get b = some (.map (entC N)) ∧ apartC N = true ∧ (∀ c ∈ w, c < 256) ∧ w.length ≤ 1000000 ∧ ∀ κ' : KA, whQ args H n κ' = κ' (.int .i64 (Int.ofNat (whF N (upF w)))) H n := by
  unfold whQ at h
  split at h
  · rename_i w b
    split at h
    · rename_i es hb
      split at h
      · rename_i N hN
        split at h
        · rename_i hok
          simp only [Bool.and_eq_true] at hok
          have e := decC_spec hN
          subst e
          refine ⟨b, N, w, rfl, hb, hok.1, fun c hc => ?_, ?_, fun κ' => ?_⟩
          · have := List.all_eq_true.1 hok.2.1 c hc
            exact Nat.le_of_ble_eq_true this
          · have : w.length < 1000 := Nat.le_of_ble_eq_true hok.2.2
            omega
          · unfold whQ
            simp only [hb, hN, hok.1, hok.2.1, hok.2.2, Bool.and_self]
        · cases h
      · cases h
    · cases h
  · cases h
theorem whQ_N : NatN whQ := fun args H n κ r h => by
  obtain ⟨b, N, w, _, _, _, _, _, hk⟩ := whQ_inv h
  exact ⟨_, _, _, hk⟩
theorem whQ_ok : COk Try.prog 23 fun args H n => whQ args H n topq := fun args H n v H' n' e φ h0 h vs K hr hargs hk => by
  have e : whQ args H n topq = some (v, H', n') := e
  obtain ⟨b, N, w, rfl, hb, hN, h1, h2, hq⟩ := whQ_inv e
  rw [hq topq] at e
  injection e with e; injection e with e1 e2; injection e2 with e2 e3
  subst e1 e2 e3
  obtain ⟨x, y, rfl, ex, ey⟩ := vs2 hargs
  obtain ⟨p, hp, _⟩ := ey.map_inv
  exact n_which [.str w, .map b] H n (fun v' H1 n1 => v' = .si .i64 ((whF N (upF w) : Nat) : Int) ∧ H1 = H ∧ n1 = n) ⟨b, N, w, rfl, rfl, (hr.dom b p hp).1, hb, hN, h1, h2, rfl, rfl, rfl⟩ φ h0 h _ K hr hargs
    fun ψ v' H1 n1 u g hle hg hu ⟨f1, f2, f3⟩ => by
      subst f1 f2 f3
      exact hk ψ u g hle hg hu.hd
theorem withQ_ok {F : FuncId → EQ} (hF : TabQ F) {k : FuncId} {g : List AV → AH → Nat → KA → AR} (h1 : NatN g) (h2 : COk Try.prog k fun args H n => g args H n topq) : TabQ (withQ k g F) := fun f => by
  unfold withQ
  cases hb : Nat.beq f k with
  | false => exact hF f
  | true =>
    have := Nat.eq_of_beq_eq_true hb
    subst this
    exact ⟨h1, h2⟩
theorem evC_ok : TabQ evC := withQ_ok evQ_ok whQ_N whQ_ok
theorem command_known_ran : isTrue (callq evC 60 8 [] .nil 0 topq) = true := by kernel_rfl
theorem n_known14 : NatP 8 (natQ trueN) := natQ_ok (trueN_ok evC_ok command_known_ran)
end Go.Proofs.Ytdfeigkooeeeaaa
namespace Go.Proofs.Ytdfeigkooeeeaaa
open Go Go.RowKit
set_option maxRecDepth 20000
theorem SubV.frE {H : AH} {m : Nat} {r : Nat → Nat} {a : AV} {n k : Nat} {l : List AV} (e : a = .fr n k l) : SubV H m r a (.fr n k l) := by subst e; exact .stab rfl
theorem SubO.stabs {H : AH} {m : Nat} {r : Nat → Nat} {l : List AV} {z : Bool} (h : l.all stab = true) : SubO H m r (.cells l z) (.cells l z) :=
  SubO.cells (Nat.le_refl _) (fun q => q) fun i a' hi => ⟨a', hi, .stab (List.all_eq_true.1 h a' (List.mem_of_getElem? hi))⟩
/-- Parse of many samples, what it tells as a structure. -/
def natPmE (args : List AV) (H : AH) (n : Nat) (κ : PK) : Prop := match args with
  | [x] => ∃ (b m : Nat) (W : List (List Nat)) (l : List AV) (X : Rd), x = .rw b 0 m 1 0 ∧ m = W.length ∧ H.get b = some (.cells l true) ∧ l.map mk = txts W ∧ 0 < W.length ∧ W.length ≤ 700000 ∧ (∀ w ∈ W, (∀ c ∈ w, c < 256) ∧ w.length ≤ 1000000) ∧ whF namN (upF (W.headD [])) = 4 ∧ whF bakN (upF (W.headD [])) = 0 ∧
      finR (maddR (newR W.tail 4 false)) = X ∧ κ (resV X) (H.set none depthH b) n
  | _ => False
theorem n_parseE : NatP 14 natPmE := fun args H n κ hs => n_parseM args H n κ (by
  unfold natPmE at hs
  unfold natPm
  split at hs
  · obtain ⟨b, m, W, l, X, h1, h2, h3, h4, h5, h6, h7, h8, h9, h10, h11⟩ := hs
    subst h10
    exact ⟨b, m, W, l, h1, h2, h3, h4, h5, h6, h7, h8, h9, h11⟩
  · exact hs.elim)
noncomputable def KCt : FuncId → EP := withD 7 [] (withN 11 natDg (withN 14 natPmE (withN 8 (natQ trueN) evP)))
theorem KCt_ok : TabP KCt := withD_ok (withN_ok (withN_ok (withN_ok evP_ok n_known14) n_parseE) n_digits) (by kernel_rfl) (by kernel_rfl)
noncomputable def ct1 (key : List Nat) (M : Smp) (st : Int) (S : Nat → Bool) (i : Nat) : AE × AH := (mkE [(0, .ss (key)), (1, .fr (M.length) 2 (smp M)), (2, .si .u32 st), (7, .rw 0 0 (wTo key S M i).length 1 0), (8, .si .i64 ((i : Int)))], mkH [(0, .cells (txts ((wTo key S M i))) true)])
theorem ct1_cov {key : List Nat} {M : Smp} {st : Int} {S : Nat → Bool} {i : Nat} {p n : Nat} {σ : AE} {H : AH} (j0 : Nat) (hp : p ≤ 0) (e0 : mk (getq (pa 0) σ) = .ss (key)) (e1 : getq (pa 1) σ = .fr (M.length) 2 (smp M)) (e2 : SubV H 1 (fun b => if b = 0 then j0 else b) (getq (pa 2) σ) (.si .u32 st)) (e7 : SubV H 1 (fun b => if b = 0 then j0 else b) (getq (pa 7) σ) (.rw 0 0 (wTo key S M i).length 1 0)) (e8 : mk (getq (pa 8) σ) = .si .i64 ((i : Int))) (h0 : (∃ l, H.get j0 = some (.cells l true) ∧ l.map mk = txts ((wTo key S M i))) ∨ (((wTo key S M i)) = [] ∧ n ≤ j0)) : Cov p σ H n ((ct1 key M st S i).1, (ct1 key M st S i).2, 1) := by
  refine Cov.ofR (fun b => if b = 0 then j0 else b) (by omega) (fun b hb => by repeat' rw [if_neg (by omega)]) ?_ ?_ ?_
  · intro x hx
    simp only [List.mem_cons, List.not_mem_nil, or_false] at hx
    rcases hx with rfl | rfl | rfl | rfl | rfl
    · exact .str e0
    · exact SubV.frE e1
    · exact e2
    · exact e7
    · exact .int e8
  · intro x hx
    simp only [List.mem_cons, List.not_mem_nil, or_false] at hx
    subst hx
    exact ⟨by simp, h0.elim (fun ⟨l, h, g⟩ => .inl ⟨_, h, SubO.cells_mk (txts_flat _) (by rw [g, txts_map]) (fun q => q)⟩) (fun h => .inr ⟨by rw [h.1]; rfl, h.2⟩)⟩
  · intro x hx y hy
    simp only [List.mem_cons, List.not_mem_nil, or_false] at hx hy
    subst hx hy
    exact fun q => rfl
noncomputable def ct2 (key : List Nat) (M : Smp) (st : Int) (X : Rd) (i : Nat) : AE × AH := (mkE [(0, .ss (key)), (1, .fr (M.length) 2 (smp M)), (2, .si .u32 st), (10, .ptr 1 (0)), (12, .si .i64 ((i : Int)))], mkH [(1, .cells (cmF X) true)])
theorem ct2_cov {key : List Nat} {M : Smp} {st : Int} {X : Rd} {i : Nat} {p n : Nat} {σ : AE} {H : AH} (hp : p ≤ 0) (e0 : mk (getq (pa 0) σ) = .ss (key)) (e1 : getq (pa 1) σ = .fr (M.length) 2 (smp M)) (e2 : SubV H 2 (fun b => b) (getq (pa 2) σ) (.si .u32 st)) (e10 : getq (pa 10) σ = .ptr 1 (0)) (e12 : mk (getq (pa 12) σ) = .si .i64 ((i : Int))) (h1 : H.get 1 = some (.cells (cmF X) true)) : Cov p σ H n ((ct2 key M st X i).1, (ct2 key M st X i).2, 2) := by
  refine Cov.ofR (fun b => b) (by omega) (fun b hb => rfl) ?_ ?_ ?_
  · intro x hx
    simp only [List.mem_cons, List.not_mem_nil, or_false] at hx
    rcases hx with rfl | rfl | rfl | rfl | rfl
    · exact .str e0
    · exact SubV.frE e1
    · exact e2
    · exact .ptr (by decide) e10
    · exact .int e12
  · intro x hx
    simp only [List.mem_cons, List.not_mem_nil, or_false] at hx
    subst hx
    exact ⟨by simp, .inl ⟨_, h1, SubO.stabs (cmF_stab X)⟩⟩
  · intro x hx y hy
    simp only [List.mem_cons, List.not_mem_nil, or_false] at hx hy
    subst hx hy
    exact fun q => rfl
set_option maxHeartbeats 16000000 in
set_option maxRecDepth 100000 in
theorem w_commandTimes (key : List Nat) (M : Smp) (st : Int) (hk : ∀ c ∈ key, c < 256) (hM : ∀ x ∈ M, In64 x.1 ∧ In64 x.2) (hMl : M.length ≤ 8796093022208) : callT KCt 6 7 [.ss key, .fr M.length 2 (smp M), .si .u32 st] .nil 0 fun v _ _ => v = .bool true ∨ v = .sb true := by
  conv => whnf
  refine Fork.dec (fun _ => ?_) (fun h100 => ?_)
  · conv => whnf
    exact .inl rfl
  conv => whnf
  refine Fork.dec (fun _ => ?_) (fun h20 => ?_)
  · conv => whnf
    exact .inl rfl
  conv => whnf
  have hkl : key.length ≤ 100 := by omega
  have hMn : M.length ≤ 20 := by omega
  have hok := fun (S : Nat → Bool) i => wTo_ok S M (key := key) ⟨hk, by omega⟩ i
  obtain ⟨S, hS⟩ : ∃ S : Nat → Bool, S = fun i : Nat => decide (bitsV .and .u32 (st.fdiv (2 ^ min (i : Int).toNat 32)) 1 = 1) := ⟨_, rfl⟩
  refine LoopP.mk { i : Nat // i ≤ M.length } 1 (fun i => ct1 key M st S i.val) (fun i => M.length - i.val) ⟨0, Nat.zero_le _⟩ ?_ ?_
  · exact ct1_cov 0 (Nat.le_refl 0) rfl rfl (.same rfl) (.slRw (by decide) rfl (by first | exact .inl rfl | exact .inr ⟨rfl, _, rfl, Nat.le_of_ble_eq_true rfl⟩) (by decide)) rfl (.inl ⟨_, rfl, rfl⟩)
  · intro ⟨i, hi⟩
    conv => whnf
    refine Fork.dec (fun h => ?_) (fun h => ?_)
    · have hi2 : i < M.length := by exact Int.ofNat_lt.1 h
      have hI := hM _ (List.getElem_mem hi2)
      have hi1 : IntKind.i64.wrap ((i : Int) + 1) = ((i + 1 : Nat) : Int) := W64_of ⟨by omega, by omega⟩
      have hlen : (wTo key S M i).length + 3 = (wTo key S M (i + 1)).length := by rw [wTo_length, wTo_length]; omega
      have hrow := txts_whole (wTo key S M i)
      have hbig : ((wTo key S M i).length + 3) * 16 ≤ 140737488355328 := by rw [wTo_length]; omega
      have hcell : ∀ (t : List Nat) (a b c : AV), mk a = .ss key → mk b = .ss t → mk c = .ss (digs M[i].2) → tiW S M i = t → (txts (wTo key S M i) ++ [a, b, c]).map mk = txts (wTo key S M (i + 1)) := fun t a b c e1 e2 e3 ht => by
        rw [wTo_succ, ht, smF_at hi2, List.map_append, txts_map, List.map_cons, List.map_cons, List.map_cons, List.map_nil, e1, e2, e3]; simp [txts]
      conv => whnf
      refine Idx.mk i rfl hi2 ?_
      conv => whnf
      refine optP_of (smp_nth0 hi2 rfl) ?_
      conv => whnf
      refine ⟨M[i].1, rfl, hI.1, ?_⟩
      conv => whnf
      refine ⟨Int.natCast_nonneg _, ?_⟩
      conv => whnf
      refine Fork.dec (fun hs => ?_) (fun hs => ?_)
      · have hs : S i = true := by rw [hS]; exact decide_eq_true hs
        conv => whnf
        refine Idx.mk i rfl hi2 ?_
        conv => whnf
        refine optP_of (smp_nth1 hi2 rfl) ?_
        conv => whnf
        refine ⟨M[i].2, rfl, hI.2, ?_⟩
        conv => whnf
        refine RApp.grow 1 16 _ _ _ _ _ _ tyTx (.old rfl) rfl rfl (.rw rfl hrow) hbig ?_
        conv => whnf
        exact ⟨⟨i + 1, hi2⟩, by show M.length - (i + 1) < M.length - i; omega, ct1_cov 2 (Nat.le_refl 0) rfl rfl (.same rfl) (.rw (by decide) (congrArg (fun q => AV.rw 2 0 q 1 0) hlen)) (congrArg (AV.si .i64) hi1) (.inl ⟨_, rfl, hcell [42] _ _ _ rfl rfl rfl (by unfold tiW; rw [hs]; rfl)⟩)⟩
      · have hs : S i = false := by rw [hS]; exact decide_eq_false hs
        conv => whnf
        refine Idx.mk i rfl hi2 ?_
        conv => whnf
        refine optP_of (smp_nth1 hi2 rfl) ?_
        conv => whnf
        refine ⟨M[i].2, rfl, hI.2, ?_⟩
        conv => whnf
        refine RApp.grow 1 16 _ _ _ _ _ _ tyTx (.old rfl) rfl rfl (.rw rfl hrow) hbig ?_
        conv => whnf
        exact ⟨⟨i + 1, hi2⟩, by show M.length - (i + 1) < M.length - i; omega, ct1_cov 2 (Nat.le_refl 0) rfl rfl (.same rfl) (.rw (by decide) (congrArg (fun q => AV.rw 2 0 q 1 0) hlen)) (congrArg (AV.si .i64) hi1) (.inl ⟨_, rfl, hcell (digs M[i].1) _ _ _ rfl rfl rfl (by unfold tiW; rw [hs]; show digs (smF M i).1 = _; rw [smF_at hi2])⟩)⟩
    · have hin : i = M.length := by have : ¬ i < M.length := fun q => h (by exact Int.ofNat_lt.2 q); omega
      conv => whnf
      rcases Nat.eq_zero_or_pos M.length with hz | hz
      · obtain ⟨X, hX, hXe⟩ := times_none key S (M := M) hz
        refine ⟨_, _, wTo key S M i, _, X, rfl, rfl, rfl, txts_map _, Nat.succ_pos _, by rw [wTo_length]; omega, hok S i, wh_madd.1, wh_madd.2, by rw [hin]; exact hX, ?_⟩
        conv => whnf
        refine Fork.dec (fun _ => ?_) (fun q => absurd (by exact Int.ofNat_inj.2 hz) q)
        conv => whnf
        refine Fork.dec (fun _ => ?_) (fun q => absurd hXe q)
        conv => whnf
        exact .inl rfl

      · obtain ⟨A, B, C, hX, k1, k2, k3, n1, n2, n3⟩ := timR_rows key S M
        refine ⟨_, _, wTo key S M i, _, { newR [] 4 false with ks := A, ts := B, vs := C }, rfl, rfl, rfl, txts_map _, Nat.succ_pos _, by rw [wTo_length]; omega, hok S i, wh_madd.1, wh_madd.2, by rw [hin]; exact (times_law key S hM hz).trans hX, ?_⟩
        conv => whnf
        refine Fork.dec (fun q => absurd (Int.ofNat_inj.1 q) (Nat.ne_of_gt hz)) (fun _ => ?_)
        conv => whnf
        refine Fork.ndec (fun q => absurd rfl q) (fun _ => ?_)
        conv => whnf
        refine Fork.ndec (fun q => absurd (congrArg Int.ofNat k1) q) (fun _ => ?_)
        conv => whnf
        refine Fork.ndec (fun q => absurd (congrArg Int.ofNat k2) q) (fun _ => ?_)
        conv => whnf
        refine Fork.ndec (fun q => absurd (congrArg Int.ofNat k3) q) (fun _ => ?_)
        conv => whnf
        refine LoopP.mk { i : Nat // i ≤ M.length } 2 (fun i => ct2 key M st { newR [] 4 false with ks := A, ts := B, vs := C } i.val) (fun i => M.length - i.val) ⟨0, Nat.zero_le _⟩ ?_ ?_
        · exact ct2_cov (Nat.zero_le _) rfl rfl (.same rfl) rfl rfl rfl
        · intro ⟨j, hj⟩
          conv => whnf
          refine Fork.dec (fun h => ?_) (fun h => ?_)
          · have hj2 : j < M.length := by exact Int.ofNat_lt.1 h
            have hj1 : IntKind.i64.wrap ((j : Int) + 1) = ((j + 1 : Nat) : Int) := W64_of ⟨by omega, by omega⟩
            conv => whnf
            refine ⟨Int.natCast_nonneg _, ?_⟩
            conv => whnf
            have a1 : j < A.length := by rw [k1]; exact hj2
            have a2 : j < B.length := by rw [k2]; exact hj2
            have a3 : j < C.length := by rw [k3]; exact hj2
            refine Idx.mk j rfl a1 ?_
            conv => whnf
            refine optP_of (n1 j hj2) ?_
            conv => whnf
            refine Fork.nsb (fun q => absurd (beqL_is.2 rfl) (by rw [q]; decide)) (fun _ => ?_)
            conv => whnf
            refine Idx.mk j rfl a3 ?_
            conv => whnf
            refine optP_of (n3 j hj2) ?_
            conv => whnf
            refine Idx.mk j rfl hj2 ?_
            conv => whnf
            refine optP_of (smp_nth1 hj2 rfl) ?_
            conv => whnf
            refine Fork.ndec (fun q => absurd (congrArg Prod.snd (smF_at hj2)) q) (fun _ => ?_)
            conv => whnf
            refine Fork.dec (fun hs => ?_) (fun hs => ?_)
            · have hS1 : tiV S M j = -1 := by unfold tiV; rw [show S j = true by rw [hS]; exact decide_eq_true hs]; rfl
              conv => whnf
              refine Idx.mk j rfl a2 ?_
              conv => whnf
              refine optP_of (n2 j hj2) ?_
              conv => whnf
              refine Fork.ndec (fun q => absurd hS1 q) (fun _ => ?_)
              conv => whnf
              refine Fork.ndec (fun q => absurd hs q) (fun _ => ?_)
              conv => whnf
              exact ⟨⟨j + 1, hj2⟩, by show M.length - (j + 1) < M.length - j; omega, ct2_cov (Nat.zero_le _) rfl rfl (.same rfl) rfl (congrArg (AV.si .i64) hj1) rfl⟩
            · have hS0 : tiV S M j = M[j].1 := by unfold tiV; rw [show S j = false by rw [hS]; exact decide_eq_false hs, smF_at hj2]; rfl
              conv => whnf
              refine Fork.ndec (fun _ => ?_) (fun q => absurd q hs)
              conv => whnf
              refine Idx.mk j rfl a2 ?_
              conv => whnf
              refine optP_of (n2 j hj2) ?_
              conv => whnf
              refine Idx.mk j rfl hj2 ?_
              conv => whnf
              refine optP_of (smp_nth0 hj2 rfl) ?_
              conv => whnf
              refine Fork.ndec (fun q => absurd hS0 q) (fun _ => ?_)
              conv => whnf
              exact ⟨⟨j + 1, hj2⟩, by show M.length - (j + 1) < M.length - j; omega, ct2_cov (Nat.zero_le _) rfl rfl (.same rfl) rfl (congrArg (AV.si .i64) hj1) rfl⟩
          · conv => whnf
            exact .inl rfl
end Go.Proofs.Ytdfeigkooeeeaaa
namespace Go.Proofs.Ytdfeigkooeeeaaa
open Go Go.RowKit
set_option maxRecDepth 20000
section
variable {φ ψ : Ph} {H : AH} {n : Nat} {h0 hp : Hp}
/-- A run of a function's own that yields what is known. -/
theorem smallNR {f : FuncId} {run : List AV → AH → Nat → PK → Prop} (hrun : NatP f run) {args0 : List AV} {H0 : AH} {n0 : Nat} {v : AV} (hv : flat v = true) (h : run args0 H0 n0 fun u _ _ => mkT u = mkT v)
    {vs : Array Value} {κ : PK} {K : KH} (hs : κ (mkT v) H n) (hr : HR φ H n h0 hp) (hk : ThenP φ h0 κ K) (hic : isCall Try.prog f = true) {φ0 : Ph} (hr0 : Wf hp → HR φ0 H0 n0 hp hp) (hargs : VRs φ0 args0 vs.toList) : CallF Try.prog f vs hp K := by
  have key : Wf hp → CallF Try.prog f vs hp K := fun hw => hrun args0 H0 n0 _ h φ0 hp hp vs K (hr0 hw) hargs fun ψ u H' n' w g _ hg hu he => by
    have hg2 : HR φ H n h0 g := hr.grow (fun b o hb => (hg.base b o hb).2) hg.size
    have h3 : VR φ (mkT v) w := (flat_VR (φ := ψ) (flat_mkT hv) (he ▸ hu.mkT))
    exact hk φ _ H n w g (PLe.refl _) hg2 h3 hs
  exact ⟨hic, fun w hi => (key hi.wf).2 w hi⟩
end
/-! ### a number's text, by the document -/
theorem digs_small {z : Int} (hz : In64 z) (h : z.tdiv 10 = 0) : digs z = if z < 0 then [45, 48 + z.natAbs % 10] else [48 + z.natAbs % 10] := by
  have h1 : z.natAbs < 10 := by have := (dig_next hz).2.2; rw [h] at this; simp at this; omega
  unfold digs
  have e : digN 20 z.natAbs = [48 + z.natAbs % 10] := by unfold digN; rw [if_pos h1, Nat.mod_eq_of_lt h1]
  rw [e]
theorem digs_big {z : Int} (hz : In64 z) (h : ¬ z.tdiv 10 = 0) : digs z = digs (z.tdiv 10) ++ [48 + z.natAbs % 10] := by
  have hd := (dig_next hz).2.2
  have h1 : ¬ z.natAbs < 10 := fun q => h (by
    have : (z.tdiv 10).natAbs = 0 := by rw [hd]; omega
    omega)
  have hs : z.tdiv 10 < 0 ↔ z < 0 := by
    constructor
    · intro q
      by_cases k : z < 0
      · exact k
      · have := Int.tdiv_nonneg (show 0 ≤ z by omega) (show (0 : Int) ≤ 10 by decide); omega
    · intro q
      have : z.tdiv 10 ≤ 0 := by
        have h2 := Int.tdiv_nonneg (a := -z) (b := 10) (by omega) (by decide)
        rw [Int.neg_tdiv] at h2; omega
      omega
  have e : digN 20 z.natAbs = digN 20 (z.tdiv 10).natAbs ++ [48 + z.natAbs % 10] := by
    have ha := abs_lt hz
    conv => lhs; unfold digN
    rw [if_neg h1, hd, digN_fuel 18 19 (z.natAbs / 10) (by omega) (by omega)]
  unfold digs
  rw [e]
  by_cases q : z < 0
  · rw [if_pos q, if_pos (hs.2 q)]; rfl
  · rw [if_neg q, if_neg (fun k => q (hs.1 k))]
def natRD (N : Nat) (args : List AV) (H : AH) (n : Nat) (κ : PK) : Prop := match args with
  | [x] => ∃ z : Int, mk x = .si .i64 z ∧ In64 z ∧ z.natAbs < 10 ^ N ∧ κ (.ss (digs z)) H n
  | _ => False
noncomputable def KRD (N : Nat) : FuncId → EP := withN 12 (natRD N) evP
theorem KRD_ok {N : Nat} (h : NatP 12 (natRD N)) : TabP (KRD N) := withN_ok evP_ok h
theorem rem_abs {z : Int} (hz : In64 z) : (z.tmod 10 < 0 → IntKind.i64.wrap (0 - z.tmod 10) = ((z.natAbs % 10 : Nat) : Int)) ∧ (¬ z.tmod 10 < 0 → z.tmod 10 = ((z.natAbs % 10 : Nat) : Int)) := by
  unfold In64 at hz
  have h1 : z.tmod 10 = if z < 0 then -((z.natAbs % 10 : Nat) : Int) else ((z.natAbs % 10 : Nat) : Int) := by
    split
    · rename_i hn
      rw [show z = -((z.natAbs : Nat) : Int) by omega, Int.neg_tmod]
      simp [Int.tmod]
    · rename_i hn
      rw [show z = ((z.natAbs : Nat) : Int) by omega]
      simp [Int.tmod]
  have h2 : z.natAbs % 10 < 10 := Nat.mod_lt _ (by decide)
  refine ⟨fun h => ?_, fun h => ?_⟩
  · rw [show IntKind.i64.wrap (0 - z.tmod 10) = 0 - z.tmod 10 from W64_of (by unfold In64; split at h1 <;> omega)]
    split at h1 <;> omega
  · split at h1 <;> omega
theorem last_byte {z : Int} {d : Int} (h : d = ((z.natAbs % 10 : Nat) : Int)) : IntKind.u8.wrap (IntKind.i64.wrap (48 + d)) = Int.ofNat (48 + z.natAbs % 10) := by
  have h2 : z.natAbs % 10 < 10 := Nat.mod_lt _ (by decide)
  subst h
  rw [show IntKind.i64.wrap (48 + ((z.natAbs % 10 : Nat) : Int)) = ((48 + z.natAbs % 10 : Nat) : Int) from (W64_of (by unfold In64; omega)).trans (by omega)]
  simp [IntKind.wrap, IntKind.bits, IntKind.signed]
  omega
theorem ebytes_last {c : Nat} {x : Int} (hc : c < 256) (h : x = Int.ofNat c) : ebytes [AV.si .u8 x] = some [c] := by
  subst h
  exact ebytes_bytA (s := [c]) (fun y hy => by simp at hy; omega)
set_option maxHeartbeats 8000000 in
set_option maxRecDepth 100000 in
theorem rdg_run (N : Nat) (z : Int) (hz : In64 z) (hN : z.natAbs < 10 ^ (N + 1)) : recT (KRD N) 3 [] 12 [.si .i64 z] .nil 0 fun u _ _ => mkT u = mkT (.ss (digs z)) := by
  have hr := rem_abs hz
  have hc : 48 + z.natAbs % 10 < 256 := by omega
  have hq : IntKind.i64.wrap (z.tdiv 10) = z.tdiv 10 := (dig_next hz).1
  have hq2 : In64 (z.tdiv 10) := (dig_next hz).2.1
  have hq3 : (z.tdiv 10).natAbs < 10 ^ N := by rw [(dig_next hz).2.2]; rw [Nat.pow_succ] at hN; omega
  have hlen : (digs (z.tdiv 10)).length + [48 + z.natAbs % 10].length ≤ 9223372036854775807 := by have := digs_len (z.tdiv 10); simp; omega
  have b1 : z.tmod 10 < 0 → ebytes [AV.si .u8 (IntKind.u8.wrap (IntKind.i64.wrap (48 + IntKind.i64.wrap (0 - z.tmod 10))))] = some [48 + z.natAbs % 10] := fun h => ebytes_last hc (last_byte (hr.1 h))
  have b2 : ¬ z.tmod 10 < 0 → ebytes [AV.si .u8 (IntKind.u8.wrap (IntKind.i64.wrap (48 + z.tmod 10)))] = some [48 + z.natAbs % 10] := fun h => ebytes_last hc (last_byte (hr.2 h))
  have eb : ¬ IntKind.i64.wrap (z.tdiv 10) = 0 → mkT (AV.ss (digs (z.tdiv 10) ++ [48 + z.natAbs % 10])) = mkT (.ss (digs z)) := fun h => by rw [digs_big hz (by rwa [hq] at h)]
  have en : IntKind.i64.wrap (z.tdiv 10) = 0 → z < 0 → mkT (AV.ss ([45] ++ [48 + z.natAbs % 10])) = mkT (.ss (digs z)) := fun h k => by rw [digs_small hz (by rwa [hq] at h), if_pos k]; rfl
  have ep : IntKind.i64.wrap (z.tdiv 10) = 0 → ¬ z < 0 → mkT (AV.ss [48 + z.natAbs % 10]) = mkT (.ss (digs z)) := fun h k => by rw [digs_small hz (by rwa [hq] at h), if_neg k]
  have hrec : mk (AV.si .i64 (IntKind.i64.wrap (z.tdiv 10))) = .si .i64 (z.tdiv 10) := by rw [hq]; rfl
  conv => whnf
  refine Fork.dec (fun hd => ?_) (fun hd => ?_)
  · have hb := b1 hd
    conv => whnf
    refine optP_of (congrArg (Option.map fun s => (AV.str s, _, _)) hb) ?_
    conv => whnf
    refine Fork.ndec (fun h => ?_) (fun h => ?_)
    · have e := eb h
      conv => whnf
      refine ⟨z.tdiv 10, hrec, hq2, hq3, ?_⟩
      conv => whnf
      refine ⟨hlen, ?_⟩
      conv => whnf
      exact e
    · conv => whnf
      refine Fork.dec (fun k => ?_) (fun k => ?_)
      · have e := en h k
        conv => whnf
        exact e
      · have e := ep h k
        conv => whnf
        exact e
  · have hb := b2 hd
    conv => whnf
    refine optP_of (congrArg (Option.map fun s => (AV.str s, _, _)) hb) ?_
    conv => whnf
    refine Fork.ndec (fun h => ?_) (fun h => ?_)
    · have e := eb h
      conv => whnf
      refine ⟨z.tdiv 10, hrec, hq2, hq3, ?_⟩
      conv => whnf
      refine ⟨hlen, ?_⟩
      conv => whnf
      exact e
    · conv => whnf
      refine Fork.dec (fun k => ?_) (fun k => ?_)
      · have e := en h k
        conv => whnf
        exact e
      · have e := ep h k
        conv => whnf
        exact e
set_option maxRecDepth 100000 in
theorem rdg0 : callT evP 3 12 [.si .i64 0] .nil 0 fun u _ _ => mkT u = mkT (.ss (digs 0)) := by
  conv => whnf
  refine Fork.dec (fun q => absurd q (by decide)) (fun _ => ?_)
  conv => whnf
  refine Fork.ndec (fun q => absurd rfl q) (fun _ => ?_)
  conv => whnf
  refine Fork.dec (fun q => absurd q (by decide)) (fun _ => ?_)
  conv => whnf
  rfl
theorem n_rdigN : ∀ N, NatP 12 (natRD N)
  | 0 => fun args H n κ hs φ h0' hp vs K hr hargs hk => by
    unfold natRD at hs
    split at hs
    · obtain ⟨x, rfl, e1⟩ := vs1 hargs
      obtain ⟨z, hx, h1, h2, hs⟩ := hs
      have hz : z = 0 := by simp at h2; omega
      subst hz
      exact smallN evP_ok (v := .ss (digs 0)) rfl rdg0 hs hr hk (by kernel_rfl) HR.ro0 (.cons (flat1_VR rfl (hx ▸ e1.mk)) .nil)
    · exact hs.elim
  | N + 1 => fun args H n κ hs φ h0' hp vs K hr hargs hk => by
    unfold natRD at hs
    split at hs
    · obtain ⟨x, rfl, e1⟩ := vs1 hargs
      obtain ⟨z, hx, h1, h2, hs⟩ := hs
      exact smallNR (recT_ok (KRD_ok (n_rdigN N)) 3 (by kernel_rfl) (by kernel_rfl)) (v := .ss (digs z)) rfl (rdg_run N z h1 h2) hs hr hk (by kernel_rfl) HR.ro0 (.cons (flat1_VR rfl (hx ▸ e1.mk)) .nil)
    · exact hs.elim
def natRDg (args : List AV) (H : AH) (n : Nat) (κ : PK) : Prop := match args with
  | [x] => ∃ z : Int, mk x = .si .i64 z ∧ In64 z ∧ κ (.ss (digs z)) H n
  | _ => False
theorem n_rdigits : NatP 12 natRDg := fun args H n κ hs => n_rdigN 20 args H n κ (by
  unfold natRDg at hs
  unfold natRD
  split at hs
  · obtain ⟨z, h1, h2, h3⟩ := hs
    exact ⟨z, h1, h2, abs_lt h2, h3⟩
  · exact hs.elim)
/-! ### a text's number, by the document -/
noncomputable def rnm (s : List Nat) (m : Int) (i : Nat) : AE × AH := (mkE [(0, .ss (s)), (4, .si .i64 (m)), (5, .si .i64 (((i : Nat) : Int)))], mkH [])
theorem rnm_cov {s : List Nat} {m : Int} {i : Nat} {p n : Nat} {σ : AE} {H : AH} (hp : p ≤ 0) (e0 : mk (getq (pa 0) σ) = .ss (s)) (e4 : mk (getq (pa 4) σ) = .si .i64 (m)) (e5 : mk (getq (pa 5) σ) = .si .i64 (((i : Nat) : Int))) : Cov p σ H n ((rnm s m i).1, (rnm s m i).2, 0) := by
  refine Cov.ofR (fun b => b) (by omega) (fun b hb => rfl) ?_ ?_ ?_
  · intro x hx
    simp only [List.mem_cons, List.not_mem_nil, or_false] at hx
    rcases hx with rfl | rfl | rfl
    · exact .str e0
    · exact .int e4
    · exact .int e5
  · intro x hx
    cases hx
  · intro x hx y hy
    cases hx
noncomputable def KRn : FuncId → EP := withN 12 natRDg evP
theorem KRn_ok : TabP KRn := withN_ok evP_ok n_rdigits
theorem nth_ss {s : List Nat} {i : Nat} (h : i < s.length) : nth s i = some s[i] := by rw [nth_eq, List.getElem?_eq_getElem h]
set_option maxHeartbeats 8000000 in
set_option maxRecDepth 100000 in
theorem rnm_run (s : List Nat) (hs : ∀ c ∈ s, c < 256) (hl : s.length ≤ 1000000) : callT KRn 3 10 [.ss s] .nil 0 fun u _ _ => mkT u = mkT (.tup [.si .i64 (numF s).1, .si .i64 (numF s).2]) := by
  have key : ∀ {x y : Int}, rnumF s = (x, y) → mkT (.tup [.si .i64 x, .si .i64 y]) = mkT (.tup [.si .i64 (numF s).1, .si .i64 (numF s).2]) := fun e => by rw [← rnum_eq hs, e]
  conv => whnf
  refine LoopP.mk { x : Nat × Int // x.1 ≤ s.length ∧ In64 x.2 ∧ rgo (decide (s[0]? = some 45)) (s.drop x.1) x.2 = rgo (decide (s[0]? = some 45)) s 0 } 0 (fun x => rnm s x.val.2 x.val.1) (fun x => s.length - x.val.1) ⟨(0, 0), Nat.zero_le _, (show In64 0 by unfold In64; omega), rfl⟩ ?_ ?_
  · exact rnm_cov (Nat.le_refl 0) rfl rfl rfl
  · intro ⟨(i, m), hi, hm, hp⟩
    dsimp only at hi hm hp
    conv => whnf
    refine Fork.dec (fun h => ?_) (fun h => ?_)
    · have hi2 : i < s.length := by exact Int.ofNat_lt.1 h
      have h00 : 0 < s.length := by omega
      have hc := hs _ (List.getElem_mem hi2)
      have hi1 : IntKind.i64.wrap ((i : Int) + 1) = ((i + 1 : Nat) : Int) := W64_of ⟨by omega, by omega⟩
      have hlt : s.length - (i + 1) < s.length - i := by omega
      have hs0 : s[0]? = some s[0] := List.getElem?_eq_getElem h00
      rw [drop_cons hi2, rgo] at hp
      have hskip : ¬ (48 ≤ s[i] ∧ s[i] ≤ 57) → rgo (decide (s[0]? = some 45)) (s.drop (i + 1)) m = rgo (decide (s[0]? = some 45)) s 0 := fun q => by rw [← hp, if_neg q]
      conv => whnf
      refine Idx.mk i rfl hi2 ?_
      conv => whnf
      refine Ask.mk s[i] (nth_ss hi2) ?_
      conv => whnf
      refine Fork.dec (fun h1 => ?_) (fun h1 => ?_)
      · have h1 : 48 ≤ s[i] := by exact Int.ofNat_le.1 h1
        conv => whnf
        refine Idx.mk i rfl hi2 ?_
        conv => whnf
        refine Ask.mk s[i] (nth_ss hi2) ?_
        conv => whnf
        refine Fork.dec (fun h2 => ?_) (fun h2 => ?_)
        · have h2 : s[i] ≤ 57 := by exact Int.ofNat_le.1 h2
          have hx := sub48 h1 h2
          rw [if_pos ⟨h1, h2⟩] at hp
          conv => whnf
          refine Idx.mk 0 rfl h00 ?_
          conv => whnf
          refine Ask.mk s[0] (nth_ss h00) ?_
          conv => whnf
          refine Fork.dec (fun h45 => ?_) (fun h45 => ?_)
          · have h45 : s[0] = 45 := by exact Int.ofNat_inj.1 h45
            have hg : decide (s[0]? = some 45) = true := by rw [hs0, h45]; rfl
            have hp2 : rgo (decide (s[0]? = some 45)) (s.drop (i + 1)) (W64 (W64 (10 * m) - ((s[i] : Int) - 48))) = rgo (decide (s[0]? = some 45)) s 0 := by rw [← hp, hg]; rfl
            have hv : AV.si .i64 (IntKind.i64.wrap (IntKind.i64.wrap (10 * m) - IntKind.i64.wrap (IntKind.u8.wrap (Int.ofNat s[i] - 48)))) = .si .i64 (W64 (W64 (10 * m) - ((s[i] : Int) - 48))) := by rw [hx]
            conv => whnf
            refine Idx.mk i rfl hi2 ?_
            conv => whnf
            refine Ask.mk s[i] (nth_ss hi2) ?_
            conv => whnf
            exact ⟨⟨(i + 1, W64 (W64 (10 * m) - ((s[i] : Int) - 48))), hi2, W64_in _, hp2⟩, hlt, rnm_cov (Nat.le_refl 0) rfl hv (congrArg (AV.si .i64) hi1)⟩
          · have h45 : ¬ s[0] = 45 := fun q => h45 (by exact Int.ofNat_inj.2 q)
            have hg : decide (s[0]? = some 45) = false := by rw [hs0]; simp [h45]
            have hp2 : rgo (decide (s[0]? = some 45)) (s.drop (i + 1)) (W64 (W64 (10 * m) + ((s[i] : Int) - 48))) = rgo (decide (s[0]? = some 45)) s 0 := by rw [← hp, hg]; rfl
            have hv : AV.si .i64 (IntKind.i64.wrap (IntKind.i64.wrap (10 * m) + IntKind.i64.wrap (IntKind.u8.wrap (Int.ofNat s[i] - 48)))) = .si .i64 (W64 (W64 (10 * m) + ((s[i] : Int) - 48))) := by rw [hx]
            conv => whnf
            refine Idx.mk i rfl hi2 ?_
            conv => whnf
            refine Ask.mk s[i] (nth_ss hi2) ?_
            conv => whnf
            exact ⟨⟨(i + 1, W64 (W64 (10 * m) + ((s[i] : Int) - 48))), hi2, W64_in _, hp2⟩, hlt, rnm_cov (Nat.le_refl 0) rfl hv (congrArg (AV.si .i64) hi1)⟩
        · have h2 : ¬ s[i] ≤ 57 := fun q => h2 (by exact Int.ofNat_le.2 q)
          conv => whnf
          exact ⟨⟨(i + 1, m), hi2, hm, hskip fun q => h2 q.2⟩, hlt, rnm_cov (Nat.le_refl 0) rfl rfl (congrArg (AV.si .i64) hi1)⟩
      · have h1 : ¬ 48 ≤ s[i] := fun q => h1 (by exact Int.ofNat_le.2 q)
        conv => whnf
        exact ⟨⟨(i + 1, m), hi2, hm, hskip fun q => h1 q.1⟩, hlt, rnm_cov (Nat.le_refl 0) rfl rfl (congrArg (AV.si .i64) hi1)⟩
    · have hi3 : i = s.length := by have : ¬ i < s.length := fun q => h (Int.ofNat_lt.2 q); omega
      have hp2 : m = rgo (decide (s[0]? = some 45)) s 0 := by rw [← hp, hi3, List.drop_length]; rfl
      conv => whnf
      refine ⟨m, rfl, hm, ?_⟩
      conv => whnf
      refine Fork.nsb (fun he => ?_) (fun he => ?_)
      · have e := key (x := 0) (y := 16) (by unfold rnumF; rw [← hp2, if_neg (fun q => by rw [beqL_is.2 q] at he; cases he)])
        conv => whnf
        exact e
      · have e := key (x := m) (y := 0) (by unfold rnumF; rw [← hp2, if_pos (beqL_is.1 he)])
        conv => whnf
        exact e
theorem n_rnumber : NatP 10 natNm := fun args H n κ hs φ h0' hp vs K hr hargs hk => by
  unfold natNm at hs
  split at hs
  · obtain ⟨x, rfl, e1⟩ := vs1 hargs
    obtain ⟨s, hx, h1, h2, hs⟩ := hs
    exact smallN KRn_ok (v := .tup [.si .i64 (numF s).1, .si .i64 (numF s).2]) rfl (rnm_run s h1 h2) hs hr hk (by kernel_rfl) HR.ro0 (.cons (flat1_VR rfl (hx ▸ e1.mk)) .nil)
  · exact hs.elim
/-! ### the law -/
noncomputable def KCn : FuncId → EP := withN 8 (natQ trueN) (withN 9 natNm (withN 10 natNm (withN 11 natDg (withN 12 natRDg evP))))
theorem KCn_ok (hK : NatP 8 (natQ trueN)) : TabP KCn := withN_ok (withN_ok (withN_ok (withN_ok (withN_ok evP_ok n_rdigits) n_digits) n_rnumber) n_number) hK
set_option maxHeartbeats 8000000 in
set_option maxRecDepth 100000 in
theorem w_commandNumbers (s : List Nat) (z : Int) (hs : ∀ c ∈ s, c < 256) (hz : In64 z) : callT KCn 4 3 [.ss s, .si .i64 z] .nil 0 fun v _ _ => v = .bool true ∨ v = .sb true := by
  have hd := num_digs hz
  have hdl : (digs z).length ≤ 1000000 := by have := digs_len z; omega
  conv => whnf
  refine Fork.dec (fun h => ?_) (fun h => ?_)
  · conv => whnf
    exact .inl rfl
  · have hl : s.length ≤ 1000000 := by have : ¬ (100 : Int) < (s.length : Int) := h; omega
    have e1 : (numF (digs z)).1 = z := by rw [hd]
    have e2 : (numF (digs z)).2 = 0 := by rw [hd]
    conv => whnf
    refine ⟨s, rfl, hs, hl, ?_⟩
    conv => whnf
    refine ⟨s, rfl, hs, hl, ?_⟩
    conv => whnf
    refine ⟨z, rfl, hz, ?_⟩
    conv => whnf
    refine ⟨digs z, rfl, digs_lt z, hdl, ?_⟩
    conv => whnf
    refine Fork.dec (fun _ => ?_) (fun q => absurd rfl q)
    conv => whnf
    refine Fork.dec (fun _ => ?_) (fun q => absurd rfl q)
    conv => whnf
    refine ⟨z, rfl, hz, ?_⟩
    conv => whnf
    refine ⟨z, rfl, hz, ?_⟩
    conv => whnf
    refine Fork.sb (fun _ => ?_) (fun q => absurd (beqL_is.2 rfl) (by rw [q]; decide))
    conv => whnf
    refine Fork.dec (fun _ => ?_) (fun q => absurd e1 q)
    conv => whnf
    refine Fork.dec (fun _ => ?_) (fun q => absurd e2 q)
    conv => whnf
    exact .inl rfl
end Go.Proofs.Ytdfeigkooeeeaaa
namespace Go.Proofs.Ytdfeigkooeeeaaa
open Go Go.RowKit
theorem bytes_lt (a : ByteArray) : ∀ c ∈ a.data.toList.map UInt8.toNat, c < 256 := fun c h => by
  obtain ⟨x, _, rfl⟩ := List.mem_map.1 h
  exact x.toNat_lt
end Go.Proofs.Ytdfeigkooeeeaaa
namespace Go.Proofs.Ytdfeigkooeeeaaa
open Go Go.RowKit Go.ChangeShapes Go.WideShapes
section
variable {H : Type} {enc : TypeId × Value → H} {P : Program} {W : World} {held : Bool}
/-- Samples, frozen. -/
theorem arg_fsmp {t e : TypeId} {d : Nat} {v : Value} {D : DataW H} {ps : List MemPlace} (ht : P.underlying t = some (.slice e)) (hk : kdsT P d e = some [.int .i64, .int .i64]) (hc2 : P.cellsOf e = 2) (hcell : v.cells.toList = [v]) (hd : DataW.Trod enc P W 0 (fun _ => true) held t v D ps) :
    ∃ (L : Smp) (z : Fz → Prop), (∀ x ∈ L, In64 x.1 ∧ In64 x.2) ∧ Frozen W z ∧ (∀ χ : Ph, (∀ q, z q → χ.z q) → VR χ (.fr L.length 2 (smp L)) v) ∧ (L = [] ∨ ∃ E F, D = .slice ((List.range L.length).map F) E) ∧ L.length ≤ maxLen := by
  obtain ⟨fuel, hf⟩ := hd
  rw [hcell] at hf
  exact fr_samples ht hk hc2 hf
end
end Go.Proofs.Ytdfeigkooeeeaaa
