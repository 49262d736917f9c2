/- The machine that asks: code and functions. -/
import Derived.Test.YtaejmcgcfopmkaaEvU
namespace Go.Proofs.Ytaejmcgcfopmkaa
open Go Go.RowKit
section
variable {φ : Ph} {H : AH} {n : Nat} {h0 h : Hp} {σ : AE} {ρ : Env} {call : CP}
/-- What follows, from a state on. -/
def GoP (φ0 : Ph) (h0 : Hp) (k : KP) (N : Env → Hp → Prop) : Prop := ∀ (ψ : Ph) (σ : AE) (H : AH) (n : Nat) (ρ : Env) (h : Hp), PLe φ0 ψ → HR ψ H n h0 h → FR ψ σ ρ → k σ H n → N ρ h
theorem opsP_sound (hcall : CPok call) {φ0 : Ph} {ops : Array Oper} {N : Env → Hp → Prop} : ∀ (l : List Oper) (φ : Ph) (σ : AE) (H : AH) (n : Nat) (k : KP) (ρ : Env) (h : Hp), PLe φ0 φ → HR φ H n h0 h → FR φ σ ρ →
    opsP ops l call σ H n k → GoP φ0 h0 k N → aops Try.prog ops l ρ h N
  | [], φ, σ, H, n, k, ρ, h, hp, hr, hf, hs, hN => hN φ σ H n ρ h hp hr hf hs
  | o :: l, φ, σ, H, n, k, ρ, h, hp, hr, hf, hs, hN => by
    have hs : opP ops o call σ H n (fun σ H n => opsP ops l call σ H n k) := hs
    have did : ∀ (σ : AE) (ρ : Env), FR φ σ ρ → (stepP o.op call σ H n fun v H n => opsP ops l call (eput σ o.dst v) H n k) → astep Try.prog o.op ρ h fun v h' => aops Try.prog ops l (ρ.put o.dst v) h' N := fun σ ρ hf hs =>
      stepP_sound hcall hr hf hs fun ψ v H' n' u g h1 h2 h3 h4 => opsP_sound hcall l ψ _ H' n' k _ g (hp.trans h1) h2 ((hf.mono h1).put o.dst h3) h4 hN
    have skip : ∀ (σ : AE) (ρ : Env), FR φ σ ρ → opsP ops l call (eput σ o.dst undefA) H n k → aops Try.prog ops l (ρ.put o.dst undef) h N := fun σ ρ hf hs =>
      opsP_sound hcall l φ _ H n k _ h hp hr (hf.put o.dst .undef) hs hN
    unfold opP at hs
    unfold aops
    split at hs
    · rename_i hg
      simp only [hg]
      exact did σ ρ hf hs
    · rename_i j want hg
      simp only [hg]
      split at hs
      · exact hs.elim
      · rename_i t ht
        simp only [ht]
        have rput : ∀ q : Bool, ρ t = .bool q → FR φ (eput σ (some t) (.bool q)) (ρ.upd t (.bool q)) := fun q hq => hf.put (some t) (.bool q)
        split at hs
        · rename_i q hq
          have hv := (hq ▸ hf.at t).bool_inv
          simp only [hv]
          split at hs
          · rename_i hqw
            have hqw2 : q = want := by simpa using hqw
            subst hqw2
            refine ⟨fun _ => ?_, (fun k => by rw [hqw] at k; cases k)⟩
            rw [upd_eta hv]
            exact did σ ρ hf hs
          · rename_i hqw
            have hqw2 : (!want) = q := by cases q <;> cases want <;> simp_all
            refine ⟨(fun k => by rw [hqw] at k; cases k), fun _ => ?_⟩
            rw [upd_eta (by rw [hv, hqw2])]
            exact skip σ ρ hf hs
        · rename_i q hq
          have hv := (hq ▸ hf.at t).sb_inv
          simp only [hv]
          split at hs
          · cases q with
            | true => exact ⟨fun _ => did _ _ (rput true hv) (hs.t rfl), fun k => by cases k⟩
            | false => exact ⟨(fun k => by cases k), fun _ => skip _ _ (rput false hv) (hs.f rfl)⟩
          · cases q with
            | true => exact ⟨(fun k => by cases k), fun _ => skip _ _ (rput true hv) (hs.t rfl)⟩
            | false => exact ⟨fun _ => did _ _ (rput false hv) (hs.f rfl), fun k => by cases k⟩
        · rename_i us hq
          obtain ⟨cs, hv, _⟩ := (hq ▸ hf.at t).tup_inv
          simp only [hv]
          exact skip σ ρ hf hs
        · exact hs.elim
theorem refP_FR (hf : FR φ σ ρ) {c : Operand} {q : Bool} (hv : ρ.ev c = .bool q) : FR φ (refP c q σ) ρ := by
  cases c with
  | tmp t =>
    have := hf.put (some t) (VR.bool q)
    have e : ρ.put (some t) (.bool q) = ρ := upd_eta hv
    rw [e] at this
    exact this
  | _ => exact hf
theorem execP_sound (hcall : CPok call) {p : Nat} {φ0 : Ph} (hφ : ∀ b q, φ0 b = some q → b < p) (c : Code) : ∀ (φ : Ph) (σ : AE) (H : AH) (n : Nat) (kn : KP) (kx : Nat → KP) (kr : KP) (ρ : Env) (h : Hp) (N R : EH) (X : Nat → EH), PLe φ0 φ → HR φ H n h0 h → FR φ σ ρ →
    execP p c call σ H n kn kx kr → GoP φ0 h0 kn N → GoP φ0 h0 kr R → (∀ i, GoP φ0 h0 (kx i) (X i)) → avc Try.prog c N R X ρ h := by
  induction c with
  | skip => exact fun φ σ H n kn kx kr ρ h N R X hp hr hf hs hN _ _ => hN φ σ H n ρ h hp hr hf hs
  | region id ops draw =>
    intro φ σ H n kn kx kr ρ h N R X hp hr hf hs hN _ _
    have key : opsP ops ops.toList call σ H n kn → aops Try.prog ops ops.toList ρ h N := fun hs => opsP_sound hcall _ φ σ H n kn ρ h hp hr hf hs hN
    unfold avc
    cases draw with
    | false => exact key hs
    | true =>
      cases hd : swapB Try.prog ops with
      | true =>
        have hs : (Bool.rec (fun _ _ _ _ _ _ _ => False) (fun call σ H n kn _ _ => opsP ops ops.toList call σ H n kn) (swapB Try.prog ops) : XP) call σ H n kn kx kr := hs
        rw [hd] at hs
        rw [if_pos rfl]
        exact .inr (.inl ⟨rfl, key hs⟩)
      | false =>
        have hs : (Bool.rec (fun _ _ _ _ _ _ _ => False) (fun call σ H n kn _ _ => opsP ops ops.toList call σ H n kn) (swapB Try.prog ops) : XP) call σ H n kn kx kr := hs
        rw [hd] at hs
        exact hs.elim
  | seq a b iha ihb =>
    intro φ σ H n kn kx kr ρ h N R X hp hr hf hs hN hR hX
    exact iha φ σ H n _ kx kr ρ h _ R X hp hr hf hs (fun ψ σ H n ρ h hp hr hf hs => ihb ψ σ H n kn kx kr ρ h N R X hp hr hf hs hN hR hX) hR hX
  | cond cd a b iha ihb =>
    intro φ σ H n kn kx kr ρ h N R X hp hr hf hs hN hR hX
    have hs : condP cd σ (fun σ => execP p a call σ H n kn kx kr) (fun σ => execP p b call σ H n kn kx kr) := hs
    have hc := hf.ev cd
    unfold condP at hs
    unfold avc
    split at hs
    · rename_i q
      rw [q] at hc
      rw [hc.bool_inv]
      exact ⟨fun _ => iha φ σ H n kn kx kr ρ h N R X hp hr hf hs hN hR hX, (fun k => by cases k)⟩
    · rename_i q
      rw [q] at hc
      rw [hc.bool_inv]
      exact ⟨(fun k => by cases k), fun _ => ihb φ σ H n kn kx kr ρ h N R X hp hr hf hs hN hR hX⟩
    · rename_i q e
      rw [e] at hc
      have hv := hc.sb_inv
      cases q with
      | true => rw [hv]; exact ⟨fun _ => iha φ _ H n kn kx kr ρ h N R X hp hr (refP_FR hf hv) (hs.t rfl) hN hR hX, (fun k => by cases k)⟩
      | false => rw [hv]; exact ⟨(fun k => by cases k), fun _ => ihb φ _ H n kn kx kr ρ h N R X hp hr (refP_FR hf hv) (hs.f rfl) hN hR hX⟩
    · exact hs.elim
  | block id b ih =>
    intro φ σ H n kn kx kr ρ h N R X hp hr hf hs0 hN hR hX
    unfold avc
    refine ih φ σ H n kn _ kr ρ h N R _ hp hr hf hs0 hN hR fun i ψ σ H n ρ h hp hr hf hs => ?_
    cases hb : Nat.beq i id with
    | true =>
      rw [hb] at hs
      have hii := Nat.eq_of_beq_eq_true hb
      rw [if_pos hii]
      exact hN ψ σ H n ρ h hp hr hf hs
    | false =>
      rw [hb] at hs
      have hne : ¬ i = id := fun q => by subst q; simp at hb
      simp only [if_neg hne]
      exact hX i ψ σ H n ρ h hp hr hf hs
  | loop b ih =>
    intro φ σ H n kn kx kr ρ h N R X hp hr hf hs hN hR hX
    have hs : LoopP p (fun σ H n k => execP p b call σ H n k kx kr) σ H n := hs
    obtain ⟨α, st, μ, a0, c0, hstep⟩ := hs
    unfold avc
    let Q : Env → Hp → Nat → Prop := fun ρ1 h1 m => ∃ ψ a, μ a = m ∧ PLe φ0 ψ ∧ HR ψ (st a).2.1 (st a).2.2 h0 h1 ∧ FR ψ (st a).1 ρ1
    have cov : ∀ {ψ : Ph} {σ : AE} {H : AH} {n : Nat} {ρ : Env} {h : Hp} {a : α}, Cov p σ H n (st a) → PLe φ0 ψ → HR ψ H n h0 h → FR ψ σ ρ → Q ρ h (μ a) := fun {ψ σ H n ρ h a} hc hp hr hf => by
      obtain ⟨χ, h1, h2, h3⟩ := hc ψ h0 h ρ hr hf
      exact ⟨χ, a, rfl, fun b q e => h1 b q (hφ b q e) (hp b q e), h2, h3⟩
    have hμ : ∀ ρ1 h1 g, Q ρ1 h1 g → ∃ m, Q ρ1 h1 m ∧ ∀ k, Q ρ1 h1 k → m ≤ k := fun ρ1 h1 g hg => least g hg
    refine ⟨fun ρ1 h1 => ∃ g, Q ρ1 h1 g, fun ρ1 h1 => Classical.epsilon fun m => Q ρ1 h1 m ∧ ∀ k, Q ρ1 h1 k → m ≤ k, ⟨_, cov c0 hp hr hf⟩, fun ρ1 h1 ⟨g, hg⟩ _ _ => ?_⟩
    have hsp := Classical.epsilon_spec (hμ ρ1 h1 g hg)
    obtain ⟨m, hm⟩ : ∃ m, (Classical.epsilon fun m => Q ρ1 h1 m ∧ ∀ k, Q ρ1 h1 k → m ≤ k) = m := ⟨_, rfl⟩
    rw [hm] at hsp
    obtain ⟨⟨ψ, a, ha, hp1, hr1, hf1⟩, _⟩ := hsp
    refine ih ψ _ _ _ _ kx kr ρ1 h1 _ R X hp1 hr1 hf1 (hstep a) (fun χ σ2 H2 n2 ρ2 h2 hp2 hr2 hf2 ⟨a', hlt, hc⟩ => ?_) hR hX
    have hQ2 := cov hc hp2 hr2 hf2
    refine ⟨h2, Sub.refl _, ⟨_, hQ2⟩, ?_⟩
    have hsp2 := Classical.epsilon_spec (hμ ρ2 h2 _ hQ2)
    have := hsp2.2 _ hQ2
    simp only [hm]
    omega
  | exit i => exact fun φ σ H n kn kx kr ρ h N R X hp hr hf hs _ _ hX => hX i φ σ H n ρ h hp hr hf hs
  | ret => exact fun φ σ H n kn kx kr ρ h N R X hp hr hf hs _ hR _ => hR φ σ H n ρ h hp hr hf hs
  | _ => intro φ σ H n kn kx kr ρ h N R X hp hr hf hs; exact hs.elim

/-! ### functions -/
theorem resP_sound (hr : HR φ H n h0 h) (hf : FR φ σ ρ) {K : KH} : ∀ (rs : List ResultVar) (acc : List Value) (k : List AV → Prop), resP rs σ H k → (∀ vs us, k vs → VRs φ vs us → Fin K (packV (acc.reverse ++ us)) h) → resK Try.prog rs acc ρ h K
  | [], acc, k, hs, hk => by
    have := hk [] [] hs .nil
    simpa [resK] using this
  | .tmp t :: rs, acc, k, hs, hk => by
    have hs : resP rs σ H (fun vs => k (getq (pa t) σ :: vs)) := hs
    refine resP_sound hr hf rs (ρ t :: acc) _ hs fun vs us h1 hus => ?_
    have := hk _ (ρ t :: us) h1 (.cons (hf.at t) hus)
    simpa using this
  | .cell a t :: rs, acc, k, hs, hk => by
    have hs : loadP t (getq (pa a) σ) H (fun v => resP rs σ H fun vs => k (v :: vs)) := hs
    refine loadP_sound hr (hf.at a) hs fun r u h1 hu => ?_
    refine resP_sound hr hf rs (u :: acc) _ h1 fun vs us h2 hus => ?_
    have := hk _ (u :: us) h2 (.cons hu hus)
    simpa using this
set_option maxRecDepth 20000 in
theorem runP_sound (hm : Try.prog.follows .mixedOrders = true) (hcall : CPok call) {f : FuncId} {fn : Func} {c : Code} (hok : fnOk Try.prog f = true) (hfn : Try.prog.funcs[f]? = some fn) (hb : fn.body = some c) {args : List AV} {κ : PK} {vs : Array Value} {K : KH}
    (hs : runP call c fn.results.toList fn.ntmps args H n κ) (hr : HR φ H n h0 h) (hargs : VRs φ args vs.toList) (hk : ThenP φ h0 κ K) : CallF Try.prog f vs h K := by
  obtain ⟨h1, hs⟩ := bifP_inv hs
  simp only [fnOk, hfn, hb, Bool.and_eq_true] at hok
  obtain ⟨hic, hds⟩ := hok
  have hal := hargs.length
  have hle := Nat.le_of_ble_eq_true h1
  refine ⟨hic, callG_of hm hfn hb rfl rfl hds (by simpa [hal] using hle) fun _ => ?_⟩
  have fin : GoP φ h0 (fun σ H n => resP fn.results.toList σ H fun vs => κ (epack vs) H n) (resK Try.prog fn.results.toList [] · · K) := fun ψ σ' H' n' ρ' h' hp' hr' hf' hs' =>
    resP_sound hr' hf' _ [] _ hs' fun ws us h2 hus => .here (hk ψ _ H' n' _ h' hp' hr' (by simpa using epack_VR hus) h2)
  exact execP_sound hcall (fun b q e => (hr.dom b q e).1) c φ _ H n _ _ _ _ h _ _ _ (PLe.refl _) hr (entry_FR hargs) hs fin fin fun i ψ σ' H' n' ρ' h' _ _ _ q => q.elim
/-- A function known by a proof. -/
def NatP (f : FuncId) (g : List AV → AH → Nat → PK → Prop) : Prop := ∀ (args : List AV) (H : AH) (n : Nat) (κ : PK), g args H n κ → ∀ (φ : Ph) (h0 h : Hp) (vs : Array Value) (K : KH), HR φ H n h0 h → VRs φ args vs.toList → ThenP φ h0 κ K → CallF Try.prog f vs h K
def TabP (F : FuncId → EP) : Prop := ∀ f, match F f with
  | .no => True
  | .run c rs m => fnOk Try.prog f = true ∧ ∃ fn, Try.prog.funcs[f]? = some fn ∧ fn.body = some c ∧ fn.results.toList = rs ∧ fn.ntmps = m
  | .nat g => NatP f g
set_option maxRecDepth 20000 in
theorem callT_sound (hm : Try.prog.follows .mixedOrders = true) {F : FuncId → EP} (hF : TabP F) : ∀ d, CPok (callT F d)
  | 0 => fun f args H n κ hs => hs.elim
  | d + 1 => fun f args H n κ hs φ h0 h vs K hr hargs hk => by
    have hs : (EP.rec (fun _ _ _ _ => False) (fun c rs m => runP (callT F d) c rs m) (fun g => g) (F f) : List AV → AH → Nat → PK → Prop) args H n κ := hs
    have hf := hF f
    cases hFf : F f with
    | no => rw [hFf] at hs; exact hs.elim
    | nat g => rw [hFf] at hs hf; exact hf args H n κ hs φ h0 h vs K hr hargs hk
    | run c rs m =>
      rw [hFf] at hs hf
      obtain ⟨hok, fn, hfn, hb, hrs, hnt⟩ := hf
      subst hrs hnt
      exact runP_sound hm (callT_sound hm hF d) hok hfn hb hs hr hargs hk
theorem evP_ok : TabP evP := fun f => by
  unfold evP
  cases h : fnOkq f with
  | false => trivial
  | true =>
    show match bodyP f with
      | .no => True
      | .run c rs m => fnOk Try.prog f = true ∧ ∃ fn, Try.prog.funcs[f]? = some fn ∧ fn.body = some c ∧ fn.results.toList = rs ∧ fn.ntmps = m
      | .nat g => NatP f g
    unfold bodyP
    split
    · trivial
    · rename_i c rs m hb
      split at hb
      · rename_i fn hfn
        split at hb
        · rename_i c' hc'
          injection hb with q1 q2 q3
          subst q1 q2 q3
          exact ⟨h, fn, hfn, hc', rfl, rfl⟩
        · cases hb
      · cases hb
    · rename_i g hb
      split at hb
      · split at hb <;> cases hb
      · cases hb
/-- The table, one function more known. -/
noncomputable def withN (k : FuncId) (g : List AV → AH → Nat → PK → Prop) (F : FuncId → EP) (f : FuncId) : EP := Bool.rec (F f) (.nat g) (Nat.beq f k)
theorem withN_ok {F : FuncId → EP} (hF : TabP F) {k : FuncId} {g : List AV → AH → Nat → PK → Prop} (hg : NatP k g) : TabP (withN k g F) := fun f => by
  unfold withN
  cases hb : Nat.beq f k with
  | false => exact hF f
  | true =>
    have := Nat.eq_of_beq_eq_true hb
    subst this
    exact hg
/-- A function's run by a table makes it known. -/
theorem NatP.of {F : FuncId → EP} (hF : TabP F) {f : FuncId} {g : List AV → AH → Nat → PK → Prop} (d : Nat) (h : ∀ args H n κ, g args H n κ → callT F d f args H n κ) : NatP f g := fun args H n κ hs => callT_sound (by kernel_rfl) hF d f args H n κ (h args H n κ hs)
/-- What the quick machine found. -/
noncomputable def natQ (g : List AV → AH → Nat → KA → AR) (args : List AV) (H : AH) (n : Nat) (κ : PK) : Prop := optP (g args H n topq) fun r => κ r.1 r.2.1 r.2.2
theorem natQ_ok {f : FuncId} {g : List AV → AH → Nat → KA → AR} (hg : COk Try.prog f fun args H n => g args H n topq) : NatP f (natQ g) := fun args H n κ hs φ h0 h vs K hr hargs hk => by
  obtain ⟨⟨v, H', n'⟩, h1, h2⟩ := optP_inv hs
  exact hg args H n v H' n' h1 φ h0 h vs K hr hargs (hk.then h2)
theorem natTrue {d : Nat} {k : FuncId} (he : isTrue (callq evQ d k [] .nil 0 topq) = true) : NatP k (natQ trueN) := natQ_ok (trueN_ok evQ_ok he)
/-- A law that the machine finds true. -/
theorem evP_calls {F : FuncId → EP} (hF : TabP F) {d : Nat} {f : FuncId} {args : List AV} {vs : Array Value} (hargs : VRs (fun _ => none) args vs.toList)
    (he : callT F d f args .nil 0 fun v _ _ => v = .bool true ∨ v = .sb true) (w : World) : Calls Try.prog f vs w fun e w' => e = .returned (.bool true) ∧ Below w.heap.size w w' := by
  have hs := callT_sound (by kernel_rfl) hF d f args .nil 0 _ he _ (wholeHp w) (wholeHp w) vs (fun v g => v = .bool true ∧ (wholeHp w).n ≤ g.n ∧ ∀ b o, (wholeHp w).f b = some o → g.f b = some o) (wholeHp_start w) hargs
    (fun ψ v H n u g _ hg hu hv => ⟨by rcases hv with rfl | rfl; exact hu.bool_inv; exact hu.sb_inv, hg.size, fun b o hb => (hg.base b o hb).2⟩)
  refine (hs.2 w (wholeHp_is w)).mono fun e' w' ⟨v, g, h1, h2, h3, h4, h5, h6⟩ => ?_
  subst h1 h4
  refine ⟨rfl, h3.1, h3.2.1, h3.2.2, ?_, fun b hb => ?_⟩
  · rw [h2.1]; exact h5
  · have := h6 b _ (show (wholeHp w).f b = some w.heap[b] from Array.getElem?_eq_getElem hb)
    rw [h2.2 b _ this, Array.getElem?_eq_getElem hb]
end
end Go.Proofs.Ytaejmcgcfopmkaa
