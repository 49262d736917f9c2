/- The machine that asks: code and functions. -/
import Derived.Test.YtaejmcgcfopmkaaEvL
namespace Go.Proofs.Ytaejmcgcfopmkaa
open Go Go.RowKit
section
variable {φ : Ph} {H : AH} {n : Nat} {h0 h : Hp} {σ : AE} {ρ : Env} {call : CP}
/-- What follows, from a state on. -/
def GoP (φ0 : Ph) (h0 : Hp) (k : KP) (N : Env → Hp → Prop) : Prop := ∀ (ψ : Ph) (σ : AE) (H : AH) (n : Nat) (ρ : Env) (h : Hp), PLe φ0 ψ → HR ψ H n h0 h → FR ψ σ ρ → k σ H n → N ρ h
theorem opsP_sound (hcall : CPok call) {φ0 : Ph} {ops : Array Oper} {N : Env → Hp → Prop} : ∀ (l : List Oper) (φ : Ph) (σ : AE) (H : AH) (n : Nat) (k : KP) (ρ : Env) (h : Hp), PLe φ0 φ → HR φ H n h0 h → FR φ σ ρ →
    opsP ops l call σ H n k → GoP φ0 h0 k N → aops Try.prog ops l ρ h N
  | [], φ, σ, H, n, k, ρ, h, hp, hr, hf, hs, hN => hN φ σ H n ρ h hp hr hf hs
  | o :: l, φ, σ, H, n, k, ρ, h, hp, hr, hf, hs, hN => by
    have hs : opP ops o call σ H n (fun σ H n => opsP ops l call σ H n k) := hs
    have did : ∀ (σ : AE) (ρ : Env), FR φ σ ρ → (stepP o.op call σ H n fun v H n => opsP ops l call (eput σ o.dst v) H n k) → astep Try.prog o.op ρ h fun v h' => aops Try.prog ops l (ρ.put o.dst v) h' N := fun σ ρ hf hs =>
      stepP_sound hcall hr hf hs fun ψ v H' n' u g h1 h2 h3 h4 => opsP_sound hcall l ψ _ H' n' k _ g (hp.trans h1) h2 ((hf.mono h1).put o.dst h3) h4 hN
    have skip : ∀ (σ : AE) (ρ : Env), FR φ σ ρ → opsP ops l call (eput σ o.dst undefA) H n k → aops Try.prog ops l (ρ.put o.dst undef) h N := fun σ ρ hf hs =>
      opsP_sound hcall l φ _ H n k _ h hp hr (hf.put o.dst .undef) hs hN
    unfold opP at hs
    unfold aops
    split at hs
    · rename_i hg
      simp only [hg]
      exact did σ ρ hf hs
    · rename_i j want hg
      simp only [hg]
      split at hs
      · exact hs.elim
      · rename_i t ht
        simp only [ht]
        have rput : ∀ q : Bool, ρ t = .bool q → FR φ (eput σ (some t) (.bool q)) (ρ.upd t (.bool q)) := fun q hq => hf.put (some t) (.bool q)
        split at hs
        · rename_i q hq
          have hv := (hq ▸ hf.at t).bool_inv
          simp only [hv]
          split at hs
          · rename_i hqw
            have hqw2 : q = want := by simpa using hqw
            subst hqw2
            refine ⟨fun _ => ?_, (fun k => by rw [hqw] at k; cases k)⟩
            rw [upd_eta hv]
            exact did σ ρ hf hs
          · rename_i hqw
            have hqw2 : (!want) = q := by cases q <;> cases want <;> simp_all
            refine ⟨(fun k => by rw [hqw] at k; cases k), fun _ => ?_⟩
            rw [upd_eta (by rw [hv, hqw2])]
            exact skip σ ρ hf hs
        · rename_i q hq
          have hv := (hq ▸ hf.at t).sb_inv
          simp only [hv]
          split at hs
          · cases q with
            | true => exact ⟨fun _ => did _ _ (rput true hv) (hs.t rfl), fun k => by cases k⟩
            | false => exact ⟨(fun k => by cases k), fun _ => skip _ _ (rput false hv) (hs.f rfl)⟩
          · cases q with
            | true => exact ⟨(fun k => by cases k), fun _ => skip _ _ (rput true hv) (hs.t rfl)⟩
            | false => exact ⟨fun _ => did _ _ (rput false hv) (hs.f rfl), fun k => by cases k⟩
        · rename_i us hq
          obtain ⟨cs, hv, _⟩ := (hq ▸ hf.at t).tup_inv
          simp only [hv]
          exact skip σ ρ hf hs
        · exact hs.elim
theorem refP_FR (hf : FR φ σ ρ) {c : Operand} {q : Bool} (hv : ρ.ev c = .bool q) : FR φ (refP c q σ) ρ := by
  cases c with
  | tmp t =>
    have := hf.put (some t) (VR.bool q)
    have e : ρ.put (some t) (.bool q) = ρ := upd_eta hv
    rw [e] at this
    exact this
  | _ => exact hf
theorem and_of {a b : Bool} (h : (Bool.rec false b a : Bool) = true) : a = true ∧ b = true := by
  cases a with
  | true => exact ⟨rfl, h⟩
  | false => cases h
theorem execP_sound (hcall : CPok call) {cd : CP} (hcd : CPok cd) (hcs : CSing cd) {D : DT} {p : Nat} {φ0 : Ph} (hφ : ∀ b q, φ0 b = some q → b < p) (c : Code) : drawOk D c = true → ∀ (φ : Ph) (σ : AE) (H : AH) (n : Nat) (kn : KP) (kx : Nat → KP) (kr : KP) (ρ : Env) (h : Hp) (N R : EH) (X : Nat → EH), PLe φ0 φ → HR φ H n h0 h → FR φ σ ρ →
    execP p cd D c call σ H n kn kx kr → GoP φ0 h0 kn N → GoP φ0 h0 kr R → (∀ i, GoP φ0 h0 (kx i) (X i)) → avc Try.prog c N R X ρ h := by
  induction c with
  | skip => exact fun _ φ σ H n kn kx kr ρ h N R X hp hr hf hs hN _ _ => hN φ σ H n ρ h hp hr hf hs
  | region id ops draw =>
    intro hdr φ σ H n kn kx kr ρ h N R X hp hr hf hs hN _ _
    have key : opsP ops ops.toList call σ H n kn → aops Try.prog ops ops.toList ρ h N := fun hs => opsP_sound hcall _ φ σ H n kn ρ h hp hr hf hs hN
    unfold avc
    cases draw with
    | false => exact key hs
    | true =>
      have hs : (Option.rec (fun call σ H n kn _ _ => opsP ops ops.toList call σ H n kn) (fun bs _ σ H n kn _ _ => dynL ops ops.toList bs cd [] σ H n kn) (findD D id) : XP) call σ H n kn kx kr := hs
      have hdr : (Option.rec (swapB Try.prog ops) (fun bs => dynOk ops bs) (findD D id) : Bool) = true := hdr
      rw [if_pos rfl]
      cases hd : findD D id with
      | none =>
        rw [hd] at hs hdr
        exact .inr (.inl ⟨hdr, key hs⟩)
      | some bs =>
        rw [hd] at hs hdr
        exact .inr (.inr (dynL_sound hcd hcs hdr hs hr hf fun ψ σ' H' n' ρ' h' hp' hr' hf' hk' => hN ψ σ' H' n' ρ' h' (hp.trans hp') hr' hf' hk'))
  | seq a b iha ihb =>
    intro hdr φ σ H n kn kx kr ρ h N R X hp hr hf hs hN hR hX
    obtain ⟨hda, hdb⟩ := and_of hdr
    exact iha hda φ σ H n _ kx kr ρ h _ R X hp hr hf hs (fun ψ σ H n ρ h hp hr hf hs => ihb hdb ψ σ H n kn kx kr ρ h N R X hp hr hf hs hN hR hX) hR hX
  | cond x a b iha ihb =>
    intro hdr φ σ H n kn kx kr ρ h N R X hp hr hf hs hN hR hX
    obtain ⟨hda, hdb⟩ := and_of hdr
    have hs : condP x σ (fun σ => execP p cd D a call σ H n kn kx kr) (fun σ => execP p cd D b call σ H n kn kx kr) := hs
    have hc := hf.ev x
    unfold condP at hs
    unfold avc
    split at hs
    · rename_i q
      rw [q] at hc
      rw [hc.bool_inv]
      exact ⟨fun _ => iha hda φ σ H n kn kx kr ρ h N R X hp hr hf hs hN hR hX, (fun k => by cases k)⟩
    · rename_i q
      rw [q] at hc
      rw [hc.bool_inv]
      exact ⟨(fun k => by cases k), fun _ => ihb hdb φ σ H n kn kx kr ρ h N R X hp hr hf hs hN hR hX⟩
    · rename_i q e
      rw [e] at hc
      have hv := hc.sb_inv
      cases q with
      | true => rw [hv]; exact ⟨fun _ => iha hda φ _ H n kn kx kr ρ h N R X hp hr (refP_FR hf hv) (hs.t rfl) hN hR hX, (fun k => by cases k)⟩
      | false => rw [hv]; exact ⟨(fun k => by cases k), fun _ => ihb hdb φ _ H n kn kx kr ρ h N R X hp hr (refP_FR hf hv) (hs.f rfl) hN hR hX⟩
    · exact hs.elim
  | block id b ih =>
    intro hdr φ σ H n kn kx kr ρ h N R X hp hr hf hs0 hN hR hX
    unfold avc
    refine ih hdr φ σ H n kn _ kr ρ h N R _ hp hr hf hs0 hN hR fun i ψ σ H n ρ h hp hr hf hs => ?_
    cases hb : Nat.beq i id with
    | true =>
      rw [hb] at hs
      have hii := Nat.eq_of_beq_eq_true hb
      rw [if_pos hii]
      exact hN ψ σ H n ρ h hp hr hf hs
    | false =>
      rw [hb] at hs
      have hne : ¬ i = id := fun q => by subst q; simp at hb
      simp only [if_neg hne]
      exact hX i ψ σ H n ρ h hp hr hf hs
  | loop b ih =>
    intro hdr φ σ H n kn kx kr ρ h N R X hp hr hf hs hN hR hX
    have hs : LoopP p (fun σ H n k => execP p cd D b call σ H n k kx kr) σ H n := hs
    unfold avc
    rcases hs with ⟨α, nn, st, μ, a0, c0, hstep⟩ | ⟨k0, hroll⟩
    · skip
      let Q : Env → Hp → Nat → Prop := fun ρ1 h1 m => ∃ ψ a, μ a = m ∧ PLe φ0 ψ ∧ HR ψ (st a).2 nn h0 h1 ∧ FR ψ (st a).1 ρ1
      have cov : ∀ {ψ : Ph} {σ : AE} {H : AH} {n : Nat} {ρ : Env} {h : Hp} {a : α}, Cov p σ H n ((st a).1, (st a).2, nn) → PLe φ0 ψ → HR ψ H n h0 h → FR ψ σ ρ → Q ρ h (μ a) := fun {ψ σ H n ρ h a} hc hp hr hf => by
        obtain ⟨χ, h1, h2, h3⟩ := hc ψ h0 h ρ hr hf
        exact ⟨χ, a, rfl, fun b q e => h1 b q (hφ b q e) (hp b q e), h2, h3⟩
      have hμ : ∀ ρ1 h1 g, Q ρ1 h1 g → ∃ m, Q ρ1 h1 m ∧ ∀ k, Q ρ1 h1 k → m ≤ k := fun ρ1 h1 g hg => least g hg
      refine ⟨fun ρ1 h1 => ∃ g, Q ρ1 h1 g, fun ρ1 h1 => Classical.epsilon fun m => Q ρ1 h1 m ∧ ∀ k, Q ρ1 h1 k → m ≤ k, ⟨_, cov c0 hp hr hf⟩, fun ρ1 h1 ⟨g, hg⟩ _ _ => ?_⟩
      have hsp := Classical.epsilon_spec (hμ ρ1 h1 g hg)
      obtain ⟨m, hm⟩ : ∃ m, (Classical.epsilon fun m => Q ρ1 h1 m ∧ ∀ k, Q ρ1 h1 k → m ≤ k) = m := ⟨_, rfl⟩
      rw [hm] at hsp
      obtain ⟨⟨ψ, a, ha, hp1, hr1, hf1⟩, _⟩ := hsp
      refine ih hdr ψ _ _ _ _ kx kr ρ1 h1 _ R X hp1 hr1 hf1 (hstep a) (fun χ σ2 H2 n2 ρ2 h2 hp2 hr2 hf2 ⟨a', hlt, hc⟩ => ?_) hR hX
      have hQ2 := cov hc hp2 hr2 hf2
      refine ⟨h2, Sub.refl _, ⟨_, hQ2⟩, ?_⟩
      have hsp2 := Classical.epsilon_spec (hμ ρ2 h2 _ hQ2)
      have := hsp2.2 _ hQ2
      simp only [hm]
      omega
    · let Q : Env → Hp → Nat → Prop := fun ρ1 h1 m => ∃ ψ σ H n, rollP m (fun σ H n k => execP p cd D b call σ H n k kx kr) σ H n ∧ PLe φ0 ψ ∧ HR ψ H n h0 h1 ∧ FR ψ σ ρ1
      have hμ : ∀ ρ1 h1 g, Q ρ1 h1 g → ∃ m, Q ρ1 h1 m ∧ ∀ k, Q ρ1 h1 k → m ≤ k := fun ρ1 h1 g hg => least g hg
      refine ⟨fun ρ1 h1 => ∃ g, Q ρ1 h1 g, fun ρ1 h1 => Classical.epsilon fun m => Q ρ1 h1 m ∧ ∀ k, Q ρ1 h1 k → m ≤ k, ⟨k0, φ, σ, H, n, hroll, hp, hr, hf⟩, fun ρ1 h1 ⟨g, hg⟩ _ _ => ?_⟩
      have hsp := Classical.epsilon_spec (hμ ρ1 h1 g hg)
      obtain ⟨m, hm⟩ : ∃ m, (Classical.epsilon fun m => Q ρ1 h1 m ∧ ∀ k, Q ρ1 h1 k → m ≤ k) = m := ⟨_, rfl⟩
      rw [hm] at hsp
      obtain ⟨⟨ψ, σ1, H1, n1, hr0, hp1, hr1, hf1⟩, _⟩ := hsp
      cases m with
      | zero => exact hr0.elim
      | succ m =>
        refine ih hdr ψ _ _ _ _ kx kr ρ1 h1 _ R X hp1 hr1 hf1 hr0 (fun χ σ2 H2 n2 ρ2 h2 hp2 hr2 hf2 h3 => ?_) hR hX
        have hQ2 : Q ρ2 h2 m := ⟨χ, σ2, H2, n2, h3, hp2, hr2, hf2⟩
        refine ⟨h2, Sub.refl _, ⟨_, hQ2⟩, ?_⟩
        have hsp2 := Classical.epsilon_spec (hμ ρ2 h2 _ hQ2)
        have := hsp2.2 _ hQ2
        simp only [hm]
        omega
  | exit i => exact fun _ φ σ H n kn kx kr ρ h N R X hp hr hf hs _ _ hX => hX i φ σ H n ρ h hp hr hf hs
  | ret => exact fun _ φ σ H n kn kx kr ρ h N R X hp hr hf hs _ hR _ => hR φ σ H n ρ h hp hr hf hs
  | _ => intro _ φ σ H n kn kx kr ρ h N R X hp hr hf hs; exact hs.elim

/-! ### functions -/
theorem resP_sound (hr : HR φ H n h0 h) (hf : FR φ σ ρ) {K : KH} : ∀ (rs : List ResultVar) (acc : List Value) (k : List AV → Prop), resP rs σ H k → (∀ vs us, k vs → VRs φ vs us → Fin K (packV (acc.reverse ++ us)) h) → resK Try.prog rs acc ρ h K
  | [], acc, k, hs, hk => by
    have := hk [] [] hs .nil
    simpa [resK] using this
  | .tmp t :: rs, acc, k, hs, hk => by
    have hs : resP rs σ H (fun vs => k (getq (pa t) σ :: vs)) := hs
    refine resP_sound hr hf rs (ρ t :: acc) _ hs fun vs us h1 hus => ?_
    have := hk _ (ρ t :: us) h1 (.cons (hf.at t) hus)
    simpa using this
  | .cell a t :: rs, acc, k, hs, hk => by
    have hs : loadP t (getq (pa a) σ) H (fun v => resP rs σ H fun vs => k (v :: vs)) := hs
    refine loadP_sound hr (hf.at a) hs fun r u h1 hu => ?_
    refine resP_sound hr hf rs (u :: acc) _ h1 fun vs us h2 hus => ?_
    have := hk _ (u :: us) h2 (.cons hu hus)
    simpa using this
set_option maxRecDepth 20000 in
theorem runP_sound (hm : Try.prog.follows .mixedOrders = true) (hcall : CPok call) {cd : CP} (hcd : CPok cd) (hcs : CSing cd) {D : DT} {f : FuncId} {fn : Func} {c : Code} (hok : fnOk Try.prog f = true) (hdr : drawOk D c = true) (hfn : Try.prog.funcs[f]? = some fn) (hb : fn.body = some c) {args : List AV} {κ : PK} {vs : Array Value} {K : KH}
    (hs : runP call cd D c fn.results.toList fn.ntmps args H n κ) (hr : HR φ H n h0 h) (hargs : VRs φ args vs.toList) (hk : ThenP φ h0 κ K) : CallF Try.prog f vs h K := by
  obtain ⟨h1, hs⟩ := bifP_inv hs
  simp only [fnOk, hfn, hb, Bool.and_eq_true] at hok
  obtain ⟨hic, hds⟩ := hok
  have hal := hargs.length
  have hle := Nat.le_of_ble_eq_true h1
  refine ⟨hic, callG_of hm hfn hb rfl rfl hds (by simpa [hal] using hle) fun _ => ?_⟩
  have fin : GoP φ h0 (fun σ H n => resP fn.results.toList σ H fun vs => κ (epack vs) H n) (resK Try.prog fn.results.toList [] · · K) := fun ψ σ' H' n' ρ' h' hp' hr' hf' hs' =>
    resP_sound hr' hf' _ [] _ hs' fun ws us h2 hus => .here (hk ψ _ H' n' _ h' hp' hr' (by simpa using epack_VR hus) h2)
  exact execP_sound hcall hcd hcs (fun b q e => (hr.dom b q e).1) c hdr φ _ H n _ _ _ _ h _ _ _ (PLe.refl _) hr (entry_FR hargs) hs fin fin fun i ψ σ' H' n' ρ' h' _ _ _ q => q.elim
/-- A function known by a proof. -/
def NatP (f : FuncId) (g : List AV → AH → Nat → PK → Prop) : Prop := ∀ (args : List AV) (H : AH) (n : Nat) (κ : PK), g args H n κ → ∀ (φ : Ph) (h0 h : Hp) (vs : Array Value) (K : KH), HR φ H n h0 h → VRs φ args vs.toList → ThenP φ h0 κ K → CallF Try.prog f vs h K
/-- It has one outcome, and leaves what there was. -/
def SingG (g : List AV → AH → Nat → PK → Prop) : Prop := ∀ args H n κ, g args H n κ → ∃ v H' n', κ v H' n' ∧ GrowsA H H' ∧ n ≤ n' ∧ ∀ κ' : PK, κ' v H' n' → g args H n κ'
def FunOk (f : FuncId) (e : EP) : Prop := match e with
  | .no => True
  | .run D c rs m => fnOk Try.prog f = true ∧ drawOk D c = true ∧ ∃ fn, Try.prog.funcs[f]? = some fn ∧ fn.body = some c ∧ fn.results.toList = rs ∧ fn.ntmps = m
  | .nat g => NatP f g
  | .det g => NatP f g ∧ SingG g
def TabP (F : FuncId → EP) : Prop := ∀ f, FunOk f (F f)
theorem callD_ok {F : FuncId → EP} (hF : TabP F) : CPok (callD F) := fun f args H n κ hs φ h0 h vs K hr hargs hk => by
  have hs : (EP.rec (fun _ _ _ _ => False) (fun _ _ _ _ _ _ _ _ => False) (fun _ _ _ _ _ => False) (fun g => g) (F f) : List AV → AH → Nat → PK → Prop) args H n κ := hs
  have hf := hF f
  cases hFf : F f with
  | no => rw [hFf] at hs; exact hs.elim
  | nat g => rw [hFf] at hs; exact hs.elim
  | run _ _ _ _ => rw [hFf] at hs; exact hs.elim
  | det g => rw [hFf] at hs hf; exact hf.1 args H n κ hs φ h0 h vs K hr hargs hk
theorem callD_sing {F : FuncId → EP} (hF : TabP F) : CSing (callD F) := fun f args H n κ hs => by
  unfold callD at *
  have hf := hF f
  cases hFf : F f with
  | no => rw [hFf] at hs; exact hs.elim
  | nat g => rw [hFf] at hs; exact hs.elim
  | run _ _ _ _ => rw [hFf] at hs; exact hs.elim
  | det g => rw [hFf] at hs hf; exact hf.2 args H n κ hs
set_option maxRecDepth 20000 in
theorem callT_sound (hm : Try.prog.follows .mixedOrders = true) {F : FuncId → EP} (hF : TabP F) : ∀ d, CPok (callT F d)
  | 0 => fun f args H n κ hs => hs.elim
  | d + 1 => fun f args H n κ hs φ h0 h vs K hr hargs hk => by
    have hs : (EP.rec (fun _ _ _ _ => False) (fun D c rs m => runP (callT F d) (callD F) D c rs m) (fun g => g) (fun g => g) (F f) : List AV → AH → Nat → PK → Prop) args H n κ := hs
    have hf := hF f
    cases hFf : F f with
    | no => rw [hFf] at hs; exact hs.elim
    | nat g => rw [hFf] at hs hf; exact hf args H n κ hs φ h0 h vs K hr hargs hk
    | det g => rw [hFf] at hs hf; exact hf.1 args H n κ hs φ h0 h vs K hr hargs hk
    | run D c rs m =>
      rw [hFf] at hs hf
      obtain ⟨hok, hdr, fn, hfn, hb, hrs, hnt⟩ := hf
      subst hrs hnt
      exact runP_sound hm (callT_sound hm hF d) (callD_ok hF) (callD_sing hF) hok hdr hfn hb hs hr hargs hk
theorem bodyP_ok {D : DT} {f : FuncId} (hok : fnOk Try.prog f = true) (hdr : drawF D f = true) : FunOk f (bodyP D f) := by
  unfold drawF at hdr
  unfold bodyP
  cases hfn : Try.prog.funcs[f]? with
  | none => rw [hfn] at hdr; cases hdr
  | some fn =>
    rw [hfn] at hdr
    dsimp only at hdr ⊢
    cases hb : fn.body with
    | none => rw [hb] at hdr; cases hdr
    | some c =>
      rw [hb] at hdr
      exact ⟨hok, hdr, fn, hfn, hb, rfl, rfl⟩
theorem evP_ok : TabP evP := fun f => by
  unfold evP
  cases h : fnOkq f with
  | false => trivial
  | true =>
    cases hd : drawF [] f with
    | false => trivial
    | true => exact bodyP_ok h hd
/-- The table, with what is told of a function's regions that draw their order. -/
noncomputable def withD (k : FuncId) (D : DT) (F : FuncId → EP) (f : FuncId) : EP := Bool.rec (F f) (bodyP D k) (Nat.beq f k)
theorem withD_ok {F : FuncId → EP} (hF : TabP F) {k : FuncId} {D : DT} (hok : fnOk Try.prog k = true) (hdr : drawF D k = true) : TabP (withD k D F) := fun f => by
  unfold withD
  cases hb : Nat.beq f k with
  | false => exact hF f
  | true =>
    have := Nat.eq_of_beq_eq_true hb
    subst this
    exact bodyP_ok hok hdr
/-- The table, one function more known, that may be called in a region that draws its order. -/
noncomputable def withS (k : FuncId) (g : List AV → AH → Nat → PK → Prop) (F : FuncId → EP) (f : FuncId) : EP := Bool.rec (F f) (.det g) (Nat.beq f k)
theorem withS_ok {F : FuncId → EP} (hF : TabP F) {k : FuncId} {g : List AV → AH → Nat → PK → Prop} (hg : NatP k g) (hs : SingG g) : TabP (withS k g F) := fun f => by
  unfold withS
  cases hb : Nat.beq f k with
  | false => exact hF f
  | true =>
    have := Nat.eq_of_beq_eq_true hb
    subst this
    exact ⟨hg, hs⟩
/-- The table, one function more known. -/
noncomputable def withN (k : FuncId) (g : List AV → AH → Nat → PK → Prop) (F : FuncId → EP) (f : FuncId) : EP := Bool.rec (F f) (.nat g) (Nat.beq f k)
theorem withN_ok {F : FuncId → EP} (hF : TabP F) {k : FuncId} {g : List AV → AH → Nat → PK → Prop} (hg : NatP k g) : TabP (withN k g F) := fun f => by
  unfold withN
  cases hb : Nat.beq f k with
  | false => exact hF f
  | true =>
    have := Nat.eq_of_beq_eq_true hb
    subst this
    exact hg
/-- A function's run by a table makes it known. -/
theorem NatP.of {F : FuncId → EP} (hF : TabP F) {f : FuncId} {g : List AV → AH → Nat → PK → Prop} (d : Nat) (h : ∀ args H n κ, g args H n κ → callT F d f args H n κ) : NatP f g := fun args H n κ hs => callT_sound (by kernel_rfl) hF d f args H n κ (h args H n κ hs)
/-- A value that points nowhere. -/
def flat : AV → Bool
  | .int _ _ => true
  | .str _ => true
  | .bool _ => true
  | .si _ _ => true
  | .sb _ => true
  | .ss _ => true
  | .nil => true
  | .nsl => true
  | .tup l => l.all flat1
  | .agg l => l.all flat1
  | _ => false
where flat1 : AV → Bool
  | .int _ _ => true
  | .str _ => true
  | .bool _ => true
  | .si _ _ => true
  | .sb _ => true
  | .ss _ => true
  | .nil => true
  | .nsl => true
  | _ => false
theorem flat1_VR {φ ψ : Ph} {a : AV} {v : Value} (hf : flat.flat1 a = true) (h : VR φ a v) : VR ψ a v := by
  cases a <;> first | (cases hf; done) | exact h
theorem flat1_VRs {φ ψ : Ph} : ∀ {l : List AV} {vs : List Value}, l.all flat.flat1 = true → VRs φ l vs → VRs ψ l vs
  | [], vs, _, h => by rw [h.nil_inv]; exact .nil
  | a :: l, vs, hf, h => by
    obtain ⟨v, us, rfl, h1, h2⟩ := h.cons_inv
    simp only [List.all_cons, Bool.and_eq_true] at hf
    exact .cons (flat1_VR hf.1 h1) (flat1_VRs hf.2 h2)
theorem flat_VR {φ ψ : Ph} {a : AV} {v : Value} (hf : flat a = true) (h : VR φ a v) : VR ψ a v := by
  cases a <;> first | (cases hf; done) | exact h | skip
  case agg l => obtain ⟨cs, rfl, h1⟩ := h.agg_inv; exact .agg (flat1_VRs hf h1)
  case tup l => obtain ⟨cs, rfl, h1⟩ := h.tup_inv; exact .tup (flat1_VRs hf h1)
/-- A value, or a row of such, as ones that are not known. -/
def mkT : AV → AV
  | .tup l => .tup (l.map mk)
  | v => mk v
theorem VRs.mk {φ : Ph} : ∀ {l : List AV} {vs : List Value}, VRs φ l vs → VRs φ (l.map Go.Proofs.Ytaejmcgcfopmkaa.mk) vs
  | [], vs, h => by rw [h.nil_inv]; exact .nil
  | a :: l, vs, h => by
    obtain ⟨v, us, rfl, h1, h2⟩ := h.cons_inv
    exact .cons h1.mk (VRs.mk h2)
theorem VR.mkT {φ : Ph} {a : AV} {v : Value} (h : VR φ a v) : VR φ (mkT a) v := by
  cases a <;> first | exact h.mk | skip
  case tup l => obtain ⟨cs, rfl, h1⟩ := h.tup_inv; exact .tup h1.mk
theorem flat_mkT {a : AV} (h : flat a = true) : flat (mkT a) = true := by
  cases a <;> first | exact h | skip
  case tup l =>
    have : ∀ {l : List AV}, l.all flat.flat1 = true → (l.map mk).all flat.flat1 = true := by
      intro l
      induction l with
      | nil => intro _; rfl
      | cons a l ih =>
        intro hf
        simp only [List.all_cons, List.map_cons, Bool.and_eq_true] at hf ⊢
        refine ⟨?_, ih hf.2⟩
        cases a <;> exact hf.1
    exact this h
/-- A function of values that point nowhere, run on no memory: what it makes on the way is forgotten. -/
theorem pureN {F : FuncId → EP} (hF : TabP F) {d : Nat} {f : FuncId} {args : List AV} {v : AV} (ha : args.all flat = true) (hv : flat v = true) (h : callT F d f args .nil 0 fun u _ _ => mkT u = mkT v)
    {φ : Ph} {H : AH} {n : Nat} {h0 hp : Hp} {vs : Array Value} {κ : PK} {K : KH} (hs : κ (mkT v) H n) (hr : HR φ H n h0 hp) (hargs : VRs φ args vs.toList) (hk : ThenP φ h0 κ K) : CallF Try.prog f vs hp K := by
  have hargs' : VRs (fun _ => none) args vs.toList := by
    have : ∀ {l : List AV} {us : List Value}, l.all flat = true → VRs φ l us → VRs (fun _ => none) l us := by
      intro l
      induction l with
      | nil => intro us _ h; rw [h.nil_inv]; exact .nil
      | cons a l ih =>
        intro us hf h
        obtain ⟨w, ws, rfl, h1, h2⟩ := h.cons_inv
        simp only [List.all_cons, Bool.and_eq_true] at hf
        exact .cons (flat_VR hf.1 h1) (ih hf.2 h2)
    exact this ha hargs
  have key : Wf hp → CallF Try.prog f vs hp K := fun hw => callT_sound (by kernel_rfl) hF d f args .nil 0 _ h (fun _ => none) hp hp vs K (start_none hw) hargs' fun ψ u H' n' w g _ hg hu he => by
    have hg2 : HR φ H n h0 g := hr.grow (fun b o hb => (hg.base b o hb).2) hg.size
    have h3 : VR φ (mkT v) w := (flat_VR (φ := ψ) (flat_mkT hv) (he ▸ hu.mkT))
    exact hk φ _ H n w g (PLe.refl _) hg2 h3 hs
  have hic : isCall Try.prog f = true := (callT_sound (by kernel_rfl) hF d f args .nil 0 _ h (fun _ => none) ⟨fun _ => none, 0⟩ ⟨fun _ => none, 0⟩ vs (fun _ _ => True) (start_none fun _ _ q => by cases q) hargs' fun _ _ _ _ _ _ _ _ _ _ => trivial).1
  exact ⟨hic, fun w hi => (key hi.wf).2 w hi⟩
/-- What the quick machine found. -/
noncomputable def natQ (g : List AV → AH → Nat → KA → AR) (args : List AV) (H : AH) (n : Nat) (κ : PK) : Prop := optP (g args H n topq) (un3 κ)
theorem natQ_ok {f : FuncId} {g : List AV → AH → Nat → KA → AR} (hg : COk Try.prog f fun args H n => g args H n topq) : NatP f (natQ g) := fun args H n κ hs φ h0 h vs K hr hargs hk => by
  obtain ⟨⟨v, H', n'⟩, h1, h2⟩ := optP_inv hs
  exact hg args H n v H' n' h1 φ h0 h vs K hr hargs (hk.then h2)
theorem natQ_sing {g : List AV → AH → Nat → KA → AR} (hg : ∀ args H n r, g args H n topq = some r → GrowsA H r.2.1 ∧ n ≤ r.2.2) : SingG (natQ g) := fun args H n κ hs => by
  obtain ⟨⟨v, H', n'⟩, h1, h2⟩ := optP_inv hs
  obtain ⟨h3, h4⟩ := hg _ _ _ _ h1
  exact ⟨v, H', n', h2, h3, h4, fun κ' k' => optP_of h1 k'⟩
theorem natTrue {d : Nat} {k : FuncId} (he : isTrue (callq evQ d k [] .nil 0 topq) = true) : NatP k (natQ trueN) := natQ_ok (trueN_ok evQ_ok he)
/-- A law that the machine finds true. -/
theorem evP_calls {F : FuncId → EP} (hF : TabP F) {d : Nat} {f : FuncId} {args : List AV} {vs : Array Value} (hargs : VRs (fun _ => none) args vs.toList)
    (he : callT F d f args .nil 0 fun v _ _ => v = .bool true ∨ v = .sb true) (w : World) : Calls Try.prog f vs w fun e w' => e = .returned (.bool true) ∧ Below w.heap.size w w' := by
  have hs := callT_sound (by kernel_rfl) hF d f args .nil 0 _ he _ (wholeHp w) (wholeHp w) vs (fun v g => v = .bool true ∧ (wholeHp w).n ≤ g.n ∧ ∀ b o, (wholeHp w).f b = some o → g.f b = some o) (wholeHp_start w) hargs
    (fun ψ v H n u g _ hg hu hv => ⟨by rcases hv with rfl | rfl; exact hu.bool_inv; exact hu.sb_inv, hg.size, fun b o hb => (hg.base b o hb).2⟩)
  refine (hs.2 w (wholeHp_is w)).mono fun e' w' ⟨v, g, h1, h2, h3, h4, h5, h6⟩ => ?_
  subst h1 h4
  refine ⟨rfl, h3.1, h3.2.1, h3.2.2, ?_, fun b hb => ?_⟩
  · rw [h2.1]; exact h5
  · have := h6 b _ (show (wholeHp w).f b = some w.heap[b] from Array.getElem?_eq_getElem hb)
    rw [h2.2 b _ this, Array.getElem?_eq_getElem hb]
end
end Go.Proofs.Ytaejmcgcfopmkaa
