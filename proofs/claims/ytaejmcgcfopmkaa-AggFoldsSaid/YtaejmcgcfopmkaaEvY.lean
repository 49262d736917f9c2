/- The machine of our own: what it yields for a call, each run of the call yields. -/
import Derived.Test.YtaejmcgcfopmkaaEvX
namespace Go.Proofs.Ytaejmcgcfopmkaa
open Go Go.RowKit
section
variable {P : Program} {call : AC} {φ : Ph} {H H' : AH} {n n' : Nat} {h0 h : Hp} {K : KH} {σ : AE} {ρ : Env} {r : AV}
/-! ### code -/
theorem least {p : Nat → Prop} : ∀ n, p n → ∃ m, p m ∧ ∀ k, p k → m ≤ k := by
  intro n
  induction n using Nat.strongRecOn with
  | _ n ih =>
    intro hn
    by_cases h : ∃ k, k < n ∧ p k
    · obtain ⟨k, hk, hp⟩ := h
      exact ih k hk hp
    · exact ⟨n, hn, fun k hk => Nat.le_of_not_lt fun hlt => h ⟨k, hlt, hk⟩⟩
def Went (h0 : Hp) (φ : Ph) (x : EX) (σ' : AE) (H' : AH) (n' : Nat) (N R : EH) (X : Nat → EH) : Prop := ∀ ψ ρ' h', PLe φ ψ → HR ψ H' n' h0 h' → FR ψ σ' ρ' → match x with
  | .norm => N ρ' h'
  | .ret => R ρ' h'
  | .exit i => X i ρ' h'
theorem Went.mono {h0 : Hp} {φ ψ : Ph} {x : EX} {σ' : AE} {H' : AH} {n' : Nat} {N R : EH} {X : Nat → EH} (hw : Went h0 φ x σ' H' n' N R X) (hp : PLe φ ψ) : Went h0 ψ x σ' H' n' N R X :=
  fun χ ρ' h' h1 h2 h3 => hw χ ρ' h' (hp.trans h1) h2 h3
theorem exec_sound (hcall : ∀ f, COk P f (call f)) (h0 : Hp) : ∀ (f : Nat) (c : Code) (φ : Ph) (σ σ' : AE) (H H' : AH) (n n' : Nat) (ρ : Env) (h : Hp) (x : EX) (N R : EH) (X : Nat → EH), HR φ H n h0 h → FR φ σ ρ →
    exec P call f c σ H n = some (x, σ', H', n') → Went h0 φ x σ' H' n' N R X → avc P c N R X ρ h := by
  intro f
  induction f using Nat.strongRecOn with
  | _ f ih =>
    intro c φ σ σ' H H' n n' ρ h x N R X hr hf e hw
    cases f with
    | zero => cases e
    | succ f =>
      replace e : execB P call (exec P call f) c σ H n = some (x, σ', H', n') := e
      have ih1 := ih f (Nat.lt_succ_self f)
      unfold execB at e
      split at e
      · -- skip
        injection e with e; injection e with e0 e; injection e with e1 e; injection e with e2 e3
        subst e0 e1 e2 e3
        exact hw φ ρ h (PLe.refl _) hr hf
      · -- region
        rename_i id ops draw
        split at e
        · rename_i hd
          have hx := eops_norm _ _ _ _ _ e
          dsimp only at hx
          subst hx
          have hs := eops_sound hcall h0 _ φ σ σ' H H' n n' ρ h _ hr hf e hw
          unfold avc
          split
          · rename_i hdr
            subst hdr
            exact .inr (.inl ⟨by simpa using hd, hs⟩)
          · exact hs
        · rename_i hd
          simp only [Bool.and_eq_true] at hd
          have hx : x = .norm := by
            unfold edyn at e
            split at e
            · split at e
              · injection e with e; injection e with e0 e; exact e0.symm
              · cases e
            · cases e
          subst hx
          have hs := (edyn_sound hcall hr hf e hw).2
          unfold avc
          rw [if_pos hd.1]
          exact .inr (.inr hs)
      · -- seq
        rename_i a b
        split at e
        · rename_i σ1 H1 n1 e1
          refine ih1 a φ σ σ1 H H1 n n1 ρ h .norm _ R X hr hf e1 fun ψ ρ1 h1 hp hr1 hf1 => ?_
          exact ih1 b ψ σ1 σ' H1 H' n1 n' ρ1 h1 x N R X hr1 hf1 e (hw.mono hp)
        · rename_i hne
          refine ih1 a φ σ σ' H H' n n' ρ h x _ R X hr hf e fun ψ ρ1 h1 hp hr1 hf1 => ?_
          have := hw ψ ρ1 h1 hp hr1 hf1
          cases x with
          | norm => exact (hne _ _ _ e).elim
          | ret => exact this
          | exit i => exact this
      · -- cond
        rename_i cd a b
        have hc := hf.ev cd
        unfold avc
        split at e
        · rename_i q
          rw [q] at hc
          rw [hc.bool_inv]
          exact ⟨fun _ => ih1 a φ σ σ' H H' n n' ρ h x N R X hr hf e hw, (fun k => by cases k)⟩
        · rename_i q
          rw [q] at hc
          rw [hc.bool_inv]
          exact ⟨(fun k => by cases k), fun _ => ih1 b φ σ σ' H H' n n' ρ h x N R X hr hf e hw⟩
        · cases e
      · -- block
        rename_i id b
        unfold avc
        split at e
        · rename_i i σ1 H1 n1 e1
          split at e
          · rename_i hi
            have hi := Nat.eq_of_beq_eq_true hi
            subst hi
            injection e with e; injection e with e0 e; injection e with e1' e; injection e with e2 e3
            subst e0 e1' e2 e3
            refine ih1 b φ σ σ1 H H1 n n1 ρ h (.exit i) N R _ hr hf e1 fun ψ ρ1 h1 hp hr1 hf1 => ?_
            simp only [if_true]
            exact hw ψ ρ1 h1 hp hr1 hf1
          · rename_i hi
            injection e with e; injection e with e0 e; injection e with e1' e; injection e with e2 e3
            subst e0 e1' e2 e3
            refine ih1 b φ σ σ1 H H1 n n1 ρ h (.exit i) N R _ hr hf e1 fun ψ ρ1 h1 hp hr1 hf1 => ?_
            have hne : ¬ i = id := fun q => by subst q; simp at hi
            simp only [if_neg hne]
            exact hw ψ ρ1 h1 hp hr1 hf1
        · rename_i hne
          refine ih1 b φ σ σ' H H' n n' ρ h x N R _ hr hf e fun ψ ρ1 h1 hp hr1 hf1 => ?_
          have := hw ψ ρ1 h1 hp hr1 hf1
          cases x with
          | norm => exact this
          | ret => exact this
          | exit i => exact (hne _ _ _ _ e).elim
      · -- loop
        rename_i b
        let Q : Env → Hp → Nat → Prop := fun ρ1 h1 f1 => f1 ≤ f + 1 ∧ ∃ ψ σ1 H1 n1, PLe φ ψ ∧ HR ψ H1 n1 h0 h1 ∧ FR ψ σ1 ρ1 ∧ exec P call f1 (.loop b) σ1 H1 n1 = some (x, σ', H', n')
        have hQ0 : Q ρ h (f + 1) := ⟨Nat.le_refl _, φ, σ, H, n, PLe.refl _, hr, hf, e⟩
        have hμ : ∀ ρ1 h1 g, Q ρ1 h1 g → ∃ m, Q ρ1 h1 m ∧ ∀ k, Q ρ1 h1 k → m ≤ k := fun ρ1 h1 g hg => least g hg
        refine ⟨fun ρ1 h1 => ∃ g, Q ρ1 h1 g, fun ρ1 h1 => Classical.epsilon fun m => Q ρ1 h1 m ∧ ∀ k, Q ρ1 h1 k → m ≤ k, ⟨_, hQ0⟩, fun ρ1 h1 ⟨g, hg⟩ _ _ => ?_⟩
        have hsp := Classical.epsilon_spec (hμ ρ1 h1 g hg)
        obtain ⟨m, hm⟩ : ∃ m, (Classical.epsilon fun m => Q ρ1 h1 m ∧ ∀ k, Q ρ1 h1 k → m ≤ k) = m := ⟨_, rfl⟩
        rw [hm] at hsp
        obtain ⟨⟨hmle, ψ, σ1, H1, n1, hp, hr1, hf1, e1⟩, _⟩ := hsp
        cases m with
        | zero => cases e1
        | succ m =>
          replace e1 : execB P call (exec P call m) (.loop b) σ1 H1 n1 = some (x, σ', H', n') := e1
          have ih2 := ih m (by omega)
          simp only [execB] at e1
          split at e1
          · rename_i σ2 H2 n2 e2
            refine ih2 b ψ σ1 σ2 H1 H2 n1 n2 ρ1 h1 .norm _ R X hr1 hf1 e2 fun χ ρ2 h2 hp2 hr2 hf2 => ?_
            have hQ2 : Q ρ2 h2 m := ⟨by omega, χ, σ2, H2, n2, hp.trans hp2, hr2, hf2, e1⟩
            refine ⟨h2, Sub.refl _, ⟨m, hQ2⟩, ?_⟩
            have hsp2 := Classical.epsilon_spec (hμ ρ2 h2 m hQ2)
            have := hsp2.2 m hQ2
            simp only [hm]
            omega
          · rename_i hne
            refine ih2 b ψ σ1 σ' H1 H' n1 n' ρ1 h1 x _ R X hr1 hf1 e1 fun χ ρ2 h2 hp2 hr2 hf2 => ?_
            have := hw χ ρ2 h2 (hp.trans hp2) hr2 hf2
            cases x with
            | norm => exact (hne _ _ _ e1).elim
            | ret => exact this
            | exit i => exact this
      · -- exit
        injection e with e; injection e with e0 e; injection e with e1 e; injection e with e2 e3
        subst e0 e1 e2 e3
        exact hw φ ρ h (PLe.refl _) hr hf
      · -- ret
        injection e with e; injection e with e0 e; injection e with e1 e; injection e with e2 e3
        subst e0 e1 e2 e3
        exact hw φ ρ h (PLe.refl _) hr hf
      · cases e

/-! ### functions -/
theorem eentry_get : ∀ (l : List AV) (k : Nat) (σ : AE) (t : Nat) (a : AV), (eentry l k σ).get t = some a → (k ≤ t ∧ l[t - k]? = some a) ∨ σ.get t = some a
  | [], k, σ, t, a, e => .inr e
  | v :: l, k, σ, t, a, e => by
    rcases eentry_get l (k + 1) _ t a e with ⟨h1, h2⟩ | h
    · refine .inl ⟨by omega, ?_⟩
      obtain ⟨d, rfl⟩ : ∃ d, t = k + 1 + d := ⟨t - (k + 1), by omega⟩
      rw [show k + 1 + d - (k + 1) = d from by omega] at h2
      rw [show k + 1 + d - k = d + 1 from by omega]
      simpa using h2
    · rcases PM.get_set depthE σ k t a h with ⟨rfl, h2⟩ | ⟨_, h2⟩
      · exact .inl ⟨Nat.le_refl _, by simpa using h2⟩
      · exact .inr h2
theorem entry_FR {args : List AV} {vs : Array Value} (h : VRs φ args vs.toList) : FR φ (eentry args 0 .nil) (entryEnv vs.toList 0) := fun t a e => by
  rcases eentry_get args 0 .nil t a e with ⟨_, h2⟩ | h2
  · obtain ⟨v, h3, h4⟩ := h.at h2
    rw [entryEnv_eq, if_pos (Nat.zero_le _)]
    rw [Nat.sub_zero] at h3 ⊢
    rw [h3]
    exact h4
  · cases h2
theorem eres_sound (hr : HR φ H n h0 h) (hf : FR φ σ ρ) : ∀ (rs : List ResultVar) (vs : List AV) (acc : List Value), eres P σ H rs = some vs → (∀ us, VRs φ vs us → Fin K (packV (acc.reverse ++ us)) h) → resK P rs acc ρ h K
  | [], vs, acc, e, hk => by
    injection e with e; subst e
    have := hk [] .nil
    simpa [resK] using this
  | .tmp t :: rs, vs, acc, e, hk => by
    simp only [eres, Option.map_eq_some_iff] at e
    obtain ⟨vs', e1, rfl⟩ := e
    refine eres_sound hr hf rs vs' (ρ t :: acc) e1 fun us hus => ?_
    have := hk (ρ t :: us) (.cons (hf.ev (.tmp t)) hus)
    simpa using this
  | .cell a t :: rs, vs, acc, e, hk => by
    simp only [eres] at e
    split at e
    · rename_i v hv
      simp only [Option.map_eq_some_iff] at e
      obtain ⟨vs', e1, rfl⟩ := e
      refine eload_sound hr (hf.ev (.tmp a)) hv fun u hu => ?_
      refine eres_sound hr hf rs vs' (u :: acc) e1 fun us hus => ?_
      have := hk (u :: us) (.cons hu hus)
      simpa using this
    · cases e
theorem epack_VR {vs : List AV} {us : List Value} (h : VRs φ vs us) : VR φ (epack vs) (packV us) := by
  match vs, us, h with
  | [], us, h => rw [h.nil_inv]; exact .tup (cs := #[]) .nil
  | [a], us, h =>
    obtain ⟨v, ws, rfl, h1, h2⟩ := h.cons_inv
    rw [h2.nil_inv]; exact h1
  | a :: b :: l, us, h =>
    obtain ⟨v, ws, h0, h1, h2⟩ := h.cons_inv
    obtain ⟨v2, ws2, h3, h4, h5⟩ := h2.cons_inv
    subst h0 h3
    exact .tup (cs := (v :: v2 :: ws2).toArray) (by simpa using h)
/-- What is asked of a function's text, once. -/
def fnOk (P : Program) (f : FuncId) : Bool := isCall P f && (match P.funcs[f]? with
  | some fn => (match fn.body with
    | some c => (codeDsts c).all fun t => decide (t < fn.ntmps)
    | none => false)
  | none => false)
/-- The table serves: what is run is in order, what is known is so. -/
def TabOk (P : Program) (F : FuncId → EF) : Prop := ∀ f, match F f with
  | .no => True
  | .run => fnOk P f = true
  | .nat g => COk P f g
theorem ecall_sound (hm : P.follows .mixedOrders = true) {F : FuncId → EF} (hF : TabOk P F) : ∀ (d : Nat) (f : FuncId), COk P f (ecall P F d f) := by
  intro d
  induction d with
  | zero => intro f args H n v H' n' e; cases e
  | succ d ih =>
    intro f args H n v H' n' e φ h0 h vs K hr hargs hk
    replace e : ecallB P F (ecall P F d) f args H n = some (v, H', n') := e
    have hFf := hF f
    unfold ecallB at e
    split at e
    · cases e
    · rename_i g hg
      rw [hg] at hFf
      exact hFf args H n v H' n' e φ h0 h vs K hr hargs hk
    · rename_i hg
      rw [hg] at hFf
      simp only [fnOk, Bool.and_eq_true] at hFf
      obtain ⟨hic, hFf⟩ := hFf
      refine ⟨hic, ?_⟩
      split at e
      · rename_i fn hfn
        simp only [hfn] at hFf
        split at e
        · rename_i c hb hsz
          simp only [hb] at hFf
          have hds := hFf
          have hle := Nat.le_of_ble_eq_true hsz
          have hal := hargs.length
          refine callG_of hm hfn hb rfl rfl hds (by simpa [hal] using hle) fun _ => ?_
          split at e
          · cases e
          · rename_i x σ' G m hne hex
            split at e
            · rename_i rs hrs
              injection e with e; injection e with e1 e2; injection e2 with e2 e3
              subst e1 e2 e3
              refine exec_sound ih h0 fuelE c φ _ σ' H G n m _ h x _ _ _ hr (entry_FR hargs) hex fun ψ ρ' h' hp hr' hf' => ?_
              have fin : resK P fn.results.toList [] ρ' h' K := eres_sound hr' hf' fn.results.toList rs [] hrs fun us hus => .here (hk ψ _ h' hp hr' (by simpa using epack_VR hus))
              cases x with
              | norm => exact fin
              | ret => exact fin
              | exit i => exact (hne i rfl).elim
            · cases e
          · cases e
        · cases e
      · cases e
end
end Go.Proofs.Ytaejmcgcfopmkaa
