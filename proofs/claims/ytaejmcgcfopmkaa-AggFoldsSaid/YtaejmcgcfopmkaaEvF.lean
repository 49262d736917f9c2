/- The machine of our own: what it yields for a call, each run of the call yields. -/
import Derived.Test.YtaejmcgcfopmkaaEvE
namespace Go.Proofs.Ytaejmcgcfopmkaa
open Go Go.RowKit
/-- A function of the machine's is the program's. -/
def COk (P : Program) (f : FuncId) (g : List AV → AH → Nat → AR) : Prop := ∀ (args : List AV) (H : AH) (n : Nat) (v : AV) (H' : AH) (n' : Nat), g args H n = some (v, H', n') →
  ∀ (φ : Ph) (h0 h : Hp) (vs : Array Value) (K : KH), HR φ H n h0 h → VRs φ args vs.toList → Then φ h0 v H' n' K → CallF P f vs h K
section
variable {P : Program} {call : AC} {φ : Ph} {H H' : AH} {n n' : Nat} {h0 h : Hp} {K : KH} {σ : AE} {ρ : Env} {r : AV}
theorem estep_sound (hcall : ∀ f, COk P f (call f)) (hr : HR φ H n h0 h) (hf : FR φ σ ρ) {o : Op} (e : estep P call o σ H n = some (r, H', n')) (hk : Then φ h0 r H' n' K) : astep P o ρ h K := by
  have quiet : ∀ {o : Op}, loudOp o = false → (match epure P o σ H with
      | some v => some (v, H, n)
      | none => none) = some (r, H', n') → astep P o ρ h K := fun {o} hl e => by
    unfold astep
    rw [hl]
    simp only [Bool.false_eq_true, if_false]
    split at e
    · rename_i v hv
      injection e with e; injection e with e1 e2; injection e2 with e2 e3
      subst e1 e2 e3
      exact epure_sound hr hf hv fun u hu => hk φ u h (PLe.refl _) hr hu
    · cases e
  unfold estep at e
  split at e
  · rename_i el
    split at e
    · rename_i z hz
      show aalloc P el h K
      unfold aalloc
      simp only [hz]
      exact enew_sound hr (ofV_cells φ z) e hk
    · cases e
  · rename_i el x
    split at e
    · rename_i hc
      show anew el (ρ.ev x).cells h K
      exact enew_sound hr ((hf.ev x).cells hc) e hk
    · cases e
  · rename_i t len parts
    split at e
    · rename_i l hl
      obtain ⟨el, r', h1, h2⟩ := eplaces_spec hf hl
      injection e with e; injection e with e1 e2; injection e2 with e2 e3
      subst e1 e2 e3
      show (match tyBuildSlice P t len (parts.toList.map fun x => (x.1, ρ.ev x.2)) with
        | some (e, r) => K (.slice (some ⟨h.n, 0, none⟩) len len) ((h.put h.n (.cells r e (0, 0))).to (h.n + 1))
        | none => False)
      rw [h1]
      have hll : l.length = r'.size := by simpa using h2.length
      have ho : OR (PNew φ n ⟨h.n, 0, r'.size⟩) ⟨h.n, 0, r'.size⟩ (.cells l true) (.cells r' el (0, 0)) :=
        ⟨r', el, (0, 0), rfl, by simp only; omega, by simp only; omega, free_zero _ _, fun _ => rfl, CR.mono (hr.ple _) (CR.of' h2)⟩
      exact hk _ (.slice (some ⟨h.n, 0 + 0, none⟩) len len) _ (hr.ple _) (hr.new ho depthH) (.sl (PNew_same _ _ _) (fun _ => rfl) (fun q => (q rfl).elim))
    · cases e
  · exact estore_sound hr (hf.ev _) (hf.ev _) e hk
  · exact econv_sound hr (hf.ev _) e hk
  · exact emake_sound hr (hf.ev _) (hf.ev _) e hk
  · rename_i t
    injection e with e; injection e with e1 e2; injection e2 with e2 e3
    subst e1 e2 e3
    show K (.map (some h.n)) ((h.put h.n (.map #[] 0)).to (h.n + 1))
    have ho : OR (PNew φ n ⟨h.n, 0, 0⟩) ⟨h.n, 0, 0⟩ (.map []) (.map #[] 0) := ⟨#[], 0, rfl, rfl⟩
    exact hk _ _ _ (hr.ple _) (hr.new ho depthH) (.map (PNew_same _ _ _))
  · exact emapUpd_sound hr (hf.ev _) (hf.ev _) (hf.ev _) e hk
  · exact emapUpd_sound hr (hf.ev _) (hf.ev _) (hf.ev _) e hk
  · rename_i c
    have hm := VRs.map hf.ev c.args.toList
    obtain ⟨callee, args, ats⟩ := c
    dsimp only at e hm
    split at e
    · rename_i f
      have hfv := hf.ev f
      split at e
      · rename_i g a cs q
        rw [q] at hfv
        obtain ⟨a', c', hv, h1, h2⟩ := hfv.fn_inv
        show acall P (ρ.ev f) (args.map ρ.ev) h K
        rw [hv]
        show CallF P g (a' ++ args.map ρ.ev ++ c') h K
        refine hcall g _ _ _ _ _ _ e φ h0 h _ K hr ?_ hk
        rw [Array.toList_append, Array.toList_append, Array.toList_map]
        exact (h1.append hm).append h2
      · cases e
    · show lbuiltin P .append ats.toList (args.toList.map ρ.ev) h K
      split at e
      · rename_i t u s x e1 e2
        rw [e2] at hm
        obtain ⟨v1, us, h1, h2, h3⟩ := hm.cons_inv
        obtain ⟨v2, ws, h4, h5, h6⟩ := h3.cons_inv
        rw [h4, h6.nil_inv] at h1
        rw [e1, h1]
        exact eappend_sound hr h2 h5 e hk
      · cases e
    · show lbuiltin P .copy ats.toList (args.toList.map ρ.ev) h K
      split at e
      · rename_i t u s x e1 e2
        rw [e2] at hm
        obtain ⟨v1, us, h1, h2, h3⟩ := hm.cons_inv
        obtain ⟨v2, ws, h4, h5, h6⟩ := h3.cons_inv
        rw [h4, h6.nil_inv] at h1
        rw [e1, h1]
        exact ecopy_sound hr h2 h5 e hk
      · cases e
    · rename_i q1 q2 q3
      refine quiet ?_ e
      cases callee with
      | value f => exact (q1 f rfl).elim
      | invoke _ _ => rfl
      | builtin b => cases b <;> first | rfl | exact (q2 rfl).elim | exact (q3 rfl).elim
  · rename_i q1 q2 q3 q4 q5 q6 q7 q8 q9 q10
    cases o
    case alloc => exact (q1 _ rfl).elim
    case box => exact (q2 _ _ rfl).elim
    case buildSlice => exact (q3 _ _ _ rfl).elim
    case store => exact (q4 _ _ _ rfl).elim
    case convert => exact (q5 _ _ _ rfl).elim
    case makeSlice => exact (q6 _ _ _ rfl).elim
    case mapUpdate => exact (q8 _ _ _ _ rfl).elim
    case insert => exact (q9 _ _ _ _ rfl).elim
    case call => exact (q10 _ rfl).elim
    case makeMap t x =>
      cases x with
      | none => exact (q7 _ rfl).elim
      | some y => simp only [epure] at e; cases e
    all_goals exact quiet rfl e
theorem eops_norm {ops : Array Oper} : ∀ (l : List Oper) (σ : AE) (H : AH) (n : Nat) (y : EX × AE × AH × Nat), eops P call ops l σ H n = some y → y.1 = .norm
  | [], σ, H, n, y, e => by
    replace e : some (EX.norm, σ, H, n) = some y := e
    injection e with e; subst e; rfl
  | o :: l, σ, H, n, y, e => by
    replace e : eop P call ops o (eops P call ops l) σ H n = some y := e
    have ih := eops_norm (ops := ops) l
    unfold eop at e
    repeat' (split at e)
    all_goals first | (cases e; done) | exact ih _ _ _ _ e
theorem eops_sound (hcall : ∀ f, COk P f (call f)) {ops : Array Oper} {N : Env → Hp → Prop} (h0 : Hp) : ∀ (l : List Oper) (φ : Ph) (σ σ' : AE) (H H' : AH) (n n' : Nat) (ρ : Env) (h : Hp) (x : EX), HR φ H n h0 h → FR φ σ ρ →
    eops P call ops l σ H n = some (x, σ', H', n') → (∀ ψ ρ' h', PLe φ ψ → HR ψ H' n' h0 h' → FR ψ σ' ρ' → N ρ' h') → aops P ops l ρ h N
  | [], φ, σ, σ', H, H', n, n', ρ, h, x, hr, hf, e, hN => by
    replace e : some (EX.norm, σ, H, n) = some (x, σ', H', n') := e
    injection e with e; injection e with e0 e; injection e with e1 e; injection e with e2 e3
    subst e0 e1 e2 e3
    exact hN φ ρ h (PLe.refl _) hr hf
  | o :: l, φ, σ, σ', H, H', n, n', ρ, h, x, hr, hf, e, hN => by
    replace e : eop P call ops o (eops P call ops l) σ H n = some (x, σ', H', n') := e
    have ih := fun φ σ H n ρ h hr hf e hN => eops_sound hcall (ops := ops) (N := N) h0 l φ σ σ' H H' n n' ρ h x hr hf e hN
    -- the operation is done
    have did : (match estep P call o.op σ H n with
        | some (v, G, m) => eops P call ops l (eput σ o.dst v) G m
        | none => none) = some (x, σ', H', n') → astep P o.op ρ h fun v h' => aops P ops l (ρ.put o.dst v) h' N := fun e => by
      split at e
      · rename_i v G m hst
        exact estep_sound hcall hr hf hst fun ψ u g hp hg hu =>
          ih ψ (eput σ o.dst v) G m _ g hg ((hf.mono hp).put o.dst hu) e fun χ ρ' h' h1 h2 h3 => hN χ ρ' h' (hp.trans h1) h2 h3
      · cases e
    have skip : eops P call ops l (eput σ o.dst undefA) H n = some (x, σ', H', n') → aops P ops l (ρ.put o.dst undef) h N := fun e =>
      ih φ _ H n _ h hr (hf.put o.dst .undef) e hN
    unfold eop at e
    unfold aops
    split at e
    · rename_i hg
      simp only [hg]
      exact did e
    · rename_i j want hg
      simp only [hg]
      split at e
      · cases e
      · rename_i t ht
        simp only [ht]
        split at e
        · rename_i q hq
          have hv := (hq ▸ hf.at t).bool_inv
          simp only [hv]
          split at e
          · rename_i hqw
            have hqw2 : q = want := by simpa using hqw
            subst hqw2
            refine ⟨fun _ => ?_, (fun k => by rw [hqw] at k; cases k)⟩
            rw [upd_eta hv]
            exact did e
          · rename_i hqw
            have hqw2 : (!want) = q := by cases q <;> cases want <;> simp_all
            refine ⟨(fun k => by rw [hqw] at k; cases k), fun _ => ?_⟩
            rw [upd_eta (by rw [hv, hqw2])]
            exact skip e
        · rename_i us hq
          obtain ⟨cs, hv, _⟩ := (hq ▸ hf.at t).tup_inv
          simp only [hv]
          exact skip e
        · cases e

end
end Go.Proofs.Ytaejmcgcfopmkaa
