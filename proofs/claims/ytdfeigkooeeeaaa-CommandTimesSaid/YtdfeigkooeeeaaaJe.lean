/- Texts of our own, joined: the engine, the machine that runs code, and what is known of the functions. -/
import Derived.Test.YtdfeigkooeeeaaaJd
import Derived.Below
import Derived.Carry
import Derived.ProofKit
import Derived.OpenShut
set_option linter.unusedSimpArgs false
set_option linter.unusedVariables false
namespace Go.Proofs.Ytdfeigkooeeeaaa
open Go Go.RowKit
theorem eqV_eq {a b : AV} (h : eqV a b = true) : a = b := by
  unfold eqV at h
  split at h
  · simp only [Bool.and_eq_true, decide_eq_true_eq] at h; rw [h.1, h.2]
  · rename_i s r
    have : ∀ s r : List Nat, beqL s r = true → s = r := fun s => by
      induction s with
      | nil => intro r h; cases r with
        | nil => rfl
        | cons _ _ => cases h
      | cons x s ih => intro r h; cases r with
        | nil => cases h
        | cons y r =>
          unfold beqL at h
          split at h
          · rename_i e
            rw [Nat.eq_of_beq_eq_true e, ih r h]
          · cases h
    rw [this s r h]
  · rw [beq_iff_eq] at h; rw [h]
  · rfl
  · simp only [Bool.and_eq_true, decide_eq_true_eq] at h; rw [h.1, h.2]
  · rfl
  · simp only [Bool.and_eq_true, decide_eq_true_eq] at h; rw [h.1, h.2.1, h.2.2.1, h.2.2.2.1, h.2.2.2.2]
  · simp only [decide_eq_true_eq] at h; rw [h]
  · simp only [decide_eq_true_eq] at h; rw [h]
  · cases h
theorem eqVs_eq : ∀ {l m : List AV}, eqVs l m = true → l = m
  | [], [], _ => rfl
  | [], _ :: _, h => by cases h
  | _ :: _, [], h => by cases h
  | a :: l, b :: m, h => by
    simp only [eqVs, Bool.and_eq_true] at h
    rw [eqV_eq h.1, eqVs_eq h.2]
theorem eqVV_eq {a b : AV} (h : eqVV a b = true) : a = b := by
  unfold eqVV at h
  split at h
  · rw [eqVs_eq h]
  · exact eqV_eq h
section
variable {P : Program} {call : AC} {φ : Ph} {H H' : AH} {n n' : Nat} {h0 h : Hp} {σ : AE} {ρ : Env}
theorem filt_get : ∀ (ts : List Nat) (σ : AE) (t : Nat) (a : AV), (filt σ ts).get t = some a → t ∈ ts ∧ σ.get t = some a
  | [], σ, t, a, h => by cases h
  | s :: ts, σ, t, a, h => by
    unfold filt at h
    split at h
    · rename_i b hb
      rcases PM.get_set depthE _ s t a h with ⟨rfl, h2⟩ | ⟨_, h2⟩
      · injection h2 with h2; subst h2
        exact ⟨by simp, hb⟩
      · have := filt_get ts σ t a h2
        exact ⟨by simp [this.1], this.2⟩
    · have := filt_get ts σ t a h
      exact ⟨by simp [this.1], this.2⟩
theorem estep_still {o : Op} {v : AV} (hs : loudOp o = false) (e : estep P call o σ H n = some (v, H', n')) : epure P o σ H = some v ∧ H' = H ∧ n' = n := by
  have key : ∀ {x : Option AV}, (match x with
      | some v => some (v, H, n)
      | none => none) = some (v, H', n') → x = some v ∧ H' = H ∧ n' = n := fun {x} e => by
    cases x with
    | none => cases e
    | some u =>
      injection e with e; injection e with e1 e2; injection e2 with e2 e3
      subst e1 e2 e3
      exact ⟨rfl, rfl, rfl⟩
  cases o <;> first | (cases hs; done) | exact key e | skip
  case call c =>
    obtain ⟨callee, args, ats⟩ := c
    cases callee with
    | value f => cases hs
    | invoke _ _ => exact key e
    | builtin b => cases b <;> first | (cases hs; done) | exact key e
theorem estep_pure {o : Op} {v : AV} (hs : loudOp o = false) (e : epure P o σ H = some v) : estep P call o σ H n = some (v, H, n) := by
  have key : (match epure P o σ H with
      | some v => some (v, H, n)
      | none => none) = some (v, H, n) := by rw [e]
  cases o <;> first | (cases hs; done) | exact key | skip
  case call c =>
    obtain ⟨callee, args, ats⟩ := c
    cases callee with
    | value f => cases hs
    | invoke _ _ => exact key
    | builtin b => cases b <;> first | (cases hs; done) | exact key
theorem qbool_none {op : BinOp} {q : Option Bool} (h : eqOp op = false) : qbool op q = none := by
  cases q <;> cases op <;> first | rfl | cases h
theorem epure_calm {o : Op} (hc : calmOp P o = true) (G : AH) : epure P o σ G = epure P o σ H := by
  cases o <;> first | (cases hc; done) | rfl | skip
  case makeFunc fn a c => cases fn <;> rfl
  case binOp op t x y t' =>
    simp only [epure]
    unfold ebin
    split <;> try rfl
    simp only [calmOp, Bool.not_eq_true'] at hc
    rename_i b o b' o' _ _
    unfold eptr
    split
    · rename_i el hu
      have hp : isPtrB P t = true := by unfold isPtrB; rw [hu]
      rw [hp, Bool.and_true] at hc
      rw [qbool_none hc, qbool_none hc]
    · rfl
  case call c =>
    obtain ⟨callee, args, ats⟩ := c
    cases callee with
    | builtin b => cases b <;> first | (cases hc; done) | skip
                   all_goals (simp only [epure]; split <;> first | rfl | (rename_i hh _ _; cases hh) | (rename_i hh _; cases hh) | (rename_i hh; cases hh))
    | _ => cases hc
/-- The operation done in our machine is done in the code. -/
theorem edo_gstep (hcall : ∀ f, COk P f (call f)) {ops : Array Oper} {o : Oper} {v : AV} {did : Bool} {K : Env → Hp → Prop} (hr : HR φ H n h0 h) (hf : FR φ σ ρ) (e : edo P call ops o σ H n = some (v, did, H', n'))
    (hk : ∀ ψ u g, PLe φ ψ → HR ψ H' n' h0 g → VR ψ v u → K (ρ.put o.dst u) g) : gstep P ops o ρ h K := by
  have did_ : (estep P call o.op σ H n).map (fun r => (r.1, true, r.2)) = some (v, did, H', n') → astep P o.op ρ h fun u g => K (ρ.put o.dst u) g := fun e => by
    simp only [Option.map_eq_some_iff] at e
    obtain ⟨⟨v1, H1, n1⟩, e1, e2⟩ := e
    injection e2 with e2 e3; injection e3 with e3 e4; injection e4 with e4 e5
    subst e2 e3 e4 e5
    exact estep_sound hcall hr hf e1 fun ψ u g hp hg hu => hk ψ u g hp hg hu
  have skip_ : some (undefA, false, H, n) = some (v, did, H', n') → K (ρ.put o.dst undef) h := fun e => by
    injection e with e; injection e with e2 e3; injection e3 with e3 e4; injection e4 with e4 e5
    subst e2 e3 e4 e5
    exact hk φ undef h (PLe.refl _) hr .undef
  unfold edo at e
  unfold gstep
  split at e
  · rename_i hg
    try simp only [hg]
    exact did_ e
  · rename_i j want hg
    try simp only [hg]
    split at e
    · cases e
    · rename_i t ht
      try simp only [ht]
      split at e
      · rename_i q hq
        have hv := (hq ▸ hf.at t).bool_inv
        try simp only [hv]
        split at e
        · rename_i hqw
          rw [if_pos (by simpa using hqw)]
          exact did_ e
        · rename_i hqw
          rw [if_neg (by simpa using hqw)]
          exact skip_ e
      · rename_i us hq
        obtain ⟨cs, hv, _⟩ := (hq ▸ hf.at t).tup_inv
        try simp only [hv]
        exact skip_ e
      · cases e
theorem edo_still {ops : Array Oper} {o : Oper} {v : AV} {did : Bool} (hs : loudOp o.op = false) (e : edo P call ops o σ H n = some (v, did, H', n')) : H' = H ∧ n' = n ∧
    ∀ (G : AH) (m : Nat), (did = true → epure P o.op σ G = some v) → edo P call ops o σ G m = some (v, did, G, m) := by
  have did_ : (estep P call o.op σ H n).map (fun r => (r.1, true, r.2)) = some (v, did, H', n') → H' = H ∧ n' = n ∧ did = true ∧ ∀ (G : AH) (m : Nat), (did = true → epure P o.op σ G = some v) → (estep P call o.op σ G m).map (fun r => (r.1, true, r.2)) = some (v, did, G, m) := fun e => by
    simp only [Option.map_eq_some_iff] at e
    obtain ⟨⟨v1, H1, n1⟩, e1, e2⟩ := e
    injection e2 with e2 e3; injection e3 with e3 e4; injection e4 with e4 e5
    subst e2 e3 e4 e5
    obtain ⟨_, h2, h3⟩ := estep_still hs e1
    exact ⟨h2, h3, rfl, fun G m hG => by rw [estep_pure hs (hG rfl)]; rfl⟩
  unfold edo at e
  split at e
  · rename_i hg
    obtain ⟨h1, h2, _, h4⟩ := did_ e
    exact ⟨h1, h2, fun G m hG => by unfold edo; simp only [hg]; exact h4 G m hG⟩
  · rename_i j want hg
    split at e
    · cases e
    · rename_i t ht
      split at e
      · rename_i q hq
        split at e
        · rename_i hqw
          obtain ⟨h1, h2, _, h4⟩ := did_ e
          exact ⟨h1, h2, fun G m hG => by unfold edo; simp only [hg, ht, hq, hqw]; exact h4 G m hG⟩
        · rename_i hqw
          injection e with e; injection e with e2 e3; injection e3 with e3 e4; injection e4 with e4 e5
          subst e2 e3 e4 e5
          exact ⟨rfl, rfl, fun G m hG => by unfold edo; simp only [hg, ht, hq, hqw]⟩
      · rename_i us hq
        injection e with e; injection e with e2 e3; injection e3 with e3 e4; injection e4 with e4 e5
        subst e2 e3 e4 e5
        exact ⟨rfl, rfl, fun G m hG => by unfold edo; simp only [hg, ht, hq]⟩
      · cases e
theorem edo_done {ops : Array Oper} {o : Oper} {v : AV} {did : Bool} (hs : loudOp o.op = false) (e : edo P call ops o σ H n = some (v, did, H', n')) (hd : did = true) : epure P o.op σ H = some v := by
  have did_ : (estep P call o.op σ H n).map (fun r => (r.1, true, r.2)) = some (v, did, H', n') → epure P o.op σ H = some v := fun e => by
    simp only [Option.map_eq_some_iff] at e
    obtain ⟨⟨v1, H1, n1⟩, e1, e2⟩ := e
    injection e2 with e2 e3
    subst e2
    exact (estep_still hs e1).1
  subst hd
  unfold edo at e
  repeat' split at e
  all_goals first | exact did_ e | (cases e; done) | (injection e with e; injection e with e2 e3; injection e3 with e3 e4; cases e3)

/-! ### the slots, by which operations are done -/
def dstAt (ops : Array Oper) (j : Nat) : Option Nat := (ops[j]?).bind (·.dst)
noncomputable def curN (ops : Array Oper) (val : Nat → AV) (σ : AE) (L : Nat → Bool) : Nat → Nat → Option AV
  | 0, t => σ.get t
  | k + 1, t => if L k = true ∧ dstAt ops k = some t then some (val k) else curN ops val σ L k t
theorem curN_congr {ops : Array Oper} {val : Nat → AV} {L L' : Nat → Bool} {t : Nat} : ∀ k, (∀ j, j < k → dstAt ops j = some t → L j = L' j) → curN ops val σ L k t = curN ops val σ L' k t
  | 0, _ => rfl
  | k + 1, h => by
    simp only [curN]
    rw [curN_congr k fun j hj => h j (by omega)]
    by_cases hd : dstAt ops k = some t
    · rw [h k (by omega) hd]
    · rw [if_neg (fun q => hd q.2), if_neg (fun q => hd q.2)]
theorem curN_cut {ops : Array Oper} {val : Nat → AV} {i t : Nat} : ∀ k, i ≤ k → curN ops val σ (fun j => decide (j < i)) k t = curN ops val σ (fun _ => true) i t
  | 0, h => by
    have : i = 0 := by omega
    subst this; rfl
  | k + 1, h => by
    by_cases hk : i = k + 1
    · subst hk
      exact curN_congr (k + 1) fun j hj _ => by simp [hj]
    · simp only [curN]
      rw [if_neg (by simp; omega)]
      exact curN_cut k (by omega)
theorem curN_upd {ops : Array Oper} {val : Nat → AV} {L L' : Nat → Bool} {i t : Nat} (hne : ∀ j, j ≠ i → L' j = L j) (hi : L' i = true) : ∀ k, i < k → (∀ j, i < j → j < k → dstAt ops i = some t → dstAt ops j = some t → L j = false) →
    curN ops val σ L' k t = if dstAt ops i = some t then some (val i) else curN ops val σ L k t
  | 0, h, _ => by omega
  | k + 1, h, hc => by
    simp only [curN]
    by_cases hk : k = i
    · subst hk
      by_cases hd : dstAt ops k = some t
      · rw [if_pos ⟨hi, hd⟩, if_pos hd]
      · rw [if_neg (fun q => hd q.2), if_neg hd, if_neg (fun q => hd q.2)]
        exact curN_congr k fun j hj _ => hne j (by omega)
    · have ih : curN ops val σ L' k t = if dstAt ops i = some t then some (val i) else curN ops val σ L k t := curN_upd hne hi k (by omega) fun j h1 h2 => hc j h1 (by omega)
      rw [hne k hk, ih]
      by_cases hd : dstAt ops i = some t
      · by_cases hd2 : dstAt ops k = some t
        · have := hc k (by omega) (by omega) hd hd2
          rw [this]; simp
        · rw [if_neg (fun q => hd2 q.2), if_pos hd]; simp [hd]
      · rw [if_neg hd, if_neg hd]
/-! ### the order in the text, told -/
/-- What a run in the text's order tells: of each operation its value, whether it was done, and what there was ahead of it. -/
structure Told (P : Program) (call : AC) (ops : Array Oper) (σ0 : AE) (val : Nat → AV) (did : Nat → Bool) (sf : Nat → AE) (Hs : Nat → AH) (ns : Nat → Nat) (k m : Nat) : Prop where
  step : ∀ i o, k ≤ i → i < m → ops[i]? = some o → edo P call ops o (sf i) (Hs i) (ns i) = some (val i, did i, Hs (i + 1), ns (i + 1))
  look : ∀ i o, k ≤ i → i < m → ops[i]? = some o → ∀ t a, (sf i).get t = some a → t ∈ looks ops o ∧ curN ops val σ0 (fun _ => true) i t = some a
theorem etr_told {ops : Array Oper} {σ0 : AE} {val : Nat → AV} {did : Nat → Bool} {sf : Nat → AE} {Hs : Nat → AH} {ns : Nat → Nat} : ∀ (l : List Oper) (k : Nat) (σ σ' : AE) (H' : AH) (n' : Nat) (tr : List TE), (∀ j, l[j]? = ops[k + j]?) → (∀ t a, σ.get t = some a → curN ops val σ0 (fun _ => true) k t = some a) →
    etr P call ops l σ (Hs k) (ns k) = some (tr, σ', H', n') → (∀ j e, tr[j]? = some e → val (k + j) = e.v ∧ did (k + j) = e.did ∧ sf (k + j) = e.σ ∧ Hs (k + j) = e.H ∧ ns (k + j) = e.n) → Hs (k + l.length) = H' → ns (k + l.length) = n' →
    Told P call ops σ0 val did sf Hs ns k (k + l.length) ∧ tr.length = l.length ∧ ∀ t a, σ'.get t = some a → curN ops val σ0 (fun _ => true) (k + l.length) t = some a
  | [], k, σ, σ', H', n', tr, hl, hσ, e, htr, hH, hn => by
    have e : some ([], σ, Hs k, ns k) = some (tr, σ', H', n') := e
    injection e with e; injection e with e1 e2; injection e2 with e2 e3
    subst e1 e2
    exact ⟨⟨fun i o h1 h2 => by simp at h2; omega, fun i o h1 h2 => by simp at h2; omega⟩, rfl, hσ⟩
  | o :: l, k, σ, σ', H', n', tr, hl, hσ, e, htr, hH, hn => by
    have h0 : ops[k]? = some o := by simpa using (hl 0).symm
    simp only [etr] at e
    split at e
    · rename_i v d H1 n1 hdo
      simp only [Option.map_eq_some_iff] at e
      obtain ⟨⟨tr1, σ1, H2, n2⟩, e1, e2⟩ := e
      injection e2 with e2 e3; injection e3 with e3 e4; injection e4 with e4 e5
      subst e2 e3 e4 e5
      obtain ⟨t1, t2, t3, t4, t5⟩ := htr 0 _ rfl
      simp only [Nat.add_zero] at t1 t2 t3 t4 t5
      have hH1 : Hs (k + 1) = H1 ∧ ns (k + 1) = n1 := by
        cases l with
        | nil =>
          have e1 : some ([], eput σ o.dst v, H1, n1) = some (tr1, σ1, H2, n2) := e1
          injection e1 with e1; injection e1 with _ e1; injection e1 with _ e1; injection e1 with e1 e6
          subst e1 e6
          exact ⟨by simpa using hH, by simpa using hn⟩
        | cons o2 l =>
          simp only [etr] at e1
          split at e1
          · simp only [Option.map_eq_some_iff] at e1
            obtain ⟨⟨tr2, r2⟩, _, e7⟩ := e1
            injection e7 with e7 _
            subst e7
            obtain ⟨_, _, _, q4, q5⟩ := htr 1 _ rfl
            exact ⟨q4, q5⟩
          · cases e1
      have hσ1 : ∀ t a, (eput σ o.dst v).get t = some a → curN ops val σ0 (fun _ => true) (k + 1) t = some a := fun t a hg => by
        simp only [curN, dstAt, h0, Option.bind_some, true_and]
        cases hd : o.dst with
        | none => rw [hd] at hg; rw [if_neg (by simp)]; exact hσ t a hg
        | some d =>
          rw [hd] at hg
          rcases setq_get depthE σ d t a hg with ⟨rfl, h2⟩ | ⟨h1, h2⟩
          · rw [if_pos rfl, t1, h2]
          · rw [if_neg (by simpa using Ne.symm h1)]; exact hσ t a h2
      obtain ⟨r1, r2, r3⟩ := etr_told (val := val) (did := did) (sf := sf) (Hs := Hs) (ns := ns) l (k + 1) _ σ1 H2 n2 tr1 (fun j => by have := hl (j + 1); simpa [Nat.add_assoc, Nat.add_comm 1 j] using this) hσ1 (by rw [hH1.1, hH1.2]; exact e1)
        (fun j e he => by
          have := htr (j + 1) e (by simpa using he)
          rwa [show k + (j + 1) = k + 1 + j from by omega] at this)
        (by rw [← hH]; congr 1; simp; omega) (by rw [← hn]; congr 1; simp; omega)
      have hlen : k + (o :: l).length = k + 1 + l.length := by simp; omega
      rw [hlen]
      refine ⟨⟨fun i o' h1 h2 ho => ?_, fun i o' h1 h2 ho => ?_⟩, by simp [r2], r3⟩
      · by_cases hi : i = k
        · subst hi
          rw [h0] at ho; injection ho with ho; subst ho
          rw [t1, t2, t3, hH1.1, hH1.2]
          exact hdo
        · exact r1.step i o' (by omega) h2 ho
      · by_cases hi : i = k
        · subst hi
          rw [h0] at ho; injection ho with ho; subst ho
          intro t a hg
          rw [t3] at hg
          obtain ⟨g1, g2⟩ := filt_get _ _ _ _ hg
          exact ⟨g1, hσ t a g2⟩
        · exact r1.look i o' (by omega) h2 ho
    · cases e
theorem no_loud {ops : Array Oper} {σ0 : AE} {val : Nat → AV} {did : Nat → Bool} {sf : Nat → AE} {Hs : Nat → AH} {ns : Nat → Nat} {m : Nat} (ht : Told P call ops σ0 val did sf Hs ns 0 m) (hm : m = ops.size) : ∀ (d p : Nat), p + d ≤ m →
    (∀ j o, p ≤ j → j < p + d → ops[j]? = some o → loudOp o.op = false) → Hs (p + d) = Hs p ∧ ns (p + d) = ns p
  | 0, _, _, _ => ⟨rfl, rfl⟩
  | d + 1, p, hle, hq => by
    obtain ⟨h1, h2⟩ := no_loud ht hm d p (by omega) fun j o a b => hq j o a (by omega)
    have hlt : p + d < ops.size := by omega
    have ho := Array.getElem?_eq_getElem hlt
    have hs := ht.step (p + d) _ (by omega) (by omega) ho
    obtain ⟨g1, g2, _⟩ := edo_still (hq (p + d) _ (by omega) (by omega) ho) hs
    exact ⟨by rw [← h1]; exact g1, by rw [← h2]; exact g2⟩
theorem first_loud (ops : Array Oper) : ∀ (d p : Nat), (∀ j o, p ≤ j → j < p + d → ops[j]? = some o → loudOp o.op = false) ∨ ∃ j o, p ≤ j ∧ j < p + d ∧ ops[j]? = some o ∧ loudOp o.op = true ∧ ∀ k o', p ≤ k → k < j → ops[k]? = some o' → loudOp o'.op = false
  | 0, p => .inl fun j o a b => by omega
  | d + 1, p => by
    rcases first_loud ops d p with h | ⟨j, o, h1, h2, h3⟩
    · cases ho : ops[p + d]? with
      | none =>
        exact .inl fun j o a b e => by
          by_cases hj : j = p + d
          · subst hj; rw [ho] at e; cases e
          · exact h j o a (by omega) e
      | some o =>
        cases hl : loudOp o.op with
        | true => exact .inr ⟨p + d, o, by omega, by omega, ho, hl, fun k o' a b => h k o' a b⟩
        | false =>
          exact .inl fun j o' a b e => by
            by_cases hj : j = p + d
            · subst hj; rw [ho] at e; injection e with e; subst e; exact hl
            · exact h j o' a (by omega) e
    · exact .inr ⟨j, o, h1, by omega, h3⟩
theorem last_loud (ops : Array Oper) : ∀ (d p : Nat), (∀ j o, p ≤ j → j < p + d → ops[j]? = some o → loudOp o.op = false) ∨ ∃ j o, p ≤ j ∧ j < p + d ∧ ops[j]? = some o ∧ loudOp o.op = true ∧ ∀ k o', j < k → k < p + d → ops[k]? = some o' → loudOp o'.op = false
  | 0, p => .inl fun j o a b => by omega
  | d + 1, p => by
    cases ho : ops[p + d]? with
    | none =>
      rcases last_loud ops d p with h | ⟨j, o, h1, h2, h3, h4, h5⟩
      · exact .inl fun j o a b e => by
          by_cases hj : j = p + d
          · subst hj; rw [ho] at e; cases e
          · exact h j o a (by omega) e
      · exact .inr ⟨j, o, h1, by omega, h3, h4, fun k o' a b e => by
          by_cases hj : k = p + d
          · subst hj; rw [ho] at e; cases e
          · exact h5 k o' a (by omega) e⟩
    | some o =>
      cases hl : loudOp o.op with
      | true => exact .inr ⟨p + d, o, by omega, by omega, ho, hl, fun k o' a b => by omega⟩
      | false =>
        rcases last_loud ops d p with h | ⟨j, o', h1, h2, h3, h4, h5⟩
        · exact .inl fun j o' a b e => by
            by_cases hj : j = p + d
            · subst hj; rw [ho] at e; injection e with e; subst e; exact hl
            · exact h j o' a (by omega) e
        · exact .inr ⟨j, o', h1, by omega, h3, h4, fun k o2 a b e => by
            by_cases hj : k = p + d
            · subst hj; rw [ho] at e; injection e with e; subst e; exact hl
            · exact h5 k o2 a (by omega) e⟩
theorem dyn_any (hcall : ∀ f, COk P f (call f)) {ops : Array Oper} {σ0 σ' : AE} {val : Nat → AV} {did : Nat → Bool} {sf : Nat → AE} {Hs : Nat → AH} {ns : Nat → Nat} {N : Env → Hp → Prop}
    (ht : Told P call ops σ0 val did sf Hs ns 0 ops.size) (hst : dynStatic ops = true) (hσ' : ∀ t a, σ'.get t = some a → curN ops val σ0 (fun _ => true) ops.size t = some a)
    (hck : ∀ i j a b, i < ops.size → j < ops.size → ops[i]? = some a → ops[j]? = some b → loudOp b.op = true → loudOp a.op = false → calmOp P a.op = false → did i = true →
      if i < j then befB ops 4 i j = true ∨ epure P a.op (sf i) (Hs (j + 1)) = some (val i) else befB ops 4 j i = true ∨ epure P a.op (sf i) (Hs j) = some (val i))
    (hr : HR φ (Hs 0) (ns 0) h0 h) (hf : FR φ σ0 ρ) (hN : ∀ ψ ρ' h', PLe φ ψ → HR ψ (Hs ops.size) (ns ops.size) h0 h' → FR ψ σ' ρ' → N ρ' h') : AnyI P ops ρ h N := by
  simp only [dynStatic, Bool.and_eq_true] at hst
  obtain ⟨hed, hst⟩ := hst
  have pair : ∀ i j a b, j < i → ops[i]? = some b → ops[j]? = some a → (a.apart ops b = true ∧ (loudOp a.op = false ∨ loudOp b.op = false)) ∨ befB ops 4 j i = true := fun i j a b hlt hi hj => by
    have hisz := (Array.getElem?_eq_some_iff.1 hi).1
    have h1 := List.all_eq_true.1 hst i (by simpa using hisz)
    have h2 := List.all_eq_true.1 h1 j (by simpa using hlt)
    simp only [hi, hj, Bool.or_eq_true, Bool.and_eq_true, stillOp, Bool.not_eq_true'] at h2
    exact h2
  refine ⟨hed, fun listed ρ1 h1 => ∃ ψ p, PLe φ ψ ∧ p ≤ ops.size ∧ HR ψ (Hs p) (ns p) h0 h1 ∧ (∀ j o, ops[j]? = some o → loudOp o.op = true → (listed.getD j false = true ↔ j < p)) ∧
      ∀ t a, curN ops val σ0 (fun j => listed.getD j false) ops.size t = some a → VR ψ a (ρ1 t), ?_, ?_, ?_⟩
  · refine ⟨φ, 0, PLe.refl _, Nat.zero_le _, hr, fun j o hj _ => ?_, fun t a e => ?_⟩
    · have : (Array.replicate ops.size false).getD j false = false := by simp [Array.getD]
      rw [this]; simp
    · have : curN ops val σ0 (fun j => (Array.replicate ops.size false).getD j false) ops.size t = curN ops val σ0 (fun j => decide (j < 0)) ops.size t :=
        curN_congr _ fun j _ _ => by simp [Array.getD]
      rw [this, curN_cut _ (Nat.zero_le _)] at e
      exact hf t a e
  · intro listed i o ρ1 h1 hsz hdn ho hun hedge ⟨ψ, p, hp, hple, hr1, hlo, henv⟩ _
    have hi : i < ops.size := (Array.getElem?_eq_some_iff.1 ho).1
    -- what the edges say of the others
    have before : ∀ j, befB ops 4 j i = true → listed.getD j false = true := fun j hb => befB_listed hdn 4 i (fun o' ho' e he hb' => by
      rw [ho] at ho'; injection ho' with ho'; subst ho'
      exact hedge e he hb') hb
    have behind : ∀ j, befB ops 4 i j = true → listed.getD j false = false := fun j hb => by
      cases hl : listed.getD j false with
      | false => rfl
      | true =>
        have := befB_listed hdn 4 j (fun o' ho' e he hb' => hdn j o' ho' hl e he hb') hb
        rw [hun] at this; cases this
    -- the slots that it looks at
    have hlook : ∀ t, t ∈ looks ops o → curN ops val σ0 (fun j => listed.getD j false) ops.size t = curN ops val σ0 (fun _ => true) i t := fun t htl => by
      rw [← curN_cut (val := val) ops.size (Nat.le_of_lt hi)]
      refine curN_congr _ fun j hj hd => ?_
      have hjo := Array.getElem?_eq_getElem hj
      have hd2 : ops[j].dst = some t := by simpa [dstAt, hjo] using hd
      by_cases hji : j = i
      · subst hji; simp [hun]
      · by_cases hlt : j < i
        · rcases pair i j _ _ hlt ho hjo with ⟨ha, _⟩ | hb
          · exact absurd htl ((Oper.apart_spec ha).1 t hd2)
          · rw [before j hb]; simp [hlt]
        · rcases pair j i _ _ (by omega) hjo ho with ⟨ha, _⟩ | hb
          · exact absurd htl ((Oper.apart_spec ha).2.2 t hd2)
          · rw [behind j hb]; simp [hlt]
    have hfi : FR ψ (sf i) ρ1 := fun t a e => by
      obtain ⟨g1, g2⟩ := ht.look i o (Nat.zero_le _) hi ho t a e
      exact henv t a (by rw [hlook t g1]; exact g2)
    have hdo := ht.step i o (Nat.zero_le _) hi ho
    -- the slots behind it
    have hset : ∀ j, (listed.setIfInBounds i true).getD j false = if j = i then true else listed.getD j false := fun j => getD_set (by omega)
    have henv2 : ∀ {χ : Ph} {u : Value}, PLe ψ χ → VR χ (val i) u → ∀ t a, curN ops val σ0 (fun j => (listed.setIfInBounds i true).getD j false) ops.size t = some a → VR χ a ((ρ1.put o.dst u) t) := fun {χ u} hpχ hu t a e => by
      rw [curN_upd (L := fun j => listed.getD j false) (i := i) (fun j hj => by simp only [hset, if_neg hj]) (by simp only [hset, if_true]) ops.size hi (fun j h1 h2 hd1 hd2 => by
        have hjo := Array.getElem?_eq_getElem h2
        have e1 : o.dst = some t := by simpa [dstAt, ho] using hd1
        have e2 : ops[j].dst = some t := by simpa [dstAt, hjo] using hd2
        rcases pair j i _ _ h1 hjo ho with ⟨ha, _⟩ | hb
        · exact absurd e2 ((Oper.apart_spec ha).2.1 t e1)
        · exact behind j hb)] at e
      by_cases hd : o.dst = some t
      · rw [if_pos (by simpa [dstAt, ho] using hd)] at e
        injection e with e
        subst e
        rw [hd, put_some, upd_same]; exact hu
      · rw [if_neg (by simpa [dstAt, ho] using hd)] at e
        have := VR.mono hpχ _ _ (henv t a e)
        rwa [put_agree (fun x hx => by intro q; exact hd (by rw [hx, q]))]
    cases hl : loudOp o.op with
    | true =>
      -- a deed: all deeds ahead of it are done, and none behind it
      have hpi : p ≤ i := by
        have := (hlo i o ho hl)
        rw [hun] at this
        by_cases hc : i < p
        · have := this.2 hc; cases this
        · omega
      have hnol : ∀ j o', p ≤ j → j < p + (i - p) → ops[j]? = some o' → loudOp o'.op = false := fun j o' h1 h2 hj => by
        cases hlj : loudOp o'.op with
        | false => rfl
        | true =>
          rcases pair i j _ _ (by omega) ho hj with ⟨_, hx⟩ | hb
          · rcases hx with hx | hx
            · rw [hlj] at hx; cases hx
            · rw [hl] at hx; cases hx
          · have := (hlo j o' hj hlj).1 (before j hb)
            omega
      obtain ⟨c1, c2⟩ := no_loud ht rfl (i - p) p (by omega) hnol
      rw [show p + (i - p) = i from by omega] at c1 c2
      rw [← c1, ← c2] at hr1
      refine edo_gstep hcall hr1 hfi hdo fun χ u g hpχ hg hu => ⟨χ, i + 1, hp.trans hpχ, hi, hg, fun j o' hj hlj => ?_, henv2 hpχ hu⟩
      rw [hset]
      by_cases hji : j = i
      · subst hji; simp
      · rw [if_neg hji]
        have hjsz := (Array.getElem?_eq_some_iff.1 hj).1
        by_cases hlt : j < i
        · have : listed.getD j false = true := by
            rcases pair i j _ _ hlt ho hj with ⟨_, hx⟩ | hb
            · rcases hx with hx | hx
              · rw [hlj] at hx; cases hx
              · rw [hl] at hx; cases hx
            · exact before j hb
          rw [this]; simp; omega
        · have : listed.getD j false = false := by
            rcases pair j i _ _ (by omega) hj ho with ⟨_, hx⟩ | hb
            · rcases hx with hx | hx
              · rw [hl] at hx; cases hx
              · rw [hlj] at hx; cases hx
            · exact behind j hb
          rw [this]; simp; omega
    | false =>
      obtain ⟨s1, s2, s3⟩ := edo_still hl hdo
      have hsame : did i = true → epure P o.op (sf i) (Hs p) = some (val i) := fun hdi => by
        have hit := edo_done hl hdo hdi
        cases hcm : calmOp P o.op with
        | true => rw [epure_calm hcm (H := Hs i)]; exact hit
        | false =>
          by_cases hpi : p ≤ i
          · rcases first_loud ops (i - p) p with hno | ⟨j, o', j1, j2, j3, j4, j5⟩
            · obtain ⟨c1, _⟩ := no_loud ht rfl (i - p) p (by omega) hno
              rw [show p + (i - p) = i from by omega] at c1
              rw [← c1]; exact hit
            · obtain ⟨c1, _⟩ := no_loud ht rfl (j - p) p (by omega) fun k o2 a b => j5 k o2 a (by omega)
              rw [show p + (j - p) = j from by omega] at c1
              have hjsz := (Array.getElem?_eq_some_iff.1 j3).1
              have hk := hck i j o o' hi hjsz ho j3 j4 hl hcm hdi
              rw [if_neg (by omega)] at hk
              rcases hk with hk | hk
              · have := (hlo j o' j3 j4).1 (before j hk)
                omega
              · rw [← c1]; exact hk
          · rcases last_loud ops (p - i) i with hno | ⟨j, o', j1, j2, j3, j4, j5⟩
            · obtain ⟨c1, _⟩ := no_loud ht rfl (p - i) i (by omega) hno
              rw [show i + (p - i) = p from by omega] at c1
              rw [c1]; exact hit
            · have hji : j ≠ i := fun q => by subst q; rw [ho] at j3; injection j3 with j3; subst j3; rw [hl] at j4; cases j4
              obtain ⟨c1, _⟩ := no_loud ht rfl (p - (j + 1)) (j + 1) (by omega) fun k o2 a b => j5 k o2 (by omega) (by omega)
              rw [show j + 1 + (p - (j + 1)) = p from by omega] at c1
              have hjsz := (Array.getElem?_eq_some_iff.1 j3).1
              have hk := hck i j o o' hi hjsz ho j3 j4 hl hcm hdi
              rw [if_pos (by omega)] at hk
              rcases hk with hk | hk
              · have := (hlo j o' j3 j4).2 (by omega)
                rw [behind j hk] at this; cases this
              · rw [c1]; exact hk
      refine edo_gstep hcall hr1 hfi (s3 (Hs p) (ns p) hsame) fun χ u g hpχ hg hu => ⟨χ, p, hp.trans hpχ, hple, hg, fun j o' hj hlj => ?_, henv2 hpχ hu⟩
      rw [hset]
      by_cases hji : j = i
      · subst hji; rw [ho] at hj; injection hj with hj; subst hj; rw [hl] at hlj; cases hlj
      · rw [if_neg hji]; exact hlo j o' hj hlj
  · intro listed ρ1 h1 hsz hall ⟨ψ, p, hp, hple, hr1, hlo, henv⟩
    obtain ⟨c1, c2⟩ := no_loud ht rfl (ops.size - p) p (by omega) fun j o a b hj => by
      cases hl : loudOp o.op with
      | false => rfl
      | true =>
        have := (hlo j o hj hl).1 (hall j (by omega))
        omega
    rw [show p + (ops.size - p) = ops.size from by omega] at c1 c2
    rw [← c1, ← c2] at hr1
    refine hN ψ ρ1 h1 hp hr1 fun t a e => henv t a ?_
    rw [← hσ' t a e]
    exact curN_congr _ fun j hj _ => hall j hj
theorem edyn_sound (hcall : ∀ f, COk P f (call f)) {ops : Array Oper} {σ' : AE} {x : EX} {N : Env → Hp → Prop} (hr : HR φ H n h0 h) (hf : FR φ σ ρ) (e : edyn P call ops σ H n = some (x, σ', H', n'))
    (hN : ∀ ψ ρ' h', PLe φ ψ → HR ψ H' n' h0 h' → FR ψ σ' ρ' → N ρ' h') : x = .norm ∧ AnyI P ops ρ h N := by
  unfold edyn at e
  split at e
  · rename_i tr σ1 H1 n1 he
    split at e
    · rename_i hck
      injection e with e; injection e with e0 e; injection e with e1 e; injection e with e2 e3
      subst e0 e1 e2 e3
      refine ⟨rfl, ?_⟩
      simp only [Bool.and_eq_true] at hck
      obtain ⟨hst, hck⟩ := hck
      let dflt : TE := ⟨.bad, false, .nil, H1, n1⟩
      let at_ : Nat → TE := fun j => (tr[j]?).getD dflt
      have hat : ∀ j e, tr[j]? = some e → at_ j = e := fun j e hj => by simp only [at_, hj, Option.getD_some]
      have hsize : ops.toList.length = ops.size := Array.length_toList
      have hstart : (if tr.length = 0 then H1 else (at_ 0).H) = H ∧ (if tr.length = 0 then n1 else (at_ 0).n) = n := by
        cases hl : ops.toList with
        | nil =>
          rw [hl] at he
          have he : some ([], σ, H, n) = some (tr, σ1, H1, n1) := he
          injection he with he; injection he with q1 he; injection he with q2 he; injection he with q3 q4
          subst q1 q2 q3 q4
          exact ⟨rfl, rfl⟩
        | cons o l =>
          rw [hl] at he
          simp only [etr] at he
          split at he
          · simp only [Option.map_eq_some_iff] at he
            obtain ⟨⟨tr2, r2⟩, _, q⟩ := he
            injection q with q _
            subst q
            exact ⟨rfl, rfl⟩
          · cases he
      -- the heaps, by their numbers
      let Hs : Nat → AH := fun j => if j < tr.length then (at_ j).H else H1
      let ns : Nat → Nat := fun j => if j < tr.length then (at_ j).n else n1
      have hs0 : Hs 0 = H ∧ ns 0 = n := by
        refine ⟨?_, ?_⟩
        · rw [← hstart.1]; simp only [Hs]
          by_cases q : tr.length = 0
          · rw [if_neg (by omega), if_pos q]
          · rw [if_pos (by omega), if_neg q]
        · rw [← hstart.2]; simp only [ns]
          by_cases q : tr.length = 0
          · rw [if_neg (by omega), if_pos q]
          · rw [if_pos (by omega), if_neg q]
      have hlen : tr.length = ops.size := by
        have : ∀ (l : List Oper) (σ : AE) (H : AH) (n : Nat) (tr : List TE) (r : AE × AH × Nat), etr P call ops l σ H n = some (tr, r) → tr.length = l.length := fun l => by
          induction l with
          | nil => intro σ H n tr r he; injection he with he; injection he with q _; subst q; rfl
          | cons o l ih =>
            intro σ H n tr r he
            simp only [etr] at he
            split at he
            · simp only [Option.map_eq_some_iff] at he
              obtain ⟨⟨tr2, r2⟩, q1, q2⟩ := he
              injection q2 with q2 _
              subst q2
              simp [ih _ _ _ _ _ q1]
            · cases he
        rw [← hsize]; exact this _ _ _ _ _ _ he
      obtain ⟨told, _, hfin⟩ := etr_told (ops := ops) (σ0 := σ) (val := fun j => (at_ j).v) (did := fun j => (at_ j).did) (sf := fun j => (at_ j).σ) (Hs := Hs) (ns := ns) ops.toList 0 σ σ1 H1 n1 tr (fun j => by rw [Nat.zero_add, Array.getElem?_toList]) (fun t a q => q)
        (by rw [hs0.1, hs0.2]; exact he)
        (fun j e hj => by
          have hjl := (List.getElem?_eq_some_iff.1 hj).1
          rw [Nat.zero_add]
          refine ⟨by rw [hat j e hj], by rw [hat j e hj], by rw [hat j e hj], ?_, ?_⟩
          · simp only [Hs]; rw [if_pos hjl, hat j e hj]
          · simp only [ns]; rw [if_pos hjl, hat j e hj])
        (by simp only [Hs]; rw [if_neg (by rw [hlen, hsize]; omega)])
        (by simp only [ns]; rw [if_neg (by rw [hlen, hsize]; omega)])
      rw [Nat.zero_add, hsize] at told hfin
      have hend : Hs ops.size = H1 ∧ ns ops.size = n1 := ⟨by simp only [Hs]; rw [if_neg (by omega)], by simp only [ns]; rw [if_neg (by omega)]⟩
      refine dyn_any hcall told hst hfin ?_ (by rw [hs0.1, hs0.2]; exact hr) hf (by rw [hend.1, hend.2]; exact hN)
      intro i j a b hi hj ha hb hlb hla hca hdi
      have h1 := List.all_eq_true.1 hck i (by simpa using hi)
      have h2 := List.all_eq_true.1 h1 j (by simpa using hj)
      have hti : tr[i]? = some (at_ i) := by
        rw [List.getElem?_eq_getElem (by omega)]
        exact congrArg some (hat i _ (List.getElem?_eq_getElem (by omega))).symm
      have htj : tr[j]? = some (at_ j) := by
        rw [List.getElem?_eq_getElem (by omega)]
        exact congrArg some (hat j _ (List.getElem?_eq_getElem (by omega))).symm
      simp only [dynPair, ha, hb, hti, htj] at h2
      rw [if_pos ⟨hlb, by simp [stillOp, hla], hca, hdi⟩] at h2
      have sm : ∀ G, sameAt P a (at_ i) G = true → epure P a.op (at_ i).σ G = some (at_ i).v := fun G hG => by
        unfold sameAt at hG
        split at hG
        · rename_i v hv
          rw [hv, eqVV_eq hG]
        · cases hG
      by_cases hij : i < j
      · rw [if_pos hij] at h2 ⊢
        simp only [Bool.or_eq_true] at h2
        refine h2.imp id fun q => ?_
        have hHs : Hs (j + 1) = (match tr[j + 1]? with
            | some g => g.H
            | none => H1) := by
          simp only [Hs]
          by_cases hq : j + 1 < tr.length
          · rw [if_pos hq, List.getElem?_eq_getElem hq]
            dsimp only
            rw [hat (j + 1) _ (List.getElem?_eq_getElem hq)]
          · rw [if_neg hq, List.getElem?_eq_none (by omega)]
        rw [hHs]
        exact sm _ q
      · rw [if_neg hij] at h2 ⊢
        simp only [Bool.or_eq_true] at h2
        refine h2.imp id fun q => ?_
        have hHs : Hs j = (at_ j).H := by simp only [Hs]; rw [if_pos (by omega)]
        rw [hHs]
        exact sm _ q
    · cases e
  · cases e
end
end Go.Proofs.Ytdfeigkooeeeaaa
namespace Go.Proofs.Ytdfeigkooeeeaaa
open Go Go.RowKit
section
variable {P : Program} {call : AC} {φ : Ph} {H H' : AH} {n n' : Nat} {h0 h : Hp} {K : KH} {σ : AE} {ρ : Env} {r : AV}
/-! ### code -/
theorem least {p : Nat → Prop} : ∀ n, p n → ∃ m, p m ∧ ∀ k, p k → m ≤ k := by
  intro n
  induction n using Nat.strongRecOn with
  | _ n ih =>
    intro hn
    by_cases h : ∃ k, k < n ∧ p k
    · obtain ⟨k, hk, hp⟩ := h
      exact ih k hk hp
    · exact ⟨n, hn, fun k hk => Nat.le_of_not_lt fun hlt => h ⟨k, hlt, hk⟩⟩
def Went (h0 : Hp) (φ : Ph) (x : EX) (σ' : AE) (H' : AH) (n' : Nat) (N R : EH) (X : Nat → EH) : Prop := ∀ ψ ρ' h', PLe φ ψ → HR ψ H' n' h0 h' → FR ψ σ' ρ' → match x with
  | .norm => N ρ' h'
  | .ret => R ρ' h'
  | .exit i => X i ρ' h'
theorem Went.mono {h0 : Hp} {φ ψ : Ph} {x : EX} {σ' : AE} {H' : AH} {n' : Nat} {N R : EH} {X : Nat → EH} (hw : Went h0 φ x σ' H' n' N R X) (hp : PLe φ ψ) : Went h0 ψ x σ' H' n' N R X :=
  fun χ ρ' h' h1 h2 h3 => hw χ ρ' h' (hp.trans h1) h2 h3
theorem exec_sound (hcall : ∀ f, COk P f (call f)) (h0 : Hp) : ∀ (f : Nat) (c : Code) (φ : Ph) (σ σ' : AE) (H H' : AH) (n n' : Nat) (ρ : Env) (h : Hp) (x : EX) (N R : EH) (X : Nat → EH), HR φ H n h0 h → FR φ σ ρ →
    exec P call f c σ H n = some (x, σ', H', n') → Went h0 φ x σ' H' n' N R X → avc P c N R X ρ h := by
  intro f
  induction f using Nat.strongRecOn with
  | _ f ih =>
    intro c φ σ σ' H H' n n' ρ h x N R X hr hf e hw
    cases f with
    | zero => cases e
    | succ f =>
      replace e : execB P call (exec P call f) c σ H n = some (x, σ', H', n') := e
      have ih1 := ih f (Nat.lt_succ_self f)
      unfold execB at e
      split at e
      · -- skip
        injection e with e; injection e with e0 e; injection e with e1 e; injection e with e2 e3
        subst e0 e1 e2 e3
        exact hw φ ρ h (PLe.refl _) hr hf
      · -- region
        rename_i id ops draw
        split at e
        · rename_i hd
          have hx := eops_norm _ _ _ _ _ e
          dsimp only at hx
          subst hx
          have hs := eops_sound hcall h0 _ φ σ σ' H H' n n' ρ h _ hr hf e hw
          unfold avc
          split
          · rename_i hdr
            subst hdr
            exact .inr (.inl ⟨by simpa using hd, hs⟩)
          · exact hs
        · rename_i hd
          simp only [Bool.and_eq_true] at hd
          have hx : x = .norm := by
            unfold edyn at e
            split at e
            · split at e
              · injection e with e; injection e with e0 e; exact e0.symm
              · cases e
            · cases e
          subst hx
          have hs := (edyn_sound hcall hr hf e hw).2
          unfold avc
          rw [if_pos hd.1]
          exact .inr (.inr hs)
      · -- seq
        rename_i a b
        split at e
        · rename_i σ1 H1 n1 e1
          refine ih1 a φ σ σ1 H H1 n n1 ρ h .norm _ R X hr hf e1 fun ψ ρ1 h1 hp hr1 hf1 => ?_
          exact ih1 b ψ σ1 σ' H1 H' n1 n' ρ1 h1 x N R X hr1 hf1 e (hw.mono hp)
        · rename_i hne
          refine ih1 a φ σ σ' H H' n n' ρ h x _ R X hr hf e fun ψ ρ1 h1 hp hr1 hf1 => ?_
          have := hw ψ ρ1 h1 hp hr1 hf1
          cases x with
          | norm => exact (hne _ _ _ e).elim
          | ret => exact this
          | exit i => exact this
      · -- cond
        rename_i cd a b
        have hc := hf.ev cd
        unfold avc
        split at e
        · rename_i q
          rw [q] at hc
          rw [hc.bool_inv]
          exact ⟨fun _ => ih1 a φ σ σ' H H' n n' ρ h x N R X hr hf e hw, (fun k => by cases k)⟩
        · rename_i q
          rw [q] at hc
          rw [hc.bool_inv]
          exact ⟨(fun k => by cases k), fun _ => ih1 b φ σ σ' H H' n n' ρ h x N R X hr hf e hw⟩
        · cases e
      · -- block
        rename_i id b
        unfold avc
        split at e
        · rename_i i σ1 H1 n1 e1
          split at e
          · rename_i hi
            have hi := Nat.eq_of_beq_eq_true hi
            subst hi
            injection e with e; injection e with e0 e; injection e with e1' e; injection e with e2 e3
            subst e0 e1' e2 e3
            refine ih1 b φ σ σ1 H H1 n n1 ρ h (.exit i) N R _ hr hf e1 fun ψ ρ1 h1 hp hr1 hf1 => ?_
            simp only [if_true]
            exact hw ψ ρ1 h1 hp hr1 hf1
          · rename_i hi
            injection e with e; injection e with e0 e; injection e with e1' e; injection e with e2 e3
            subst e0 e1' e2 e3
            refine ih1 b φ σ σ1 H H1 n n1 ρ h (.exit i) N R _ hr hf e1 fun ψ ρ1 h1 hp hr1 hf1 => ?_
            have hne : ¬ i = id := fun q => by subst q; simp at hi
            simp only [if_neg hne]
            exact hw ψ ρ1 h1 hp hr1 hf1
        · rename_i hne
          refine ih1 b φ σ σ' H H' n n' ρ h x N R _ hr hf e fun ψ ρ1 h1 hp hr1 hf1 => ?_
          have := hw ψ ρ1 h1 hp hr1 hf1
          cases x with
          | norm => exact this
          | ret => exact this
          | exit i => exact (hne _ _ _ _ e).elim
      · -- loop
        rename_i b
        let Q : Env → Hp → Nat → Prop := fun ρ1 h1 f1 => f1 ≤ f + 1 ∧ ∃ ψ σ1 H1 n1, PLe φ ψ ∧ HR ψ H1 n1 h0 h1 ∧ FR ψ σ1 ρ1 ∧ exec P call f1 (.loop b) σ1 H1 n1 = some (x, σ', H', n')
        have hQ0 : Q ρ h (f + 1) := ⟨Nat.le_refl _, φ, σ, H, n, PLe.refl _, hr, hf, e⟩
        have hμ : ∀ ρ1 h1 g, Q ρ1 h1 g → ∃ m, Q ρ1 h1 m ∧ ∀ k, Q ρ1 h1 k → m ≤ k := fun ρ1 h1 g hg => least g hg
        refine ⟨fun ρ1 h1 => ∃ g, Q ρ1 h1 g, fun ρ1 h1 => Classical.epsilon fun m => Q ρ1 h1 m ∧ ∀ k, Q ρ1 h1 k → m ≤ k, ⟨_, hQ0⟩, fun ρ1 h1 ⟨g, hg⟩ _ _ => ?_⟩
        have hsp := Classical.epsilon_spec (hμ ρ1 h1 g hg)
        obtain ⟨m, hm⟩ : ∃ m, (Classical.epsilon fun m => Q ρ1 h1 m ∧ ∀ k, Q ρ1 h1 k → m ≤ k) = m := ⟨_, rfl⟩
        rw [hm] at hsp
        obtain ⟨⟨hmle, ψ, σ1, H1, n1, hp, hr1, hf1, e1⟩, _⟩ := hsp
        cases m with
        | zero => cases e1
        | succ m =>
          replace e1 : execB P call (exec P call m) (.loop b) σ1 H1 n1 = some (x, σ', H', n') := e1
          have ih2 := ih m (by omega)
          simp only [execB] at e1
          split at e1
          · rename_i σ2 H2 n2 e2
            refine ih2 b ψ σ1 σ2 H1 H2 n1 n2 ρ1 h1 .norm _ R X hr1 hf1 e2 fun χ ρ2 h2 hp2 hr2 hf2 => ?_
            have hQ2 : Q ρ2 h2 m := ⟨by omega, χ, σ2, H2, n2, hp.trans hp2, hr2, hf2, e1⟩
            refine ⟨h2, Sub.refl _, ⟨m, hQ2⟩, ?_⟩
            have hsp2 := Classical.epsilon_spec (hμ ρ2 h2 m hQ2)
            have := hsp2.2 m hQ2
            simp only [hm]
            omega
          · rename_i hne
            refine ih2 b ψ σ1 σ' H1 H' n1 n' ρ1 h1 x _ R X hr1 hf1 e1 fun χ ρ2 h2 hp2 hr2 hf2 => ?_
            have := hw χ ρ2 h2 (hp.trans hp2) hr2 hf2
            cases x with
            | norm => exact (hne _ _ _ e1).elim
            | ret => exact this
            | exit i => exact this
      · -- exit
        injection e with e; injection e with e0 e; injection e with e1 e; injection e with e2 e3
        subst e0 e1 e2 e3
        exact hw φ ρ h (PLe.refl _) hr hf
      · -- scope
        rename_i b
        exact ih1 b φ σ σ' H H' n n' ρ h x N R X hr hf e hw
      · -- label
        injection e with e; injection e with e0 e; injection e with e1 e; injection e with e2 e3
        subst e0 e1 e2 e3
        exact hw φ ρ h (PLe.refl _) hr hf
      · -- ret
        injection e with e; injection e with e0 e; injection e with e1 e; injection e with e2 e3
        subst e0 e1 e2 e3
        exact hw φ ρ h (PLe.refl _) hr hf
      · cases e

/-! ### functions -/
theorem eentry_get : ∀ (l : List AV) (k : Nat) (σ : AE) (t : Nat) (a : AV), (eentry l k σ).get t = some a → (k ≤ t ∧ l[t - k]? = some a) ∨ σ.get t = some a
  | [], k, σ, t, a, e => .inr e
  | v :: l, k, σ, t, a, e => by
    rcases eentry_get l (k + 1) _ t a e with ⟨h1, h2⟩ | h
    · refine .inl ⟨by omega, ?_⟩
      obtain ⟨d, rfl⟩ : ∃ d, t = k + 1 + d := ⟨t - (k + 1), by omega⟩
      rw [show k + 1 + d - (k + 1) = d from by omega] at h2
      rw [show k + 1 + d - k = d + 1 from by omega]
      simpa using h2
    · rcases PM.get_set depthE σ k t a h with ⟨rfl, h2⟩ | ⟨_, h2⟩
      · exact .inl ⟨Nat.le_refl _, by simpa using h2⟩
      · exact .inr h2
theorem entry_FR {args : List AV} {vs : Array Value} (h : VRs φ args vs.toList) : FR φ (eentry args 0 .nil) (entryEnv vs.toList 0) := fun t a e => by
  rcases eentry_get args 0 .nil t a e with ⟨_, h2⟩ | h2
  · obtain ⟨v, h3, h4⟩ := h.at h2
    rw [entryEnv_eq, if_pos (Nat.zero_le _)]
    rw [Nat.sub_zero] at h3 ⊢
    rw [h3]
    exact h4
  · cases h2
theorem eres_sound (hr : HR φ H n h0 h) (hf : FR φ σ ρ) : ∀ (rs : List ResultVar) (vs : List AV) (acc : List Value), eres P σ H rs = some vs → (∀ us, VRs φ vs us → Fin K (packV (acc.reverse ++ us)) h) → resK P rs acc ρ h K
  | [], vs, acc, e, hk => by
    injection e with e; subst e
    have := hk [] .nil
    simpa [resK] using this
  | .tmp t :: rs, vs, acc, e, hk => by
    simp only [eres, Option.map_eq_some_iff] at e
    obtain ⟨vs', e1, rfl⟩ := e
    refine eres_sound hr hf rs vs' (ρ t :: acc) e1 fun us hus => ?_
    have := hk (ρ t :: us) (.cons (hf.ev (.tmp t)) hus)
    simpa using this
  | .cell a t :: rs, vs, acc, e, hk => by
    simp only [eres] at e
    split at e
    · rename_i v hv
      simp only [Option.map_eq_some_iff] at e
      obtain ⟨vs', e1, rfl⟩ := e
      refine eload_sound hr (hf.ev (.tmp a)) hv fun u hu => ?_
      refine eres_sound hr hf rs vs' (u :: acc) e1 fun us hus => ?_
      have := hk (u :: us) (.cons hu hus)
      simpa using this
    · cases e
theorem epack_VR {vs : List AV} {us : List Value} (h : VRs φ vs us) : VR φ (epack vs) (packV us) := by
  match vs, us, h with
  | [], us, h => rw [h.nil_inv]; exact .tup (cs := #[]) .nil
  | [a], us, h =>
    obtain ⟨v, ws, rfl, h1, h2⟩ := h.cons_inv
    rw [h2.nil_inv]; exact h1
  | a :: b :: l, us, h =>
    obtain ⟨v, ws, h0, h1, h2⟩ := h.cons_inv
    obtain ⟨v2, ws2, h3, h4, h5⟩ := h2.cons_inv
    subst h0 h3
    exact .tup (cs := (v :: v2 :: ws2).toArray) (by simpa using h)
/-- What is asked of a function's text, once. -/
def fnOk (P : Program) (f : FuncId) : Bool := isCall P f && (match P.funcs[f]? with
  | some fn => (match fn.body with
    | some c => (codeDsts c).all fun t => decide (t < fn.ntmps)
    | none => false)
  | none => false)
/-- The table serves: what is run is in order, what is known is so. -/
def TabOk (P : Program) (F : FuncId → EF) : Prop := ∀ f, match F f with
  | .no => True
  | .run => fnOk P f = true
  | .nat g => COk P f g
theorem ecall_sound (hm : P.follows .mixedOrders = true) {F : FuncId → EF} (hF : TabOk P F) : ∀ (d : Nat) (f : FuncId), COk P f (ecall P F d f) := by
  intro d
  induction d with
  | zero => intro f args H n v H' n' e; cases e
  | succ d ih =>
    intro f args H n v H' n' e φ h0 h vs K hr hargs hk
    replace e : ecallB P F (ecall P F d) f args H n = some (v, H', n') := e
    have hFf := hF f
    unfold ecallB at e
    split at e
    · cases e
    · rename_i g hg
      rw [hg] at hFf
      exact hFf args H n v H' n' e φ h0 h vs K hr hargs hk
    · rename_i hg
      rw [hg] at hFf
      simp only [fnOk, Bool.and_eq_true] at hFf
      obtain ⟨hic, hFf⟩ := hFf
      refine ⟨hic, ?_⟩
      split at e
      · rename_i fn hfn
        simp only [hfn] at hFf
        split at e
        · rename_i c hb hsz
          simp only [hb] at hFf
          have hds := hFf
          have hle := Nat.le_of_ble_eq_true hsz
          have hal := hargs.length
          refine callG_of hm hfn hb rfl rfl hds (by simpa [hal] using hle) fun _ => ?_
          split at e
          · cases e
          · rename_i x σ' G m hne hex
            split at e
            · rename_i rs hrs
              injection e with e; injection e with e1 e2; injection e2 with e2 e3
              subst e1 e2 e3
              refine exec_sound ih h0 fuelE c φ _ σ' H G n m _ h x _ _ _ hr (entry_FR hargs) hex fun ψ ρ' h' hp hr' hf' => ?_
              have fin : resK P fn.results.toList [] ρ' h' K := eres_sound hr' hf' fn.results.toList rs [] hrs fun us hus => .here (hk ψ _ h' hp hr' (by simpa using epack_VR hus))
              cases x with
              | norm => exact fin
              | ret => exact fin
              | exit i => exact (hne i rfl).elim
            · cases e
          · cases e
        · cases e
      · cases e
end
end Go.Proofs.Ytdfeigkooeeeaaa
namespace Go.Proofs.Ytdfeigkooeeeaaa
open Go Go.RowKit
/-- The table: each function whose text is in order is run. -/
noncomputable def evF (P : Program) (f : FuncId) : EF := cond (fnOk P f) .run .no
theorem evF_ok (P : Program) : TabOk P (evF P) := fun f => by
  unfold evF
  cases h : fnOk P f with
  | true => rfl
  | false => trivial
def wholeHp (w : World) : Hp := ⟨fun b => w.heap[b]?, w.heap.size⟩
theorem wholeHp_is (w : World) : Is w (wholeHp w) := ⟨rfl, fun _ _ h => h⟩
theorem wholeHp_start (w : World) : HR Ph.no .nil 0 (wholeHp w) (wholeHp w) :=
  ⟨fun _ _ h => (by cases h), fun _ _ h => (by cases h), fun _ _ _ _ _ _ h => (by cases h), fun b o h => ⟨(Array.getElem?_eq_some_iff.1 h).1, h⟩, Nat.le_refl _, fun _ h => h.elim⟩
theorem ev_calls {P : Program} (hm : P.follows .mixedOrders = true) {F : FuncId → EF} (hF : TabOk P F) {d : Nat} {f : FuncId} {args : List AV} {vs : Array Value} (hargs : VRs Ph.no args vs.toList)
    (he : isTrue (ecall P F d f args .nil 0) = true) (w : World) : Calls P f vs w fun e w' => e = .returned (.bool true) ∧ Below w.heap.size w w' := by
  unfold isTrue at he
  split at he
  · rename_i H' n' e
    have hs := ecall_sound hm hF d f args .nil 0 _ H' n' e _ (wholeHp w) (wholeHp w) vs (fun v g => v = .bool true ∧ (wholeHp w).n ≤ g.n ∧ ∀ b o, (wholeHp w).f b = some o → g.f b = some o) (wholeHp_start w) hargs
      (fun ψ u g _ hg hu => ⟨hu.bool_inv, hg.size, fun b o hb => (hg.base b o hb).2⟩)
    refine (hs.2 w (wholeHp_is w)).mono fun e' w' ⟨v, g, h1, h2, h3, h4, h5, h6⟩ => ?_
    subst h1 h4
    refine ⟨rfl, h3.1, h3.2.1, h3.2.2, ?_, fun b hb => ?_⟩
    · rw [h2.1]; exact h5
    · have := h6 b _ (show (wholeHp w).f b = some w.heap[b] from Array.getElem?_eq_getElem hb)
      rw [h2.2 b _ this, Array.getElem?_eq_getElem hb]
  · cases he
open Go.ChangeShapes Go.WideShapes Go.ChangeAt
section
variable {H : Type} {enc : TypeId × Value → H} {P : Program} {W W' : World}
/-- Arguments read behind a call as before, if nothing that was there has turned. -/
theorem args_stay (hl : laidOutB P = true) (hb : Below W.heap.size W W') : ∀ (ts : List TypeId) (vs : List Value) (ds : List (DataW H)) (ps : List MemPlace), (ts.all fun t => P.readableRec t && decide (t < P.types.size)) = true →
    DataW.TrodAll enc P W 0 (fun _ => true) true ts vs ds ps → (∀ x ∈ ps, x.block < W.heap.size) → DataW.TrodAll enc P W' 0 (fun b => decide (b < W.heap.size)) true ts vs ds ps
  | [], vs, ds, ps, _, h, _ => by
    obtain ⟨rfl, rfl, rfl⟩ := trodAll_nil h
    exact h
  | t :: ts, vs, ds, ps, hr, h, hlt => by
    obtain ⟨v, vs', d, ds', p, q, rfl, rfl, rfl, h1, h2⟩ := trodAll_cons h
    simp only [List.all_cons, Bool.and_eq_true, decide_eq_true_eq] at hr
    exact trodAll_cons_mk (Below.trod hl hr.1.1 hr.1.2 h1 hb fun x hx => hlt x (List.mem_append_left _ hx)) (args_stay hl hb ts vs' ds' q hr.2 h2 fun x hx => hlt x (List.mem_append_right _ hx))
/-- A law's last step: it answered true, and what was there is as it was. -/
theorem law_left {f : Func} {s : ChangeSpec} {apart fresh handsOn : Bool} {args : Array Value} {ds gs : List (DataW H)} {before : List MemPlace} {tb : TypeId} (hl : laidOutB P = true)
    (hr : (f.params.toList.all fun t => P.readableRec t && decide (t < P.types.size)) = true) (hres : f.resultTypes = #[tb]) (hub : P.underlying tb = some .bool) (hv : s.vars = [])
    (hfn : s.fn H (ds ++ gs) = { results := [.lit (.bool true)], args := ds }) (hW : DataW.Whole enc P f.params.toList s.vars apart W args.toList ds gs before) (hb : Below W.heap.size W W') :
    s.post enc P f apart fresh handsOn false W args (.bool true) W' := by
  have hlt := hW.lt
  have hW2 := hW
  obtain ⟨p, q, h1, h2, rfl, _, _⟩ := hW2
  refine ⟨ds, gs, p ++ q, [], p, [], hW, ?_, ?_, ?_, hb.frame _, fun k => by cases k⟩
  · rw [hfn, hres]
    exact trodAll_mk1 (shut_bool hub true)
  · rw [hfn]
    exact args_stay hl hb _ _ _ _ hr h1 fun x hx => hlt x (List.mem_append_left _ hx)
  · rw [hfn, hv]
    rfl
end
end Go.Proofs.Ytdfeigkooeeeaaa
namespace Go.Proofs.Ytdfeigkooeeeaaa
open Go Go.RowKit
abbrev KA := AV → AH → Nat → AR
abbrev CQ := FuncId → List AV → AH → Nat → KA → AR

/-! ### slots -/
noncomputable def evq (x : Operand) : AE → AV :=
  Operand.rec (fun t σ => getq (pa t) σ) (fun v _ => ofV v) (fun g _ => .any (.pointer (some ⟨g, 0, none⟩))) (fun f _ => .fn f [] []) x
noncomputable def evsq (l : List Operand) : AE → List AV := List.rec (fun _ => []) (fun x _ ih σ => evq x σ :: ih σ) l

/-! ### looks at a value -/
noncomputable def boolq (a : AV) : (Bool → AR) → AR := AV.rec (motive_1 := fun _ => (Bool → AR) → AR) (motive_2 := fun _ => Unit)
  (fun _ _ _ => none) (fun _ _ => none) (fun b k => k b) (fun _ => none) (fun _ _ _ => none) (fun _ => none) (fun _ _ _ _ _ _ => none) (fun _ _ => none) (fun _ _ _ => none) (fun _ _ _ => none) (fun _ _ _ _ _ _ => none) (fun _ _ => none) (fun _ _ => none) (fun _ => none) (fun _ _ _ => none) (fun _ _ => none) (fun _ _ => none) (fun _ _ _ _ _ _ => none) (fun _ _ _ _ _ _ => none) (fun _ _ _ _ _ => none) (fun _ _ _ _ => none) () (fun _ _ _ _ => ()) a
noncomputable def intq (a : AV) : (IntKind → Int → AR) → AR → AR := AV.rec (motive_1 := fun _ => (IntKind → Int → AR) → AR → AR) (motive_2 := fun _ => Unit)
  (fun i n k _ => k i n) (fun _ _ s => s) (fun _ _ s => s) (fun _ s => s) (fun _ _ _ s => s) (fun _ s => s) (fun _ _ _ _ _ _ s => s) (fun _ _ s => s) (fun _ _ _ s => s) (fun _ _ _ s => s) (fun _ _ _ _ _ _ s => s) (fun _ _ s => s) (fun _ _ s => s) (fun _ s => s) (fun _ _ _ s => s) (fun _ _ s => s) (fun _ _ s => s) (fun _ _ _ _ _ _ s => s) (fun _ _ _ _ _ _ s => s) (fun _ _ _ _ _ s => s) (fun _ _ _ _ s => s) () (fun _ _ _ _ => ()) a
noncomputable def ptrq (a : AV) : (Nat → Nat → AR) → AR := AV.rec (motive_1 := fun _ => (Nat → Nat → AR) → AR) (motive_2 := fun _ => Unit)
  (fun _ _ _ => none) (fun _ _ => none) (fun _ _ => none) (fun _ => none) (fun b o k => k b o) (fun _ => none) (fun _ _ _ _ _ _ => none) (fun _ _ => none) (fun _ _ _ => none) (fun _ _ _ => none) (fun _ _ _ _ _ _ => none) (fun _ _ => none) (fun _ _ => none) (fun _ => none) (fun _ _ _ => none) (fun _ _ => none) (fun _ _ => none) (fun _ _ _ _ _ _ => none) (fun _ _ _ _ _ _ => none) (fun _ _ _ _ _ => none) (fun _ _ _ _ => none) () (fun _ _ _ _ => ()) a
noncomputable def tupq (a : AV) : (List AV → AR) → AR := AV.rec (motive_1 := fun _ => (List AV → AR) → AR) (motive_2 := fun _ => Unit)
  (fun _ _ _ => none) (fun _ _ => none) (fun _ _ => none) (fun _ => none) (fun _ _ _ => none) (fun _ => none) (fun _ _ _ _ _ _ => none) (fun _ _ => none) (fun _ _ _ => none) (fun l _ k => k l) (fun _ _ _ _ _ _ => none) (fun _ _ => none) (fun _ _ => none) (fun _ => none) (fun _ _ _ => none) (fun _ _ => none) (fun _ _ => none) (fun _ _ _ _ _ _ => none) (fun _ _ _ _ _ _ => none) (fun _ _ _ _ _ => none) (fun _ _ _ _ => none) () (fun _ _ _ _ => ()) a
noncomputable def fnq (a : AV) : (Nat → List AV → List AV → AR) → AR := AV.rec (motive_1 := fun _ => (Nat → List AV → List AV → AR) → AR) (motive_2 := fun _ => Unit)
  (fun _ _ _ => none) (fun _ _ => none) (fun _ _ => none) (fun _ => none) (fun _ _ _ => none) (fun _ => none) (fun _ _ _ _ _ _ => none) (fun _ _ => none) (fun _ _ _ => none) (fun _ _ _ => none) (fun f a c _ _ k => k f a c) (fun _ _ => none) (fun _ _ => none) (fun _ => none) (fun _ _ _ => none) (fun _ _ => none) (fun _ _ => none) (fun _ _ _ _ _ _ => none) (fun _ _ _ _ _ _ => none) (fun _ _ _ _ _ => none) (fun _ _ _ _ => none) () (fun _ _ _ _ => ()) a
noncomputable def cellsq (o : Option AO) : (List AV → Bool → AR) → AR := Option.rec (fun _ => none) (fun o => AO.rec (fun l z k => k l z) (fun _ _ => none) (fun _ _ => none) (fun _ _ _ _ => none) o) o
noncomputable def optq {α : Type} (o : Option α) : (α → AR) → AR := Option.rec (fun _ => none) (fun a k => k a) o
noncomputable def bifq (b : Bool) : AR → AR → AR := Bool.rec (fun _ e => e) (fun t _ => t) b
noncomputable def nthq {α : Type} (l : List α) : Nat → (α → AR) → AR := List.rec (fun _ _ => none) (fun x _ ih n k => Nat.rec (k x) (fun m _ => ih m k) n) l

/-! ### numbers -/
noncomputable def kindq (k j : IntKind) : Bool := IntKind.rec (IntKind.rec true false false false false false false false j) (IntKind.rec false true false false false false false false j) (IntKind.rec false false true false false false false false j) (IntKind.rec false false false true false false false false j)
  (IntKind.rec false false false false true false false false j) (IntKind.rec false false false false false true false false j) (IntKind.rec false false false false false false true false j) (IntKind.rec false false false false false false false true j) k
noncomputable def ltq (a b : Int) : Bool := Int.rec (fun m => Int.rec (fun n => Nat.blt m n) (fun _ => false) b) (fun m => Int.rec (fun _ => true) (fun n => Nat.blt n m) b) a
noncomputable def eqq (a b : Int) : Bool := Int.rec (fun m => Int.rec (fun n => Nat.beq m n) (fun _ => false) b) (fun m => Int.rec (fun _ => false) (fun n => Nat.beq m n) b) a
noncomputable def notq (b : Bool) : Bool := Bool.rec true false b
noncomputable def w64q (x : Int) : Int := Int.rec (fun m => Bool.rec (IntKind.i64.wrap (.ofNat m)) (.ofNat m) (Nat.blt m 9223372036854775808)) (fun m => Bool.rec (IntKind.i64.wrap (.negSucc m)) (.negSucc m) (Nat.blt m 9223372036854775808)) x
noncomputable def u64q (x : Int) : Int := Int.rec (fun m => Bool.rec (IntKind.u64.wrap (.ofNat m)) (.ofNat m) (Nat.blt m 18446744073709551616)) (fun m => IntKind.u64.wrap (.negSucc m)) x
noncomputable def u8q (x : Int) : Int := Int.rec (fun m => Bool.rec (IntKind.u8.wrap (.ofNat m)) (.ofNat m) (Nat.blt m 256)) (fun m => IntKind.u8.wrap (.negSucc m)) x
noncomputable def wrapq (k : IntKind) : Int → Int := IntKind.rec IntKind.i8.wrap IntKind.i16.wrap IntKind.i32.wrap w64q u8q IntKind.u16.wrap IntKind.u32.wrap u64q k
noncomputable def slowI (op : BinOp) (k j : IntKind) (a b : Int) (κ : AV → AR) : AR := optq (eint op k j a b) κ
noncomputable def addq (k j : IntKind) (a b : Int) (κ : AV → AR) : AR := bifq (kindq k j) (κ (.int k (wrapq k (Int.add a b)))) none
noncomputable def subq (k j : IntKind) (a b : Int) (κ : AV → AR) : AR := bifq (kindq k j) (κ (.int k (wrapq k (Int.sub a b)))) none
noncomputable def cmpq (f : Int → Int → Bool) (k j : IntKind) (a b : Int) (κ : AV → AR) : AR := bifq (kindq k j) (κ (.bool (f a b))) none
noncomputable def intopq (op : BinOp) : IntKind → IntKind → Int → Int → (AV → AR) → AR :=
  BinOp.rec (motive := fun _ => IntKind → IntKind → Int → Int → (AV → AR) → AR) addq subq (slowI .mul) (slowI .quo) (slowI .rem) (slowI .and) (slowI .or) (slowI .xor) (slowI .shl) (slowI .shr) (slowI .andNot)
    (cmpq eqq) (cmpq fun a b => notq (eqq a b)) (cmpq ltq) (cmpq fun a b => notq (ltq b a)) (cmpq fun a b => ltq b a) (cmpq fun a b => notq (ltq a b)) op

/-! ### operations -/
noncomputable def noCall : AC := fun _ _ _ _ => none
abbrev SQ := CQ → AE → AH → Nat → KA → AR
noncomputable def pairK (κ : KA) (r : AV × AH × Nat) : AR := Prod.rec (fun v p => Prod.rec (fun H n => κ v H n) p) r
noncomputable def slowS (o : Op) : SQ := fun _ σ H n κ => optq (estep Try.prog noCall o σ H n) (pairK κ)
noncomputable def moveS (x : Operand) : SQ := fun _ σ H n κ => κ (evq x σ) H n
noncomputable def pickS (c a b : Operand) : SQ := fun _ σ H n κ => boolq (evq c σ) fun q => Bool.rec (κ (evq b σ) H n) (κ (evq a σ) H n) q
/-- 0: it can't be read; 1: one cell; n + 2: n cells. -/
noncomputable def loadKind (t : TypeId) : Nat := match tyAgg Try.prog t with
  | some false => 1
  | some true => (match tySize Try.prog t with
    | some n => n + 2
    | none => 0)
  | none => 0
noncomputable def loadL (l : List AV) (o : Nat) (k : Nat) (κ : AV → AR) : AR := Nat.rec none (fun k' _ => Nat.rec (nthq l o κ) (fun m _ => optq (subL l o m) fun r => κ (.agg r)) k') k
noncomputable def loadS (t : TypeId) (a : Operand) : SQ := fun _ σ H n κ => ptrq (evq a σ) fun b o => cellsq (H.get b) fun l _ => loadL l o (loadKind t) fun v => κ v H n
/-- One cell, of a value that may be laid. -/
noncomputable def cellOneq (a : AV) : Bool := AV.rec (motive_1 := fun _ => Bool) (motive_2 := fun _ => Unit)
  (fun _ _ => true) (fun _ => true) (fun _ => true) true (fun _ _ => true) true (fun _ _ _ _ _ => true) (fun _ => true) (fun _ _ => false) (fun _ _ => false) (fun _ _ _ _ _ => true) (fun _ => true) (fun _ => false) false (fun _ _ => false) (fun _ => false) (fun _ => false) (fun _ _ _ _ _ => false) (fun _ _ _ _ _ => false) (fun _ _ _ _ => false) (fun _ _ _ => false) () (fun _ _ _ _ => ()) a
noncomputable def set1q (l : List AV) : Nat → AV → (List AV → AR) → AR := List.rec (fun _ _ _ => none) (fun y t ih o v k => Nat.rec (k (v :: t)) (fun m _ => ih m v fun r => k (y :: r)) o) l
noncomputable def sizeOne (t : TypeId) : Bool := match tySize Try.prog t with
  | some 1 => true
  | _ => false
noncomputable def storeS (t : TypeId) (a x : Operand) : SQ := fun _ σ H n κ => Bool.rec (optq (estore Try.prog t (evq a σ) (evq x σ) H n) (pairK κ))
  (ptrq (evq a σ) fun b o => cellsq (H.get b) fun l z => set1q l o (evq x σ) fun r => κ undefA (H.set (some (.cells r z)) depthH b) n) (Bool.rec false (cellOneq (evq x σ)) (sizeOne t))
noncomputable def nilQ (a : AV) : (AV → AR) → AR := AV.rec (motive_1 := fun _ => (AV → AR) → AR) (motive_2 := fun _ => Unit)
  (fun _ _ _ => none) (fun _ _ => none) (fun _ _ => none) (fun _ => none) (fun b o k => k (.ptr b o)) (fun _ => none) (fun _ _ _ _ _ _ => none) (fun _ _ => none) (fun _ _ _ => none) (fun _ _ _ => none) (fun f a c _ _ k => k (.fn f a c)) (fun _ _ => none) (fun _ _ => none) (fun _ => none) (fun _ _ _ => none) (fun _ _ => none) (fun _ _ => none) (fun _ _ _ _ _ _ => none) (fun _ _ _ _ _ _ => none) (fun _ _ _ _ _ => none) (fun _ _ _ _ => none) () (fun _ _ _ _ => ()) a
noncomputable def nilS (x : Operand) : SQ := fun _ σ H n κ => nilQ (evq x σ) fun v => κ v H n
noncomputable def binS (op : BinOp) (t : TypeId) (x y : Operand) (_ : TypeId) : SQ := fun _ σ H n κ => intq (evq x σ) (fun k a => intq (evq y σ) (fun j b => intopq op k j a b fun v => κ v H n) none) (optq (ebin Try.prog op t (evq x σ) (evq y σ) H) fun v => κ v H n)
noncomputable def unS (op : UnOp) (_ : TypeId) (x : Operand) : SQ := fun _ σ H n κ => optq (eun op (evq x σ)) fun v => κ v H n
noncomputable def fieldAddrS (s : TypeId) (x : Operand) (i : Nat) : SQ := fun _ σ H n κ => ptrq (evq x σ) fun b o => optq (tyField Try.prog s i) fun p => κ (.ptr b (Nat.add o p.2)) H n
noncomputable def indexAddrS (t : TypeId) (x ix : Operand) : SQ := fun _ σ H n κ => optq (eindexAddr Try.prog t (evq x σ) (evq ix σ)) fun v => κ v H n
noncomputable def extractS (x : Operand) (i : Nat) : SQ := fun _ σ H n κ => tupq (evq x σ) fun l => nthq l i fun v => κ v H n
noncomputable def callV (args : Array Operand) (f : Operand) : SQ := fun call σ H n κ => fnq (evq f σ) fun g a cs => call g (a ++ (evsq args.toList σ ++ cs)) H n κ
noncomputable def callS (c : Call) : SQ := Callee.rec (fun f => callV c.args f) (fun _ _ => fun _ _ _ _ _ => none) (fun _ => slowS (.call c)) c.callee
noncomputable def stepq (o : Op) : SQ := Op.rec (motive := fun _ => SQ)
  moveS
  moveS
  pickS
  (fun a => slowS (.alloc a))
  (fun a b => slowS (.box a b))
  (fun a b => slowS (.build a b))
  (fun a b c => slowS (.buildSlice a b c))
  (fun a b c d => slowS (.insert a b c d))
  loadS
  storeS
  (fun a => slowS (.ready a))
  (fun a => slowS (.waits a))
  nilS
  binS
  unS
  (fun a b c => slowS (.convert a b c))
  (fun a b => slowS (.sliceToArrayPointer a b))
  (fun a b => slowS (.makeInterface a b))
  (fun a b c => slowS (.makeFunc a b c))
  (fun a b => slowS (.makeMap a b))
  (fun a b => slowS (.makeChan a b))
  (fun a b c => slowS (.makeSlice a b c))
  (fun a b c d e => slowS (.slice a b c d e))
  fieldAddrS
  (fun a b c => slowS (.field a b c))
  indexAddrS
  (fun a b c => slowS (.index a b c))
  (fun a b c d => slowS (.lookup a b c d))
  (fun a b c d => slowS (.mapUpdate a b c d))
  (fun a b c => slowS (.mapEntry a b c))
  (fun a b c d => slowS (.entryStore a b c d))
  (fun a b => slowS (.range a b))
  (fun a b => slowS (.next a b))
  (fun a => slowS (.entry a))
  (fun a b c d => slowS (.typeAssert a b c d))
  extractS
  callS
  (fun a => slowS (.go a))
  (fun a => slowS (.defer a))
  (fun a => slowS (.panic a))
  (fun a b => slowS (.send a b))
  (fun a b c => slowS (.recv a b c))
  (fun a b => slowS (.select a b)) o

/-! ### regions, code, functions -/
abbrev KS := AE → AH → Nat → AR
noncomputable def doq (o : Op) (d : Option Nat) : CQ → AE → AH → Nat → KS → AR := fun call σ H n k => stepq o call σ H n fun v H n => k (putq d v σ) H n
noncomputable def gvalq (a : AV) (want : Bool) : AR → AR → AR := AV.rec (motive_1 := fun _ => AR → AR → AR) (motive_2 := fun _ => Unit)
  (fun _ _ _ _ => none) (fun _ _ _ => none) (fun q d s => Bool.rec (Bool.rec d s want) (Bool.rec s d want) q) (fun _ _ => none) (fun _ _ _ _ => none) (fun _ _ => none) (fun _ _ _ _ _ _ _ => none) (fun _ _ _ => none) (fun _ _ _ _ => none) (fun _ _ _ s => s) (fun _ _ _ _ _ _ _ => none) (fun _ _ _ => none) (fun _ _ _ => none) (fun _ _ => none) (fun _ _ _ _ => none) (fun _ _ _ => none) (fun _ _ _ => none) (fun _ _ _ _ _ _ _ => none) (fun _ _ _ _ _ _ _ => none) (fun _ _ _ _ _ _ => none) (fun _ _ _ _ _ => none) () (fun _ _ _ _ => ()) a
noncomputable def oneq (ops : Array Oper) (o : Oper) : CQ → AE → AH → Nat → KS → AR := Option.rec (doq o.op o.dst)
  (fun g call σ H n k => optq (gslot ops g.1) fun t => gvalq (getq (pa t) σ) g.2 (doq o.op o.dst call σ H n k) (k (putq o.dst undefA σ) H n)) o.guard
noncomputable def opsq (ops : Array Oper) (l : List Oper) : CQ → AE → AH → Nat → KS → AR :=
  List.rec (fun _ σ H n k => k σ H n) (fun o _ ih call σ H n k => oneq ops o call σ H n fun σ H n => ih call σ H n k) l
abbrev XQ := CQ → AE → AH → Nat → KS → (Nat → KS) → KS → AR
noncomputable def condq (c : Operand) (a b : XQ) : XQ := fun call σ H n kn kx kr => boolq (evq c σ) fun q => Bool.rec (b call σ H n kn kx kr) (a call σ H n kn kx kr) q
noncomputable def blockq (id : Nat) (b : XQ) : XQ := fun call σ H n kn kx kr => b call σ H n kn (fun i σ H n => Bool.rec (kx i σ H n) (kn σ H n) (Nat.beq i id)) kr
noncomputable def loopq (b : XQ) (f : Nat) : XQ := Nat.rec (fun _ _ _ _ _ _ _ => none) (fun _ ih call σ H n kn kx kr => b call σ H n (fun σ H n => ih call σ H n kn kx kr) kx kr) f
noncomputable def topq (v : AV) (H : AH) (n : Nat) : AR := some (v, H, n)
noncomputable def callA (call : CQ) : AC := fun f args H n => call f args H n topq
noncomputable def dynq (ops : Array Oper) : XQ := fun call σ H n kn _ _ => optq (edyn Try.prog (callA call) ops σ H n) fun y => kn y.2.1 y.2.2.1 y.2.2.2
noncomputable def execq (c : Code) : XQ := Code.rec (motive := fun _ => XQ)
  (fun _ σ H n kn _ _ => kn σ H n)
  (fun _ ops draw => Bool.rec (fun call σ H n kn _ _ => opsq ops ops.toList call σ H n kn) (Bool.rec (dynq ops) (fun call σ H n kn _ _ => opsq ops ops.toList call σ H n kn) (swapB Try.prog ops)) draw)
  (fun _ _ a b call σ H n kn kx kr => a call σ H n (fun σ H n => b call σ H n kn kx kr) kx kr)
  (fun c _ _ a b => condq c a b)
  (fun id _ b => blockq id b)
  (fun _ b => loopq b fuelE)
  (fun _ _ _ _ _ _ _ _ _ _ _ _ _ => none)
  (fun i _ σ H n _ kx _ => kx i σ H n)
  (fun _ b call σ H n kn kx kr => b call σ H n kn kx kr)
  (fun _ _ σ H n kn _ _ => kn σ H n)
  (fun _ _ _ _ _ _ _ _ => none)
  (fun _ σ H n _ _ kr => kr σ H n)
  (fun _ _ _ _ _ _ _ _ => none) c
inductive EQ where
  | no
  | run (c : Code) (rs : List ResultVar) (k : Nat)
  | nat (g : List AV → AH → Nat → KA → AR)
noncomputable def resq (rs : List ResultVar) : AE → AH → (List AV → AR) → AR := List.rec (fun _ _ k => k []) (fun r _ ih σ H k => optq (ResultVar.rec (fun t => some (getq (pa t) σ)) (fun a t => eload Try.prog t (getq (pa a) σ) H) r) fun v => ih σ H fun vs => k (v :: vs)) rs
noncomputable def runq (call : CQ) (c : Code) (rs : List ResultVar) (k : Nat) (args : List AV) (H : AH) (n : Nat) (κ : KA) : AR :=
  Bool.rec none (execq c call (eentry args 0 .nil) H n (fun σ H n => resq rs σ H fun vs => κ (epack vs) H n) (fun _ _ _ _ => none) (fun σ H n => resq rs σ H fun vs => κ (epack vs) H n)) (Nat.ble args.length k)
noncomputable def callq (F : FuncId → EQ) (d : Nat) : CQ := Nat.rec (fun _ _ _ _ _ => none) (fun _ ih f args H n κ => EQ.rec (fun _ _ _ _ => none) (fun c rs k => runq ih c rs k) (fun g => g) (F f) args H n κ) d
/-- What is asked of a function's text, once; regions that draw are looked at where they are met. -/
noncomputable def fnOkq (f : FuncId) : Bool := isCall Try.prog f && (match Try.prog.funcs[f]? with
  | some fn => (match fn.body with
    | some c => (codeDsts c).all fun t => decide (t < fn.ntmps)
    | none => false)
  | none => false)
noncomputable def bodyq (f : FuncId) : EQ := match Try.prog.funcs[f]? with
  | some fn => (match fn.body with
    | some c => .run c fn.results.toList fn.ntmps
    | none => .no)
  | none => .no
noncomputable def evQ (f : FuncId) : EQ := Bool.rec .no (bodyq f) (fnOkq f)
end Go.Proofs.Ytdfeigkooeeeaaa
namespace Go.Proofs.Ytdfeigkooeeeaaa
open Go Go.RowKit
section
variable {r : AV × AH × Nat} {σ : AE} {H : AH} {n : Nat} {call : CQ}
theorem evq_eq (x : Operand) (σ : AE) : evq x σ = eev σ x := by cases x <;> rfl
theorem evsq_eq : ∀ (l : List Operand) (σ : AE), evsq l σ = l.map (eev σ)
  | [], _ => rfl
  | x :: l, σ => by
    show evq x σ :: evsq l σ = _
    rw [evq_eq, evsq_eq l]; rfl
theorem optq_inv {α : Type} {o : Option α} {k : α → AR} (h : optq o k = some r) : ∃ a, o = some a := by
  cases o with
  | none => cases h
  | some a => exact ⟨a, rfl⟩
theorem boolq_inv {a : AV} {k : Bool → AR} (h : boolq a k = some r) : ∃ q, a = .bool q := by
  cases a <;> first | exact ⟨_, rfl⟩ | cases h
theorem ptrq_inv {a : AV} {k : Nat → Nat → AR} (h : ptrq a k = some r) : ∃ b o, a = .ptr b o := by
  cases a <;> first | exact ⟨_, _, rfl⟩ | cases h
theorem tupq_inv {a : AV} {k : List AV → AR} (h : tupq a k = some r) : ∃ l, a = .tup l := by
  cases a <;> first | exact ⟨_, rfl⟩ | cases h
theorem fnq_inv {a : AV} {k : Nat → List AV → List AV → AR} (h : fnq a k = some r) : ∃ f b c, a = .fn f b c := by
  cases a <;> first | exact ⟨_, _, _, rfl⟩ | cases h
theorem cellsq_inv {o : Option AO} {k : List AV → Bool → AR} (h : cellsq o k = some r) : ∃ l z, o = some (.cells l z) := by
  cases o with
  | none => cases h
  | some o => cases o <;> first | exact ⟨_, _, rfl⟩ | cases h
theorem intq_cases (a : AV) : (∃ k i, a = .int k i) ∨ ∀ f s, intq a f s = s := by
  cases a <;> first | exact .inl ⟨_, _, rfl⟩ | exact .inr fun _ _ => rfl
theorem nthq_inv {α : Type} : ∀ {l : List α} {i : Nat} {k : α → AR}, nthq l i k = some r → ∃ a, nth l i = some a ∧ ∀ k', nthq l i k' = k' a
  | [], i, k, h => by cases h
  | x :: l, 0, k, h => ⟨x, rfl, fun _ => rfl⟩
  | x :: l, i + 1, k, h => by
    have h : nthq l i k = some r := h
    obtain ⟨a, h1, h2⟩ := nthq_inv h
    exact ⟨a, h1, h2⟩
theorem kindq_eq (k j : IntKind) : kindq k j = decide (k = j) := by cases k <;> cases j <;> rfl
theorem ltq_eq (a b : Int) : ltq a b = decide (a < b) := by
  cases a with
  | ofNat m =>
    cases b with
    | ofNat n =>
      show Nat.blt m n = _
      rw [Bool.eq_iff_iff, Nat.blt_eq, decide_eq_true_eq]
      simp only [Int.ofNat_eq_natCast]; omega
    | negSucc n =>
      show false = _
      symm; rw [decide_eq_false_iff_not]
      simp only [Int.ofNat_eq_natCast, Int.negSucc_eq]; omega
  | negSucc m =>
    cases b with
    | ofNat n =>
      show true = _
      symm; rw [decide_eq_true_eq]
      simp only [Int.ofNat_eq_natCast, Int.negSucc_eq]; omega
    | negSucc n =>
      show Nat.blt n m = _
      rw [Bool.eq_iff_iff, Nat.blt_eq, decide_eq_true_eq]
      simp only [Int.negSucc_eq]; omega
theorem eqq_eq (a b : Int) : eqq a b = decide (a = b) := by
  cases a with
  | ofNat m =>
    cases b with
    | ofNat n =>
      show Nat.beq m n = _
      rw [Bool.eq_iff_iff, Nat.beq_eq, decide_eq_true_eq]
      simp only [Int.ofNat_eq_natCast]; omega
    | negSucc n =>
      show false = _
      symm; rw [decide_eq_false_iff_not]
      simp only [Int.ofNat_eq_natCast, Int.negSucc_eq]; omega
  | negSucc m =>
    cases b with
    | ofNat n =>
      show false = _
      symm; rw [decide_eq_false_iff_not]
      simp only [Int.ofNat_eq_natCast, Int.negSucc_eq]; omega
    | negSucc n =>
      show Nat.beq m n = _
      rw [Bool.eq_iff_iff, Nat.beq_eq, decide_eq_true_eq]
      simp only [Int.negSucc_eq]; omega
theorem notq_eq (b : Bool) : notq b = !b := by cases b <;> rfl
theorem wrapq_eq (k : IntKind) (x : Int) : wrapq k x = k.wrap x := by
  have pick : ∀ {b : Bool} {u v : Int}, (b = true → v = u) → (Bool.rec u v b : Int) = u := fun {b u v} h => by
    cases b with
    | false => rfl
    | true => exact h rfl
  cases k <;> try rfl
  case i64 =>
    cases x with
    | ofNat m =>
      refine pick fun h => ?_
      rw [Nat.blt_eq] at h
      rw [IntKind.wrap_i64]; simp only [Int.ofNat_eq_natCast]; omega
    | negSucc m =>
      refine pick fun h => ?_
      rw [Nat.blt_eq] at h
      rw [IntKind.wrap_i64]; simp only [Int.negSucc_eq]; omega
  case u8 =>
    cases x with
    | ofNat m =>
      refine pick fun h => ?_
      rw [Nat.blt_eq] at h
      rw [IntKind.wrap_u8]; simp only [Int.ofNat_eq_natCast]; omega
    | negSucc m => rfl
  case u64 =>
    cases x with
    | ofNat m =>
      refine pick fun h => ?_
      rw [Nat.blt_eq] at h
      rw [IntKind.wrap_u64]; simp only [Int.ofNat_eq_natCast]; omega
    | negSucc m => rfl
theorem bifq_inv {b : Bool} {t : AR} (h : bifq b t none = some r) : b = true := by
  cases b with
  | true => rfl
  | false => cases h
theorem intopq_spec {op : BinOp} {k j : IntKind} {a b : Int} {κ : AV → AR} (h : intopq op k j a b κ = some r) : ∃ v, eint op k j a b = some v ∧ ∀ κ', intopq op k j a b κ' = κ' v := by
  have slow : ∀ {op}, slowI op k j a b κ = some r → ∃ v, eint op k j a b = some v ∧ ∀ κ', slowI op k j a b κ' = κ' v := fun {op} h => by
    obtain ⟨v, hv⟩ := optq_inv h
    exact ⟨v, hv, fun κ' => by unfold slowI; rw [hv]; rfl⟩
  have cmp : ∀ {f : Int → Int → Bool}, cmpq f k j a b κ = some r → k = j ∧ ∀ κ', cmpq f k j a b κ' = κ' (.bool (f a b)) := fun {f} h => by
    have hb := bifq_inv h
    refine ⟨by rw [kindq_eq] at hb; simpa using hb, fun κ' => ?_⟩
    unfold cmpq; rw [hb]; rfl
  cases op <;> first | exact slow h | skip
  case add =>
    have hb := bifq_inv h
    have hk : k = j := by rw [kindq_eq] at hb; simpa using hb
    refine ⟨.int k (wrapq k (Int.add a b)), ?_, fun κ' => ?_⟩
    · simp only [eint, if_pos hk, wrapq_eq]; rfl
    · show addq k j a b κ' = _
      unfold addq; rw [hb]; rfl
  case sub =>
    have hb := bifq_inv h
    have hk : k = j := by rw [kindq_eq] at hb; simpa using hb
    refine ⟨.int k (wrapq k (Int.sub a b)), ?_, fun κ' => ?_⟩
    · simp only [eint, if_pos hk, wrapq_eq]; rfl
    · show subq k j a b κ' = _
      unfold subq; rw [hb]; rfl
  case eql =>
    obtain ⟨hk, h2⟩ := cmp (f := eqq) h
    exact ⟨_, by simp only [eint, if_pos hk, eqq_eq], h2⟩
  case neq =>
    obtain ⟨hk, h2⟩ := cmp (f := fun a b => notq (eqq a b)) h
    exact ⟨_, by simp only [eint, if_pos hk, eqq_eq, notq_eq], h2⟩
  case lss =>
    obtain ⟨hk, h2⟩ := cmp (f := ltq) h
    exact ⟨_, by simp only [eint, if_pos hk, ltq_eq], h2⟩
  case leq =>
    obtain ⟨hk, h2⟩ := cmp (f := fun a b => notq (ltq b a)) h
    refine ⟨_, ?_, h2⟩
    simp only [eint, if_pos hk, ltq_eq, notq_eq]
    congr 2; rw [Bool.eq_iff_iff]; simp
  case gtr =>
    obtain ⟨hk, h2⟩ := cmp (f := fun a b => ltq b a) h
    exact ⟨_, by simp only [eint, if_pos hk, ltq_eq], h2⟩
  case geq =>
    obtain ⟨hk, h2⟩ := cmp (f := fun a b => notq (ltq a b)) h
    refine ⟨_, ?_, h2⟩
    simp only [eint, if_pos hk, ltq_eq, notq_eq]
    congr 2; rw [Bool.eq_iff_iff]; simp

/-! ### operations -/
/-- What a call yields does not hang on what follows. -/
def CQN (call : CQ) : Prop := ∀ f args H n κ r, call f args H n κ = some r → ∃ v H' n', ∀ κ', call f args H n κ' = κ' v H' n'
theorem estep_noCall {P : Program} {c : AC} {o : Op} {y : AV × AH × Nat} (h : estep P noCall o σ H n = some y) : estep P c o σ H n = some y := by
  cases o <;> try exact h
  case makeMap t x => cases x <;> exact h
  case call cl =>
    obtain ⟨callee, args, ats⟩ := cl
    cases callee with
    | value f =>
      simp only [estep] at h
      split at h <;> cases h
    | invoke _ _ => exact h
    | builtin b => cases b <;> exact h
theorem slowS_spec {o : Op} {κ : KA} (h : slowS o call σ H n κ = some r) : ∃ v H' n', estep Try.prog (callA call) o σ H n = some (v, H', n') ∧ ∀ κ', slowS o call σ H n κ' = κ' v H' n' := by
  obtain ⟨⟨v, H', n'⟩, hy⟩ := optq_inv h
  refine ⟨v, H', n', estep_noCall hy, fun κ' => ?_⟩
  unfold slowS; rw [hy]; rfl
theorem pure_spec {o : Op} {v : AV} (hs : loudOp o = false) (h : epure Try.prog o σ H = some v) : estep Try.prog (callA call) o σ H n = some (v, H, n) := estep_pure hs h
theorem loadL_spec {t : TypeId} {l : List AV} {o : Nat} {κ : AV → AR} (h : loadL l o (loadKind t) κ = some r) : ∃ v, (match tyAgg Try.prog t with
      | some false => nth l o
      | some true => (match tySize Try.prog t with
        | some n => (subL l o n).map .agg
        | none => none)
      | none => none) = some v ∧ ∀ κ', loadL l o (loadKind t) κ' = κ' v := by
  unfold loadKind at h ⊢
  cases hg : tyAgg Try.prog t with
  | none => rw [hg] at h; cases h
  | some q =>
    rw [hg] at h
    cases q with
    | false =>
      have h : nthq l o κ = some r := h
      obtain ⟨v, h1, h2⟩ := nthq_inv h
      exact ⟨v, h1, h2⟩
    | true =>
      dsimp only at h ⊢
      cases hz : tySize Try.prog t with
      | none => rw [hz] at h; cases h
      | some m =>
        rw [hz] at h
        have h : optq (subL l o m) (fun x => κ (.agg x)) = some r := h
        obtain ⟨x, hx⟩ := optq_inv h
        refine ⟨.agg x, by dsimp only; rw [hx]; rfl, fun κ' => ?_⟩
        show optq (subL l o m) (fun x => κ' (.agg x)) = _
        rw [hx]; rfl
theorem set1q_spec {v : AV} : ∀ {l : List AV} {o : Nat} {k : List AV → AR}, set1q l o v k = some r → ∃ l', setL l o [v] = some l' ∧ ∀ k', set1q l o v k' = k' l'
  | [], o, k, h => by cases h
  | y :: t, 0, k, h => ⟨v :: t, by simp only [setL]; cases t <;> rfl, fun _ => rfl⟩
  | y :: t, o + 1, k, h => by
    have h : set1q t o v (fun x => k (y :: x)) = some r := h
    obtain ⟨l', h1, h2⟩ := set1q_spec h
    refine ⟨y :: l', by simp only [setL, h1]; rfl, fun k' => ?_⟩
    show set1q t o v (fun x => k' (y :: x)) = _
    rw [h2]
theorem cellOneq_spec {v : AV} (h : cellOneq v = true) : v.cells = [v] ∧ okC v = true ∧ one1 v = true := by
  cases v <;> first | exact ⟨rfl, rfl, rfl⟩ | cases h
set_option maxRecDepth 20000 in
theorem storeS_spec {t : TypeId} {a x : Operand} {κ : KA} (h : storeS t a x call σ H n κ = some r) : ∃ v H' n', estep Try.prog (callA call) (.store t a x) σ H n = some (v, H', n') ∧ ∀ κ', storeS t a x call σ H n κ' = κ' v H' n' := by
  show ∃ v H' n', estore Try.prog t (eev σ a) (eev σ x) H n = some (v, H', n') ∧ _
  unfold storeS at h ⊢
  cases hc : (Bool.rec false (cellOneq (evq x σ)) (sizeOne t) : Bool) with
  | false =>
    rw [hc] at h
    obtain ⟨⟨v, H', n'⟩, hy⟩ := optq_inv h
    refine ⟨v, H', n', by rw [← evq_eq, ← evq_eq]; exact hy, fun κ' => ?_⟩
    show optq _ (pairK κ') = _
    rw [hy]; rfl
  | true =>
    rw [hc] at h
    have hs : sizeOne t = true := by cases hz : sizeOne t with
      | true => rfl
      | false => rw [hz] at hc; cases hc
    rw [hs] at hc
    have hc : cellOneq (evq x σ) = true := hc
    obtain ⟨c1, c2, c3⟩ := cellOneq_spec hc
    have hsz : tySize Try.prog t = some 1 := by
      unfold sizeOne at hs
      split at hs
      · assumption
      · cases hs
    have h : ptrq (evq a σ) (fun b o => cellsq (H.get b) fun l z => set1q l o (evq x σ) fun x => κ undefA (H.set (some (.cells x z)) depthH b) n) = some r := h
    obtain ⟨b, o, hp⟩ := ptrq_inv h
    rw [hp] at h
    have h : cellsq (H.get b) (fun l z => set1q l o (evq x σ) fun x => κ undefA (H.set (some (.cells x z)) depthH b) n) = some r := h
    obtain ⟨l, z, hl⟩ := cellsq_inv h
    rw [hl] at h
    have h : set1q l o (evq x σ) (fun x => κ undefA (H.set (some (.cells x z)) depthH b) n) = some r := h
    obtain ⟨l', s1, s2⟩ := set1q_spec h
    refine ⟨undefA, H.set (some (.cells l' z)) depthH b, n, ?_, fun κ' => ?_⟩
    · rw [← evq_eq, ← evq_eq, hp]
      simp only [estore, hl, hsz, c1, c2, s1]
      simp [c3]
    · show ptrq (evq a σ) _ = _
      rw [hp]
      show cellsq (H.get b) _ = _
      rw [hl]
      exact s2 _
theorem nilQ_inv {a : AV} {k : AV → AR} (h : nilQ a k = some r) : (∃ b o, a = .ptr b o) ∨ ∃ f b c, a = .fn f b c := by
  cases a <;> first | exact .inl ⟨_, _, rfl⟩ | exact .inr ⟨_, _, _, rfl⟩ | cases h
set_option maxRecDepth 20000 in
theorem stepq_spec (hc : CQN call) {o : Op} {κ : KA} (h : stepq o call σ H n κ = some r) : ∃ v H' n', estep Try.prog (callA call) o σ H n = some (v, H', n') ∧ ∀ κ', stepq o call σ H n κ' = κ' v H' n' := by
  cases o <;> first | exact slowS_spec h | skip
  case move x => exact ⟨eev σ x, H, n, rfl, fun κ' => by rw [← evq_eq]; rfl⟩
  case assign x => exact ⟨eev σ x, H, n, rfl, fun κ' => by rw [← evq_eq]; rfl⟩
  case pick c a b =>
    have h : pickS c a b call σ H n κ = some r := h
    unfold pickS at h
    obtain ⟨q, hq⟩ := boolq_inv h
    have key : ∀ κ', stepq (.pick c a b) call σ H n κ' = (Bool.rec (κ' (evq b σ) H n) (κ' (evq a σ) H n) q : AR) := fun κ' => by
      show pickS c a b call σ H n κ' = _
      unfold pickS; rw [hq]; rfl
    cases q with
    | true => exact ⟨eev σ a, H, n, pure_spec rfl (by simp only [epure, ← evq_eq c, hq]), fun κ' => by rw [key, ← evq_eq]⟩
    | false => exact ⟨eev σ b, H, n, pure_spec rfl (by simp only [epure, ← evq_eq c, hq]), fun κ' => by rw [key, ← evq_eq]⟩
  case load t a =>
    have h : ptrq (evq a σ) (fun b o => cellsq (H.get b) fun l _ => loadL l o (loadKind t) fun v => κ v H n) = some r := h
    obtain ⟨b, o, hp⟩ := ptrq_inv h
    rw [hp] at h
    have h : cellsq (H.get b) (fun l _ => loadL l o (loadKind t) fun v => κ v H n) = some r := h
    obtain ⟨l, z, hl⟩ := cellsq_inv h
    rw [hl] at h
    have h : loadL l o (loadKind t) (fun v => κ v H n) = some r := h
    obtain ⟨v, h1, h2⟩ := loadL_spec h
    refine ⟨v, H, n, pure_spec rfl ?_, fun κ' => ?_⟩
    · simp only [epure, ← evq_eq, hp, eload, hl]; exact h1
    · show ptrq (evq a σ) _ = _
      rw [hp]
      show cellsq (H.get b) _ = _
      rw [hl]
      exact h2 _
  case store t a x => exact storeS_spec h
  case nilCheck x =>
    have h : nilQ (evq x σ) (fun v => κ v H n) = some r := h
    rcases nilQ_inv h with ⟨b, o, hp⟩ | ⟨f, b, c, hp⟩
    · exact ⟨.ptr b o, H, n, pure_spec rfl (by simp only [epure, ← evq_eq, hp]), fun κ' => by
        show nilQ (evq x σ) _ = _
        rw [hp]; rfl⟩
    · exact ⟨.fn f b c, H, n, pure_spec rfl (by simp only [epure, ← evq_eq, hp]), fun κ' => by
        show nilQ (evq x σ) _ = _
        rw [hp]; rfl⟩
  case binOp op t x y t' =>
    have h : intq (evq x σ) (fun k a => intq (evq y σ) (fun j b => intopq op k j a b fun v => κ v H n) none) (optq (ebin Try.prog op t (evq x σ) (evq y σ) H) fun v => κ v H n) = some r := h
    have e0 : ∀ v, ebin Try.prog op t (evq x σ) (evq y σ) H = some v → estep Try.prog (callA call) (.binOp op t x y t') σ H n = some (v, H, n) := fun v hv => pure_spec rfl (by simp only [epure, ← evq_eq]; exact hv)
    rcases intq_cases (evq x σ) with ⟨k, i, hx⟩ | hx
    · rw [hx] at h
      have h : intq (evq y σ) (fun j b => intopq op k j i b fun v => κ v H n) none = some r := h
      rcases intq_cases (evq y σ) with ⟨j, i2, hy⟩ | hy
      · rw [hy] at h
        have h : intopq op k j i i2 (fun v => κ v H n) = some r := h
        obtain ⟨v, h1, h2⟩ := intopq_spec h
        refine ⟨v, H, n, e0 v (by rw [hx, hy]; exact h1), fun κ' => ?_⟩
        show intq (evq x σ) _ _ = _
        rw [hx]
        show intq (evq y σ) _ _ = _
        rw [hy]
        exact h2 _
      · rw [hy] at h; cases h
    · rw [hx] at h
      obtain ⟨v, hv⟩ := optq_inv h
      refine ⟨v, H, n, e0 v hv, fun κ' => ?_⟩
      show intq (evq x σ) _ _ = _
      rw [hx, hv]; rfl
  case unOp op t x =>
    have h : optq (eun op (evq x σ)) (fun v => κ v H n) = some r := h
    obtain ⟨v, hv⟩ := optq_inv h
    refine ⟨v, H, n, pure_spec rfl (by simp only [epure, ← evq_eq]; exact hv), fun κ' => ?_⟩
    show optq (eun op (evq x σ)) _ = _
    rw [hv]; rfl
  case fieldAddr s x i =>
    have h : ptrq (evq x σ) (fun b o => optq (tyField Try.prog s i) fun p => κ (.ptr b (Nat.add o p.2)) H n) = some r := h
    obtain ⟨b, o, hp⟩ := ptrq_inv h
    rw [hp] at h
    have h : optq (tyField Try.prog s i) (fun p => κ (.ptr b (Nat.add o p.2)) H n) = some r := h
    obtain ⟨⟨t, off⟩, ht⟩ := optq_inv h
    refine ⟨.ptr b (o + off), H, n, pure_spec rfl (by simp only [epure, ← evq_eq, hp, efieldAddr, ht]), fun κ' => ?_⟩
    show ptrq (evq x σ) _ = _
    rw [hp]
    show optq (tyField Try.prog s i) _ = _
    rw [ht]; rfl
  case indexAddr t x ix =>
    have h : optq (eindexAddr Try.prog t (evq x σ) (evq ix σ)) (fun v => κ v H n) = some r := h
    obtain ⟨v, hv⟩ := optq_inv h
    refine ⟨v, H, n, pure_spec rfl (by simp only [epure, ← evq_eq]; exact hv), fun κ' => ?_⟩
    show optq (eindexAddr Try.prog t (evq x σ) (evq ix σ)) _ = _
    rw [hv]; rfl
  case extract x i =>
    have h : tupq (evq x σ) (fun l => nthq l i fun v => κ v H n) = some r := h
    obtain ⟨l, hl⟩ := tupq_inv h
    rw [hl] at h
    have h : nthq l i (fun v => κ v H n) = some r := h
    obtain ⟨v, h1, h2⟩ := nthq_inv h
    refine ⟨v, H, n, pure_spec rfl (by simp only [epure, ← evq_eq, hl, eextract]; exact h1), fun κ' => ?_⟩
    show tupq (evq x σ) _ = _
    rw [hl]
    exact h2 _
  case call c =>
    obtain ⟨callee, args, ats⟩ := c
    cases callee with
    | invoke _ _ => cases h
    | builtin b => exact slowS_spec (o := .call ⟨.builtin b, args, ats⟩) h
    | value f =>
      have h : fnq (evq f σ) (fun g a cs => call g (a ++ (evsq args.toList σ ++ cs)) H n κ) = some r := h
      obtain ⟨g, a, cs, hf⟩ := fnq_inv h
      rw [hf] at h
      have h : call g (a ++ (evsq args.toList σ ++ cs)) H n κ = some r := h
      obtain ⟨v, H', n', hv⟩ := hc _ _ _ _ _ _ h
      refine ⟨v, H', n', ?_, fun κ' => ?_⟩
      · simp only [estep, ← evq_eq, hf, callA]
        rw [List.append_assoc]
        have e : args.toList.map (fun x => evq x σ) = evsq args.toList σ := by
          rw [evsq_eq]; exact List.map_congr_left fun x _ => evq_eq x σ
        first
          | (rw [e, hv]; rfl)
          | (rw [← evsq_eq, hv]; rfl)
      · show fnq (evq f σ) _ = _
        rw [hf]
        exact hv κ'
theorem doq_spec (hc : CQN call) {o : Op} {d : Option Nat} {k : KS} (h : doq o d call σ H n k = some r) : ∃ v H' n', estep Try.prog (callA call) o σ H n = some (v, H', n') ∧ ∀ k', doq o d call σ H n k' = k' (putq d v σ) H' n' := by
  have h : stepq o call σ H n (fun v H n => k (putq d v σ) H n) = some r := h
  obtain ⟨v, H', n', h1, h2⟩ := stepq_spec hc h
  exact ⟨v, H', n', h1, fun k' => h2 _⟩
theorem gvalq_inv {a : AV} {want : Bool} {d s : AR} (h : gvalq a want d s = some r) : (∃ q, a = .bool q) ∨ ∃ l, a = .tup l := by
  cases a <;> first | exact .inl ⟨_, rfl⟩ | exact .inr ⟨_, rfl⟩ | cases h
theorem oneq_spec (hc : CQN call) {ops : Array Oper} {o : Oper} {k : KS} (h : oneq ops o call σ H n k = some r) : ∃ σ1 H1 n1, (∀ k', oneq ops o call σ H n k' = k' σ1 H1 n1) ∧ ∀ kk : AE → AH → Nat → AS, eop Try.prog (callA call) ops o kk σ H n = kk σ1 H1 n1 := by
  unfold oneq at h ⊢
  unfold eop
  cases hg : o.guard with
  | none =>
    rw [hg] at h
    obtain ⟨v, H', n', h1, h2⟩ := doq_spec hc h
    exact ⟨_, _, _, h2, fun kk => by simp only [h1, eput]⟩
  | some g =>
    obtain ⟨j, want⟩ := g
    rw [hg] at h
    have h : optq (gslot ops j) (fun t => gvalq (getq (pa t) σ) want (doq o.op o.dst call σ H n k) (k (putq o.dst undefA σ) H n)) = some r := h
    obtain ⟨t, ht⟩ := optq_inv h
    rw [ht] at h
    have h : gvalq (getq (pa t) σ) want (doq o.op o.dst call σ H n k) (k (putq o.dst undefA σ) H n) = some r := h
    simp only [ht]
    rcases gvalq_inv h with ⟨q, hq⟩ | ⟨l, hq⟩
    · rw [hq] at h
      by_cases hw : q = want
      · subst hw
        have h : doq o.op o.dst call σ H n k = some r := by cases q <;> exact h
        obtain ⟨v, H', n', h1, h2⟩ := doq_spec hc h
        refine ⟨putq o.dst v σ, H', n', fun k' => ?_, fun kk => ?_⟩
        · show gvalq (getq (pa t) σ) _ _ _ = _
          rw [hq]; refine Eq.trans ?_ (h2 k'); cases q <;> rfl
        · simp only [hq, beq_self_eq_true, h1, eput]
      · refine ⟨putq o.dst undefA σ, H, n, fun k' => ?_, fun kk => ?_⟩
        · show gvalq (getq (pa t) σ) _ _ _ = _
          rw [hq]; cases q <;> cases want <;> first | rfl | exact absurd rfl hw
        · have : (q == want) = false := by simpa using hw
          simp only [hq, this, eput]
    · refine ⟨putq o.dst undefA σ, H, n, fun k' => ?_, fun kk => ?_⟩
      · show gvalq (getq (pa t) σ) _ _ _ = _
        rw [hq]; rfl
      · simp only [hq, eput]
theorem opsq_spec (hc : CQN call) {ops : Array Oper} : ∀ {l : List Oper} {σ : AE} {H : AH} {n : Nat} {k : KS}, opsq ops l call σ H n k = some r → ∃ σ' H' n', eops Try.prog (callA call) ops l σ H n = some (.norm, σ', H', n') ∧ ∀ k', opsq ops l call σ H n k' = k' σ' H' n'
  | [], σ, H, n, k, h => ⟨σ, H, n, rfl, fun _ => rfl⟩
  | o :: l, σ, H, n, k, h => by
    have h : oneq ops o call σ H n (fun σ H n => opsq ops l call σ H n k) = some r := h
    obtain ⟨σ1, H1, n1, h1, h2⟩ := oneq_spec hc h
    rw [h1] at h
    obtain ⟨σ', H', n', h3, h4⟩ := opsq_spec hc h
    refine ⟨σ', H', n', ?_, fun k' => ?_⟩
    · show eop Try.prog (callA call) ops o (eops Try.prog (callA call) ops l) σ H n = _
      rw [h2]; exact h3
    · show oneq ops o call σ H n (fun σ H n => opsq ops l call σ H n k') = _
      rw [h1, h4]

/-! ### code -/
theorem execB_mono {P : Program} {c : AC} {ih ih' : Code → AE → AH → Nat → AS} (hi : ∀ c σ H n y, ih c σ H n = some y → ih' c σ H n = some y) (cd : Code) (σ : AE) (H : AH) (n : Nat) (y : EX × AE × AH × Nat) (h : execB P c ih cd σ H n = some y) : execB P c ih' cd σ H n = some y := by
  cases cd <;> simp only [execB] at h ⊢ <;> try exact h
  case scope b => exact hi _ _ _ _ _ h
  case seq a b =>
    split at h
    · rename_i σ1 H1 n1 e1
      rw [hi _ _ _ _ _ e1]
      exact hi _ _ _ _ _ h
    · rename_i hne
      rw [hi _ _ _ _ _ h]
      obtain ⟨e, σ1, H1, n1⟩ := y
      cases e with
      | norm => exact (hne _ _ _ h).elim
      | ret => rfl
      | exit i => rfl
  case cond cd a b =>
    split at h
    · exact hi _ _ _ _ _ h
    · exact hi _ _ _ _ _ h
    · cases h
  case block id b =>
    split at h
    · rename_i i σ1 H1 n1 e1
      rw [hi _ _ _ _ _ e1]
      exact h
    · rename_i hne
      rw [hi _ _ _ _ _ h]
      obtain ⟨e, σ1, H1, n1⟩ := y
      cases e with
      | norm => rfl
      | ret => rfl
      | exit i => exact (hne _ _ _ _ h).elim
  case loop b =>
    split at h
    · rename_i σ1 H1 n1 e1
      rw [hi _ _ _ _ _ e1]
      exact hi _ _ _ _ _ h
    · rename_i hne
      rw [hi _ _ _ _ _ h]
      obtain ⟨e, σ1, H1, n1⟩ := y
      cases e with
      | norm => exact (hne _ _ _ h).elim
      | ret => rfl
      | exit i => rfl
theorem exec_succ {P : Program} {c : AC} : ∀ (f : Nat) (cd : Code) (σ : AE) (H : AH) (n : Nat) (y : EX × AE × AH × Nat), exec P c f cd σ H n = some y → exec P c (f + 1) cd σ H n = some y
  | 0, _, _, _, _, _, h => by cases h
  | f + 1, cd, σ, H, n, y, h => by
    have h : execB P c (exec P c f) cd σ H n = some y := h
    exact execB_mono (exec_succ f) cd σ H n y h
theorem exec_le {P : Program} {c : AC} {f g : Nat} (hle : f ≤ g) {cd : Code} {y : EX × AE × AH × Nat} (h : exec P c f cd σ H n = some y) : exec P c g cd σ H n = some y := by
  induction hle with
  | refl => exact h
  | step _ ih => exact exec_succ _ _ _ _ _ _ ih
def contE (kn : KS) (kx : Nat → KS) (kr : KS) : EX → KS
  | .norm => kn
  | .exit i => kx i
  | .ret => kr
def XSpec (b : XQ) (c : Code) (call : CQ) : Prop := ∀ (σ : AE) (H : AH) (n : Nat) (kn : KS) (kx : Nat → KS) (kr : KS) (r : AV × AH × Nat), b call σ H n kn kx kr = some r →
  ∃ e σ' H' n', (∃ f, exec Try.prog (callA call) f c σ H n = some (e, σ', H', n')) ∧ ∀ kn kx kr, b call σ H n kn kx kr = contE kn kx kr e σ' H' n'
theorem execq_spec (hc : CQN call) (c : Code) : XSpec (execq c) c call := by
  induction c with
  | skip => exact fun σ H n kn kx kr r h => ⟨.norm, σ, H, n, ⟨1, rfl⟩, fun _ _ _ => rfl⟩
  | region id ops draw =>
    intro σ H n kn kx kr r h
    cases hd : draw with
    | false =>
      subst hd
      have h : opsq ops ops.toList call σ H n kn = some r := h
      obtain ⟨σ', H', n', h1, h2⟩ := opsq_spec hc h
      exact ⟨.norm, σ', H', n', ⟨1, h1⟩, fun kn kx kr => h2 kn⟩
    | true =>
      subst hd
      have red : ∀ kn kx kr, execq (.region id ops true) call σ H n kn kx kr = (Bool.rec (dynq ops) (fun call σ H n kn _ _ => opsq ops ops.toList call σ H n kn) (swapB Try.prog ops) : XQ) call σ H n kn kx kr := fun _ _ _ => rfl
      cases hs : swapB Try.prog ops with
      | true =>
        rw [red, hs] at h
        have h : opsq ops ops.toList call σ H n kn = some r := h
        obtain ⟨σ', H', n', h1, h2⟩ := opsq_spec hc h
        refine ⟨.norm, σ', H', n', ⟨1, ?_⟩, fun kn kx kr => ?_⟩
        · show execB Try.prog (callA call) (exec Try.prog (callA call) 0) (.region id ops true) σ H n = _
          simp only [execB, hs, Bool.not_true, Bool.and_false]; exact h1
        · rw [red, hs]; exact h2 kn
      | false =>
        rw [red, hs] at h
        have h : optq (edyn Try.prog (callA call) ops σ H n) (fun y => kn y.2.1 y.2.2.1 y.2.2.2) = some r := h
        obtain ⟨⟨e, σ', H', n'⟩, hy⟩ := optq_inv h
        have he : e = .norm := by
          unfold edyn at hy
          split at hy
          · split at hy
            · injection hy with hy; injection hy with hy; exact hy.symm
            · cases hy
          · cases hy
        subst he
        refine ⟨.norm, σ', H', n', ⟨1, ?_⟩, fun kn kx kr => ?_⟩
        · show execB Try.prog (callA call) (exec Try.prog (callA call) 0) (.region id ops true) σ H n = _
          simp only [execB, hs, Bool.not_false, Bool.and_true]; exact hy
        · rw [red, hs]
          show optq (edyn Try.prog (callA call) ops σ H n) _ = _
          rw [hy]; rfl
  | seq a b iha ihb =>
    intro σ H n kn kx kr r h
    have h : execq a call σ H n (fun σ H n => execq b call σ H n kn kx kr) kx kr = some r := h
    obtain ⟨e, σ1, H1, n1, ⟨f1, h1⟩, h2⟩ := iha _ _ _ _ _ _ _ h
    have red : ∀ kn kx kr, execq (.seq a b) call σ H n kn kx kr = contE (fun σ H n => execq b call σ H n kn kx kr) kx kr e σ1 H1 n1 := fun kn kx kr => h2 _ _ _
    rw [h2] at h
    cases e with
    | norm =>
      have h : execq b call σ1 H1 n1 kn kx kr = some r := h
      obtain ⟨e', σ', H', n', ⟨f2, h3⟩, h4⟩ := ihb _ _ _ _ _ _ _ h
      refine ⟨e', σ', H', n', ⟨max f1 f2 + 1, ?_⟩, fun kn kx kr => (red kn kx kr).trans (h4 kn kx kr)⟩
      show execB Try.prog (callA call) (exec Try.prog (callA call) (max f1 f2)) (.seq a b) σ H n = _
      simp only [execB, exec_le (Nat.le_max_left f1 f2) h1, exec_le (Nat.le_max_right f1 f2) h3]
    | ret =>
      refine ⟨.ret, σ1, H1, n1, ⟨f1 + 1, ?_⟩, fun kn kx kr => red kn kx kr⟩
      show execB Try.prog (callA call) (exec Try.prog (callA call) f1) (.seq a b) σ H n = _
      simp only [execB, h1]
    | exit i =>
      refine ⟨.exit i, σ1, H1, n1, ⟨f1 + 1, ?_⟩, fun kn kx kr => red kn kx kr⟩
      show execB Try.prog (callA call) (exec Try.prog (callA call) f1) (.seq a b) σ H n = _
      simp only [execB, h1]
  | cond cd a b iha ihb =>
    intro σ H n kn kx kr r h
    have h : boolq (evq cd σ) (fun q => (Bool.rec (execq b call σ H n kn kx kr) (execq a call σ H n kn kx kr) q : AR)) = some r := h
    obtain ⟨q, hq⟩ := boolq_inv h
    rw [hq] at h
    have red : ∀ kn kx kr, execq (.cond cd a b) call σ H n kn kx kr = (Bool.rec (execq b call σ H n kn kx kr) (execq a call σ H n kn kx kr) q : AR) := fun kn kx kr => by
      show boolq (evq cd σ) _ = _
      rw [hq]; rfl
    cases q with
    | true =>
      obtain ⟨e, σ1, H1, n1, ⟨f1, h1⟩, h2⟩ := iha _ _ _ _ _ _ _ h
      refine ⟨e, σ1, H1, n1, ⟨f1 + 1, ?_⟩, fun kn kx kr => (red kn kx kr).trans (h2 kn kx kr)⟩
      show execB Try.prog (callA call) (exec Try.prog (callA call) f1) (.cond cd a b) σ H n = _
      simp only [execB, ← evq_eq, hq, h1]
    | false =>
      obtain ⟨e, σ1, H1, n1, ⟨f1, h1⟩, h2⟩ := ihb _ _ _ _ _ _ _ h
      refine ⟨e, σ1, H1, n1, ⟨f1 + 1, ?_⟩, fun kn kx kr => (red kn kx kr).trans (h2 kn kx kr)⟩
      show execB Try.prog (callA call) (exec Try.prog (callA call) f1) (.cond cd a b) σ H n = _
      simp only [execB, ← evq_eq, hq, h1]
  | block id b ih =>
    intro σ H n kn kx kr r h
    have h : execq b call σ H n kn (fun i σ H n => (Bool.rec (kx i σ H n) (kn σ H n) (Nat.beq i id) : AR)) kr = some r := h
    obtain ⟨e, σ1, H1, n1, ⟨f1, h1⟩, h2⟩ := ih _ _ _ _ _ _ _ h
    have red : ∀ kn kx kr, execq (.block id b) call σ H n kn kx kr = contE kn (fun i σ H n => (Bool.rec (kx i σ H n) (kn σ H n) (Nat.beq i id) : AR)) kr e σ1 H1 n1 := fun kn kx kr => h2 _ _ _
    cases e with
    | norm =>
      refine ⟨.norm, σ1, H1, n1, ⟨f1 + 1, ?_⟩, fun kn kx kr => red kn kx kr⟩
      show execB Try.prog (callA call) (exec Try.prog (callA call) f1) (.block id b) σ H n = _
      simp only [execB, h1]
    | ret =>
      refine ⟨.ret, σ1, H1, n1, ⟨f1 + 1, ?_⟩, fun kn kx kr => red kn kx kr⟩
      show execB Try.prog (callA call) (exec Try.prog (callA call) f1) (.block id b) σ H n = _
      simp only [execB, h1]
    | exit i =>
      cases hb : Nat.beq i id with
      | true =>
        refine ⟨.norm, σ1, H1, n1, ⟨f1 + 1, ?_⟩, fun kn kx kr => (red kn kx kr).trans (by simp only [contE, hb])⟩
        show execB Try.prog (callA call) (exec Try.prog (callA call) f1) (.block id b) σ H n = _
        simp only [execB, h1, hb]
      | false =>
        refine ⟨.exit i, σ1, H1, n1, ⟨f1 + 1, ?_⟩, fun kn kx kr => (red kn kx kr).trans (by simp only [contE, hb])⟩
        show execB Try.prog (callA call) (exec Try.prog (callA call) f1) (.block id b) σ H n = _
        simp only [execB, h1, hb]
  | loop b ih =>
    have key : ∀ F, XSpec (loopq (execq b) F) (.loop b) call := by
      intro F
      induction F with
      | zero => intro σ H n kn kx kr r h; cases h
      | succ F ihF =>
        intro σ H n kn kx kr r h
        have h : execq b call σ H n (fun σ H n => loopq (execq b) F call σ H n kn kx kr) kx kr = some r := h
        obtain ⟨e, σ1, H1, n1, ⟨f1, h1⟩, h2⟩ := ih _ _ _ _ _ _ _ h
        have red : ∀ kn kx kr, loopq (execq b) (F + 1) call σ H n kn kx kr = contE (fun σ H n => loopq (execq b) F call σ H n kn kx kr) kx kr e σ1 H1 n1 := fun kn kx kr => h2 _ _ _
        rw [h2] at h
        cases e with
        | norm =>
          have h : loopq (execq b) F call σ1 H1 n1 kn kx kr = some r := h
          obtain ⟨e', σ', H', n', ⟨f2, h3⟩, h4⟩ := ihF _ _ _ _ _ _ _ h
          refine ⟨e', σ', H', n', ⟨max f1 f2 + 1, ?_⟩, fun kn kx kr => (red kn kx kr).trans (h4 kn kx kr)⟩
          show execB Try.prog (callA call) (exec Try.prog (callA call) (max f1 f2)) (.loop b) σ H n = _
          simp only [execB, exec_le (Nat.le_max_left f1 f2) h1, exec_le (Nat.le_max_right f1 f2) h3]
        | ret =>
          refine ⟨.ret, σ1, H1, n1, ⟨f1 + 1, ?_⟩, fun kn kx kr => red kn kx kr⟩
          show execB Try.prog (callA call) (exec Try.prog (callA call) f1) (.loop b) σ H n = _
          simp only [execB, h1]
        | exit i =>
          refine ⟨.exit i, σ1, H1, n1, ⟨f1 + 1, ?_⟩, fun kn kx kr => red kn kx kr⟩
          show execB Try.prog (callA call) (exec Try.prog (callA call) f1) (.loop b) σ H n = _
          simp only [execB, h1]
    exact fun σ H n kn kx kr r h => key fuelE σ H n kn kx kr r h
  | exit i => exact fun σ H n kn kx kr r h => ⟨.exit i, σ, H, n, ⟨1, rfl⟩, fun _ _ _ => rfl⟩
  | ret => exact fun σ H n kn kx kr r h => ⟨.ret, σ, H, n, ⟨1, rfl⟩, fun _ _ _ => rfl⟩
  | label l => exact fun σ H n kn kx kr r h => ⟨.norm, σ, H, n, ⟨1, rfl⟩, fun _ _ _ => rfl⟩
  | scope b ih =>
    intro σ H n kn kx kr r h
    have h : execq b call σ H n kn kx kr = some r := h
    obtain ⟨e, σ1, H1, n1, ⟨f1, h1⟩, h2⟩ := ih _ _ _ _ _ _ _ h
    exact ⟨e, σ1, H1, n1, ⟨f1 + 1, h1⟩, fun kn kx kr => h2 kn kx kr⟩
  | _ => intro σ H n kn kx kr r h; cases h

/-! ### functions -/
theorem resq_spec : ∀ {rs : List ResultVar} {σ : AE} {H : AH} {k : List AV → AR}, resq rs σ H k = some r → ∃ vs, eres Try.prog σ H rs = some vs ∧ ∀ k', resq rs σ H k' = k' vs
  | [], σ, H, k, h => ⟨[], rfl, fun _ => rfl⟩
  | .tmp t :: rs, σ, H, k, h => by
    have h : resq rs σ H (fun vs => k (getq (pa t) σ :: vs)) = some r := h
    obtain ⟨vs, h1, h2⟩ := resq_spec h
    refine ⟨getq (pa t) σ :: vs, by simp only [eres, h1]; rfl, fun k' => ?_⟩
    show resq rs σ H (fun vs => k' (getq (pa t) σ :: vs)) = _
    rw [h2]
  | .cell a t :: rs, σ, H, k, h => by
    have h : optq (eload Try.prog t (getq (pa a) σ) H) (fun v => resq rs σ H fun vs => k (v :: vs)) = some r := h
    obtain ⟨v, hv⟩ := optq_inv h
    rw [hv] at h
    have h : resq rs σ H (fun vs => k (v :: vs)) = some r := h
    obtain ⟨vs, h1, h2⟩ := resq_spec h
    refine ⟨v :: vs, by simp only [eres, show eev σ (.tmp a) = getq (pa a) σ from rfl, hv, h1]; rfl, fun k' => ?_⟩
    show optq (eload Try.prog t (getq (pa a) σ) H) (fun v => resq rs σ H fun vs => k' (v :: vs)) = _
    rw [hv]
    exact h2 _
set_option maxRecDepth 20000 in
theorem runq_spec (hc : CQN call) {c : Code} {rs : List ResultVar} {m : Nat} {args : List AV} {κ : KA} (h : runq call c rs m args H n κ = some r) :
    args.length ≤ m ∧ ∃ f e σ' H' n' vs, exec Try.prog (callA call) f c (eentry args 0 .nil) H n = some (e, σ', H', n') ∧ (∀ i, e ≠ .exit i) ∧ eres Try.prog σ' H' rs = some vs ∧ ∀ κ', runq call c rs m args H n κ' = κ' (epack vs) H' n' := by
  cases hb : Nat.ble args.length m with
  | false =>
    unfold runq at h
    rw [hb] at h; cases h
  | true =>
    have red : ∀ κ', runq call c rs m args H n κ' = execq c call (eentry args 0 .nil) H n (fun σ H n => resq rs σ H fun vs => κ' (epack vs) H n) (fun _ _ _ _ => none) (fun σ H n => resq rs σ H fun vs => κ' (epack vs) H n) := fun κ' => by
      unfold runq; rw [hb]
    rw [red] at h
    obtain ⟨e, σ', H', n', ⟨f, h1⟩, h2⟩ := execq_spec hc c _ _ _ _ _ _ _ h
    rw [h2] at h
    have hne : ∀ i, e ≠ .exit i := fun i q => by subst q; cases h
    have h : resq rs σ' H' (fun vs => κ (epack vs) H' n') = some r := by
      cases e with
      | norm => exact h
      | ret => exact h
      | exit i => exact (hne i rfl).elim
    obtain ⟨vs, h3, h4⟩ := resq_spec h
    refine ⟨Nat.le_of_ble_eq_true hb, f, e, σ', H', n', vs, h1, hne, h3, fun κ' => ?_⟩
    rw [red, h2]
    cases e with
    | norm => exact h4 _
    | ret => exact h4 _
    | exit i => exact (hne i rfl).elim
/-- A known function hands on one result. -/
def NatN (g : List AV → AH → Nat → KA → AR) : Prop := ∀ args H n κ r, g args H n κ = some r → ∃ v H' n', ∀ κ', g args H n κ' = κ' v H' n'
def TabQ (F : FuncId → EQ) : Prop := ∀ f, match F f with
  | .no => True
  | .run c rs m => fnOk Try.prog f = true ∧ ∃ fn, Try.prog.funcs[f]? = some fn ∧ fn.body = some c ∧ fn.results.toList = rs ∧ fn.ntmps = m
  | .nat g => NatN g ∧ COk Try.prog f fun args H n => g args H n topq
theorem callq_succ {F : FuncId → EQ} (d : Nat) {f : FuncId} {args : List AV} {κ : KA} : callq F (d + 1) f args H n κ = (EQ.rec (fun _ _ _ _ => none) (fun c rs k => runq (callq F d) c rs k) (fun g => g) (F f) : List AV → AH → Nat → KA → AR) args H n κ := rfl
set_option maxRecDepth 20000 in
theorem callq_CQN {F : FuncId → EQ} (hF : TabQ F) : ∀ d, CQN (callq F d)
  | 0 => fun f args H n κ r h => by cases h
  | d + 1 => fun f args H n κ r h => by
    have hf := hF f
    rw [callq_succ] at h
    simp only [callq_succ]
    cases hFf : F f with
    | no => rw [hFf] at h; cases h
    | run c rs m =>
      rw [hFf] at h
      have h : runq (callq F d) c rs m args H n κ = some r := h
      obtain ⟨_, fu, e, σ', H', n', vs, _, _, _, h4⟩ := runq_spec (callq_CQN hF d) h
      exact ⟨_, _, _, h4⟩
    | nat g =>
      rw [hFf] at h hf
      exact hf.1 args H n κ r h
set_option maxRecDepth 20000 in
theorem callq_sound {F : FuncId → EQ} (hm : Try.prog.follows .mixedOrders = true) (hF : TabQ F) : ∀ d f, COk Try.prog f (callA (callq F d) f)
  | 0, f => fun args H n v H' n' e => by cases e
  | d + 1, f => fun args H n v H' n' e φ h0 h vs K hr hargs hk => by
    have hf := hF f
    have e : callq F (d + 1) f args H n topq = some (v, H', n') := e
    rw [callq_succ] at e
    cases hFf : F f with
    | no => rw [hFf] at e; cases e
    | nat g =>
      rw [hFf] at e hf
      exact hf.2 args H n v H' n' e φ h0 h vs K hr hargs hk
    | run c rs m =>
      rw [hFf] at e hf
      have e : runq (callq F d) c rs m args H n topq = some (v, H', n') := e
      obtain ⟨hle, fu, x, σ', G, p, us, h1, h2, h3, h4⟩ := runq_spec (callq_CQN hF d) e
      rw [h4] at e
      have e : some (epack us, G, p) = some (v, H', n') := e
      injection e with e; injection e with e1 e2; injection e2 with e2 e3
      subst e1 e2 e3
      obtain ⟨hok, fn, hfn, hb, hrs, hnt⟩ := hf
      subst hrs hnt
      simp only [fnOk, hfn, hb, Bool.and_eq_true] at hok
      obtain ⟨hic, hds⟩ := hok
      have hal := hargs.length
      refine ⟨hic, callG_of hm hfn hb rfl rfl hds (by simpa [hal] using hle) fun _ => ?_⟩
      refine exec_sound (callq_sound hm hF d) h0 fu c φ _ σ' H G n p _ h x _ _ _ hr (entry_FR hargs) h1 fun ψ ρ' h' hp hr' hf' => ?_
      have fin : resK Try.prog fn.results.toList [] ρ' h' K := eres_sound hr' hf' fn.results.toList us [] h3 fun ws hws => .here (hk ψ _ h' hp hr' (by simpa using epack_VR hws))
      cases x with
      | norm => exact fin
      | ret => exact fin
      | exit i => exact (h2 i rfl).elim
set_option maxRecDepth 20000 in
theorem evQ_ok : TabQ evQ := fun f => by
  unfold evQ
  cases h : fnOkq f with
  | false => trivial
  | true =>
    show match bodyq f with
      | .no => True
      | .run c rs m => fnOk Try.prog f = true ∧ ∃ fn, Try.prog.funcs[f]? = some fn ∧ fn.body = some c ∧ fn.results.toList = rs ∧ fn.ntmps = m
      | .nat g => NatN g ∧ COk Try.prog f fun args H n => g args H n topq
    unfold bodyq
    split
    · trivial
    · rename_i c rs m hb
      split at hb
      · rename_i fn hfn
        split at hb
        · rename_i c' hc'
          injection hb with q1 q2 q3
          subst q1 q2 q3
          exact ⟨h, fn, hfn, hc', rfl, rfl⟩
        · cases hb
      · cases hb
    · rename_i g hb
      split at hb
      · split at hb <;> cases hb
      · cases hb
set_option maxRecDepth 20000 in
/-- A law that the quick machine finds true. -/
theorem evQ_calls {F : FuncId → EQ} (hF : TabQ F) {d : Nat} {f : FuncId} {args : List AV} {vs : Array Value} (hargs : VRs Ph.no args vs.toList)
    (he : isTrue (callq F d f args .nil 0 topq) = true) (w : World) : Calls Try.prog f vs w fun e w' => e = .returned (.bool true) ∧ Below w.heap.size w w' := by
  unfold isTrue at he
  split at he
  · rename_i H' n' e
    have hs := callq_sound (by kernel_rfl) hF d f args .nil 0 _ H' n' e _ (wholeHp w) (wholeHp w) vs (fun v g => v = .bool true ∧ (wholeHp w).n ≤ g.n ∧ ∀ b o, (wholeHp w).f b = some o → g.f b = some o) (wholeHp_start w) hargs
      (fun ψ u g _ hg hu => ⟨hu.bool_inv, hg.size, fun b o hb => (hg.base b o hb).2⟩)
    refine (hs.2 w (wholeHp_is w)).mono fun e' w' ⟨v, g, h1, h2, h3, h4, h5, h6⟩ => ?_
    subst h1 h4
    refine ⟨rfl, h3.1, h3.2.1, h3.2.2, ?_, fun b hb => ?_⟩
    · rw [h2.1]; exact h5
    · have := h6 b _ (show (wholeHp w).f b = some w.heap[b] from Array.getElem?_eq_getElem hb)
      rw [h2.2 b _ this, Array.getElem?_eq_getElem hb]
  · cases he
end
end Go.Proofs.Ytdfeigkooeeeaaa
namespace Go.Proofs.Ytdfeigkooeeeaaa
open Go Go.RowKit
theorem HR.grow {φ : Ph} {H : AH} {n : Nat} {h0 h g : Hp} (hr : HR φ H n h0 h) (hs : ∀ b o, h.f b = some o → g.f b = some o) (hn : h.n ≤ g.n) : HR φ H n h0 g :=
  ⟨fun b p e => ⟨(hr.dom b p e).1, Nat.lt_of_lt_of_le (hr.dom b p e).2 hn⟩, fun b o e =>
    (hr.live b o e).imp id fun ⟨p, ob, h1, h2, h3, h4⟩ => ⟨p, ob, h1, h2, hs _ _ h3, h4⟩, hr.inj, fun b o e => ⟨Nat.lt_of_lt_of_le (hr.base b o e).1 hn, hs _ _ (hr.base b o e).2⟩, Nat.le_trans hr.size hn, fun q hq => ⟨⟨(hr.frz q hq).1.1.grow hn (by obtain ⟨_, c, t, fz, h1, _⟩ := (hr.frz q hq).1.1; rw [h1, hs _ _ h1]), (hr.frz q hq).1.2⟩, (hr.frz q hq).2⟩⟩
theorem start_none {h : Hp} (hw : Wf h) : HR Ph.no .nil 0 h h :=
  ⟨fun _ _ k => (by cases k), fun _ _ k => (by cases k), fun _ _ _ _ _ _ k => (by cases k), fun b o k => ⟨hw b o k, k⟩, Nat.le_refl _, fun _ k => k.elim⟩
theorem isTrue_inv {r : AR} (h : isTrue r = true) : ∃ H n, r = some (.bool true, H, n) := by
  unfold isTrue at h
  split at h
  · exact ⟨_, _, rfl⟩
  · cases h
/-- A function without arguments that was found to answer true. -/
def trueN (args : List AV) (H : AH) (n : Nat) (κ : KA) : AR := match args with
  | [] => κ (.bool true) H n
  | _ => none
theorem trueN_N : NatN trueN := fun args H n κ r h => by
  cases args with
  | nil => exact ⟨_, _, _, fun _ => rfl⟩
  | cons _ _ => cases h
theorem trueN_ok {F : FuncId → EQ} (hF : TabQ F) {d : Nat} {f : FuncId} (he : isTrue (callq F d f [] .nil 0 topq) = true) : COk Try.prog f fun args H n => trueN args H n topq := fun args H n v H' n' e φ h0 h vs K hr hargs hk => by
  cases args with
  | cons _ _ => cases e
  | nil =>
    injection e with e; injection e with e1 e2; injection e2 with e2 e3
    subst e1 e2 e3
    obtain ⟨H1, n1, e4⟩ := isTrue_inv he
    have hv : vs = #[] := by
      have := hargs.nil_inv
      cases vs; simp_all
    subst hv
    have key : ∀ {g : Hp} {K : KH}, Wf g → (∀ u g', (∀ b o, g.f b = some o → g'.f b = some o) → g.n ≤ g'.n → u = .bool true → K u g') → CallF Try.prog f #[] g K := fun {g K} hw hK =>
      callq_sound (by kernel_rfl) hF d f [] .nil 0 _ H1 n1 e4 Ph.no g g #[] K (start_none hw) .nil fun ψ u g' _ hg hu => hK u g' (fun b o hb => (hg.base b o hb).2) hg.size hu.bool_inv
    have hic : isCall Try.prog f = true := (key (g := ⟨fun _ => none, 0⟩) (K := fun _ _ => True) (fun _ _ q => by cases q) fun _ _ _ _ _ => trivial).1
    refine ⟨hic, fun w hi => ?_⟩
    exact (key hi.wf fun u g' h1 h2 h3 => by
      subst h3
      exact hk φ _ g' (PLe.refl _) (hr.grow h1 h2) (.bool true)).2 w hi
/-- The table, one function known to answer true. -/
noncomputable def withTrue (k : FuncId) (F : FuncId → EQ) (f : FuncId) : EQ := Bool.rec (F f) (.nat trueN) (Nat.beq f k)
theorem withTrue_ok {F G : FuncId → EQ} (hF : TabQ F) (hG : TabQ G) {d : Nat} {k : FuncId} (he : isTrue (callq G d k [] .nil 0 topq) = true) : TabQ (withTrue k F) := fun f => by
  unfold withTrue
  cases hb : Nat.beq f k with
  | false => exact hF f
  | true =>
    have := Nat.eq_of_beq_eq_true hb
    subst this
    exact ⟨trueN_N, trueN_ok hG he⟩
theorem two_cells {cs : Array Value} (h : cs.size = 2) : ∃ a b, cs = #[a, b] := by
  obtain ⟨l⟩ := cs
  match l, h with
  | [a, b], _ => exact ⟨a, b, rfl⟩
/-- Any values, as values that nobody looks into. -/
theorem VRs.anys (φ : Ph) (l : List Value) : VRs φ (l.map AV.any) l := by
  have := VRs.map (φ := φ) (f := AV.any) (g := id) VR.any l
  simpa using this
end Go.Proofs.Ytdfeigkooeeeaaa
namespace Go.Proofs.Ytdfeigkooeeeaaa
open Go Go.RowKit
abbrev PK := AV → AH → Nat → Prop
abbrev CP := FuncId → List AV → AH → Nat → PK → Prop
abbrev KP := AE → AH → Nat → Prop
def optP {α : Type} (o : Option α) (k : α → Prop) : Prop := match o with
  | some a => k a
  | none => False
def bifP (b : Bool) (t e : Prop) : Prop := match b with
  | true => t
  | false => e
/-- A way that parts by a truth that is not known. -/
structure Fork (b : Bool) (A B : Prop) : Prop where
  t : b = true → A
  f : b = false → B
theorem Fork.dec {p : Prop} [Decidable p] {A B : Prop} (t : p → A) (f : ¬ p → B) : Fork (decide p) A B := ⟨fun h => t (of_decide_eq_true h), fun h => f (of_decide_eq_false h)⟩
theorem Fork.ndec {p : Prop} [Decidable p] {A B : Prop} (t : ¬ p → A) (f : p → B) : Fork (!decide p) A B := ⟨fun h => t (by simpa using h), fun h => f (by simpa using h)⟩

/-- What is known by a proof, not by reckoning. -/
inductive Ask {α : Type} (o : Option α) (κ : α → Prop) : Prop where
  | mk (a : α) (h : o = some a) (k : κ a)
/-- An index that is not known. -/
inductive Idx (i : Int) (len : Nat) (κ : Nat → Prop) : Prop where
  | mk (j : Nat) (h : i = (j : Int)) (lt : j < len) (k : κ j)
/-- A value as one that is known. -/
def hd : AV → AV
  | .si k n => .int k n
  | .sb b => .bool b
  | .ss s => .str s
  | .sy b o n c k => .sl b o n c k
  | v => v
/-- A value as one that is not known. -/
def mk : AV → AV
  | .int k n => .si k n
  | .bool b => .sb b
  | .str s => .ss s
  | .sl b o n c k => .sy b o n c k
  | v => v
def isS : AV → Bool
  | .si _ _ => true
  | .sb _ => true
  | .ss _ => true
  | .sy _ _ _ _ _ => true
  | _ => false

theorem Fork.sb {A B : Prop} {b : Bool} (t : b = true → A) (f : b = false → B) : Fork b A B := ⟨t, f⟩
theorem Fork.nsb {A B : Prop} {b : Bool} (t : b = false → A) (f : b = true → B) : Fork (!b) A B := ⟨fun h => t (by simpa using h), fun h => f (by simpa using h)⟩

/-! ### operations -/
/-- 'c': the second number is known. -/
def symP (op : BinOp) (k j : IntKind) (a b : Int) (c : Bool) (κ : AV → Prop) : Prop := match op with
  | .shl => (match c with
    | true => bifP (ltq b 0) False (κ (.si k (k.wrap (a * 2 ^ min b.toNat k.bits))))
    | false => 0 ≤ b ∧ κ (.si k (k.wrap (a * 2 ^ min b.toNat k.bits))))
  | .shr => (match c with
    | true => bifP (ltq b 0) False (κ (.si k (a.fdiv (2 ^ min b.toNat k.bits))))
    | false => 0 ≤ b ∧ κ (.si k (a.fdiv (2 ^ min b.toNat k.bits))))
  | op => bifP (kindq k j) (match op with
    | .add => κ (.si k (k.wrap (a + b)))
    | .sub => κ (.si k (k.wrap (a - b)))
    | .mul => κ (.si k (k.wrap (a * b)))
    | .quo => (match c with
      | true => bifP (eqq b 0) False (κ (.si k (k.wrap (a.tdiv b))))
      | false => b ≠ 0 ∧ κ (.si k (k.wrap (a.tdiv b))))
    | .rem => (match c with
      | true => bifP (eqq b 0) False (κ (.si k (a.tmod b)))
      | false => b ≠ 0 ∧ κ (.si k (a.tmod b)))
    | .and => κ (.si k (bitsV .and k a b))
    | .or => κ (.si k (bitsV .or k a b))
    | .xor => κ (.si k (bitsV .xor k a b))
    | .andNot => κ (.si k (bitsV .andNot k a b))
    | .eql => κ (.sb (decide (a = b)))
    | .neq => κ (.sb (!decide (a = b)))
    | .lss => κ (.sb (decide (a < b)))
    | .leq => κ (.sb (decide (a ≤ b)))
    | .gtr => κ (.sb (decide (b < a)))
    | .geq => κ (.sb (decide (b ≤ a)))
    | _ => False) False
def strP (op : BinOp) (a b : List Nat) (κ : AV → Prop) : Prop := match op with
  | .add => a.length + b.length ≤ 9223372036854775807 ∧ κ (.ss (a ++ b))
  | .eql => κ (.sb (beqL a b))
  | .neq => κ (.sb (!beqL a b))
  | .lss => κ (.sb (ltL a b))
  | .leq => κ (.sb (ltL a b || beqL a b))
  | .gtr => κ (.sb (!(ltL a b || beqL a b)))
  | .geq => κ (.sb (!ltL a b))
  | _ => False
noncomputable def bolP (op : BinOp) (t : TypeId) (a b : Bool) (κ : AV → Prop) : Prop := bifP (isBoolT Try.prog t) (match op with
  | .eql => κ (.sb (a == b))
  | .neq => κ (.sb (!(a == b)))
  | _ => False) False
noncomputable def binP (op : BinOp) (t : TypeId) (x y : AV) (H : AH) (κ : AV → Prop) : Prop := match x, y with
  | .int k a, .int j b => optP (eint op k j a b) κ
  | .int k a, .si j b => symP op k j a b false κ
  | .si k a, .int j b => symP op k j a b true κ
  | .si k a, .si j b => symP op k j a b false κ
  | .ss a, .ss b => strP op a b κ
  | .ss a, .str b => strP op a b κ
  | .str a, .ss b => strP op a b κ
  | .sb a, .sb b => bolP op t a b κ
  | .sb a, .bool b => bolP op t a b κ
  | .bool a, .sb b => bolP op t a b κ
  | .agg xs, .agg ys => bifP (xs.any isS || ys.any isS) (optP (ebin Try.prog op t (.agg (xs.map hd)) (.agg (ys.map hd)) H) fun v => κ (mk v)) (optP (ebin Try.prog op t (.agg xs) (.agg ys) H) κ)
  | x, y => optP (ebin Try.prog op t x y H) κ
noncomputable def unP (op : UnOp) (x : AV) (κ : AV → Prop) : Prop := match op, x with
  | .not, .sb b => κ (.sb (!b))
  | .neg, .si k n => κ (.si k (k.wrap (0 - n)))
  | .xor, .si k n => κ (.si k (bitsV .xor k (if k.signed then -1 else k.max) n))
  | op, x => optP (eun op x) κ
def pickP (c : AV) (A B : Prop) : Prop := match c with
  | .bool true => A
  | .bool false => B
  | .sb q => Fork q A B
  | _ => False
def intKindOf (P : Program) (t : TypeId) : Option IntKind := match P.underlying t with
  | some (.int k) => some k
  | _ => none
/-- What is yielded, taken apart (so that a name stays a number that reckons). -/
noncomputable def un3 (κ : PK) (r : AV × AH × Nat) : Prop := Prod.rec (fun v q => Prod.rec (fun H n => κ v H n) q) r
noncomputable def slowP (o : Op) (σ : AE) (H : AH) (n : Nat) (κ : PK) : Prop := optP (estep Try.prog noCall o σ H n) (un3 κ)
noncomputable def mmP (mx : Bool) (x y : AV) (κ : AV → Prop) : Prop := match x, y with
  | .si k a, .si _ b => κ (.si k (if mx then max a b else min a b))
  | .si k a, .int _ b => κ (.si k (if mx then max a b else min a b))
  | .int k a, .si _ b => κ (.si k (if mx then max a b else min a b))
  | x, y => optP (emm mx x y) κ
noncomputable def lenP (t : TypeId) (x : AV) (H : AH) (κ : AV → Prop) : Prop := match x with
  | .ss _ => optP (elen Try.prog t (hd x) H) fun v => κ (mk v)
  | .sy _ _ _ _ _ => optP (elen Try.prog t (hd x) H) fun v => κ (mk v)
  | .rw _ _ n _ _ => bifP (isSlT Try.prog t) (κ (.si .i64 n)) False
  | .fr n _ _ => bifP (isSlT Try.prog t) (κ (.si .i64 n)) False
  | _ => optP (elen Try.prog t x H) κ
noncomputable def ixP (ix : AV) (len : Nat) (s : Bool) (κ : Nat → Prop) : Prop := match ix, s with
  | .si _ i, _ => Idx i len κ
  | .int _ i, true => Idx i len κ
  | _, _ => optP (eix ix len) κ
noncomputable def indexAddrP (t : TypeId) (x ix : AV) (κ : AV → Prop) : Prop := match Try.prog.underlying t, x with
  | some (.slice e), .sl b o n _ _ => optP (tySize Try.prog e) fun k => ixP ix n false fun i => κ (.ptr b (o + i * k))
  | some (.slice e), .sy b o n _ _ => optP (tySize Try.prog e) fun k => ixP ix n true fun i => κ (.ptr b (o + i * k))
  | some (.slice e), .rw b o n _ _ => optP (tySize Try.prog e) fun k => ixP ix n true fun i => κ (.ptr b (o + i * k))
  | some (.slice e), .fr n k' l => optP (tySize Try.prog e) fun k => bifP (Nat.beq k k') (ixP ix n true fun i => κ (.fa l (i * k))) False
  | some (.array len e), .ptr b o => optP (tySize Try.prog e) fun k => ixP ix len false fun i => κ (.ptr b (o + i * k))
  | _, _ => False
noncomputable def indexP (t : TypeId) (x ix : AV) (κ : AV → Prop) : Prop := match Try.prog.underlying t, x with
  | some (.array len e), .agg l => optP (tySize Try.prog e) fun k => ixP ix len false fun i => optP (epart Try.prog e l (i * k)) κ
  | some .string, .str s => ixP ix s.length false fun i => optP (nth s i) fun c => (match ix with
    | .int _ _ => κ (.int .u8 (Int.ofNat c))
    | _ => κ (.si .u8 (Int.ofNat c)))
  | some .string, .ss s => ixP ix s.length true fun i => Ask (nth s i) fun c => κ (.si .u8 (Int.ofNat c))
  | _, _ => False
noncomputable def getP (l : List AV) (t : TypeId) (o : Nat) (κ : AV → Prop) : Prop := match tyAgg Try.prog t with
  | some false => optP (nth l o) κ
  | some true => optP (tySize Try.prog t) fun m => optP (subL l o m) fun r => κ (.agg r)
  | none => False
noncomputable def loadP (t : TypeId) (a : AV) (H : AH) (κ : AV → Prop) : Prop := match a with
  | .ptr b o => (match H.get b with
    | some (.cells l _) => getP l t o κ
    | some (.ro l) => getP l t o κ
    | _ => False)
  | .fa l o => getP l t o κ
  | _ => False
noncomputable def storeP (t : TypeId) (a v : AV) (H : AH) (n : Nat) (κ : PK) : Prop := match a with
  | .ptr b o => (match H.get b with
    | some (.cells l z) => optP (tySize Try.prog t) fun s => bifP (Nat.beq v.cells.length s && (okC v && v.cells.all one1)) (optP (setL l o v.cells) fun l' => κ undefA (H.set (some (.cells l' z)) depthH b) n) False
    | _ => False)
  | _ => False
noncomputable def mk3 (κ : PK) (r : AV × AH × Nat) : Prop := un3 (fun v H n => κ (mk v) H n) r
/-! ### rows that may be none -/
def isR : AV → Bool
  | .rw _ _ _ _ _ => true
  | .fr _ _ _ => true
  | _ => false
/-- Bounds of a part of a row. -/
inductive RSl (lo hi mx : Option AV) (n : Nat) (κ : Nat → Nat → Prop) : Prop where
  | mk (l h : Nat) (hl : ebnd (lo.map hd) 0 = some l) (hh : ebnd (hi.map hd) n = some h) (hm : mx = none ∨ (hi.isSome = true ∧ ebnd (mx.map hd) 0 = some h)) (h1 : l ≤ h) (h2 : h ≤ n) (k : κ l h)
def rwO (o k l : Nat) : Option AV → Nat
  | none => o
  | some _ => o + l * k
def rwN (n l h : Nat) : Option AV → Option AV → Nat
  | none, none => n
  | some _, none => n - l
  | none, some _ => h
  | some _, some _ => h - l
def rwX (x : Nat) : Option AV → Option AV → Nat
  | none, _ => x
  | some _, none => (match x with
    | 0 => 0
    | 1 => 0
    | x + 2 => x + 2)
  | some _, some _ => (match x with
    | 4 => 4
    | _ => 1)
def rwSub (b o n k x : Nat) (lo hi mx : Option AV) (l h : Nat) : AV := .rw b (rwO o k l lo) (rwN n l h lo hi) k (rwX x hi mx)
noncomputable def rslP (t : TypeId) (b o n k x : Nat) (lo hi mx : Option AV) (κ : AV → Prop) : Prop := match Try.prog.underlying t with
  | some (.slice e) => optP (tySize Try.prog e) fun es => bifP (Nat.beq es k) (RSl lo hi mx n fun l h => κ (rwSub b o n k x lo hi mx l h)) False
  | _ => False
def frL (k : Nat) (L : List AV) (l h : Nat) : Option AV → Option AV → List AV
  | none, none => L
  | some _, none => L.drop (l * k)
  | none, some _ => L.take (h * k)
  | some _, some _ => (L.drop (l * k)).take ((h - l) * k)
noncomputable def fslP (t : TypeId) (n k : Nat) (L : List AV) (lo hi : Option AV) (κ : AV → Prop) : Prop := match Try.prog.underlying t with
  | some (.slice e) => optP (tySize Try.prog e) fun es => bifP (Nat.beq es k) (RSl lo hi none n fun l h => κ (.fr (rwN n l h lo hi) k (frL k L l h lo hi))) False
  | _ => False
/-- The next entry of a map, whichever it is. -/
inductive Nxt (H : AH) (a : AV) (s : Bool) (κ : AV → AH → Prop) : Prop where
  | mk (it b m : Nat) (seen : List Nat) (es : List (AV × AV)) (hs : s = false) (ha : a = .ptr it 0) (hi : H.get it = some (.iter b m seen)) (hb : H.get b = some (.map es)) (hm : es.length = m)
    (over : (∀ i, i < m → i ∈ seen) → κ (.tup [.bool false]) H)
    (step : ∀ i e, es[i]? = some e → i ∉ seen → κ (.tup [.bool true, Go.Proofs.Ytdfeigkooeeeaaa.mk e.1, e.2]) (H.set (some (.iter b m (seen ++ [i]))) depthH it))
/-- The entry that came last. -/
inductive Ent (H : AH) (a : AV) (κ : AV → Prop) : Prop where
  | mk (it b m i : Nat) (seen : List Nat) (es : List (AV × AV)) (e : AV × AV) (ha : a = .ptr it 0) (hi : H.get it = some (.iter b m (seen ++ [i]))) (hb : H.get b = some (.map es)) (hm : es.length = m) (he : es[i]? = some e)
    (k : κ (.tup [Go.Proofs.Ytdfeigkooeeeaaa.mk e.1, e.2]))
/-- What a row holds. -/
inductive RSrc (H : AH) (k : Nat) : AV → Nat → List AV → Prop where
  | rw {b o n k' x : Nat} {l new : List AV} (hb : H.get b = some (.ro l) ∨ ∃ z, H.get b = some (.cells l z)) (hs : subL l o (n * k) = some new) : RSrc H k (.rw b o n k' x) n new
  | old {x : AV} {m : Nat} {new : List AV} (e : esrc H k (hd x) = some (m, new)) : RSrc H k x m new
  | fr {n : Nat} {l : List AV} : RSrc H k (.fr n k l) n l
/-- A row that is appended to: how many, what, the memory without it. -/
inductive RowS (H : AH) (k : Nat) : AV → Nat → List AV → AH → Bool → Prop where
  | nsl : RowS H k .nsl 0 [] H true
  | rw {b o n : Nat} {l old : List AV} {z : Bool} (hb : H.get b = some (.cells l z)) (hs : subL l o (n * k) = some old) : RowS H k (.rw b o n k 0) n old (H.set none depthH b) z
  | sl {b o n c : Nat} {l old : List AV} {z : Bool} (hb : H.get b = some (.cells l z)) (hs : subL l o (n * k) = some old) (hn : n ≤ c) (hc : o + c * k ≤ l.length) : RowS H k (.sl b o n c 0) n old (H.set none depthH b) z
structure RTy (t u : TypeId) (k by' : Nat) : Prop where
  h : ∃ e ud z, Try.prog.underlying t = some (.slice e) ∧ Try.prog.underlying u = some ud ∧ (∀ q, ud ≠ .int q) ∧ tySize Try.prog e = some k ∧ tyBytes Try.prog e = some by' ∧ tyZero Try.prog e = some z ∧ z.cells.size = k ∧ 0 < by' ∧ 0 < k
inductive RApp (t u : TypeId) (s x : AV) (H : AH) (n : Nat) (κ : PK) : Prop where
  | grow (k by' m sn : Nat) (new old : List AV) (G : AH) (z : Bool) (ty : RTy t u k by') (src : RSrc H k x m new) (hnew : new.length = m * k) (hone : new.all one1 = true) (row : RowS H k s sn old G z) (big : (sn + m) * by' ≤ 140737488355328)
    (k' : κ (.rw n 0 (sn + m) k 0) (G.set (some (.cells (old ++ new) z)) depthH n) (n + 1))
  | exact (k by' m b o sn : Nat) (new old : List AV) (hs : s = .rw b o sn k 1) (ty : RTy t u k by') (src : RSrc H k x m new) (hnew : new.length = m * k) (hone : new.all one1 = true) (hm : m ≠ 0) (row : RSrc H k s sn old) (big : (sn + m) * by' ≤ 140737488355328)
    (k' : κ (.rw n 0 (sn + m) k 0) (H.set (some (.cells (old ++ new) true)) depthH n) (n + 1))
noncomputable def appendP (t u : TypeId) (s x : AV) (H : AH) (n : Nat) (κ : PK) : Prop := bifP (isR s || isR x) (RApp t u s x H n κ) (bifP (isS s || isS x) (Ask (eappend Try.prog t u (hd s) (hd x) H n) (mk3 κ)) (optP (eappend Try.prog t u s x H n) (un3 κ)))
/-- A row's first cells, written into another block. -/
inductive RCopy (t : TypeId) (s x : AV) (H : AH) (n : Nat) (κ : PK) : Prop where
  | mk (k m dn b o c kk bx ox kx qx : Nat) (l lx new l' : List AV) (z : Bool) (hs : hd s = .sl b o dn c kk) (hx : x = .rw bx ox m kx qx) (hq : qx ≠ 4) (ty : ∃ e, Try.prog.underlying t = some (.slice e) ∧ tySize Try.prog e = some k)
    (hbx : H.get bx = some (.ro lx) ∨ ∃ z, H.get bx = some (.cells lx z)) (hsx : subL lx ox (m * k) = some new) (hb : H.get b = some (.cells l z)) (hone : (new.take (min m dn * k)).all one1 = true) (hset : setL l o (new.take (min m dn * k)) = some l')
    (k' : κ (.si .i64 ((min m dn : Nat) : Int)) (H.set (some (.cells l' z)) depthH b) n)
noncomputable def copyP (t : TypeId) (s x : AV) (H : AH) (n : Nat) (κ : PK) : Prop := bifP (isR x) (RCopy t s x H n κ) (bifP (isS s || isS x) (Ask (ecopy Try.prog t (hd s) (hd x) H n) (mk3 κ)) (optP (ecopy Try.prog t s x H n) (un3 κ)))
noncomputable def makeP (t : TypeId) (l c : AV) (H : AH) (n : Nat) (κ : PK) : Prop := bifP (isS l || isS c) (Ask (emake Try.prog t (hd l) (hd c) H n) (mk3 κ)) (optP (emake Try.prog t l c H n) (un3 κ))
noncomputable def sliceP (t : TypeId) (x : AV) (lo hi mx : Option AV) (κ : AV → Prop) : Prop := match x with
  | .rw b o n k q => rslP t b o n k q lo hi mx κ
  | .fr n k q => (match mx with
    | none => fslP t n k q lo hi κ
    | some _ => False)
  | x => bifP (isS x || (optS lo || (optS hi || optS mx))) (Ask (eslice Try.prog t (hd x) (lo.map hd) (hi.map hd) (mx.map hd)) fun v => κ (mk v)) (optP (eslice Try.prog t x lo hi mx) κ)
where optS : Option AV → Bool
  | some v => isS v
  | none => false
noncomputable def callP (c : Call) (call : CP) (σ : AE) (H : AH) (n : Nat) (κ : PK) : Prop := match c.callee with
  | .value f => (match eev σ f with
    | .fn g a cs => call g (a ++ c.args.toList.map (eev σ) ++ cs) H n κ
    | _ => False)
  | .builtin .len => (match c.argTypes.toList, c.args.toList.map (eev σ) with
    | [t], [x] => lenP t x H fun v => κ v H n
    | _, _ => False)
  | .builtin .min => (match c.args.toList.map (eev σ) with
    | [x, y] => mmP false x y fun v => κ v H n
    | _ => False)
  | .builtin .max => (match c.args.toList.map (eev σ) with
    | [x, y] => mmP true x y fun v => κ v H n
    | _ => False)
  | .builtin .append => (match c.argTypes.toList, c.args.toList.map (eev σ) with
    | [t, u], [s, x] => appendP t u s x H n κ
    | _, _ => False)
  | .builtin .copy => (match c.argTypes.toList, c.args.toList.map (eev σ) with
    | [t, _], [s, x] => copyP t s x H n κ
    | _, _ => False)
  | _ => False
/-- A row of bytes as a text. -/
inductive RStr (src dst : TypeId) (x : AV) (H : AH) (κ : AV → Prop) : Prop where
  | mk (b o n k q : Nat) (l new : List AV) (s : List Nat) (hx : x = .rw b o n k q) (hq : q ≠ 4) (ty : ∃ e, Try.prog.underlying src = some (.slice e) ∧ Try.prog.underlying e = some (.int .u8) ∧ Try.prog.underlying dst = some .string) (hb : H.get b = some (.ro l) ∨ ∃ z, H.get b = some (.cells l z)) (hl : subL l o n = some new) (hs : ebytes new = some s) (k' : κ (.ss s))
noncomputable def convP (src dst : TypeId) (x : AV) (H : AH) (n : Nat) (κ : PK) : Prop := match x with
  | .si _ a => (match intKindOf Try.prog src, intKindOf Try.prog dst with
    | some _, some k => κ (.si k (k.wrap a)) H n
    | _, _ => False)
  | .rw _ _ _ _ _ => RStr src dst x H fun v => κ v H n
  | _ => bifP (isS x) (Ask (econv Try.prog src dst (hd x) H n) (mk3 κ)) (optP (econv Try.prog src dst x H n) (un3 κ))
noncomputable def stepP (o : Op) (call : CP) (σ : AE) (H : AH) (n : Nat) (κ : PK) : Prop := match o with
  | .move x => κ (eev σ x) H n
  | .assign x => κ (eev σ x) H n
  | .pick c a b => pickP (eev σ c) (κ (eev σ a) H n) (κ (eev σ b) H n)
  | .load t a => loadP t (eev σ a) H fun v => κ v H n
  | .store t a x => storeP t (eev σ a) (eev σ x) H n κ
  | .binOp op t x y _ => binP op t (eev σ x) (eev σ y) H fun v => κ v H n
  | .unOp op _ x => unP op (eev σ x) fun v => κ v H n
  | .indexAddr t x ix => indexAddrP t (eev σ x) (eev σ ix) fun v => κ v H n
  | .index t x ix => indexP t (eev σ x) (eev σ ix) fun v => κ v H n
  | .slice t x lo hi mx => sliceP t (eev σ x) (lo.map (eev σ)) (hi.map (eev σ)) (mx.map (eev σ)) fun v => κ v H n
  | .makeSlice t l c => makeP t (eev σ l) (eev σ c) H n κ
  | .convert s d x => convP s d (eev σ x) H n κ
  | .call c => callP c call σ H n κ
  | .lookup t m k ok => bifP (isS (eev σ k)) (Ask (elookup Try.prog t (eev σ m) (hd (eev σ k)) ok H) fun v => κ v H n) (optP (elookup Try.prog t (eev σ m) (eev σ k) ok H) fun v => κ v H n)
  | .next it s => Nxt H (eev σ it) s fun v H => κ v H n
  | .entry it => Ent H (eev σ it) fun v => κ v H n
  | o => slowP o σ H n κ

/-! ### code -/
noncomputable def opP (ops : Array Oper) (o : Oper) (call : CP) (σ : AE) (H : AH) (n : Nat) (k : KP) : Prop := match o.guard with
  | none => stepP o.op call σ H n fun v H n => k (eput σ o.dst v) H n
  | some (j, want) => (match gslot ops j with
    | none => False
    | some t => (match getq (pa t) σ with
      | .bool q => (match q == want with
        | true => stepP o.op call σ H n fun v H n => k (eput σ o.dst v) H n
        | false => k (eput σ o.dst undefA) H n)
      | .sb q => (match want with
        | true => Fork q (stepP o.op call (eput σ (some t) (.bool true)) H n fun v H n => k (eput (eput σ (some t) (.bool true)) o.dst v) H n) (k (eput (eput σ (some t) (.bool false)) o.dst undefA) H n)
        | false => Fork q (k (eput (eput σ (some t) (.bool true)) o.dst undefA) H n) (stepP o.op call (eput σ (some t) (.bool false)) H n fun v H n => k (eput (eput σ (some t) (.bool false)) o.dst v) H n))
      | .tup _ => k (eput σ o.dst undefA) H n
      | _ => False))
noncomputable def opsP (ops : Array Oper) (l : List Oper) : CP → AE → AH → Nat → KP → Prop :=
  List.rec (fun _ σ H n k => k σ H n) (fun o _ ih call σ H n k => opP ops o call σ H n fun σ H n => ih call σ H n k) l
abbrev XP := CP → AE → AH → Nat → KP → (Nat → KP) → KP → Prop
/-- A known truth put into its slot. -/
noncomputable def refP (c : Operand) (q : Bool) (σ : AE) : AE := match c with
  | .tmp t => eput σ (some t) (.bool q)
  | _ => σ
noncomputable def condP (c : Operand) (σ : AE) (A B : AE → Prop) : Prop := match eev σ c with
  | .bool true => A σ
  | .bool false => B σ
  | .sb q => Fork q (A (refP c true σ)) (B (refP c false σ))
  | _ => False
/-- What stands for one state stands for another one, whose blocks below p have the same names. -/
def Cov (p : Nat) (σ : AE) (H : AH) (n : Nat) (s : AE × AH × Nat) : Prop := ∀ (φ : Ph) (h0 h : Hp) (ρ : Env), HR φ H n h0 h → FR φ σ ρ → ∃ ψ : Ph, ((∀ b q, b < p → φ b = some q → ψ b = some q) ∧ (∀ q, φ.z q → ψ.z q) ∧ ∀ q, ψ.y q → φ.y q) ∧ HR ψ s.2.1 s.2.2 h0 h ∧ FR ψ s.1 ρ
/-- A loop walked to its end, at most k times. -/
noncomputable def rollP (k : Nat) (body : AE → AH → Nat → KP → Prop) : KP := Nat.rec (fun _ _ _ => False) (fun _ ih σ H n => body σ H n ih) k
inductive LoopP (p : Nat) (body : AE → AH → Nat → KP → Prop) (σ : AE) (H : AH) (n : Nat) : Prop where
  | mk (α : Type) (m : Nat) (st : α → AE × AH) (μ : α → Nat) (a0 : α) (h0 : Cov p σ H n ((st a0).1, (st a0).2, m)) (h : ∀ a, body (st a).1 (st a).2 m fun σ' H' n' => ∃ a', μ a' < μ a ∧ Cov p σ' H' n' ((st a').1, (st a').2, m))
  | roll (k : Nat) (h : rollP k body σ H n)
/-! ### a region that draws its order -/
/-- Of one operation: how many places back the memory is that it looks at (none: it is a call), and its slots. -/
abbrev DB := Option Nat × List Nat
abbrev DT := List (Nat × List DB)
noncomputable def findD (D : DT) (id : Nat) : Option (List DB) := List.rec none (fun x _ ih => Bool.rec ih (some x.2) (Nat.beq x.1 id)) D
noncomputable def filtq (σ : AE) (ts : List Nat) : AE := List.rec .nil (fun t _ ih => setq (getq (pa t) σ) (pa t) ih) ts
/-- An operation that only looks. -/
noncomputable def qP (o : Op) (σ : AE) (H : AH) (κ : AV → Prop) : Prop := match o with
  | .move x => κ (eev σ x)
  | .assign x => κ (eev σ x)
  | .pick c a b => pickP (eev σ c) (κ (eev σ a)) (κ (eev σ b))
  | .load t a => loadP t (eev σ a) H κ
  | .binOp op t x y _ => binP op t (eev σ x) (eev σ y) H κ
  | .unOp op _ x => unP op (eev σ x) κ
  | .indexAddr t x ix => indexAddrP t (eev σ x) (eev σ ix) κ
  | .index t x ix => indexP t (eev σ x) (eev σ ix) κ
  | .slice t x lo hi mx => sliceP t (eev σ x) (lo.map (eev σ)) (hi.map (eev σ)) (mx.map (eev σ)) κ
  | .call ⟨.builtin .len, xs, ts⟩ => (match ts.toList, xs.toList.map (eev σ) with
    | [t], [x] => lenP t x H κ
    | _, _ => False)
  | .call ⟨.builtin .min, xs, _⟩ => (match xs.toList.map (eev σ) with
    | [x, y] => mmP false x y κ
    | _ => False)
  | .call ⟨.builtin .max, xs, _⟩ => (match xs.toList.map (eev σ) with
    | [x, y] => mmP true x y κ
    | _ => False)
  | o => optP (epure Try.prog o σ H) κ
noncomputable def dynOp (ops : Array Oper) (o : Oper) (b : DB) (cd : CP) (hist : List (AH × Nat)) (σ : AE) (H : AH) (n : Nat) (k : KP) : Prop :=
  let go : AE → Prop := fun σ => (match b.1 with
    | none => (match o.op with
      | .call c => callP c cd (filtq σ b.2) H n fun v H n => k (eput σ o.dst v) H n
      | _ => False)
    | some j => optP (nth ((H, n) :: hist) j) fun r => qP o.op (filtq σ b.2) r.1 fun v => k (eput σ o.dst v) H n)
  match o.guard with
  | none => go σ
  | some (j, want) => (match gslot ops j with
    | none => False
    | some t => (match getq (pa t) σ with
      | .bool q => (match q == want with
        | true => go σ
        | false => k (eput σ o.dst undefA) H n)
      | .sb q => (match want with
        | true => Fork q (go (eput σ (some t) (.bool true))) (k (eput (eput σ (some t) (.bool false)) o.dst undefA) H n)
        | false => Fork q (k (eput (eput σ (some t) (.bool true)) o.dst undefA) H n) (go (eput σ (some t) (.bool false))))
      | .tup _ => k (eput σ o.dst undefA) H n
      | _ => False))
noncomputable def dynL (ops : Array Oper) (l : List Oper) : List DB → CP → List (AH × Nat) → AE → AH → Nat → KP → Prop :=
  List.rec (fun _ _ _ σ H n k => k σ H n) (fun o _ ih bs cd hist σ H n k => List.rec False (fun b bs' _ => dynOp ops o b cd hist σ H n fun σ' H' n' => ih bs' cd ((H, n) :: hist) σ' H' n' k) bs) l
/-- What is ahead of each operation by the edges, as bits. -/
def maskOf (A : List Nat) (i : Nat) (o : Oper) : Nat := o.after.toList.foldl (fun m e => if Region.binds .any e && decide (e.on < i) then m ||| (2 ^ e.on ||| A.getD e.on 0) else m) 0
def ancsGo : List Oper → Nat → List Nat → List Nat
  | [], _, A => A
  | o :: l, i, A => ancsGo l (i + 1) (A ++ [maskOf A i o])
def ancOk (A : List Nat) (ops : Array Oper) : Bool := (List.range ops.size).all fun i => match ops[i]? with
  | some o => A.getD i 0 == maskOf A i o
  | none => true
def befA (A : List Nat) (j i : Nat) : Bool := (A.getD i 0).testBit j
def isCallV : Op → Bool
  | .call ⟨.value _, _, _⟩ => true
  | _ => false
def loudAt (ops : Array Oper) (j : Nat) : Bool := match ops[j]? with
  | some o => loudOp o.op
  | none => false
def gslotIn (ops : Array Oper) (o : Oper) (ts : List Nat) : Bool := match o.guard with
  | none => true
  | some (j, _) => (match gslot ops j with
    | some t => ts.contains t
    | none => true)
def opOk (A : List Nat) (ops : Array Oper) (bs : List DB) (i : Nat) : Bool := match ops[i]?, bs[i]? with
  | some o, some b => b.2.all (fun t => (looks ops o).contains t) && gslotIn ops o b.2 && (match b.1 with
      | none => isCallV o.op
      | some k => !loudOp o.op && (decide (k ≤ i) && (List.range (i - k)).all fun j => !loudAt ops j || befA A j i)) &&
    (List.range i).all fun j => (match ops[j]? with
      | some a => a.apart ops o && (!loudOp a.op || !loudOp o.op)
      | none => true) || befA A j i
  | _, _ => false
def dynOk (ops : Array Oper) (bs : List DB) : Bool := edgesOk ops && (ancOk (ancsGo ops.toList 0 []) ops && (List.range ops.size).all (opOk (ancsGo ops.toList 0 []) ops bs))
/-! A region told in several orders: pairs of which nobody knows which comes first, and for each way one order. -/
def pairsOf : List Nat → List (Nat × Nat)
  | a :: b :: l => (a, b) :: pairsOf l
  | _ => []
def firstL : List Nat → Nat → Nat → Bool
  | [], _, _ => false
  | x :: π, a, b => Nat.beq x a || (!Nat.beq x b && firstL π a b)
def allB : Nat → List (List Bool)
  | 0 => [[]]
  | m + 1 => (allB m).flatMap fun l => [true :: l, false :: l]
def okL (P : Program) (ops : Array Oper) (R : List (Nat × Nat)) : List Nat → List Nat → Bool
  | _, [] => true
  | acc, i :: l => acc.all (fun j => commB P ops j i || (befB ops 4 j i || (R.contains (j, i) || R.contains (i, j)))) && okL P ops R (i :: acc) l
def loudAt2 (ops : Array Oper) (R : List (Nat × Nat)) (i : Nat) : Bool := match ops[i]? with
  | some o => !loudOp o.op || R.all fun p => Nat.beq p.1 i || (Nat.beq p.2 i || (befB ops 4 p.1 i || befB ops 4 p.2 i))
  | none => true
/-- One that comes ahead of another by the edges, or is it. -/
def leB (ops : Array Oper) (j i : Nat) : Bool := Nat.beq j i || befB ops 4 j i
def wayB (p : Nat × Nat) (b : Bool) : Nat × Nat := match b with
  | true => p
  | false => (p.2, p.1)
/-- Ways that no order can have are left out. -/
def consB (ops : Array Oper) (R : List (Nat × Nat)) (os : List Bool) : Bool := ((R.zip os).map fun x => wayB x.1 x.2).all fun x => ((R.zip os).map fun x => wayB x.1 x.2).all fun y => !(leB ops x.2 y.1 && leB ops y.2 x.1)
def ordOk (P : Program) (ops : Array Oper) (bs : List DB) : Bool := edgesOk ops && (match bs with
  | [] => false
  | h :: πs => (List.range ops.size).all (loudAt2 ops (pairsOf h.2)) && ((pairsOf h.2).all (fun p => !Nat.beq p.1 p.2) && (((allB (pairsOf h.2).length).all fun os => !consB ops (pairsOf h.2) os || πs.any fun π => (pairsOf h.2).map (fun p => firstL π.2 p.1 p.2) == os) &&
    πs.all fun π => decide (π.2.Nodup) && (π.2.length == ops.size && (π.2.all (fun i => decide (i < ops.size)) && okL P ops (pairsOf h.2) [] π.2)))))
def isOrd (bs : List DB) : Bool := match bs with
  | (some k, _) :: _ => Nat.beq k 1000000
  | _ => false
noncomputable def pickL (l : List Oper) (π : List Nat) : List Oper := List.rec [] (fun i _ ih => match nth l i with
  | some o => o :: ih
  | none => ih) π
noncomputable def ordL (ops : Array Oper) (πs : List DB) (call : CP) (σ : AE) (H : AH) (n : Nat) (k : KP) : Prop := List.rec True (fun π _ ih => opsP ops (pickL ops.toList π.2) call σ H n k ∧ ih) πs
noncomputable def regP (ops : Array Oper) (bs : List DB) (call cd : CP) (σ : AE) (H : AH) (n : Nat) (k : KP) : Prop := match isOrd bs with
  | true => ordL ops bs.tail call σ H n k
  | false => dynL ops ops.toList bs cd [] σ H n k
def regOk (P : Program) (ops : Array Oper) (bs : List DB) : Bool := match isOrd bs with
  | true => ordOk P ops bs
  | false => dynOk ops bs
noncomputable def drawOk (D : DT) (c : Code) : Bool := Code.rec (motive := fun _ => Bool)
  true
  (fun id ops draw => Bool.rec true (Option.rec (swapB Try.prog ops) (fun bs => regOk Try.prog ops bs) (findD D id)) draw)
  (fun _ _ a b => Bool.rec false b a)
  (fun _ _ _ a b => Bool.rec false b a)
  (fun _ _ b => b)
  (fun _ b => b)
  (fun _ _ _ _ _ _ => true)
  (fun _ => true)
  (fun _ b => b)
  (fun _ => true)
  (fun _ => true)
  true
  (fun _ => true) c
noncomputable def execP (p : Nat) (cd : CP) (D : DT) (c : Code) : XP := Code.rec (motive := fun _ => XP)
  (fun _ σ H n kn _ _ => kn σ H n)
  (fun id ops draw => Bool.rec (fun call σ H n kn _ _ => opsP ops ops.toList call σ H n kn) (Option.rec (fun call σ H n kn _ _ => opsP ops ops.toList call σ H n kn) (fun bs call σ H n kn _ _ => regP ops bs call cd σ H n kn) (findD D id)) draw)
  (fun _ _ a b call σ H n kn kx kr => a call σ H n (fun σ H n => b call σ H n kn kx kr) kx kr)
  (fun c _ _ a b call σ H n kn kx kr => condP c σ (fun σ => a call σ H n kn kx kr) (fun σ => b call σ H n kn kx kr))
  (fun id _ b call σ H n kn kx kr => b call σ H n kn (fun i σ H n => bifP (Nat.beq i id) (kn σ H n) (kx i σ H n)) kr)
  (fun _ b call σ H n _ kx kr => LoopP p (fun σ H n k => b call σ H n k kx kr) σ H n)
  (fun _ _ _ _ _ _ _ _ _ _ _ _ _ => False)
  (fun i _ σ H n _ kx _ => kx i σ H n)
  (fun _ b call σ H n kn kx kr => b call σ H n kn kx kr)
  (fun _ _ σ H n kn _ _ => kn σ H n)
  (fun _ _ _ _ _ _ _ _ => False)
  (fun _ σ H n _ _ kr => kr σ H n)
  (fun _ _ _ _ _ _ _ _ => False) c
noncomputable def resP (rs : List ResultVar) (σ : AE) (H : AH) (k : List AV → Prop) : Prop :=
  List.rec (fun k => k []) (fun r _ ih k => ResultVar.rec (fun t => ih fun vs => k (getq (pa t) σ :: vs)) (fun a t => loadP t (getq (pa a) σ) H fun v => ih fun vs => k (v :: vs)) r) rs k
/-- A function's run, its callees by a table. -/
noncomputable def runP (call cd : CP) (D : DT) (c : Code) (rs : List ResultVar) (m : Nat) (args : List AV) (H : AH) (n : Nat) (κ : PK) : Prop :=
  bifP (Nat.ble args.length m) (execP n cd D c call (eentry args 0 .nil) H n (fun σ H n => resP rs σ H fun vs => κ (epack vs) H n) (fun _ _ _ _ => False) (fun σ H n => resP rs σ H fun vs => κ (epack vs) H n)) False
inductive EP where
  | no
  | run (D : DT) (c : Code) (rs : List ResultVar) (m : Nat)
  | nat (g : List AV → AH → Nat → PK → Prop)
  | det (g : List AV → AH → Nat → PK → Prop)
/-- The functions of the table that may be called in a region that draws its order. -/
noncomputable def callD (F : FuncId → EP) : CP := fun f args H n κ => EP.rec (fun _ _ _ _ => False) (fun _ _ _ _ _ _ _ _ => False) (fun _ _ _ _ _ => False) (fun g => g) (F f) args H n κ
noncomputable def callT (F : FuncId → EP) (d : Nat) : CP := Nat.rec (fun _ _ _ _ _ => False) (fun _ ih f args H n κ => EP.rec (fun _ _ _ _ => False) (fun D c rs m => runP ih (callD F) D c rs m) (fun g => g) (fun g => g) (F f) args H n κ) d
noncomputable def bodyP (D : DT) (f : FuncId) : EP := match Try.prog.funcs[f]? with
  | some fn => (match fn.body with
    | some c => .run D c fn.results.toList fn.ntmps
    | none => .no)
  | none => .no
noncomputable def drawF (D : DT) (f : FuncId) : Bool := match Try.prog.funcs[f]? with
  | some fn => (match fn.body with
    | some c => drawOk D c
    | none => false)
  | none => false
noncomputable def evP (f : FuncId) : EP := Bool.rec .no (Bool.rec .no (bodyP [] f) (drawF [] f)) (fnOkq f)
end Go.Proofs.Ytdfeigkooeeeaaa
