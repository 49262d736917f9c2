/- The machine of our own: a region that draws its order. -/
import Derived.Test.YtaejmcgcfopmkaaEvF
namespace Go.Proofs.Ytaejmcgcfopmkaa
open Go Go.RowKit
theorem eqV_eq {a b : AV} (h : eqV a b = true) : a = b := by
  unfold eqV at h
  split at h
  · simp only [Bool.and_eq_true, decide_eq_true_eq] at h; rw [h.1, h.2]
  · rename_i s r
    have : ∀ s r : List Nat, beqL s r = true → s = r := fun s => by
      induction s with
      | nil => intro r h; cases r with
        | nil => rfl
        | cons _ _ => cases h
      | cons x s ih => intro r h; cases r with
        | nil => cases h
        | cons y r =>
          unfold beqL at h
          split at h
          · rename_i e
            rw [Nat.eq_of_beq_eq_true e, ih r h]
          · cases h
    rw [this s r h]
  · rw [beq_iff_eq] at h; rw [h]
  · rfl
  · simp only [Bool.and_eq_true, decide_eq_true_eq] at h; rw [h.1, h.2]
  · rfl
  · simp only [Bool.and_eq_true, decide_eq_true_eq] at h; rw [h.1, h.2.1, h.2.2.1, h.2.2.2.1, h.2.2.2.2]
  · simp only [decide_eq_true_eq] at h; rw [h]
  · simp only [decide_eq_true_eq] at h; rw [h]
  · cases h
theorem eqVs_eq : ∀ {l m : List AV}, eqVs l m = true → l = m
  | [], [], _ => rfl
  | [], _ :: _, h => by cases h
  | _ :: _, [], h => by cases h
  | a :: l, b :: m, h => by
    simp only [eqVs, Bool.and_eq_true] at h
    rw [eqV_eq h.1, eqVs_eq h.2]
theorem eqVV_eq {a b : AV} (h : eqVV a b = true) : a = b := by
  unfold eqVV at h
  split at h
  · rw [eqVs_eq h]
  · exact eqV_eq h
section
variable {P : Program} {call : AC} {φ : Ph} {H H' : AH} {n n' : Nat} {h0 h : Hp} {σ : AE} {ρ : Env}
theorem filt_get : ∀ (ts : List Nat) (σ : AE) (t : Nat) (a : AV), (filt σ ts).get t = some a → t ∈ ts ∧ σ.get t = some a
  | [], σ, t, a, h => by cases h
  | s :: ts, σ, t, a, h => by
    unfold filt at h
    split at h
    · rename_i b hb
      rcases PM.get_set depthE _ s t a h with ⟨rfl, h2⟩ | ⟨_, h2⟩
      · injection h2 with h2; subst h2
        exact ⟨by simp, hb⟩
      · have := filt_get ts σ t a h2
        exact ⟨by simp [this.1], this.2⟩
    · have := filt_get ts σ t a h
      exact ⟨by simp [this.1], this.2⟩
theorem estep_still {o : Op} {v : AV} (hs : loudOp o = false) (e : estep P call o σ H n = some (v, H', n')) : epure P o σ H = some v ∧ H' = H ∧ n' = n := by
  have key : ∀ {x : Option AV}, (match x with
      | some v => some (v, H, n)
      | none => none) = some (v, H', n') → x = some v ∧ H' = H ∧ n' = n := fun {x} e => by
    cases x with
    | none => cases e
    | some u =>
      injection e with e; injection e with e1 e2; injection e2 with e2 e3
      subst e1 e2 e3
      exact ⟨rfl, rfl, rfl⟩
  cases o <;> first | (cases hs; done) | exact key e | skip
  case call c =>
    obtain ⟨callee, args, ats⟩ := c
    cases callee with
    | value f => cases hs
    | invoke _ _ => exact key e
    | builtin b => cases b <;> first | (cases hs; done) | exact key e
theorem estep_pure {o : Op} {v : AV} (hs : loudOp o = false) (e : epure P o σ H = some v) : estep P call o σ H n = some (v, H, n) := by
  have key : (match epure P o σ H with
      | some v => some (v, H, n)
      | none => none) = some (v, H, n) := by rw [e]
  cases o <;> first | (cases hs; done) | exact key | skip
  case call c =>
    obtain ⟨callee, args, ats⟩ := c
    cases callee with
    | value f => cases hs
    | invoke _ _ => exact key
    | builtin b => cases b <;> first | (cases hs; done) | exact key
theorem qbool_none {op : BinOp} {q : Option Bool} (h : eqOp op = false) : qbool op q = none := by
  cases q <;> cases op <;> first | rfl | cases h
theorem epure_calm {o : Op} (hc : calmOp P o = true) (G : AH) : epure P o σ G = epure P o σ H := by
  cases o <;> first | (cases hc; done) | rfl | skip
  case makeFunc fn a c => cases fn <;> rfl
  case binOp op t x y t' =>
    simp only [epure]
    unfold ebin
    split <;> try rfl
    simp only [calmOp, Bool.not_eq_true'] at hc
    rename_i b o b' o' _ _
    unfold eptr
    split
    · rename_i el hu
      have hp : isPtrB P t = true := by unfold isPtrB; rw [hu]
      rw [hp, Bool.and_true] at hc
      rw [qbool_none hc, qbool_none hc]
    · rfl
  case call c =>
    obtain ⟨callee, args, ats⟩ := c
    cases callee with
    | builtin b => cases b <;> first | (cases hc; done) | skip
                   all_goals (simp only [epure]; split <;> first | rfl | (rename_i hh _ _; cases hh) | (rename_i hh _; cases hh) | (rename_i hh; cases hh))
    | _ => cases hc
/-- The operation done in our machine is done in the code. -/
theorem edo_gstep (hcall : ∀ f, COk P f (call f)) {ops : Array Oper} {o : Oper} {v : AV} {did : Bool} {K : Env → Hp → Prop} (hr : HR φ H n h0 h) (hf : FR φ σ ρ) (e : edo P call ops o σ H n = some (v, did, H', n'))
    (hk : ∀ ψ u g, PLe φ ψ → HR ψ H' n' h0 g → VR ψ v u → K (ρ.put o.dst u) g) : gstep P ops o ρ h K := by
  have did_ : (estep P call o.op σ H n).map (fun r => (r.1, true, r.2)) = some (v, did, H', n') → astep P o.op ρ h fun u g => K (ρ.put o.dst u) g := fun e => by
    simp only [Option.map_eq_some_iff] at e
    obtain ⟨⟨v1, H1, n1⟩, e1, e2⟩ := e
    injection e2 with e2 e3; injection e3 with e3 e4; injection e4 with e4 e5
    subst e2 e3 e4 e5
    exact estep_sound hcall hr hf e1 fun ψ u g hp hg hu => hk ψ u g hp hg hu
  have skip_ : some (undefA, false, H, n) = some (v, did, H', n') → K (ρ.put o.dst undef) h := fun e => by
    injection e with e; injection e with e2 e3; injection e3 with e3 e4; injection e4 with e4 e5
    subst e2 e3 e4 e5
    exact hk φ undef h (PLe.refl _) hr .undef
  unfold edo at e
  unfold gstep
  split at e
  · rename_i hg
    simp only [hg]
    exact did_ e
  · rename_i j want hg
    simp only [hg]
    split at e
    · cases e
    · rename_i t ht
      simp only [ht]
      split at e
      · rename_i q hq
        have hv := (hq ▸ hf.at t).bool_inv
        simp only [hv]
        split at e
        · rename_i hqw
          rw [if_pos (by simpa using hqw)]
          exact did_ e
        · rename_i hqw
          rw [if_neg (by simpa using hqw)]
          exact skip_ e
      · rename_i us hq
        obtain ⟨cs, hv, _⟩ := (hq ▸ hf.at t).tup_inv
        simp only [hv]
        exact skip_ e
      · cases e
theorem edo_still {ops : Array Oper} {o : Oper} {v : AV} {did : Bool} (hs : loudOp o.op = false) (e : edo P call ops o σ H n = some (v, did, H', n')) : H' = H ∧ n' = n ∧
    ∀ (G : AH) (m : Nat), (did = true → epure P o.op σ G = some v) → edo P call ops o σ G m = some (v, did, G, m) := by
  have did_ : (estep P call o.op σ H n).map (fun r => (r.1, true, r.2)) = some (v, did, H', n') → H' = H ∧ n' = n ∧ did = true ∧ ∀ (G : AH) (m : Nat), (did = true → epure P o.op σ G = some v) → (estep P call o.op σ G m).map (fun r => (r.1, true, r.2)) = some (v, did, G, m) := fun e => by
    simp only [Option.map_eq_some_iff] at e
    obtain ⟨⟨v1, H1, n1⟩, e1, e2⟩ := e
    injection e2 with e2 e3; injection e3 with e3 e4; injection e4 with e4 e5
    subst e2 e3 e4 e5
    obtain ⟨_, h2, h3⟩ := estep_still hs e1
    exact ⟨h2, h3, rfl, fun G m hG => by rw [estep_pure hs (hG rfl)]; rfl⟩
  unfold edo at e
  split at e
  · rename_i hg
    obtain ⟨h1, h2, _, h4⟩ := did_ e
    exact ⟨h1, h2, fun G m hG => by unfold edo; simp only [hg]; exact h4 G m hG⟩
  · rename_i j want hg
    split at e
    · cases e
    · rename_i t ht
      split at e
      · rename_i q hq
        split at e
        · rename_i hqw
          obtain ⟨h1, h2, _, h4⟩ := did_ e
          exact ⟨h1, h2, fun G m hG => by unfold edo; simp only [hg, ht, hq, hqw]; exact h4 G m hG⟩
        · rename_i hqw
          injection e with e; injection e with e2 e3; injection e3 with e3 e4; injection e4 with e4 e5
          subst e2 e3 e4 e5
          exact ⟨rfl, rfl, fun G m hG => by unfold edo; simp only [hg, ht, hq, hqw]⟩
      · rename_i us hq
        injection e with e; injection e with e2 e3; injection e3 with e3 e4; injection e4 with e4 e5
        subst e2 e3 e4 e5
        exact ⟨rfl, rfl, fun G m hG => by unfold edo; simp only [hg, ht, hq]⟩
      · cases e
theorem edo_done {ops : Array Oper} {o : Oper} {v : AV} {did : Bool} (hs : loudOp o.op = false) (e : edo P call ops o σ H n = some (v, did, H', n')) (hd : did = true) : epure P o.op σ H = some v := by
  have did_ : (estep P call o.op σ H n).map (fun r => (r.1, true, r.2)) = some (v, did, H', n') → epure P o.op σ H = some v := fun e => by
    simp only [Option.map_eq_some_iff] at e
    obtain ⟨⟨v1, H1, n1⟩, e1, e2⟩ := e
    injection e2 with e2 e3
    subst e2
    exact (estep_still hs e1).1
  subst hd
  unfold edo at e
  repeat' split at e
  all_goals first | exact did_ e | (cases e; done) | (injection e with e; injection e with e2 e3; injection e3 with e3 e4; cases e3)

/-! ### the slots, by which operations are done -/
def dstAt (ops : Array Oper) (j : Nat) : Option Nat := (ops[j]?).bind (·.dst)
noncomputable def curN (ops : Array Oper) (val : Nat → AV) (σ : AE) (L : Nat → Bool) : Nat → Nat → Option AV
  | 0, t => σ.get t
  | k + 1, t => if L k = true ∧ dstAt ops k = some t then some (val k) else curN ops val σ L k t
theorem curN_congr {ops : Array Oper} {val : Nat → AV} {L L' : Nat → Bool} {t : Nat} : ∀ k, (∀ j, j < k → dstAt ops j = some t → L j = L' j) → curN ops val σ L k t = curN ops val σ L' k t
  | 0, _ => rfl
  | k + 1, h => by
    simp only [curN]
    rw [curN_congr k fun j hj => h j (by omega)]
    by_cases hd : dstAt ops k = some t
    · rw [h k (by omega) hd]
    · rw [if_neg (fun q => hd q.2), if_neg (fun q => hd q.2)]
theorem curN_cut {ops : Array Oper} {val : Nat → AV} {i t : Nat} : ∀ k, i ≤ k → curN ops val σ (fun j => decide (j < i)) k t = curN ops val σ (fun _ => true) i t
  | 0, h => by
    have : i = 0 := by omega
    subst this; rfl
  | k + 1, h => by
    by_cases hk : i = k + 1
    · subst hk
      exact curN_congr (k + 1) fun j hj _ => by simp [hj]
    · simp only [curN]
      rw [if_neg (by simp; omega)]
      exact curN_cut k (by omega)
theorem curN_upd {ops : Array Oper} {val : Nat → AV} {L L' : Nat → Bool} {i t : Nat} (hne : ∀ j, j ≠ i → L' j = L j) (hi : L' i = true) : ∀ k, i < k → (∀ j, i < j → j < k → dstAt ops i = some t → dstAt ops j = some t → L j = false) →
    curN ops val σ L' k t = if dstAt ops i = some t then some (val i) else curN ops val σ L k t
  | 0, h, _ => by omega
  | k + 1, h, hc => by
    simp only [curN]
    by_cases hk : k = i
    · subst hk
      by_cases hd : dstAt ops k = some t
      · rw [if_pos ⟨hi, hd⟩, if_pos hd]
      · rw [if_neg (fun q => hd q.2), if_neg hd, if_neg (fun q => hd q.2)]
        exact curN_congr k fun j hj _ => hne j (by omega)
    · have ih : curN ops val σ L' k t = if dstAt ops i = some t then some (val i) else curN ops val σ L k t := curN_upd hne hi k (by omega) fun j h1 h2 => hc j h1 (by omega)
      rw [hne k hk, ih]
      by_cases hd : dstAt ops i = some t
      · by_cases hd2 : dstAt ops k = some t
        · have := hc k (by omega) (by omega) hd hd2
          rw [this]; simp
        · rw [if_neg (fun q => hd2 q.2), if_pos hd]; simp [hd]
      · rw [if_neg hd, if_neg hd]
/-! ### the order in the text, told -/
/-- What a run in the text's order tells: of each operation its value, whether it was done, and what there was ahead of it. -/
structure Told (P : Program) (call : AC) (ops : Array Oper) (σ0 : AE) (val : Nat → AV) (did : Nat → Bool) (sf : Nat → AE) (Hs : Nat → AH) (ns : Nat → Nat) (k m : Nat) : Prop where
  step : ∀ i o, k ≤ i → i < m → ops[i]? = some o → edo P call ops o (sf i) (Hs i) (ns i) = some (val i, did i, Hs (i + 1), ns (i + 1))
  look : ∀ i o, k ≤ i → i < m → ops[i]? = some o → ∀ t a, (sf i).get t = some a → t ∈ looks ops o ∧ curN ops val σ0 (fun _ => true) i t = some a
theorem etr_told {ops : Array Oper} {σ0 : AE} {val : Nat → AV} {did : Nat → Bool} {sf : Nat → AE} {Hs : Nat → AH} {ns : Nat → Nat} : ∀ (l : List Oper) (k : Nat) (σ σ' : AE) (H' : AH) (n' : Nat) (tr : List TE), (∀ j, l[j]? = ops[k + j]?) → (∀ t a, σ.get t = some a → curN ops val σ0 (fun _ => true) k t = some a) →
    etr P call ops l σ (Hs k) (ns k) = some (tr, σ', H', n') → (∀ j e, tr[j]? = some e → val (k + j) = e.v ∧ did (k + j) = e.did ∧ sf (k + j) = e.σ ∧ Hs (k + j) = e.H ∧ ns (k + j) = e.n) → Hs (k + l.length) = H' → ns (k + l.length) = n' →
    Told P call ops σ0 val did sf Hs ns k (k + l.length) ∧ tr.length = l.length ∧ ∀ t a, σ'.get t = some a → curN ops val σ0 (fun _ => true) (k + l.length) t = some a
  | [], k, σ, σ', H', n', tr, hl, hσ, e, htr, hH, hn => by
    have e : some ([], σ, Hs k, ns k) = some (tr, σ', H', n') := e
    injection e with e; injection e with e1 e2; injection e2 with e2 e3
    subst e1 e2
    exact ⟨⟨fun i o h1 h2 => by simp at h2; omega, fun i o h1 h2 => by simp at h2; omega⟩, rfl, hσ⟩
  | o :: l, k, σ, σ', H', n', tr, hl, hσ, e, htr, hH, hn => by
    have h0 : ops[k]? = some o := by simpa using (hl 0).symm
    simp only [etr] at e
    split at e
    · rename_i v d H1 n1 hdo
      simp only [Option.map_eq_some_iff] at e
      obtain ⟨⟨tr1, σ1, H2, n2⟩, e1, e2⟩ := e
      injection e2 with e2 e3; injection e3 with e3 e4; injection e4 with e4 e5
      subst e2 e3 e4 e5
      obtain ⟨t1, t2, t3, t4, t5⟩ := htr 0 _ rfl
      simp only [Nat.add_zero] at t1 t2 t3 t4 t5
      have hH1 : Hs (k + 1) = H1 ∧ ns (k + 1) = n1 := by
        cases l with
        | nil =>
          have e1 : some ([], eput σ o.dst v, H1, n1) = some (tr1, σ1, H2, n2) := e1
          injection e1 with e1; injection e1 with _ e1; injection e1 with _ e1; injection e1 with e1 e6
          subst e1 e6
          exact ⟨by simpa using hH, by simpa using hn⟩
        | cons o2 l =>
          simp only [etr] at e1
          split at e1
          · simp only [Option.map_eq_some_iff] at e1
            obtain ⟨⟨tr2, r2⟩, _, e7⟩ := e1
            injection e7 with e7 _
            subst e7
            obtain ⟨_, _, _, q4, q5⟩ := htr 1 _ rfl
            exact ⟨q4, q5⟩
          · cases e1
      have hσ1 : ∀ t a, (eput σ o.dst v).get t = some a → curN ops val σ0 (fun _ => true) (k + 1) t = some a := fun t a hg => by
        simp only [curN, dstAt, h0, Option.bind_some, true_and]
        cases hd : o.dst with
        | none => rw [hd] at hg; rw [if_neg (by simp)]; exact hσ t a hg
        | some d =>
          rw [hd] at hg
          rcases setq_get depthE σ d t a hg with ⟨rfl, h2⟩ | ⟨h1, h2⟩
          · rw [if_pos rfl, t1, h2]
          · rw [if_neg (by simpa using Ne.symm h1)]; exact hσ t a h2
      obtain ⟨r1, r2, r3⟩ := etr_told (val := val) (did := did) (sf := sf) (Hs := Hs) (ns := ns) l (k + 1) _ σ1 H2 n2 tr1 (fun j => by have := hl (j + 1); simpa [Nat.add_assoc, Nat.add_comm 1 j] using this) hσ1 (by rw [hH1.1, hH1.2]; exact e1)
        (fun j e he => by
          have := htr (j + 1) e (by simpa using he)
          rwa [show k + (j + 1) = k + 1 + j from by omega] at this)
        (by rw [← hH]; congr 1; simp; omega) (by rw [← hn]; congr 1; simp; omega)
      have hlen : k + (o :: l).length = k + 1 + l.length := by simp; omega
      rw [hlen]
      refine ⟨⟨fun i o' h1 h2 ho => ?_, fun i o' h1 h2 ho => ?_⟩, by simp [r2], r3⟩
      · by_cases hi : i = k
        · subst hi
          rw [h0] at ho; injection ho with ho; subst ho
          rw [t1, t2, t3, hH1.1, hH1.2]
          exact hdo
        · exact r1.step i o' (by omega) h2 ho
      · by_cases hi : i = k
        · subst hi
          rw [h0] at ho; injection ho with ho; subst ho
          intro t a hg
          rw [t3] at hg
          obtain ⟨g1, g2⟩ := filt_get _ _ _ _ hg
          exact ⟨g1, hσ t a g2⟩
        · exact r1.look i o' (by omega) h2 ho
    · cases e
theorem no_loud {ops : Array Oper} {σ0 : AE} {val : Nat → AV} {did : Nat → Bool} {sf : Nat → AE} {Hs : Nat → AH} {ns : Nat → Nat} {m : Nat} (ht : Told P call ops σ0 val did sf Hs ns 0 m) (hm : m = ops.size) : ∀ (d p : Nat), p + d ≤ m →
    (∀ j o, p ≤ j → j < p + d → ops[j]? = some o → loudOp o.op = false) → Hs (p + d) = Hs p ∧ ns (p + d) = ns p
  | 0, _, _, _ => ⟨rfl, rfl⟩
  | d + 1, p, hle, hq => by
    obtain ⟨h1, h2⟩ := no_loud ht hm d p (by omega) fun j o a b => hq j o a (by omega)
    have hlt : p + d < ops.size := by omega
    have ho := Array.getElem?_eq_getElem hlt
    have hs := ht.step (p + d) _ (by omega) (by omega) ho
    obtain ⟨g1, g2, _⟩ := edo_still (hq (p + d) _ (by omega) (by omega) ho) hs
    exact ⟨by rw [← h1]; exact g1, by rw [← h2]; exact g2⟩
theorem first_loud (ops : Array Oper) : ∀ (d p : Nat), (∀ j o, p ≤ j → j < p + d → ops[j]? = some o → loudOp o.op = false) ∨ ∃ j o, p ≤ j ∧ j < p + d ∧ ops[j]? = some o ∧ loudOp o.op = true ∧ ∀ k o', p ≤ k → k < j → ops[k]? = some o' → loudOp o'.op = false
  | 0, p => .inl fun j o a b => by omega
  | d + 1, p => by
    rcases first_loud ops d p with h | ⟨j, o, h1, h2, h3⟩
    · cases ho : ops[p + d]? with
      | none =>
        exact .inl fun j o a b e => by
          by_cases hj : j = p + d
          · subst hj; rw [ho] at e; cases e
          · exact h j o a (by omega) e
      | some o =>
        cases hl : loudOp o.op with
        | true => exact .inr ⟨p + d, o, by omega, by omega, ho, hl, fun k o' a b => h k o' a b⟩
        | false =>
          exact .inl fun j o' a b e => by
            by_cases hj : j = p + d
            · subst hj; rw [ho] at e; injection e with e; subst e; exact hl
            · exact h j o' a (by omega) e
    · exact .inr ⟨j, o, h1, by omega, h3⟩
theorem last_loud (ops : Array Oper) : ∀ (d p : Nat), (∀ j o, p ≤ j → j < p + d → ops[j]? = some o → loudOp o.op = false) ∨ ∃ j o, p ≤ j ∧ j < p + d ∧ ops[j]? = some o ∧ loudOp o.op = true ∧ ∀ k o', j < k → k < p + d → ops[k]? = some o' → loudOp o'.op = false
  | 0, p => .inl fun j o a b => by omega
  | d + 1, p => by
    cases ho : ops[p + d]? with
    | none =>
      rcases last_loud ops d p with h | ⟨j, o, h1, h2, h3, h4, h5⟩
      · exact .inl fun j o a b e => by
          by_cases hj : j = p + d
          · subst hj; rw [ho] at e; cases e
          · exact h j o a (by omega) e
      · exact .inr ⟨j, o, h1, by omega, h3, h4, fun k o' a b e => by
          by_cases hj : k = p + d
          · subst hj; rw [ho] at e; cases e
          · exact h5 k o' a (by omega) e⟩
    | some o =>
      cases hl : loudOp o.op with
      | true => exact .inr ⟨p + d, o, by omega, by omega, ho, hl, fun k o' a b => by omega⟩
      | false =>
        rcases last_loud ops d p with h | ⟨j, o', h1, h2, h3, h4, h5⟩
        · exact .inl fun j o' a b e => by
            by_cases hj : j = p + d
            · subst hj; rw [ho] at e; injection e with e; subst e; exact hl
            · exact h j o' a (by omega) e
        · exact .inr ⟨j, o', h1, by omega, h3, h4, fun k o2 a b e => by
            by_cases hj : k = p + d
            · subst hj; rw [ho] at e; injection e with e; subst e; exact hl
            · exact h5 k o2 a (by omega) e⟩
theorem dyn_any (hcall : ∀ f, COk P f (call f)) {ops : Array Oper} {σ0 σ' : AE} {val : Nat → AV} {did : Nat → Bool} {sf : Nat → AE} {Hs : Nat → AH} {ns : Nat → Nat} {N : Env → Hp → Prop}
    (ht : Told P call ops σ0 val did sf Hs ns 0 ops.size) (hst : dynStatic ops = true) (hσ' : ∀ t a, σ'.get t = some a → curN ops val σ0 (fun _ => true) ops.size t = some a)
    (hck : ∀ i j a b, i < ops.size → j < ops.size → ops[i]? = some a → ops[j]? = some b → loudOp b.op = true → loudOp a.op = false → calmOp P a.op = false → did i = true →
      if i < j then befB ops 4 i j = true ∨ epure P a.op (sf i) (Hs (j + 1)) = some (val i) else befB ops 4 j i = true ∨ epure P a.op (sf i) (Hs j) = some (val i))
    (hr : HR φ (Hs 0) (ns 0) h0 h) (hf : FR φ σ0 ρ) (hN : ∀ ψ ρ' h', PLe φ ψ → HR ψ (Hs ops.size) (ns ops.size) h0 h' → FR ψ σ' ρ' → N ρ' h') : AnyI P ops ρ h N := by
  simp only [dynStatic, Bool.and_eq_true] at hst
  obtain ⟨hed, hst⟩ := hst
  have pair : ∀ i j a b, j < i → ops[i]? = some b → ops[j]? = some a → (a.apart ops b = true ∧ (loudOp a.op = false ∨ loudOp b.op = false)) ∨ befB ops 4 j i = true := fun i j a b hlt hi hj => by
    have hisz := (Array.getElem?_eq_some_iff.1 hi).1
    have h1 := List.all_eq_true.1 hst i (by simpa using hisz)
    have h2 := List.all_eq_true.1 h1 j (by simpa using hlt)
    simp only [hi, hj, Bool.or_eq_true, Bool.and_eq_true, stillOp, Bool.not_eq_true'] at h2
    exact h2
  refine ⟨hed, fun listed ρ1 h1 => ∃ ψ p, PLe φ ψ ∧ p ≤ ops.size ∧ HR ψ (Hs p) (ns p) h0 h1 ∧ (∀ j o, ops[j]? = some o → loudOp o.op = true → (listed.getD j false = true ↔ j < p)) ∧
      ∀ t a, curN ops val σ0 (fun j => listed.getD j false) ops.size t = some a → VR ψ a (ρ1 t), ?_, ?_, ?_⟩
  · refine ⟨φ, 0, PLe.refl _, Nat.zero_le _, hr, fun j o hj _ => ?_, fun t a e => ?_⟩
    · have : (Array.replicate ops.size false).getD j false = false := by simp [Array.getD]
      rw [this]; simp
    · have : curN ops val σ0 (fun j => (Array.replicate ops.size false).getD j false) ops.size t = curN ops val σ0 (fun j => decide (j < 0)) ops.size t :=
        curN_congr _ fun j _ _ => by simp [Array.getD]
      rw [this, curN_cut _ (Nat.zero_le _)] at e
      exact hf t a e
  · intro listed i o ρ1 h1 hsz hdn ho hun hedge ⟨ψ, p, hp, hple, hr1, hlo, henv⟩
    have hi : i < ops.size := (Array.getElem?_eq_some_iff.1 ho).1
    -- what the edges say of the others
    have before : ∀ j, befB ops 4 j i = true → listed.getD j false = true := fun j hb => befB_listed hdn 4 i (fun o' ho' e he hb' => by
      rw [ho] at ho'; injection ho' with ho'; subst ho'
      exact hedge e he hb') hb
    have behind : ∀ j, befB ops 4 i j = true → listed.getD j false = false := fun j hb => by
      cases hl : listed.getD j false with
      | false => rfl
      | true =>
        have := befB_listed hdn 4 j (fun o' ho' e he hb' => hdn j o' ho' hl e he hb') hb
        rw [hun] at this; cases this
    -- the slots that it looks at
    have hlook : ∀ t, t ∈ looks ops o → curN ops val σ0 (fun j => listed.getD j false) ops.size t = curN ops val σ0 (fun _ => true) i t := fun t htl => by
      rw [← curN_cut (val := val) ops.size (Nat.le_of_lt hi)]
      refine curN_congr _ fun j hj hd => ?_
      have hjo := Array.getElem?_eq_getElem hj
      have hd2 : ops[j].dst = some t := by simpa [dstAt, hjo] using hd
      by_cases hji : j = i
      · subst hji; simp [hun]
      · by_cases hlt : j < i
        · rcases pair i j _ _ hlt ho hjo with ⟨ha, _⟩ | hb
          · exact absurd htl ((Oper.apart_spec ha).1 t hd2)
          · rw [before j hb]; simp [hlt]
        · rcases pair j i _ _ (by omega) hjo ho with ⟨ha, _⟩ | hb
          · exact absurd htl ((Oper.apart_spec ha).2.2 t hd2)
          · rw [behind j hb]; simp [hlt]
    have hfi : FR ψ (sf i) ρ1 := fun t a e => by
      obtain ⟨g1, g2⟩ := ht.look i o (Nat.zero_le _) hi ho t a e
      exact henv t a (by rw [hlook t g1]; exact g2)
    have hdo := ht.step i o (Nat.zero_le _) hi ho
    -- the slots behind it
    have hset : ∀ j, (listed.setIfInBounds i true).getD j false = if j = i then true else listed.getD j false := fun j => getD_set (by omega)
    have henv2 : ∀ {χ : Ph} {u : Value}, PLe ψ χ → VR χ (val i) u → ∀ t a, curN ops val σ0 (fun j => (listed.setIfInBounds i true).getD j false) ops.size t = some a → VR χ a ((ρ1.put o.dst u) t) := fun {χ u} hpχ hu t a e => by
      rw [curN_upd (L := fun j => listed.getD j false) (i := i) (fun j hj => by simp only [hset, if_neg hj]) (by simp only [hset, if_true]) ops.size hi (fun j h1 h2 hd1 hd2 => by
        have hjo := Array.getElem?_eq_getElem h2
        have e1 : o.dst = some t := by simpa [dstAt, ho] using hd1
        have e2 : ops[j].dst = some t := by simpa [dstAt, hjo] using hd2
        rcases pair j i _ _ h1 hjo ho with ⟨ha, _⟩ | hb
        · exact absurd e2 ((Oper.apart_spec ha).2.1 t e1)
        · exact behind j hb)] at e
      by_cases hd : o.dst = some t
      · rw [if_pos (by simpa [dstAt, ho] using hd)] at e
        injection e with e
        subst e
        rw [hd, put_some, upd_same]; exact hu
      · rw [if_neg (by simpa [dstAt, ho] using hd)] at e
        have := VR.mono hpχ _ _ (henv t a e)
        rwa [put_agree (fun x hx => by intro q; exact hd (by rw [hx, q]))]
    cases hl : loudOp o.op with
    | true =>
      -- a deed: all deeds ahead of it are done, and none behind it
      have hpi : p ≤ i := by
        have := (hlo i o ho hl)
        rw [hun] at this
        by_cases hc : i < p
        · have := this.2 hc; cases this
        · omega
      have hnol : ∀ j o', p ≤ j → j < p + (i - p) → ops[j]? = some o' → loudOp o'.op = false := fun j o' h1 h2 hj => by
        cases hlj : loudOp o'.op with
        | false => rfl
        | true =>
          rcases pair i j _ _ (by omega) ho hj with ⟨_, hx⟩ | hb
          · rcases hx with hx | hx
            · rw [hlj] at hx; cases hx
            · rw [hl] at hx; cases hx
          · have := (hlo j o' hj hlj).1 (before j hb)
            omega
      obtain ⟨c1, c2⟩ := no_loud ht rfl (i - p) p (by omega) hnol
      rw [show p + (i - p) = i from by omega] at c1 c2
      rw [← c1, ← c2] at hr1
      refine edo_gstep hcall hr1 hfi hdo fun χ u g hpχ hg hu => ⟨χ, i + 1, hp.trans hpχ, hi, hg, fun j o' hj hlj => ?_, henv2 hpχ hu⟩
      rw [hset]
      by_cases hji : j = i
      · subst hji; simp
      · rw [if_neg hji]
        have hjsz := (Array.getElem?_eq_some_iff.1 hj).1
        by_cases hlt : j < i
        · have : listed.getD j false = true := by
            rcases pair i j _ _ hlt ho hj with ⟨_, hx⟩ | hb
            · rcases hx with hx | hx
              · rw [hlj] at hx; cases hx
              · rw [hl] at hx; cases hx
            · exact before j hb
          rw [this]; simp; omega
        · have : listed.getD j false = false := by
            rcases pair j i _ _ (by omega) hj ho with ⟨_, hx⟩ | hb
            · rcases hx with hx | hx
              · rw [hl] at hx; cases hx
              · rw [hlj] at hx; cases hx
            · exact behind j hb
          rw [this]; simp; omega
    | false =>
      obtain ⟨s1, s2, s3⟩ := edo_still hl hdo
      have hsame : did i = true → epure P o.op (sf i) (Hs p) = some (val i) := fun hdi => by
        have hit := edo_done hl hdo hdi
        cases hcm : calmOp P o.op with
        | true => rw [epure_calm hcm (H := Hs i)]; exact hit
        | false =>
          by_cases hpi : p ≤ i
          · rcases first_loud ops (i - p) p with hno | ⟨j, o', j1, j2, j3, j4, j5⟩
            · obtain ⟨c1, _⟩ := no_loud ht rfl (i - p) p (by omega) hno
              rw [show p + (i - p) = i from by omega] at c1
              rw [← c1]; exact hit
            · obtain ⟨c1, _⟩ := no_loud ht rfl (j - p) p (by omega) fun k o2 a b => j5 k o2 a (by omega)
              rw [show p + (j - p) = j from by omega] at c1
              have hjsz := (Array.getElem?_eq_some_iff.1 j3).1
              have hk := hck i j o o' hi hjsz ho j3 j4 hl hcm hdi
              rw [if_neg (by omega)] at hk
              rcases hk with hk | hk
              · have := (hlo j o' j3 j4).1 (before j hk)
                omega
              · rw [← c1]; exact hk
          · rcases last_loud ops (p - i) i with hno | ⟨j, o', j1, j2, j3, j4, j5⟩
            · obtain ⟨c1, _⟩ := no_loud ht rfl (p - i) i (by omega) hno
              rw [show i + (p - i) = p from by omega] at c1
              rw [c1]; exact hit
            · have hji : j ≠ i := fun q => by subst q; rw [ho] at j3; injection j3 with j3; subst j3; rw [hl] at j4; cases j4
              obtain ⟨c1, _⟩ := no_loud ht rfl (p - (j + 1)) (j + 1) (by omega) fun k o2 a b => j5 k o2 (by omega) (by omega)
              rw [show j + 1 + (p - (j + 1)) = p from by omega] at c1
              have hjsz := (Array.getElem?_eq_some_iff.1 j3).1
              have hk := hck i j o o' hi hjsz ho j3 j4 hl hcm hdi
              rw [if_pos (by omega)] at hk
              rcases hk with hk | hk
              · have := (hlo j o' j3 j4).2 (by omega)
                rw [behind j hk] at this; cases this
              · rw [c1]; exact hk
      refine edo_gstep hcall hr1 hfi (s3 (Hs p) (ns p) hsame) fun χ u g hpχ hg hu => ⟨χ, p, hp.trans hpχ, hple, hg, fun j o' hj hlj => ?_, henv2 hpχ hu⟩
      rw [hset]
      by_cases hji : j = i
      · subst hji; rw [ho] at hj; injection hj with hj; subst hj; rw [hl] at hlj; cases hlj
      · rw [if_neg hji]; exact hlo j o' hj hlj
  · intro listed ρ1 h1 hsz hall ⟨ψ, p, hp, hple, hr1, hlo, henv⟩
    obtain ⟨c1, c2⟩ := no_loud ht rfl (ops.size - p) p (by omega) fun j o a b hj => by
      cases hl : loudOp o.op with
      | false => rfl
      | true =>
        have := (hlo j o hj hl).1 (hall j (by omega))
        omega
    rw [show p + (ops.size - p) = ops.size from by omega] at c1 c2
    rw [← c1, ← c2] at hr1
    refine hN ψ ρ1 h1 hp hr1 fun t a e => henv t a ?_
    rw [← hσ' t a e]
    exact curN_congr _ fun j hj _ => hall j hj
theorem edyn_sound (hcall : ∀ f, COk P f (call f)) {ops : Array Oper} {σ' : AE} {x : EX} {N : Env → Hp → Prop} (hr : HR φ H n h0 h) (hf : FR φ σ ρ) (e : edyn P call ops σ H n = some (x, σ', H', n'))
    (hN : ∀ ψ ρ' h', PLe φ ψ → HR ψ H' n' h0 h' → FR ψ σ' ρ' → N ρ' h') : x = .norm ∧ AnyI P ops ρ h N := by
  unfold edyn at e
  split at e
  · rename_i tr σ1 H1 n1 he
    split at e
    · rename_i hck
      injection e with e; injection e with e0 e; injection e with e1 e; injection e with e2 e3
      subst e0 e1 e2 e3
      refine ⟨rfl, ?_⟩
      simp only [Bool.and_eq_true] at hck
      obtain ⟨hst, hck⟩ := hck
      let dflt : TE := ⟨.bad, false, .nil, H1, n1⟩
      let at_ : Nat → TE := fun j => (tr[j]?).getD dflt
      have hat : ∀ j e, tr[j]? = some e → at_ j = e := fun j e hj => by simp only [at_, hj, Option.getD_some]
      have hsize : ops.toList.length = ops.size := Array.length_toList
      have hstart : (if tr.length = 0 then H1 else (at_ 0).H) = H ∧ (if tr.length = 0 then n1 else (at_ 0).n) = n := by
        cases hl : ops.toList with
        | nil =>
          rw [hl] at he
          have he : some ([], σ, H, n) = some (tr, σ1, H1, n1) := he
          injection he with he; injection he with q1 he; injection he with q2 he; injection he with q3 q4
          subst q1 q2 q3 q4
          exact ⟨rfl, rfl⟩
        | cons o l =>
          rw [hl] at he
          simp only [etr] at he
          split at he
          · simp only [Option.map_eq_some_iff] at he
            obtain ⟨⟨tr2, r2⟩, _, q⟩ := he
            injection q with q _
            subst q
            exact ⟨rfl, rfl⟩
          · cases he
      -- the heaps, by their numbers
      let Hs : Nat → AH := fun j => if j < tr.length then (at_ j).H else H1
      let ns : Nat → Nat := fun j => if j < tr.length then (at_ j).n else n1
      have hs0 : Hs 0 = H ∧ ns 0 = n := by
        refine ⟨?_, ?_⟩
        · rw [← hstart.1]; simp only [Hs]
          by_cases q : tr.length = 0
          · rw [if_neg (by omega), if_pos q]
          · rw [if_pos (by omega), if_neg q]
        · rw [← hstart.2]; simp only [ns]
          by_cases q : tr.length = 0
          · rw [if_neg (by omega), if_pos q]
          · rw [if_pos (by omega), if_neg q]
      have hlen : tr.length = ops.size := by
        have : ∀ (l : List Oper) (σ : AE) (H : AH) (n : Nat) (tr : List TE) (r : AE × AH × Nat), etr P call ops l σ H n = some (tr, r) → tr.length = l.length := fun l => by
          induction l with
          | nil => intro σ H n tr r he; injection he with he; injection he with q _; subst q; rfl
          | cons o l ih =>
            intro σ H n tr r he
            simp only [etr] at he
            split at he
            · simp only [Option.map_eq_some_iff] at he
              obtain ⟨⟨tr2, r2⟩, q1, q2⟩ := he
              injection q2 with q2 _
              subst q2
              simp [ih _ _ _ _ _ q1]
            · cases he
        rw [← hsize]; exact this _ _ _ _ _ _ he
      obtain ⟨told, _, hfin⟩ := etr_told (ops := ops) (σ0 := σ) (val := fun j => (at_ j).v) (did := fun j => (at_ j).did) (sf := fun j => (at_ j).σ) (Hs := Hs) (ns := ns) ops.toList 0 σ σ1 H1 n1 tr (fun j => by rw [Nat.zero_add, Array.getElem?_toList]) (fun t a q => q)
        (by rw [hs0.1, hs0.2]; exact he)
        (fun j e hj => by
          have hjl := (List.getElem?_eq_some_iff.1 hj).1
          rw [Nat.zero_add]
          refine ⟨by rw [hat j e hj], by rw [hat j e hj], by rw [hat j e hj], ?_, ?_⟩
          · simp only [Hs]; rw [if_pos hjl, hat j e hj]
          · simp only [ns]; rw [if_pos hjl, hat j e hj])
        (by simp only [Hs]; rw [if_neg (by rw [hlen, hsize]; omega)])
        (by simp only [ns]; rw [if_neg (by rw [hlen, hsize]; omega)])
      rw [Nat.zero_add, hsize] at told hfin
      have hend : Hs ops.size = H1 ∧ ns ops.size = n1 := ⟨by simp only [Hs]; rw [if_neg (by omega)], by simp only [ns]; rw [if_neg (by omega)]⟩
      refine dyn_any hcall told hst hfin ?_ (by rw [hs0.1, hs0.2]; exact hr) hf (by rw [hend.1, hend.2]; exact hN)
      intro i j a b hi hj ha hb hlb hla hca hdi
      have h1 := List.all_eq_true.1 hck i (by simpa using hi)
      have h2 := List.all_eq_true.1 h1 j (by simpa using hj)
      have hti : tr[i]? = some (at_ i) := by
        rw [List.getElem?_eq_getElem (by omega)]
        exact congrArg some (hat i _ (List.getElem?_eq_getElem (by omega))).symm
      have htj : tr[j]? = some (at_ j) := by
        rw [List.getElem?_eq_getElem (by omega)]
        exact congrArg some (hat j _ (List.getElem?_eq_getElem (by omega))).symm
      simp only [dynPair, ha, hb, hti, htj] at h2
      rw [if_pos ⟨hlb, by simp [stillOp, hla], hca, hdi⟩] at h2
      have sm : ∀ G, sameAt P a (at_ i) G = true → epure P a.op (at_ i).σ G = some (at_ i).v := fun G hG => by
        unfold sameAt at hG
        split at hG
        · rename_i v hv
          rw [hv, eqVV_eq hG]
        · cases hG
      by_cases hij : i < j
      · rw [if_pos hij] at h2 ⊢
        simp only [Bool.or_eq_true] at h2
        refine h2.imp id fun q => ?_
        have hHs : Hs (j + 1) = (match tr[j + 1]? with
            | some g => g.H
            | none => H1) := by
          simp only [Hs]
          by_cases hq : j + 1 < tr.length
          · rw [if_pos hq, List.getElem?_eq_getElem hq]
            dsimp only
            rw [hat (j + 1) _ (List.getElem?_eq_getElem hq)]
          · rw [if_neg hq, List.getElem?_eq_none (by omega)]
        rw [hHs]
        exact sm _ q
      · rw [if_neg hij] at h2 ⊢
        simp only [Bool.or_eq_true] at h2
        refine h2.imp id fun q => ?_
        have hHs : Hs j = (at_ j).H := by simp only [Hs]; rw [if_pos (by omega)]
        rw [hHs]
        exact sm _ q
    · cases e
  · cases e
end
end Go.Proofs.Ytaejmcgcfopmkaa
