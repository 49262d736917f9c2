/- Texts of our own, joined: the engine, the machine that runs code, and what is known of the functions. -/
import Derived.Test.YtkhfdjhohfebgaaJe
import Derived.ChangeMaps5
import Derived.Deep.Slices
namespace Go.Proofs.Ytkhfdjhohfebgaa
open Go Go.RowKit
structure TR where
  v : AV
  σ : AE
  H : AH
  n : Nat
inductive Tr (ops : Array Oper) : List Oper → List DB → List (AH × Nat) → AE → AH → Nat → List TR → AE → AH → Nat → Prop
  | nil {bs : List DB} {hist : List (AH × Nat)} {σ : AE} {H : AH} {n : Nat} : Tr ops [] bs hist σ H n [] σ H n
  | cons {o : Oper} {l : List Oper} {b : DB} {bs : List DB} {hist : List (AH × Nat)} {σ : AE} {H : AH} {n : Nat} {σr : AE} {v : AV} {H1 : AH} {n1 : Nat} {tr : List TR} {σ' : AE} {H' : AH} {n' : Nat}
    (s : StepOk ops o b hist σ H n σr v H1 n1) (r : Tr ops l bs ((H, n) :: hist) (eput σr o.dst v) H1 n1 tr σ' H' n') : Tr ops (o :: l) (b :: bs) hist σ H n (⟨v, σr, H, n⟩ :: tr) σ' H' n'
section
variable {φ : Ph} {h0 h : Hp} {ρ : Env} {cd : CP} {ops : Array Oper}
theorem dynL_tr (hcd : CPok cd) (hcs : CSing cd) {kn : KP} : ∀ (l : List Oper) (bs : List DB) (hist : List (AH × Nat)) (σ : AE) (H : AH) (n : Nat), (∀ (i : Nat) o b, l[i]? = some o → bs[i]? = some b → bOk o b ∧ gslotIn ops o b.2 = true) → dynL ops l bs cd hist σ H n kn →
    ∃ tr σ' H' n', Tr ops l bs hist σ H n tr σ' H' n' ∧ kn σ' H' n'
  | [], bs, hist, σ, H, n, _, hs => ⟨[], σ, H, n, .nil, hs⟩
  | o :: l, [], hist, σ, H, n, _, hs => hs.elim
  | o :: l, b :: bs, hist, σ, H, n, hb, hs => by
    have hs : dynOp ops o b cd hist σ H n (fun σ' H' n' => dynL ops l bs cd ((H, n) :: hist) σ' H' n' kn) := hs
    obtain ⟨h1, h2⟩ := hb 0 o b rfl rfl
    obtain ⟨σr, v, H1, n1, h3, h4⟩ := dynOp_step hcd hcs h1 h2 hs
    obtain ⟨tr, σ', H', n', h5, h6⟩ := dynL_tr hcd hcs l bs _ _ H1 n1 (fun i o b e1 e2 => hb (i + 1) o b (by simpa using e1) (by simpa using e2)) h4
    exact ⟨_, σ', H', n', .cons h3 h5, h6⟩
theorem tr_length {l : List Oper} {bs : List DB} {hist : List (AH × Nat)} {σ : AE} {H : AH} {n : Nat} {tr : List TR} {σ' : AE} {H' : AH} {n' : Nat} (ht : Tr ops l bs hist σ H n tr σ' H' n') : tr.length = l.length := by
  induction ht with
  | nil => rfl
  | cons s r ih => simp [ih]
/-- What is told of one operation. -/
structure At (ops : Array Oper) (Bs : List DB) (σ0 : AE) (val : Nat → AV) (σs : Nat → AE) (Hs : Nat → AH) (ns : Nat → Nat) (i : Nat) (o : Oper) : Prop where
  look : ∀ t a, (σs i).get t = some a → Sup (curN ops val σ0 (fun _ => true) i t) a
  grow : GrowsA (Hs i) (Hs (i + 1))
  bs : ∃ b, Bs[i]? = some b ∧ (loudOp o.op = true → LoudF ops o b.2 (σs i) (Hs i) (ns i) (val i) (Hs (i + 1)) (ns (i + 1))) ∧
    (loudOp o.op = false → Hs (i + 1) = Hs i ∧ ns (i + 1) = ns i ∧ ∀ k, b.1 = some k → k ≤ i → StillF ops o b.2 (σs i) (Hs (i - k)) (val i))
theorem tr_told {Bs : List DB} {σ0 : AE} {val : Nat → AV} {σs : Nat → AE} {Hs : Nat → AH} {ns : Nat → Nat} {l : List Oper} {bs : List DB} {hist : List (AH × Nat)} {σ : AE} {H : AH} {n : Nat} {tr : List TR} {σ' : AE} {H' : AH} {n' : Nat} (ht : Tr ops l bs hist σ H n tr σ' H' n') :
    ∀ k, (∀ j : Nat, l[j]? = ops[k + j]?) → (∀ j : Nat, bs[j]? = Bs[k + j]?) → (∀ t a, σ.get t = some a → Sup (curN ops val σ0 (fun _ => true) k t) a) → (∀ j, j < k → nth hist j = some (Hs (k - 1 - j), ns (k - 1 - j))) → H = Hs k → n = ns k →
    (∀ (j : Nat) e, tr[j]? = some e → val (k + j) = e.v ∧ σs (k + j) = e.σ ∧ Hs (k + j) = e.H ∧ ns (k + j) = e.n) → Hs (k + l.length) = H' → ns (k + l.length) = n' →
    (∀ i o, k ≤ i → i < k + l.length → ops[i]? = some o → At ops Bs σ0 val σs Hs ns i o) ∧ tr.length = l.length ∧ ∀ t a, σ'.get t = some a → Sup (curN ops val σ0 (fun _ => true) (k + l.length) t) a := by
  induction ht with
  | nil => exact fun k _ _ hσ _ _ _ _ _ _ => ⟨fun i o h1 h2 => by simp at h2; omega, rfl, hσ⟩
  | @cons o l b bs hist σ H n σr v H1 n1 tr σ' H' n' s r ih =>
    intro k hl hb hσ hh hH hn htr hH' hn'
    have ho : ops[k]? = some o := by simpa using (hl 0).symm
    have hbk : Bs[k]? = some b := by simpa using (hb 0).symm
    obtain ⟨t1, t3, t4, t5⟩ := htr 0 _ rfl
    simp only [Nat.add_zero] at t1 t3 t4 t5
    have hH1 : H1 = Hs (k + 1) ∧ n1 = ns (k + 1) := by
      cases r with
      | nil => exact ⟨by simpa using hH'.symm, by simpa using hn'.symm⟩
      | cons s2 r2 =>
        obtain ⟨_, _, q4, q5⟩ := htr 1 _ rfl
        exact ⟨q4.symm, q5.symm⟩
    have hσr : ∀ t a, σr.get t = some a → Sup (curN ops val σ0 (fun _ => true) k t) a := fun t a hg => Sup.trans (fun b hb => hσ t b hb) (s.sup t a hg)
    have hσ1 : ∀ t a, (eput σr o.dst v).get t = some a → Sup (curN ops val σ0 (fun _ => true) (k + 1) t) a := fun t a hg => by
      simp only [curN, dstAt, ho, Option.bind_some, true_and]
      cases hd : o.dst with
      | none => rw [hd] at hg; rw [if_neg (by simp)]; exact hσr t a hg
      | some d =>
        rw [hd] at hg
        rcases setq_get depthE σr d t a hg with ⟨rfl, h2⟩ | ⟨h1, h2⟩
        · rw [if_pos rfl, t1, h2]; exact .refl rfl
        · rw [if_neg (by simpa using Ne.symm h1)]; exact hσr t a h2
    obtain ⟨r1, r2, r3⟩ := ih (k + 1) (fun j => by have := hl (j + 1); simpa [Nat.add_assoc, Nat.add_comm 1 j] using this) (fun j => by have := hb (j + 1); simpa [Nat.add_assoc, Nat.add_comm 1 j] using this) hσ1
      (fun j hj => by
        cases j with
        | zero =>
          show some (H, n) = _
          rw [hH, hn]; simp
        | succ j =>
          show nth hist j = _
          rw [hh j (by omega)]
          have : k - 1 - j = k + 1 - 1 - (j + 1) := by omega
          rw [this]) hH1.1 hH1.2
      (fun j e he => by
        have := htr (j + 1) e (by simpa using he)
        rwa [show k + (j + 1) = k + 1 + j from by omega] at this)
      (by rw [← hH']; congr 1; simp; omega) (by rw [← hn']; congr 1; simp; omega)
    have hlen : k + (o :: l).length = k + 1 + l.length := by simp; omega
    rw [hlen]
    refine ⟨fun i o' h1 h2 ho' => ?_, by simp [r2], r3⟩
    by_cases hi : i = k
    · subst hi
      rw [ho] at ho'; injection ho' with ho'; subst ho'
      refine ⟨?_, ?_, b, hbk, fun hl => ?_, fun hl => ?_⟩
      · rw [t3]; exact hσr
      · rw [← hH, ← hH1.1]; exact s.grow
      · rw [t3, t1, ← hH, ← hn, ← hH1.1, ← hH1.2]; exact s.loud hl
      · obtain ⟨g1, g2, G, g3, g4⟩ := s.still hl
        refine ⟨by rw [← hH1.1, ← hH]; exact g1, by rw [← hH1.2, ← hn]; exact g2, fun j hj hji => ?_⟩
        rw [t3, t1]
        have hr : ∃ r, nth ((H, n) :: hist) j = some r ∧ r.1 = Hs (i - j) := by
          cases j with
          | zero => exact ⟨(H, n), rfl, by rw [Nat.sub_zero]; exact hH⟩
          | succ j =>
            refine ⟨_, hh j (by omega), ?_⟩
            show Hs (i - 1 - j) = _
            rw [show i - 1 - j = i - (j + 1) from by omega]
        obtain ⟨r, e1, e2⟩ := hr
        rw [← e2, ← g3 j r hj e1]
        exact g4
    · exact r1 i o' (by omega) h2 ho'
/-! ### bits of what is ahead -/
theorem fold_or {A : List Nat} {i j : Nat} : ∀ (l : List Edge) (m : Nat), (l.foldl (fun m e => if Region.binds .any e && decide (e.on < i) then m ||| (2 ^ e.on ||| A.getD e.on 0) else m) m).testBit j = true →
    m.testBit j = true ∨ ∃ e ∈ l, Region.binds .any e = true ∧ e.on < i ∧ (e.on = j ∨ (A.getD e.on 0).testBit j = true)
  | [], m, h => .inl h
  | e :: l, m, h => by
    simp only [List.foldl_cons] at h
    rcases fold_or l _ h with h1 | ⟨e', h1, h2⟩
    · split at h1
      · rename_i hc
        simp only [Bool.and_eq_true, decide_eq_true_eq] at hc
        simp only [Nat.testBit_or, Bool.or_eq_true, Nat.testBit_two_pow, decide_eq_true_eq] at h1
        rcases h1 with h1 | h1 | h1
        · exact .inl h1
        · exact .inr ⟨e, List.mem_cons_self, hc.1, hc.2, .inl h1⟩
        · exact .inr ⟨e, List.mem_cons_self, hc.1, hc.2, .inr h1⟩
      · exact .inl h1
    · exact .inr ⟨e', List.mem_cons_of_mem _ h1, h2⟩
theorem befA_listed {A : List Nat} (hA : ancOk A ops = true) {listed : Array Bool} (hd : Down ops listed) {j : Nat} : ∀ (m i : Nat), i < m → (∀ o, ops[i]? = some o → ∀ e ∈ o.after, Region.binds .any e = true → listed.getD e.on false = true) → i < ops.size → befA A j i = true → listed.getD j false = true
  | 0, i, hm, _, _, _ => by omega
  | m + 1, i, hm, hi, hsz, hb => by
    have ho := Array.getElem?_eq_getElem hsz
    have h1 := List.all_eq_true.1 hA i (by simpa using hsz)
    simp only [ho, beq_iff_eq] at h1
    unfold befA at hb
    rw [h1] at hb
    rcases fold_or _ _ hb with h2 | ⟨e, h2, h3, h4, h5⟩
    · simp at h2
    · have hl := hi _ ho e (by simpa using h2) h3
      rcases h5 with h5 | h5
      · exact h5 ▸ hl
      · exact befA_listed hA hd m e.on (by omega) (fun o' ho' e' he' hb' => hd e.on o' ho' hl e' he' hb') (by omega) h5
theorem no_loud3 {Bs : List DB} {σ0 : AE} {val : Nat → AV} {σs : Nat → AE} {Hs : Nat → AH} {ns : Nat → Nat} (ht : ∀ i o, ops[i]? = some o → At ops Bs σ0 val σs Hs ns i o) : ∀ (d p : Nat), p + d ≤ ops.size → (∀ j o, p ≤ j → j < p + d → ops[j]? = some o → loudOp o.op = false) → Hs (p + d) = Hs p ∧ ns (p + d) = ns p
  | 0, _, _, _ => ⟨rfl, rfl⟩
  | d + 1, p, hle, hq => by
    obtain ⟨h1, h2⟩ := no_loud3 ht d p (by omega) fun j o a b => hq j o a (by omega)
    have hlt : p + d < ops.size := by omega
    have ho := Array.getElem?_eq_getElem hlt
    obtain ⟨b, _, _, hs⟩ := (ht _ _ ho).bs
    obtain ⟨g1, g2, _⟩ := hs (hq (p + d) _ (by omega) (by omega) ho)
    exact ⟨by rw [← h1]; exact g1, by rw [← h2]; exact g2⟩
theorem grows3 {Bs : List DB} {σ0 : AE} {val : Nat → AV} {σs : Nat → AE} {Hs : Nat → AH} {ns : Nat → Nat} (ht : ∀ i o, ops[i]? = some o → At ops Bs σ0 val σs Hs ns i o) : ∀ (d p : Nat), p + d ≤ ops.size → GrowsA (Hs p) (Hs (p + d))
  | 0, _, _ => .refl _
  | d + 1, p, hle => (grows3 ht d p (by omega)).trans (ht _ _ (Array.getElem?_eq_getElem (show p + d < ops.size by omega))).grow
theorem dyn3_any {Bs : List DB} {σ0 σ' : AE} {val : Nat → AV} {σs : Nat → AE} {Hs : Nat → AH} {ns : Nat → Nat} {N : Env → Hp → Prop} (ht : ∀ i o, ops[i]? = some o → At ops Bs σ0 val σs Hs ns i o) (hst : dynOk ops Bs = true)
    (hσ' : ∀ t a, σ'.get t = some a → Sup (curN ops val σ0 (fun _ => true) ops.size t) a) (hr : HR φ (Hs 0) (ns 0) h0 h) (hf : FR φ σ0 ρ) (hN : ∀ ψ ρ' h', PLe φ ψ → HR ψ (Hs ops.size) (ns ops.size) h0 h' → FR ψ σ' ρ' → N ρ' h') : AnyI Try.prog ops ρ h N := by
  simp only [dynOk, Bool.and_eq_true] at hst
  obtain ⟨hed, hanc, hst⟩ := hst
  generalize ancsGo ops.toList 0 [] = A at hanc hst
  have per : ∀ i o, ops[i]? = some o → ∃ b, Bs[i]? = some b ∧ (∀ t ∈ b.2, t ∈ looks ops o) ∧ (match b.1 with
      | none => isCallV o.op = true
      | some k => loudOp o.op = false ∧ k ≤ i ∧ ∀ j, j < i - k → loudAt ops j = true → befA A j i = true) ∧
      ∀ j a, j < i → ops[j]? = some a → (a.apart ops o = true ∧ (loudOp a.op = false ∨ loudOp o.op = false)) ∨ befA A j i = true := fun i o ho => by
    have hisz := (Array.getElem?_eq_some_iff.1 ho).1
    have h1 := List.all_eq_true.1 hst i (by simpa using hisz)
    unfold opOk at h1
    rw [ho] at h1
    split at h1
    · rename_i o' b e1 e2
      injection e1 with e1
      subst e1
      simp only [Bool.and_eq_true, List.all_eq_true] at h1
      obtain ⟨⟨⟨h1, _⟩, h2⟩, h3⟩ := h1
      refine ⟨b, e2, fun t htm => by simpa using h1 t htm, ?_, fun j a hlt hj => ?_⟩
      · split at h2
        · rename_i e; try simp only [e]
          exact h2
        · rename_i k e
          try simp only [e]
          simp only [Bool.and_eq_true, Bool.not_eq_true', decide_eq_true_eq, List.all_eq_true, Bool.or_eq_true] at h2
          exact ⟨h2.1, h2.2.1, fun j hj hl => by
            rcases h2.2.2 j (by simpa using hj) with q | q
            · rw [hl] at q; cases q
            · exact q⟩
      · have := h3 j (by simpa using hlt)
        rw [hj] at this
        simpa only [Bool.or_eq_true, Bool.and_eq_true, Bool.not_eq_true'] using this
    · cases h1
  have pair : ∀ i j a b, j < i → ops[i]? = some b → ops[j]? = some a → (a.apart ops b = true ∧ (loudOp a.op = false ∨ loudOp b.op = false)) ∨ befA A j i = true := fun i j a b hlt hi hj => by
    obtain ⟨_, _, _, _, h4⟩ := per i b hi
    exact h4 j a hlt hj
  refine ⟨hed, fun listed ρ1 h1 => ∃ ψ p, PLe φ ψ ∧ p ≤ ops.size ∧ HR ψ (Hs p) (ns p) h0 h1 ∧ (∀ j o, ops[j]? = some o → loudOp o.op = true → (listed.getD j false = true ↔ j < p)) ∧
      ∀ t a, curN ops val σ0 (fun j => listed.getD j false) ops.size t = some a → VR ψ a (ρ1 t), ?_, ?_, ?_⟩
  · refine ⟨φ, 0, PLe.refl _, Nat.zero_le _, hr, fun j o hj _ => ?_, fun t a e => ?_⟩
    · have : (Array.replicate ops.size false).getD j false = false := by simp [Array.getD]
      rw [this]; simp
    · have : curN ops val σ0 (fun j => (Array.replicate ops.size false).getD j false) ops.size t = curN ops val σ0 (fun j => decide (j < 0)) ops.size t :=
        curN_congr _ fun j _ _ => by simp [Array.getD]
      rw [this, curN_cut _ (Nat.zero_le _)] at e
      exact hf t a e
  · intro listed i o ρ1 h1 hsz hdn ho hun hedge ⟨ψ, p, hp, hple, hr1, hlo, henv⟩
    have hi : i < ops.size := (Array.getElem?_eq_some_iff.1 ho).1
    have before : ∀ j, befA A j i = true → listed.getD j false = true := fun j hb => befA_listed hanc hdn (i + 1) i (by omega) (fun o' ho' e he hb' => by
      rw [ho] at ho'; injection ho' with ho'; subst ho'
      exact hedge e he hb') hi hb
    have behind : ∀ j, j < ops.size → befA A i j = true → listed.getD j false = false := fun j hj hb => by
      cases hl : listed.getD j false with
      | false => rfl
      | true =>
        have := befA_listed hanc hdn (j + 1) j (by omega) (fun o' ho' e he hb' => hdn j o' ho' hl e he hb') hj hb
        rw [hun] at this; cases this
    have hlook : ∀ t, t ∈ looks ops o → curN ops val σ0 (fun j => listed.getD j false) ops.size t = curN ops val σ0 (fun _ => true) i t := fun t htl => by
      rw [← curN_cut (val := val) ops.size (Nat.le_of_lt hi)]
      refine curN_congr _ fun j hj hd => ?_
      have hjo := Array.getElem?_eq_getElem hj
      have hd2 : ops[j].dst = some t := by simpa [dstAt, hjo] using hd
      by_cases hji : j = i
      · subst hji; simp [hun]
      · by_cases hlt : j < i
        · rcases pair i j _ _ hlt ho hjo with ⟨ha, _⟩ | hb
          · exact absurd htl ((Oper.apart_spec ha).1 t hd2)
          · rw [before j hb]; simp [hlt]
        · rcases pair j i _ _ (by omega) hjo ho with ⟨ha, _⟩ | hb
          · exact absurd htl ((Oper.apart_spec ha).2.2 t hd2)
          · rw [behind j hj hb]; simp [hlt]
    have hat := ht i o ho
    obtain ⟨b, hb1, hb2, hb3, _⟩ := per i o ho
    obtain ⟨b', hb4, hloud, hstill⟩ := hat.bs
    rw [hb1] at hb4
    injection hb4 with hb4
    subst hb4
    have hsl : SlotR ψ (σs i) b.2 ρ1 := fun t htm => by
      rcases getq_some depthE t (σs i) _ rfl with e | e
      · show VR ψ (getq (pathOf depthE t) (σs i)) (ρ1 t)
        rw [e]; exact .bad _
      · refine hat.look t _ e ψ _ fun a' ha' => henv t a' ?_
        rw [hlook t (hb2 t htm)]; exact ha'
    have hset : ∀ j, (listed.setIfInBounds i true).getD j false = if j = i then true else listed.getD j false := fun j => getD_set (by omega)
    have henv2 : ∀ {χ : Ph} {u : Value}, PLe ψ χ → VR χ (val i) u → ∀ t a, curN ops val σ0 (fun j => (listed.setIfInBounds i true).getD j false) ops.size t = some a → VR χ a ((ρ1.put o.dst u) t) := fun {χ u} hpχ hu t a e => by
      rw [curN_upd (L := fun j => listed.getD j false) (i := i) (fun j hj => by simp only [hset, if_neg hj]) (by simp only [hset, if_true]) ops.size hi (fun j h1 h2 hd1 hd2 => by
        have hjo := Array.getElem?_eq_getElem h2
        have e1 : o.dst = some t := by simpa [dstAt, ho] using hd1
        have e2 : ops[j].dst = some t := by simpa [dstAt, hjo] using hd2
        rcases pair j i _ _ h1 hjo ho with ⟨ha, _⟩ | hb
        · exact absurd e2 ((Oper.apart_spec ha).2.1 t e1)
        · exact behind j h2 hb)] at e
      by_cases hd : o.dst = some t
      · rw [if_pos (by simpa [dstAt, ho] using hd)] at e
        injection e with e
        subst e
        rw [hd, put_some, upd_same]; exact hu
      · rw [if_neg (by simpa [dstAt, ho] using hd)] at e
        have := VR.mono hpχ _ _ (henv t a e)
        rwa [put_agree (fun x hx => by intro q; exact hd (by rw [hx, q]))]
    cases hl : loudOp o.op with
    | true =>
      have hpi : p ≤ i := by
        have := (hlo i o ho hl)
        rw [hun] at this
        by_cases hc : i < p
        · have := this.2 hc; cases this
        · omega
      have hnol : ∀ j o', p ≤ j → j < p + (i - p) → ops[j]? = some o' → loudOp o'.op = false := fun j o' h1 h2 hj => by
        cases hlj : loudOp o'.op with
        | false => rfl
        | true =>
          rcases pair i j _ _ (by omega) ho hj with ⟨_, hx⟩ | hb
          · rcases hx with hx | hx
            · rw [hlj] at hx; cases hx
            · rw [hl] at hx; cases hx
          · have := (hlo j o' hj hlj).1 (before j hb)
            omega
      obtain ⟨c1, c2⟩ := no_loud3 ht (i - p) p (by omega) hnol
      rw [show p + (i - p) = i from by omega] at c1 c2
      rw [← c1, ← c2] at hr1
      refine hloud hl ψ h0 h1 ρ1 _ hr1 hsl fun χ u g hpχ hg hu => ⟨χ, i + 1, hp.trans hpχ, hi, hg, fun j o' hj hlj => ?_, henv2 hpχ hu⟩
      rw [hset]
      by_cases hji : j = i
      · subst hji; simp
      · rw [if_neg hji]
        have hjsz := (Array.getElem?_eq_some_iff.1 hj).1
        by_cases hlt : j < i
        · have : listed.getD j false = true := by
            rcases pair i j _ _ hlt ho hj with ⟨_, hx⟩ | hb
            · rcases hx with hx | hx
              · rw [hlj] at hx; cases hx
              · rw [hl] at hx; cases hx
            · exact before j hb
          rw [this]; simp; omega
        · have : listed.getD j false = false := by
            rcases pair j i _ _ (by omega) hj ho with ⟨_, hx⟩ | hb
            · rcases hx with hx | hx
              · rw [hl] at hx; cases hx
              · rw [hlj] at hx; cases hx
            · exact behind j hjsz hb
          rw [this]; simp; omega
    | false =>
      obtain ⟨_, _, hsf⟩ := hstill hl
      have hk : ∃ k, b.1 = some k ∧ k ≤ i ∧ ∀ j, j < i - k → loudAt ops j = true → befA A j i = true := by
        split at hb3
        · rename_i e
          unfold isCallV at hb3
          split at hb3
          · rename_i f xs ts e2
            rw [e2] at hl; cases hl
          · cases hb3
        · rename_i k e
          exact ⟨k, e, hb3.2⟩
      obtain ⟨k, hk1, hk2, hk3⟩ := hk
      have hGr : GrowsA (Hs (i - k)) (Hs p) := by
        by_cases hpk : i - k ≤ p
        · have := grows3 ht (p - (i - k)) (i - k) (by omega)
          rwa [show i - k + (p - (i - k)) = p from by omega] at this
        · obtain ⟨c1, _⟩ := no_loud3 ht (i - k - p) p (by omega) fun j o' h1 h2 hj => by
            cases hlj : loudOp o'.op with
            | false => rfl
            | true =>
              have h3 := hk3 j (by omega) (by unfold loudAt; rw [hj]; exact hlj)
              have := (hlo j o' hj hlj).1 (before j h3)
              omega
          rw [show p + (i - k - p) = i - k from by omega] at c1
          rw [c1]; exact .refl _
      refine hsf k hk1 hk2 ψ (ns p) h0 h1 ρ1 _ (hr1.less hGr) hsl fun u hu => ⟨ψ, p, hp, hple, hr1, fun j o' hj hlj => ?_, henv2 (PLe.refl _) hu⟩
      rw [hset]
      by_cases hji : j = i
      · subst hji; rw [ho] at hj; injection hj with hj; subst hj; rw [hl] at hlj; cases hlj
      · rw [if_neg hji]; exact hlo j o' hj hlj
  · intro listed ρ1 h1 hsz hall ⟨ψ, p, hp, hple, hr1, hlo, henv⟩
    obtain ⟨c1, c2⟩ := no_loud3 ht (ops.size - p) p (by omega) fun j o a b hj => by
      cases hl : loudOp o.op with
      | false => rfl
      | true =>
        have := (hlo j o hj hl).1 (hall j (by omega))
        omega
    rw [show p + (ops.size - p) = ops.size from by omega] at c1 c2
    rw [← c1, ← c2] at hr1
    refine hN ψ ρ1 h1 hp hr1 fun t a e => hσ' t a e ψ _ fun a' ha' => henv t a' ?_
    rw [← ha']
    exact curN_congr _ fun j hj _ => hall j hj
theorem dynL_sound (hcd : CPok cd) (hcs : CSing cd) {Bs : List DB} {σ : AE} {H : AH} {n : Nat} {kn : KP} {N : Env → Hp → Prop} (hst : dynOk ops Bs = true) (hs : dynL ops ops.toList Bs cd [] σ H n kn) (hr : HR φ H n h0 h) (hf : FR φ σ ρ)
    (hN : ∀ ψ σ' H' n' ρ' h', PLe φ ψ → HR ψ H' n' h0 h' → FR ψ σ' ρ' → kn σ' H' n' → N ρ' h') : AnyI Try.prog ops ρ h N := by
  have hst2 := hst
  simp only [dynOk, Bool.and_eq_true] at hst2
  obtain ⟨tr, σ', H', n', h1, h2⟩ := dynL_tr hcd hcs ops.toList Bs [] σ H n (fun i o b ho hb => by
    rw [Array.getElem?_toList] at ho
    have hisz := (Array.getElem?_eq_some_iff.1 ho).1
    have h1 := List.all_eq_true.1 hst2.2.2 i (by simpa using hisz)
    unfold opOk at h1
    rw [ho, hb] at h1
    simp only [Bool.and_eq_true] at h1
    refine ⟨?_, h1.1.1.2⟩
    unfold bOk
    have h2 := h1.1.2
    split at h2
    · rename_i e; try rw [e]
      exact h2
    · rename_i k e
      try rw [e]
      simp only [Bool.and_eq_true, Bool.not_eq_true'] at h2
      exact h2.1) hs
  let dflt : TR := ⟨.bad, .nil, H', n'⟩
  let at_ : Nat → TR := fun j => (tr[j]?).getD dflt
  have hat : ∀ (j : Nat) e, tr[j]? = some e → at_ j = e := fun j e hj => by simp only [at_, hj, Option.getD_some]
  have hsize : ops.toList.length = ops.size := Array.length_toList
  have hlen : tr.length = ops.size := by
    rw [← hsize]
    exact tr_length h1
  let Hs : Nat → AH := fun j => if j < tr.length then (at_ j).H else H'
  let ns : Nat → Nat := fun j => if j < tr.length then (at_ j).n else n'
  have hend : Hs ops.size = H' ∧ ns ops.size = n' := ⟨by simp only [Hs]; rw [if_neg (by omega)], by simp only [ns]; rw [if_neg (by omega)]⟩
  have hs0 : H = Hs 0 ∧ n = ns 0 := by
    cases hl : ops.toList with
    | nil =>
      have e0 : ops.size = 0 := by rw [← hsize, hl]; rfl
      rw [hl] at h1
      cases h1
      simp only [Hs, ns]
      rw [if_neg (by omega), if_neg (by omega)]
      exact ⟨rfl, rfl⟩
    | cons o l =>
      rw [hl] at h1
      cases h1 with
      | cons s r => exact ⟨rfl, rfl⟩
  obtain ⟨told, _, hfin⟩ := tr_told (Bs := Bs) (σ0 := σ) (val := fun j => (at_ j).v) (σs := fun j => (at_ j).σ) (Hs := Hs) (ns := ns) h1 0 (fun j => by rw [Nat.zero_add, Array.getElem?_toList]) (fun j => by rw [Nat.zero_add]) (fun t a q => .refl q) (fun j hj => by omega) hs0.1 hs0.2
    (fun j e hj => by
      have hjl := (List.getElem?_eq_some_iff.1 hj).1
      rw [Nat.zero_add]
      refine ⟨by rw [hat j e hj], by rw [hat j e hj], ?_, ?_⟩
      · simp only [Hs]; rw [if_pos hjl, hat j e hj]
      · simp only [ns]; rw [if_pos hjl, hat j e hj])
    (by simp only [Hs]; rw [if_neg (by rw [hlen, hsize]; omega)])
    (by simp only [ns]; rw [if_neg (by rw [hlen, hsize]; omega)])
  rw [Nat.zero_add, hsize] at told hfin
  refine dyn3_any (fun i o ho => told i o (Nat.zero_le _) (Array.getElem?_eq_some_iff.1 ho).1 ho) hst hfin (by rw [← hs0.1, ← hs0.2]; exact hr) hf ?_
  rw [hend.1, hend.2]
  exact fun ψ ρ' h' a b c => hN ψ σ' H' n' ρ' h' a b c h2
end
end Go.Proofs.Ytkhfdjhohfebgaa
namespace Go.Proofs.Ytkhfdjhohfebgaa
open Go Go.RowKit
section
variable {φ : Ph} {H : AH} {n : Nat} {h0 h : Hp} {σ : AE} {ρ : Env} {call : CP}
/-- What follows, from a state on. -/
def GoP (φ0 : Ph) (h0 : Hp) (k : KP) (N : Env → Hp → Prop) : Prop := ∀ (ψ : Ph) (σ : AE) (H : AH) (n : Nat) (ρ : Env) (h : Hp), PLe φ0 ψ → HR ψ H n h0 h → FR ψ σ ρ → k σ H n → N ρ h
theorem opsP_sound (hcall : CPok call) {φ0 : Ph} {ops : Array Oper} {N : Env → Hp → Prop} : ∀ (l : List Oper) (φ : Ph) (σ : AE) (H : AH) (n : Nat) (k : KP) (ρ : Env) (h : Hp), PLe φ0 φ → HR φ H n h0 h → FR φ σ ρ →
    opsP ops l call σ H n k → GoP φ0 h0 k N → aops Try.prog ops l ρ h N
  | [], φ, σ, H, n, k, ρ, h, hp, hr, hf, hs, hN => hN φ σ H n ρ h hp hr hf hs
  | o :: l, φ, σ, H, n, k, ρ, h, hp, hr, hf, hs, hN => by
    have hs : opP ops o call σ H n (fun σ H n => opsP ops l call σ H n k) := hs
    have did : ∀ (σ : AE) (ρ : Env), FR φ σ ρ → (stepP o.op call σ H n fun v H n => opsP ops l call (eput σ o.dst v) H n k) → astep Try.prog o.op ρ h fun v h' => aops Try.prog ops l (ρ.put o.dst v) h' N := fun σ ρ hf hs =>
      stepP_sound hcall hr hf hs fun ψ v H' n' u g h1 h2 h3 h4 => opsP_sound hcall l ψ _ H' n' k _ g (hp.trans h1) h2 ((hf.mono h1).put o.dst h3) h4 hN
    have skip : ∀ (σ : AE) (ρ : Env), FR φ σ ρ → opsP ops l call (eput σ o.dst undefA) H n k → aops Try.prog ops l (ρ.put o.dst undef) h N := fun σ ρ hf hs =>
      opsP_sound hcall l φ _ H n k _ h hp hr (hf.put o.dst .undef) hs hN
    unfold opP at hs
    unfold aops
    split at hs
    · rename_i hg
      simp only [hg]
      exact did σ ρ hf hs
    · rename_i j want hg
      simp only [hg]
      split at hs
      · exact hs.elim
      · rename_i t ht
        simp only [ht]
        have rput : ∀ q : Bool, ρ t = .bool q → FR φ (eput σ (some t) (.bool q)) (ρ.upd t (.bool q)) := fun q hq => hf.put (some t) (.bool q)
        split at hs
        · rename_i q hq
          have hv := (hq ▸ hf.at t).bool_inv
          simp only [hv]
          split at hs
          · rename_i hqw
            have hqw2 : q = want := by simpa using hqw
            subst hqw2
            refine ⟨fun _ => ?_, (fun k => by rw [hqw] at k; cases k)⟩
            rw [upd_eta hv]
            exact did σ ρ hf hs
          · rename_i hqw
            have hqw2 : (!want) = q := by cases q <;> cases want <;> simp_all
            refine ⟨(fun k => by rw [hqw] at k; cases k), fun _ => ?_⟩
            rw [upd_eta (by rw [hv, hqw2])]
            exact skip σ ρ hf hs
        · rename_i q hq
          have hv := (hq ▸ hf.at t).sb_inv
          simp only [hv]
          split at hs
          · cases q with
            | true => exact ⟨fun _ => did _ _ (rput true hv) (hs.t rfl), fun k => by cases k⟩
            | false => exact ⟨(fun k => by cases k), fun _ => skip _ _ (rput false hv) (hs.f rfl)⟩
          · cases q with
            | true => exact ⟨(fun k => by cases k), fun _ => skip _ _ (rput true hv) (hs.t rfl)⟩
            | false => exact ⟨fun _ => did _ _ (rput false hv) (hs.f rfl), fun k => by cases k⟩
        · rename_i us hq
          obtain ⟨cs, hv, _⟩ := (hq ▸ hf.at t).tup_inv
          simp only [hv]
          exact skip σ ρ hf hs
        · exact hs.elim
theorem refP_FR (hf : FR φ σ ρ) {c : Operand} {q : Bool} (hv : ρ.ev c = .bool q) : FR φ (refP c q σ) ρ := by
  cases c with
  | tmp t =>
    have := hf.put (some t) (VR.bool q)
    have e : ρ.put (some t) (.bool q) = ρ := upd_eta hv
    rw [e] at this
    exact this
  | _ => exact hf
theorem and_of {a b : Bool} (h : (Bool.rec false b a : Bool) = true) : a = true ∧ b = true := by
  cases a with
  | true => exact ⟨rfl, h⟩
  | false => cases h
theorem execP_sound (hcall : CPok call) {cd : CP} (hcd : CPok cd) (hcs : CSing cd) {D : DT} {p : Nat} {φ0 : Ph} (hφ : ∀ b q, φ0 b = some q → b < p) (c : Code) : drawOk D c = true → ∀ (φ : Ph) (σ : AE) (H : AH) (n : Nat) (kn : KP) (kx : Nat → KP) (kr : KP) (ρ : Env) (h : Hp) (N R : EH) (X : Nat → EH), PLe φ0 φ → HR φ H n h0 h → FR φ σ ρ →
    execP p cd D c call σ H n kn kx kr → GoP φ0 h0 kn N → GoP φ0 h0 kr R → (∀ i, GoP φ0 h0 (kx i) (X i)) → avc Try.prog c N R X ρ h := by
  induction c with
  | skip => exact fun _ φ σ H n kn kx kr ρ h N R X hp hr hf hs hN _ _ => hN φ σ H n ρ h hp hr hf hs
  | region id ops draw =>
    intro hdr φ σ H n kn kx kr ρ h N R X hp hr hf hs hN _ _
    have key : opsP ops ops.toList call σ H n kn → aops Try.prog ops ops.toList ρ h N := fun hs => opsP_sound hcall _ φ σ H n kn ρ h hp hr hf hs hN
    unfold avc
    cases draw with
    | false => exact key hs
    | true =>
      have hs : (Option.rec (fun call σ H n kn _ _ => opsP ops ops.toList call σ H n kn) (fun bs _ σ H n kn _ _ => dynL ops ops.toList bs cd [] σ H n kn) (findD D id) : XP) call σ H n kn kx kr := hs
      have hdr : (Option.rec (swapB Try.prog ops) (fun bs => dynOk ops bs) (findD D id) : Bool) = true := hdr
      rw [if_pos rfl]
      cases hd : findD D id with
      | none =>
        rw [hd] at hs hdr
        exact .inr (.inl ⟨hdr, key hs⟩)
      | some bs =>
        rw [hd] at hs hdr
        exact .inr (.inr (dynL_sound hcd hcs hdr hs hr hf fun ψ σ' H' n' ρ' h' hp' hr' hf' hk' => hN ψ σ' H' n' ρ' h' (hp.trans hp') hr' hf' hk'))
  | seq a b iha ihb =>
    intro hdr φ σ H n kn kx kr ρ h N R X hp hr hf hs hN hR hX
    obtain ⟨hda, hdb⟩ := and_of hdr
    exact iha hda φ σ H n _ kx kr ρ h _ R X hp hr hf hs (fun ψ σ H n ρ h hp hr hf hs => ihb hdb ψ σ H n kn kx kr ρ h N R X hp hr hf hs hN hR hX) hR hX
  | cond x a b iha ihb =>
    intro hdr φ σ H n kn kx kr ρ h N R X hp hr hf hs hN hR hX
    obtain ⟨hda, hdb⟩ := and_of hdr
    have hs : condP x σ (fun σ => execP p cd D a call σ H n kn kx kr) (fun σ => execP p cd D b call σ H n kn kx kr) := hs
    have hc := hf.ev x
    unfold condP at hs
    unfold avc
    split at hs
    · rename_i q
      rw [q] at hc
      rw [hc.bool_inv]
      exact ⟨fun _ => iha hda φ σ H n kn kx kr ρ h N R X hp hr hf hs hN hR hX, (fun k => by cases k)⟩
    · rename_i q
      rw [q] at hc
      rw [hc.bool_inv]
      exact ⟨(fun k => by cases k), fun _ => ihb hdb φ σ H n kn kx kr ρ h N R X hp hr hf hs hN hR hX⟩
    · rename_i q e
      rw [e] at hc
      have hv := hc.sb_inv
      cases q with
      | true => rw [hv]; exact ⟨fun _ => iha hda φ _ H n kn kx kr ρ h N R X hp hr (refP_FR hf hv) (hs.t rfl) hN hR hX, (fun k => by cases k)⟩
      | false => rw [hv]; exact ⟨(fun k => by cases k), fun _ => ihb hdb φ _ H n kn kx kr ρ h N R X hp hr (refP_FR hf hv) (hs.f rfl) hN hR hX⟩
    · exact hs.elim
  | block id b ih =>
    intro hdr φ σ H n kn kx kr ρ h N R X hp hr hf hs0 hN hR hX
    unfold avc
    refine ih hdr φ σ H n kn _ kr ρ h N R _ hp hr hf hs0 hN hR fun i ψ σ H n ρ h hp hr hf hs => ?_
    cases hb : Nat.beq i id with
    | true =>
      rw [hb] at hs
      have hii := Nat.eq_of_beq_eq_true hb
      rw [if_pos hii]
      exact hN ψ σ H n ρ h hp hr hf hs
    | false =>
      rw [hb] at hs
      have hne : ¬ i = id := fun q => by subst q; simp at hb
      simp only [if_neg hne]
      exact hX i ψ σ H n ρ h hp hr hf hs
  | loop b ih =>
    intro hdr φ σ H n kn kx kr ρ h N R X hp hr hf hs hN hR hX
    have hs : LoopP p (fun σ H n k => execP p cd D b call σ H n k kx kr) σ H n := hs
    unfold avc
    rcases hs with ⟨α, nn, st, μ, a0, c0, hstep⟩ | ⟨k0, hroll⟩
    · skip
      let Q : Env → Hp → Nat → Prop := fun ρ1 h1 m => ∃ ψ a, μ a = m ∧ PLe φ0 ψ ∧ HR ψ (st a).2 nn h0 h1 ∧ FR ψ (st a).1 ρ1
      have cov : ∀ {ψ : Ph} {σ : AE} {H : AH} {n : Nat} {ρ : Env} {h : Hp} {a : α}, Cov p σ H n ((st a).1, (st a).2, nn) → PLe φ0 ψ → HR ψ H n h0 h → FR ψ σ ρ → Q ρ h (μ a) := fun {ψ σ H n ρ h a} hc hp hr hf => by
        obtain ⟨χ, h1, h2, h3⟩ := hc ψ h0 h ρ hr hf
        exact ⟨χ, a, rfl, fun b q e => h1 b q (hφ b q e) (hp b q e), h2, h3⟩
      have hμ : ∀ ρ1 h1 g, Q ρ1 h1 g → ∃ m, Q ρ1 h1 m ∧ ∀ k, Q ρ1 h1 k → m ≤ k := fun ρ1 h1 g hg => least g hg
      refine ⟨fun ρ1 h1 => ∃ g, Q ρ1 h1 g, fun ρ1 h1 => Classical.epsilon fun m => Q ρ1 h1 m ∧ ∀ k, Q ρ1 h1 k → m ≤ k, ⟨_, cov c0 hp hr hf⟩, fun ρ1 h1 ⟨g, hg⟩ _ _ => ?_⟩
      have hsp := Classical.epsilon_spec (hμ ρ1 h1 g hg)
      obtain ⟨m, hm⟩ : ∃ m, (Classical.epsilon fun m => Q ρ1 h1 m ∧ ∀ k, Q ρ1 h1 k → m ≤ k) = m := ⟨_, rfl⟩
      rw [hm] at hsp
      obtain ⟨⟨ψ, a, ha, hp1, hr1, hf1⟩, _⟩ := hsp
      refine ih hdr ψ _ _ _ _ kx kr ρ1 h1 _ R X hp1 hr1 hf1 (hstep a) (fun χ σ2 H2 n2 ρ2 h2 hp2 hr2 hf2 ⟨a', hlt, hc⟩ => ?_) hR hX
      have hQ2 := cov hc hp2 hr2 hf2
      refine ⟨h2, Sub.refl _, ⟨_, hQ2⟩, ?_⟩
      have hsp2 := Classical.epsilon_spec (hμ ρ2 h2 _ hQ2)
      have := hsp2.2 _ hQ2
      simp only [hm]
      omega
    · let Q : Env → Hp → Nat → Prop := fun ρ1 h1 m => ∃ ψ σ H n, rollP m (fun σ H n k => execP p cd D b call σ H n k kx kr) σ H n ∧ PLe φ0 ψ ∧ HR ψ H n h0 h1 ∧ FR ψ σ ρ1
      have hμ : ∀ ρ1 h1 g, Q ρ1 h1 g → ∃ m, Q ρ1 h1 m ∧ ∀ k, Q ρ1 h1 k → m ≤ k := fun ρ1 h1 g hg => least g hg
      refine ⟨fun ρ1 h1 => ∃ g, Q ρ1 h1 g, fun ρ1 h1 => Classical.epsilon fun m => Q ρ1 h1 m ∧ ∀ k, Q ρ1 h1 k → m ≤ k, ⟨k0, φ, σ, H, n, hroll, hp, hr, hf⟩, fun ρ1 h1 ⟨g, hg⟩ _ _ => ?_⟩
      have hsp := Classical.epsilon_spec (hμ ρ1 h1 g hg)
      obtain ⟨m, hm⟩ : ∃ m, (Classical.epsilon fun m => Q ρ1 h1 m ∧ ∀ k, Q ρ1 h1 k → m ≤ k) = m := ⟨_, rfl⟩
      rw [hm] at hsp
      obtain ⟨⟨ψ, σ1, H1, n1, hr0, hp1, hr1, hf1⟩, _⟩ := hsp
      cases m with
      | zero => exact hr0.elim
      | succ m =>
        refine ih hdr ψ _ _ _ _ kx kr ρ1 h1 _ R X hp1 hr1 hf1 hr0 (fun χ σ2 H2 n2 ρ2 h2 hp2 hr2 hf2 h3 => ?_) hR hX
        have hQ2 : Q ρ2 h2 m := ⟨χ, σ2, H2, n2, h3, hp2, hr2, hf2⟩
        refine ⟨h2, Sub.refl _, ⟨_, hQ2⟩, ?_⟩
        have hsp2 := Classical.epsilon_spec (hμ ρ2 h2 _ hQ2)
        have := hsp2.2 _ hQ2
        simp only [hm]
        omega
  | exit i => exact fun _ φ σ H n kn kx kr ρ h N R X hp hr hf hs _ _ hX => hX i φ σ H n ρ h hp hr hf hs
  | scope b ih => exact fun hdr φ σ H n kn kx kr ρ h N R X hp hr hf hs hN hR hX => ih hdr φ σ H n kn kx kr ρ h N R X hp hr hf hs hN hR hX
  | label l => exact fun _ φ σ H n kn kx kr ρ h N R X hp hr hf hs hN _ _ => hN φ σ H n ρ h hp hr hf hs
  | ret => exact fun _ φ σ H n kn kx kr ρ h N R X hp hr hf hs _ hR _ => hR φ σ H n ρ h hp hr hf hs
  | _ => intro _ φ σ H n kn kx kr ρ h N R X hp hr hf hs; exact hs.elim

/-! ### functions -/
theorem resP_sound (hr : HR φ H n h0 h) (hf : FR φ σ ρ) {K : KH} : ∀ (rs : List ResultVar) (acc : List Value) (k : List AV → Prop), resP rs σ H k → (∀ vs us, k vs → VRs φ vs us → Fin K (packV (acc.reverse ++ us)) h) → resK Try.prog rs acc ρ h K
  | [], acc, k, hs, hk => by
    have := hk [] [] hs .nil
    simpa [resK] using this
  | .tmp t :: rs, acc, k, hs, hk => by
    have hs : resP rs σ H (fun vs => k (getq (pa t) σ :: vs)) := hs
    refine resP_sound hr hf rs (ρ t :: acc) _ hs fun vs us h1 hus => ?_
    have := hk _ (ρ t :: us) h1 (.cons (hf.at t) hus)
    simpa using this
  | .cell a t :: rs, acc, k, hs, hk => by
    have hs : loadP t (getq (pa a) σ) H (fun v => resP rs σ H fun vs => k (v :: vs)) := hs
    refine loadP_sound hr (hf.at a) hs fun r u h1 hu => ?_
    refine resP_sound hr hf rs (u :: acc) _ h1 fun vs us h2 hus => ?_
    have := hk _ (u :: us) h2 (.cons hu hus)
    simpa using this
set_option maxRecDepth 20000 in
theorem runP_sound (hm : Try.prog.follows .mixedOrders = true) (hcall : CPok call) {cd : CP} (hcd : CPok cd) (hcs : CSing cd) {D : DT} {f : FuncId} {fn : Func} {c : Code} (hok : fnOk Try.prog f = true) (hdr : drawOk D c = true) (hfn : Try.prog.funcs[f]? = some fn) (hb : fn.body = some c) {args : List AV} {κ : PK} {vs : Array Value} {K : KH}
    (hs : runP call cd D c fn.results.toList fn.ntmps args H n κ) (hr : HR φ H n h0 h) (hargs : VRs φ args vs.toList) (hk : ThenP φ h0 κ K) : CallF Try.prog f vs h K := by
  obtain ⟨h1, hs⟩ := bifP_inv hs
  simp only [fnOk, hfn, hb, Bool.and_eq_true] at hok
  obtain ⟨hic, hds⟩ := hok
  have hal := hargs.length
  have hle := Nat.le_of_ble_eq_true h1
  refine ⟨hic, callG_of hm hfn hb rfl rfl hds (by simpa [hal] using hle) fun _ => ?_⟩
  have fin : GoP φ h0 (fun σ H n => resP fn.results.toList σ H fun vs => κ (epack vs) H n) (resK Try.prog fn.results.toList [] · · K) := fun ψ σ' H' n' ρ' h' hp' hr' hf' hs' =>
    resP_sound hr' hf' _ [] _ hs' fun ws us h2 hus => .here (hk ψ _ H' n' _ h' hp' hr' (by simpa using epack_VR hus) h2)
  exact execP_sound hcall hcd hcs (fun b q e => (hr.dom b q e).1) c hdr φ _ H n _ _ _ _ h _ _ _ (PLe.refl _) hr (entry_FR hargs) hs fin fin fun i ψ σ' H' n' ρ' h' _ _ _ q => q.elim
/-- A function known by a proof. -/
def NatP (f : FuncId) (g : List AV → AH → Nat → PK → Prop) : Prop := ∀ (args : List AV) (H : AH) (n : Nat) (κ : PK), g args H n κ → ∀ (φ : Ph) (h0 h : Hp) (vs : Array Value) (K : KH), HR φ H n h0 h → VRs φ args vs.toList → ThenP φ h0 κ K → CallF Try.prog f vs h K
/-- It has one outcome, and leaves what there was. -/
def SingG (g : List AV → AH → Nat → PK → Prop) : Prop := ∀ args H n κ, g args H n κ → ∃ v H' n', κ v H' n' ∧ GrowsA H H' ∧ n ≤ n' ∧ ∀ κ' : PK, κ' v H' n' → g args H n κ'
def FunOk (f : FuncId) (e : EP) : Prop := match e with
  | .no => True
  | .run D c rs m => fnOk Try.prog f = true ∧ drawOk D c = true ∧ ∃ fn, Try.prog.funcs[f]? = some fn ∧ fn.body = some c ∧ fn.results.toList = rs ∧ fn.ntmps = m
  | .nat g => NatP f g
  | .det g => NatP f g ∧ SingG g
def TabP (F : FuncId → EP) : Prop := ∀ f, FunOk f (F f)
theorem callD_ok {F : FuncId → EP} (hF : TabP F) : CPok (callD F) := fun f args H n κ hs φ h0 h vs K hr hargs hk => by
  have hs : (EP.rec (fun _ _ _ _ => False) (fun _ _ _ _ _ _ _ _ => False) (fun _ _ _ _ _ => False) (fun g => g) (F f) : List AV → AH → Nat → PK → Prop) args H n κ := hs
  have hf := hF f
  cases hFf : F f with
  | no => rw [hFf] at hs; exact hs.elim
  | nat g => rw [hFf] at hs; exact hs.elim
  | run _ _ _ _ => rw [hFf] at hs; exact hs.elim
  | det g => rw [hFf] at hs hf; exact hf.1 args H n κ hs φ h0 h vs K hr hargs hk
theorem callD_sing {F : FuncId → EP} (hF : TabP F) : CSing (callD F) := fun f args H n κ hs => by
  unfold callD at *
  have hf := hF f
  cases hFf : F f with
  | no => rw [hFf] at hs; exact hs.elim
  | nat g => rw [hFf] at hs; exact hs.elim
  | run _ _ _ _ => rw [hFf] at hs; exact hs.elim
  | det g => rw [hFf] at hs hf; exact hf.2 args H n κ hs
set_option maxRecDepth 20000 in
theorem callT_sound (hm : Try.prog.follows .mixedOrders = true) {F : FuncId → EP} (hF : TabP F) : ∀ d, CPok (callT F d)
  | 0 => fun f args H n κ hs => hs.elim
  | d + 1 => fun f args H n κ hs φ h0 h vs K hr hargs hk => by
    have hs : (EP.rec (fun _ _ _ _ => False) (fun D c rs m => runP (callT F d) (callD F) D c rs m) (fun g => g) (fun g => g) (F f) : List AV → AH → Nat → PK → Prop) args H n κ := hs
    have hf := hF f
    cases hFf : F f with
    | no => rw [hFf] at hs; exact hs.elim
    | nat g => rw [hFf] at hs hf; exact hf args H n κ hs φ h0 h vs K hr hargs hk
    | det g => rw [hFf] at hs hf; exact hf.1 args H n κ hs φ h0 h vs K hr hargs hk
    | run D c rs m =>
      rw [hFf] at hs hf
      obtain ⟨hok, hdr, fn, hfn, hb, hrs, hnt⟩ := hf
      subst hrs hnt
      exact runP_sound hm (callT_sound hm hF d) (callD_ok hF) (callD_sing hF) hok hdr hfn hb hs hr hargs hk
theorem bodyP_ok {D : DT} {f : FuncId} (hok : fnOk Try.prog f = true) (hdr : drawF D f = true) : FunOk f (bodyP D f) := by
  unfold drawF at hdr
  unfold bodyP
  cases hfn : Try.prog.funcs[f]? with
  | none => rw [hfn] at hdr; cases hdr
  | some fn =>
    rw [hfn] at hdr
    dsimp only at hdr ⊢
    cases hb : fn.body with
    | none => rw [hb] at hdr; cases hdr
    | some c =>
      rw [hb] at hdr
      exact ⟨hok, hdr, fn, hfn, hb, rfl, rfl⟩
theorem evP_ok : TabP evP := fun f => by
  unfold evP
  cases h : fnOkq f with
  | false => trivial
  | true =>
    cases hd : drawF [] f with
    | false => trivial
    | true => exact bodyP_ok h hd
/-- The table, with what is told of a function's regions that draw their order. -/
noncomputable def withD (k : FuncId) (D : DT) (F : FuncId → EP) (f : FuncId) : EP := Bool.rec (F f) (bodyP D k) (Nat.beq f k)
theorem withD_ok {F : FuncId → EP} (hF : TabP F) {k : FuncId} {D : DT} (hok : fnOk Try.prog k = true) (hdr : drawF D k = true) : TabP (withD k D F) := fun f => by
  unfold withD
  cases hb : Nat.beq f k with
  | false => exact hF f
  | true =>
    have := Nat.eq_of_beq_eq_true hb
    subst this
    exact bodyP_ok hok hdr
/-- The table, one function more known, that may be called in a region that draws its order. -/
noncomputable def withS (k : FuncId) (g : List AV → AH → Nat → PK → Prop) (F : FuncId → EP) (f : FuncId) : EP := Bool.rec (F f) (.det g) (Nat.beq f k)
theorem withS_ok {F : FuncId → EP} (hF : TabP F) {k : FuncId} {g : List AV → AH → Nat → PK → Prop} (hg : NatP k g) (hs : SingG g) : TabP (withS k g F) := fun f => by
  unfold withS
  cases hb : Nat.beq f k with
  | false => exact hF f
  | true =>
    have := Nat.eq_of_beq_eq_true hb
    subst this
    exact ⟨hg, hs⟩
/-- The table, one function more known. -/
noncomputable def withN (k : FuncId) (g : List AV → AH → Nat → PK → Prop) (F : FuncId → EP) (f : FuncId) : EP := Bool.rec (F f) (.nat g) (Nat.beq f k)
theorem withN_ok {F : FuncId → EP} (hF : TabP F) {k : FuncId} {g : List AV → AH → Nat → PK → Prop} (hg : NatP k g) : TabP (withN k g F) := fun f => by
  unfold withN
  cases hb : Nat.beq f k with
  | false => exact hF f
  | true =>
    have := Nat.eq_of_beq_eq_true hb
    subst this
    exact hg
/-- A function's run by a table makes it known. -/
theorem NatP.of {F : FuncId → EP} (hF : TabP F) {f : FuncId} {g : List AV → AH → Nat → PK → Prop} (d : Nat) (h : ∀ args H n κ, g args H n κ → callT F d f args H n κ) : NatP f g := fun args H n κ hs => callT_sound (by kernel_rfl) hF d f args H n κ (h args H n κ hs)
/-- A value that points nowhere. -/
def flat : AV → Bool
  | .int _ _ => true
  | .str _ => true
  | .bool _ => true
  | .si _ _ => true
  | .sb _ => true
  | .ss _ => true
  | .nil => true
  | .nsl => true
  | .tup l => l.all flat1
  | .agg l => l.all flat1
  | _ => false
where flat1 : AV → Bool
  | .int _ _ => true
  | .str _ => true
  | .bool _ => true
  | .si _ _ => true
  | .sb _ => true
  | .ss _ => true
  | .nil => true
  | .nsl => true
  | _ => false
theorem flat1_VR {φ ψ : Ph} {a : AV} {v : Value} (hf : flat.flat1 a = true) (h : VR φ a v) : VR ψ a v := by
  cases a <;> first | (cases hf; done) | exact h
theorem flat1_VRs {φ ψ : Ph} : ∀ {l : List AV} {vs : List Value}, l.all flat.flat1 = true → VRs φ l vs → VRs ψ l vs
  | [], vs, _, h => by rw [h.nil_inv]; exact .nil
  | a :: l, vs, hf, h => by
    obtain ⟨v, us, rfl, h1, h2⟩ := h.cons_inv
    simp only [List.all_cons, Bool.and_eq_true] at hf
    exact .cons (flat1_VR hf.1 h1) (flat1_VRs hf.2 h2)
theorem flat_VR {φ ψ : Ph} {a : AV} {v : Value} (hf : flat a = true) (h : VR φ a v) : VR ψ a v := by
  cases a <;> first | (cases hf; done) | exact h | skip
  case agg l => obtain ⟨cs, rfl, h1⟩ := h.agg_inv; exact .agg (flat1_VRs hf h1)
  case tup l => obtain ⟨cs, rfl, h1⟩ := h.tup_inv; exact .tup (flat1_VRs hf h1)
/-- A value, or a row of such, as ones that are not known. -/
def mkT : AV → AV
  | .tup l => .tup (l.map mk)
  | v => mk v
theorem VRs.mk {φ : Ph} : ∀ {l : List AV} {vs : List Value}, VRs φ l vs → VRs φ (l.map Go.Proofs.Ytkhfdjhohfebgaa.mk) vs
  | [], vs, h => by rw [h.nil_inv]; exact .nil
  | a :: l, vs, h => by
    obtain ⟨v, us, rfl, h1, h2⟩ := h.cons_inv
    exact .cons h1.mk (VRs.mk h2)
theorem VR.mkT {φ : Ph} {a : AV} {v : Value} (h : VR φ a v) : VR φ (mkT a) v := by
  cases a <;> first | exact h.mk | skip
  case tup l => obtain ⟨cs, rfl, h1⟩ := h.tup_inv; exact .tup h1.mk
theorem flat_mkT {a : AV} (h : flat a = true) : flat (mkT a) = true := by
  cases a <;> first | exact h | skip
  case tup l =>
    have : ∀ {l : List AV}, l.all flat.flat1 = true → (l.map mk).all flat.flat1 = true := by
      intro l
      induction l with
      | nil => intro _; rfl
      | cons a l ih =>
        intro hf
        simp only [List.all_cons, List.map_cons, Bool.and_eq_true] at hf ⊢
        refine ⟨?_, ih hf.2⟩
        cases a <;> exact hf.1
    exact this h
/-- A function of values that point nowhere, run on no memory: what it makes on the way is forgotten. -/
theorem pureN {F : FuncId → EP} (hF : TabP F) {d : Nat} {f : FuncId} {args : List AV} {v : AV} (ha : args.all flat = true) (hv : flat v = true) (h : callT F d f args .nil 0 fun u _ _ => mkT u = mkT v)
    {φ : Ph} {H : AH} {n : Nat} {h0 hp : Hp} {vs : Array Value} {κ : PK} {K : KH} (hs : κ (mkT v) H n) (hr : HR φ H n h0 hp) (hargs : VRs φ args vs.toList) (hk : ThenP φ h0 κ K) : CallF Try.prog f vs hp K := by
  have hargs' : VRs (fun _ => none) args vs.toList := by
    have : ∀ {l : List AV} {us : List Value}, l.all flat = true → VRs φ l us → VRs (fun _ => none) l us := by
      intro l
      induction l with
      | nil => intro us _ h; rw [h.nil_inv]; exact .nil
      | cons a l ih =>
        intro us hf h
        obtain ⟨w, ws, rfl, h1, h2⟩ := h.cons_inv
        simp only [List.all_cons, Bool.and_eq_true] at hf
        exact .cons (flat_VR hf.1 h1) (ih hf.2 h2)
    exact this ha hargs
  have key : Wf hp → CallF Try.prog f vs hp K := fun hw => callT_sound (by kernel_rfl) hF d f args .nil 0 _ h (fun _ => none) hp hp vs K (start_none hw) hargs' fun ψ u H' n' w g _ hg hu he => by
    have hg2 : HR φ H n h0 g := hr.grow (fun b o hb => (hg.base b o hb).2) hg.size
    have h3 : VR φ (mkT v) w := (flat_VR (φ := ψ) (flat_mkT hv) (he ▸ hu.mkT))
    exact hk φ _ H n w g (PLe.refl _) hg2 h3 hs
  have hic : isCall Try.prog f = true := (callT_sound (by kernel_rfl) hF d f args .nil 0 _ h (fun _ => none) ⟨fun _ => none, 0⟩ ⟨fun _ => none, 0⟩ vs (fun _ _ => True) (start_none fun _ _ q => by cases q) hargs' fun _ _ _ _ _ _ _ _ _ _ => trivial).1
  exact ⟨hic, fun w hi => (key hi.wf).2 w hi⟩
/-- What the quick machine found. -/
noncomputable def natQ (g : List AV → AH → Nat → KA → AR) (args : List AV) (H : AH) (n : Nat) (κ : PK) : Prop := optP (g args H n topq) (un3 κ)
theorem natQ_ok {f : FuncId} {g : List AV → AH → Nat → KA → AR} (hg : COk Try.prog f fun args H n => g args H n topq) : NatP f (natQ g) := fun args H n κ hs φ h0 h vs K hr hargs hk => by
  obtain ⟨⟨v, H', n'⟩, h1, h2⟩ := optP_inv hs
  exact hg args H n v H' n' h1 φ h0 h vs K hr hargs (hk.then h2)
theorem natQ_sing {g : List AV → AH → Nat → KA → AR} (hg : ∀ args H n r, g args H n topq = some r → GrowsA H r.2.1 ∧ n ≤ r.2.2) : SingG (natQ g) := fun args H n κ hs => by
  obtain ⟨⟨v, H', n'⟩, h1, h2⟩ := optP_inv hs
  obtain ⟨h3, h4⟩ := hg _ _ _ _ h1
  exact ⟨v, H', n', h2, h3, h4, fun κ' k' => optP_of h1 k'⟩
theorem natTrue {d : Nat} {k : FuncId} (he : isTrue (callq evQ d k [] .nil 0 topq) = true) : NatP k (natQ trueN) := natQ_ok (trueN_ok evQ_ok he)
/-- A law that the machine finds true. -/
theorem evP_calls {F : FuncId → EP} (hF : TabP F) {d : Nat} {f : FuncId} {args : List AV} {vs : Array Value} (hargs : VRs (fun _ => none) args vs.toList)
    (he : callT F d f args .nil 0 fun v _ _ => v = .bool true ∨ v = .sb true) (w : World) : Calls Try.prog f vs w fun e w' => e = .returned (.bool true) ∧ Below w.heap.size w w' := by
  have hs := callT_sound (by kernel_rfl) hF d f args .nil 0 _ he _ (wholeHp w) (wholeHp w) vs (fun v g => v = .bool true ∧ (wholeHp w).n ≤ g.n ∧ ∀ b o, (wholeHp w).f b = some o → g.f b = some o) (wholeHp_start w) hargs
    (fun ψ v H n u g _ hg hu hv => ⟨by rcases hv with rfl | rfl; exact hu.bool_inv; exact hu.sb_inv, hg.size, fun b o hb => (hg.base b o hb).2⟩)
  refine (hs.2 w (wholeHp_is w)).mono fun e' w' ⟨v, g, h1, h2, h3, h4, h5, h6⟩ => ?_
  subst h1 h4
  refine ⟨rfl, h3.1, h3.2.1, h3.2.2, ?_, fun b hb => ?_⟩
  · rw [h2.1]; exact h5
  · have := h6 b _ (show (wholeHp w).f b = some w.heap[b] from Array.getElem?_eq_getElem hb)
    rw [h2.2 b _ this, Array.getElem?_eq_getElem hb]
end
end Go.Proofs.Ytkhfdjhohfebgaa
namespace Go.Proofs.Ytkhfdjhohfebgaa
open Go Go.RowKit
noncomputable def mkE : List (Nat × AV) → AE
  | [] => .nil
  | x :: l => (mkE l).set (some x.2) depthE x.1
noncomputable def mkH : List (Nat × AO) → AH
  | [] => .nil
  | x :: l => (mkH l).set (some x.2) depthH x.1
theorem mkE_get : ∀ {l : List (Nat × AV)} {t : Nat} {a : AV}, (mkE l).get t = some a → (t, a) ∈ l
  | [], t, a, h => by cases h
  | x :: l, t, a, h => by
    rcases PM.get_set depthE _ x.1 t a h with ⟨rfl, h2⟩ | ⟨_, h2⟩
    · injection h2 with h2; subst h2; exact List.mem_cons_self
    · exact List.mem_cons_of_mem _ (mkE_get h2)
theorem mkH_get : ∀ {l : List (Nat × AO)} {t : Nat} {a : AO}, (mkH l).get t = some a → (t, a) ∈ l
  | [], t, a, h => by cases h
  | x :: l, t, a, h => by
    rcases PM.get_set depthH _ x.1 t a h with ⟨rfl, h2⟩ | ⟨_, h2⟩
    · injection h2 with h2; subst h2; exact List.mem_cons_self
    · exact List.mem_cons_of_mem _ (mkH_get h2)
/-- Places by new names: 'r' tells the old one. -/
def Ren (m : Nat) (r : Nat → Nat) (φ ψ : Ph) : Prop := ∀ b, b < m → ψ b = φ (r b)
def AO.size : AO → Nat
  | .cells l _ => l.length
  | .ro l => l.length
  | .map _ => 0
/-- What is known of a block finds room at its place. -/
def Room (φ : Ph) (H : AH) : Prop := ∀ b o p, H.get b = some o → φ b = some p → o.size ≤ p.T
theorem HR.room {φ : Ph} {H : AH} {n : Nat} {h0 h : Hp} (hr : HR φ H n h0 h) : Room φ H := fun b o p hb hp => by
  obtain ⟨ob, _, _, h4⟩ := hr.of hb hp
  cases o with
  | cells l z => obtain ⟨c, t, fz, _, h1, _⟩ := h4; exact h1
  | ro l => obtain ⟨c, t, fz, _, h1, _⟩ := h4; exact h1
  | map es => exact Nat.zero_le _
def SubV (H : AH) (m : Nat) (r : Nat → Nat) (a a' : AV) : Prop := ∀ φ ψ v, Ren m r φ ψ → Room φ H → VR φ a v → VR ψ a' v
def SubO (H : AH) (m : Nat) (r : Nat → Nat) (o o' : AO) : Prop := o.own = o'.own ∧ ∀ φ ψ p ob, Ren m r φ ψ → Room φ H → OR φ p o ob → OR ψ p o' ob
section
variable {H : AH} {m : Nat} {r : Nat → Nat}
theorem SubV.bad (a : AV) : SubV H m r a .bad := fun _ _ _ _ _ _ => .bad _
theorem SubV.flat {a a' : AV} (h : Go.Proofs.Ytkhfdjhohfebgaa.flat a' = true) (e : mk a = mk a') : SubV H m r a a' := fun φ ψ v _ _ hv => by
  have h1 : VR φ (mk a') v := e ▸ hv.mk
  have h2 : VR φ a' v := by cases a' <;> exact h1
  exact flat_VR h h2
theorem SubV.int {k : IntKind} {a : AV} {x : Int} (e : mk a = .si k x) : SubV H m r a (.si k x) := SubV.flat rfl e
theorem SubV.bool {a : AV} {x : Bool} (e : mk a = .sb x) : SubV H m r a (.sb x) := SubV.flat rfl e
theorem SubV.str {a : AV} {x : List Nat} (e : mk a = .ss x) : SubV H m r a (.ss x) := SubV.flat rfl e
theorem SubV.ptr {a : AV} {b o : Nat} (hb : b < m) (e : a = .ptr (r b) o) : SubV H m r a (.ptr b o) := fun φ ψ v hr _ hv => by
  subst e
  obtain ⟨p, h1, rfl⟩ := hv.ptr_inv
  exact .ptr (by rw [hr b hb]; exact h1)
theorem SubV.map {a : AV} {b : Nat} (hb : b < m) (e : a = .map (r b)) : SubV H m r a (.map b) := fun φ ψ v hr _ hv => by
  subst e
  obtain ⟨p, h1, rfl⟩ := hv.map_inv
  exact .map (by rw [hr b hb]; exact h1)
theorem SubV.sy {a : AV} {b o n c k : Nat} (hb : b < m) (e : mk a = .sy (r b) o n c k) : SubV H m r a (.sy b o n c k) := fun φ ψ v hr _ hv => by
  have h1 : VR φ (.sy (r b) o n c k) v := e ▸ hv.mk
  obtain ⟨p, C, h4, rfl, h2, h3⟩ := h1.sy_inv
  exact .sy (by rw [hr b hb]; exact h4) h2 h3
theorem SubV.sl {a : AV} {b o n c k : Nat} (hb : b < m) (e : mk a = .sy (r b) o n c k) : SubV H m r a (.sl b o n c k) := fun φ ψ v hr hR hv => (SubV.sy hb e φ ψ v hr hR hv).hd
theorem SubV.rw {a : AV} {b o n n' k x x' : Nat} (hb : b < m) (e : a = .rw (r b) o n' k x') (hn : n' = n := by first | rfl | simp) (hx : (x < 2 → x' < 2) ∧ (x = 1 → x' = 1) ∧ (x ≠ 4 → x' ≠ 4) := by decide) : SubV H m r a (.rw b o n k x) := fun φ ψ v hr _ hv => by
  subst e hn
  rcases hv.rw_inv with ⟨rfl, hem⟩ | ⟨p, y, C, h1, rfl, h2, h3, h4, h5, h6, h7⟩
  · refine .rwe rfl (hem.imp id fun ⟨h1, h2⟩ => ⟨?_, h2⟩)
    by_cases hx4 : x = 4
    · exact hx4
    · exact absurd h1 (hx.2.2 hx4)
  · exact .rwx (by rw [hr b hb]; exact h1) h2 h3 h4 h5 (fun q => h6 (hx.1 q)) (fun q => h7 (hx.2.1 q))
theorem SubV.nslRw {a : AV} {b o n k x : Nat} (e : a = .nsl) (hn : n = 0 := by first | rfl | simp) : SubV H m r a (.rw b o n k x) := fun φ ψ v hr _ hv => by
  subst e hn
  rw [hv.nsl_inv]; exact .rwn
theorem SubV.slRw {a : AV} {b o n n' c k k' : Nat} (hb : b < m) (e : mk a = .sy (r b) o n' c k') (hk : k' = k ∨ (k' = 0 ∧ ∃ q, H.get (r b) = some q ∧ o + c * k ≤ q.size)) (hc : n' ≤ c) (hn : n' = n := by first | rfl | simp) (hk0 : k ≠ 0 := by decide) : SubV H m r a (.rw b o n k 0) := fun φ ψ v hr hR hv => by
  subst hn
  have h1 : VR φ (.sy (r b) o n' c k') v := e ▸ hv.mk
  obtain ⟨p, C, h4, rfl, h2, h3⟩ := h1.sy_inv
  have hT : n' ≤ C ∧ o + C * k ≤ p.T := by
    rcases hk with rfl | ⟨rfl, q, hq, hqs⟩
    · obtain ⟨h5, h6⟩ := h3 hk0
      exact ⟨by omega, by omega⟩
    · have := h2 rfl
      subst this
      have := hR _ _ _ hq h4
      exact ⟨hc, by omega⟩
  exact .rw (by rw [hr b hb]; exact h4) (fun _ => rfl) (Nat.le_add_right _ _) hT.1 (by omega)
theorem SubV.same {a : AV} (h : Go.Proofs.Ytkhfdjhohfebgaa.flat a = true) : SubV H m r a a := SubV.flat h rfl
theorem SubO.cells {l l' : List AV} {z z' : Bool} (hl : l'.length ≤ l.length) (hz : z' = true → z = true) (h : ∀ (i : Nat) (a' : AV), l'[i]? = some a' → ∃ a, l[i]? = some a ∧ SubV H m r a a') : SubO H m r (.cells l z) (.cells l' z') :=
  ⟨rfl, fun φ ψ p ob hr hR ⟨c, t, fz, h1, h2, h3, h4, h5, h6⟩ => ⟨c, t, fz, h1, Nat.le_trans hl h2, h3, h4, fun q => h5 (hz q), fun i a' hi => by
    obtain ⟨a, h7, h8⟩ := h i a' hi
    obtain ⟨v, h9, h10⟩ := h6 i a h7
    exact ⟨v, h9, h8 φ ψ v hr hR h10⟩⟩⟩
theorem SubO.ro {l l' : List AV} (hl : l'.length ≤ l.length) (h : ∀ (i : Nat) (a' : AV), l'[i]? = some a' → ∃ a, l[i]? = some a ∧ SubV H m r a a') : SubO H m r (.ro l) (.ro l') :=
  ⟨rfl, fun φ ψ p ob hr hR ⟨c, t, fz, h1, h2, h3, h6⟩ => ⟨c, t, fz, h1, Nat.le_trans hl h2, h3, fun i a' hi => by
    obtain ⟨a, h7, h8⟩ := h i a' hi
    obtain ⟨v, h9, h10⟩ := h6 i a h7
    exact ⟨v, h9, h8 φ ψ v hr hR h10⟩⟩⟩
theorem SubO.maps {β : Type} {f g : β → AV} {l : List β} {z : Bool} (h : ∀ x, SubV H m r (f x) (g x)) : SubO H m r (.cells (l.map f) z) (.cells (l.map g) z) :=
  SubO.cells (by simp) (fun q => q) fun i a' hi => by
    rw [List.getElem?_map, Option.map_eq_some_iff] at hi
    obtain ⟨x, hx, rfl⟩ := hi
    exact ⟨f x, by rw [List.getElem?_map, hx]; rfl, h x⟩
theorem flat_of1 {a : AV} (h : Go.Proofs.Ytkhfdjhohfebgaa.flat.flat1 a = true) : Go.Proofs.Ytkhfdjhohfebgaa.flat a = true := by cases a <;> first | exact h | cases h
theorem SubV.mk1 {a a' : AV} (hf : Go.Proofs.Ytkhfdjhohfebgaa.flat.flat1 a' = true) (e : mk a = mk a') : SubV H m r a a' := SubV.flat (flat_of1 hf) e
theorem map_mk_at {l l' : List AV} (hf : l'.all Go.Proofs.Ytkhfdjhohfebgaa.flat.flat1 = true) (h : l.map mk = l'.map mk) (i : Nat) (a' : AV) (hi : l'[i]? = some a') : ∃ a, l[i]? = some a ∧ SubV H m r a a' := by
  have e := congrArg (fun x : List AV => x[i]?) h
  simp only [List.getElem?_map, hi, Option.map_some] at e
  rw [Option.map_eq_some_iff] at e
  obtain ⟨a, h1, h2⟩ := e
  exact ⟨a, h1, .mk1 (List.all_eq_true.1 hf a' (List.mem_of_getElem? hi)) h2⟩
theorem SubO.cells_mk {l l' : List AV} {z z' : Bool} (hf : l'.all Go.Proofs.Ytkhfdjhohfebgaa.flat.flat1 = true) (h : l.map mk = l'.map mk) (hz : z' = true → z = true) : SubO H m r (.cells l z) (.cells l' z') :=
  SubO.cells (by have := congrArg List.length h; simp only [List.length_map] at this; omega) hz (map_mk_at hf h)
theorem SubO.ro_mk {l l' : List AV} (hf : l'.all Go.Proofs.Ytkhfdjhohfebgaa.flat.flat1 = true) (h : l.map mk = l'.map mk) : SubO H m r (.ro l) (.ro l') :=
  SubO.ro (by have := congrArg List.length h; simp only [List.length_map] at this; omega) (map_mk_at hf h)
theorem ebytes_map : ∀ {s : List Nat}, (∀ x ∈ s, x < 256) → ebytes (s.map fun c : Nat => .si .u8 (Int.ofNat c)) = some s
  | [], _ => rfl
  | c :: s, h => by
    have hc : Nat.blt c 256 = true := by rw [Nat.blt_eq]; exact h c List.mem_cons_self
    simp only [List.map_cons, ebytes, hc, ebytes_map (s := s) fun x hx => h x (List.mem_cons_of_mem _ hx), Option.map_some]
theorem conv_str {P : Program} {src dst e : TypeId} {x : AV} {H : AH} {n b o len c k : Nat} {l l2 : List AV} {z : Bool} {s : List Nat} (hx : x = .sl b o len c k) (hb : H.get b = some (.cells l z)) (hu : P.underlying src = some (.slice e)) (hd : P.underlying dst = some .string) (he : P.underlying e = some (.int .u8))
    (hl : subL l o len = some l2) (hs : ebytes l2 = some s) : econv P src dst x H n = some (.str s, H, n) := by
  subst hx
  simp only [econv, hu, hd, he, hb, hl, Option.bind_some, hs, Option.map_some]
theorem app_grow {P : Program} {t u e e2 : TypeId} {s x : AV} {H : AH} {n k by' m b o sn c : Nat} {z : Value} {l new old : List AV} {z' : Bool} (hs : s = .sl b o sn c (k + 1)) (hb : H.get b = some (.cells l z')) (hu : P.underlying t = some (.slice e)) (hu2 : P.underlying u = some (.slice e2))
    (hk : tySize P e = some (k + 1)) (hby : tyBytes P e = some by') (hz : tyZero P e = some z) (hzc : z.cells.size = k + 1) (hb0 : 0 < by') (hsrc : esrc H (k + 1) x = some (m, new)) (hnew : new.length = m * (k + 1)) (hone : new.all one1 = true) (hgt : c < sn + m) (hbig : (sn + m) * by' ≤ 140737488355328) (hold : subL l o (sn * (k + 1)) = some old) :
    eappend P t u s x H n = some (.sl n 0 (sn + m) (sn + m) (k + 1), (H.set none depthH b).set (some (.cells (old ++ new) z')) depthH n, n + 1) := by
  subst hs
  simp only [eappend, hu, hu2, hk, hby, hz, hsrc, hb, hold]
  rw [if_pos ⟨hzc, hb0, Nat.succ_pos k, hnew, hone⟩, if_neg (by omega), if_pos hbig]
  simp
theorem subL_all {α : Type} {l : List α} {n : Nat} (h : l.length = n) : subL l 0 n = some l := by
  subst h
  unfold subL
  rw [Nat.zero_add, Nat.ble_eq_true_of_le (Nat.le_refl _)]
  simp
theorem Cov.ofR {p n : Nat} {σ : AE} {H : AH} {le : List (Nat × AV)} {lh : List (Nat × AO)} (r : Nat → Nat) (hp : p ≤ m) (hr : ∀ b, b < p → r b = b) (he : ∀ x ∈ le, SubV H m r (getq (pa x.1) σ) x.2)
    (hh : ∀ x ∈ lh, x.1 < m ∧ ((∃ o, H.get (r x.1) = some o ∧ SubO H m r o x.2) ∨ (x.2.void = true ∧ n ≤ r x.1))) (hi : ∀ x ∈ lh, ∀ y ∈ lh, r x.1 = r y.1 → x.1 = y.1) : Cov p σ H n (mkE le, mkH lh, m) := fun φ h0 h ρ hR hF => by
  let ψ : Ph := fun b => if b < m then φ (r b) else none
  have hren : Ren m r φ ψ := fun b hb => by simp only [ψ, if_pos hb]
  have hroom := hR.room
  have hvoid : ∀ b, n ≤ b → φ b = none := fun b hb => by
    cases hq : φ b with
    | none => rfl
    | some p => exact absurd (hR.dom b p hq).1 (by omega)
  refine ⟨ψ, fun b q hb hq => ?_, ⟨fun b q hq => ?_, fun b o hb => ?_, fun b b' o o' q q' hb hb' hw hw' hq hq' e => ?_, hR.base, hR.size⟩, fun t a ht => ?_⟩
  · simp only [ψ, if_pos (Nat.lt_of_lt_of_le hb hp), hr b hb]; exact hq
  · simp only [ψ] at hq
    split at hq
    · rename_i hb; exact ⟨hb, (hR.dom _ _ hq).2⟩
    · cases hq
  · obtain ⟨h1, ⟨o2, h2, h3, h4⟩ | ⟨h2, h3⟩⟩ := hh _ (mkH_get hb)
    · rcases hR.live _ _ h2 with ⟨g1, g2⟩ | ⟨q, ob, g1, g2, g3, g4⟩
      · refine .inl ⟨by simp only [ψ, if_pos h1]; exact g1, ?_⟩
        -- what has no place knows nothing
        obtain ⟨q, hq⟩ : ∃ q : Pl, q = ⟨0, 0, 0⟩ := ⟨_, rfl⟩
        have key : OR φ q o2 (.cells #[] default (0, 0)) := by
          cases o2 with
          | cells l z =>
            cases l with
            | nil => exact ⟨#[], default, _, rfl, by simp, by subst hq; simp, free_zero _ _, fun _ => rfl, fun i a h => by simp at h⟩
            | cons _ _ => cases g2
          | ro l =>
            cases l with
            | nil => exact ⟨#[], default, _, rfl, by simp, by subst hq; simp, fun i a h => by simp at h⟩
            | cons _ _ => cases g2
          | map _ => cases g2
        have k2 := h4 φ ψ q _ hren hroom key
        cases o with
        | cells l z =>
          obtain ⟨c, t, fz, e, k3, _⟩ := k2
          subst hq
          cases l with
          | nil => rfl
          | cons _ _ => simp at k3
        | ro l =>
          obtain ⟨c, t, fz, e, k3, _⟩ := k2
          subst hq
          cases l with
          | nil => rfl
          | cons _ _ => simp at k3
        | map _ => obtain ⟨ms, cl, e, _⟩ := k2; cases e
      · refine .inr ⟨q, ob, by simp only [ψ, if_pos h1]; exact g1, ?_, g3, h4 φ ψ q ob hren hroom g4⟩
        rw [g2]
        cases o2 <;> cases o <;> first | rfl | cases h3
    · exact .inl ⟨by simp only [ψ, if_pos h1]; exact hvoid _ h3, h2⟩
  · obtain ⟨h1, h2'⟩ := hh _ (mkH_get hb)
    obtain ⟨h1', h3'⟩ := hh _ (mkH_get hb')
    simp only [ψ, if_pos h1] at hq
    simp only [ψ, if_pos h1'] at hq'
    rcases h2' with ⟨o2, h2, h3, h4⟩ | ⟨_, h3⟩
    · rcases h3' with ⟨o2', h2', h3', h4'⟩ | ⟨_, h3'⟩
      · exact hi _ (mkH_get hb) _ (mkH_get hb') (hR.inj _ _ _ _ _ _ h2 h2' (h3.trans hw) (h3'.trans hw') hq hq' e)
      · rw [hvoid _ h3'] at hq'; cases hq'
    · rw [hvoid _ h3] at hq; cases hq
  · exact he _ (mkE_get ht) φ ψ _ hren hroom (hF.at t)
theorem Cov.of {p n : Nat} {σ : AE} {H : AH} {le : List (Nat × AV)} {lh : List (Nat × AO)} (r : Nat → Nat) (hp : p ≤ m) (hr : ∀ b, b < p → r b = b) (he : ∀ x ∈ le, SubV H m r (getq (pa x.1) σ) x.2)
    (hh : ∀ x ∈ lh, x.1 < m ∧ ∃ o, H.get (r x.1) = some o ∧ SubO H m r o x.2) (hi : ∀ x ∈ lh, ∀ y ∈ lh, r x.1 = r y.1 → x.1 = y.1) : Cov p σ H n (mkE le, mkH lh, m) := Cov.ofR r hp hr he (fun x hx => ⟨(hh x hx).1, .inl (hh x hx).2⟩) hi
end
end Go.Proofs.Ytkhfdjhohfebgaa
namespace Go.Proofs.Ytkhfdjhohfebgaa
open Go Go.RowKit
/-- A number, known or not. -/
def asI (a : AV) (κ : Int → Prop) : Prop := match a with
  | .int .i64 n => κ n
  | .si .i64 n => κ n
  | _ => False
theorem asI_inv {φ : Ph} {a : AV} {v : Value} {κ : Int → Prop} (h : VR φ a v) (k : asI a κ) : ∃ n, v = .int .i64 n ∧ κ n := by
  unfold asI at k
  split at k
  · exact ⟨_, h.int_inv, k⟩
  · exact ⟨_, h.si_inv, k⟩
  · exact k.elim
theorem vs3 {φ : Ph} {a b c : AV} {vs : Array Value} (h : VRs φ [a, b, c] vs.toList) : ∃ x y z, vs = #[x, y, z] ∧ VR φ a x ∧ VR φ b y ∧ VR φ c z := by
  obtain ⟨x, l1, e1, h1, h2⟩ := h.cons_inv
  obtain ⟨y, l2, e2, h3, h4⟩ := h2.cons_inv
  obtain ⟨z, l3, e3, h5, h6⟩ := h4.cons_inv
  have := h6.nil_inv
  subst this e3 e2
  exact ⟨x, y, z, by cases vs; simp_all, h1, h3, h5⟩
theorem vs2 {φ : Ph} {a b : AV} {vs : Array Value} (h : VRs φ [a, b] vs.toList) : ∃ x y, vs = #[x, y] ∧ VR φ a x ∧ VR φ b y := by
  obtain ⟨x, l1, e1, h1, h2⟩ := h.cons_inv
  obtain ⟨y, l2, e2, h3, h4⟩ := h2.cons_inv
  have := h4.nil_inv
  subst this e2
  exact ⟨x, y, by cases vs; simp_all, h1, h3⟩
theorem vs1 {φ : Ph} {a : AV} {vs : Array Value} (h : VRs φ [a] vs.toList) : ∃ x, vs = #[x] ∧ VR φ a x := by
  obtain ⟨x, l1, e1, h1, h2⟩ := h.cons_inv
  have := h2.nil_inv
  subst this
  exact ⟨x, by cases vs; simp_all, h1⟩
def nat3 (f : Int → Int → Int → Int) (args : List AV) (H : AH) (n : Nat) (κ : PK) : Prop := match args with
  | [x, y, z] => asI x fun t => asI y fun s => asI z fun a => κ (.si .i64 (f t s a)) H n
  | _ => False

theorem Then.sb {φ : Ph} {H : AH} {n : Nat} {h0 h : Hp} {κ : PK} {K : KH} {b : Bool} (hr : HR φ H n h0 h) (hk : ThenP φ h0 κ K) (h1 : κ (.sb b) H n) : K (.bool b) h := hk φ _ H n _ h (PLe.refl _) hr (.sb b) h1
def mkK (κ : PK) : PK := fun v H n => κ (mk v) H n
theorem ThenP.mkK {φ : Ph} {h0 : Hp} {κ : PK} {K : KH} (hk : ThenP φ h0 κ K) : ThenP φ h0 (mkK κ) K := fun ψ v H n u g h1 h2 h3 h4 => hk ψ _ H n u g h1 h2 h3.mk h4
theorem leafB {κ : PK} {H : AH} {n : Nat} {b c : Bool} (hk : κ (.sb b) H n) (h : b = c) : κ (.sb c) H n := by subst h; exact hk
theorem leafI {κ : PK} {H : AH} {n : Nat} {k : IntKind} {b c : Int} (hk : κ (.si k b) H n) (h : b = c) : κ (.si k c) H n := by subst h; exact hk
def nat1b (f : Int → Bool) (args : List AV) (H : AH) (n : Nat) (κ : PK) : Prop := match args with
  | [x] => asI x fun t => κ (.sb (f t)) H n
  | _ => False
def nat2b (f : Int → Int → Bool) (args : List AV) (H : AH) (n : Nat) (κ : PK) : Prop := match args with
  | [x, y] => asI x fun t => asI y fun s => κ (.sb (f t s)) H n
  | _ => False
/-- Numbers as unknown ones. -/
theorem asI_si {φ : Ph} {a : AV} {v : Value} {κ : Int → Prop} (h : VR φ a v) (k : asI a κ) : ∃ n, VR φ (.si .i64 n) v ∧ κ n := by
  obtain ⟨n, rfl, k⟩ := asI_inv h k
  exact ⟨n, .si _ _, k⟩
theorem nat1b_ok {F : FuncId → EP} (hF : TabP F) {d : Nat} {f : FuncId} {g : Int → Bool} (h : ∀ (t : Int) (H : AH) (n : Nat) (κ : PK), κ (.sb (g t)) H n → callT F d f [.si .i64 t] H n (mkK κ)) : NatP f (nat1b g) := fun args H n κ hs φ h0 hp vs K hr hargs hk => by
  unfold nat1b at hs
  split at hs
  · obtain ⟨x, rfl, h1⟩ := vs1 hargs
    obtain ⟨t, h1, hs⟩ := asI_si h1 hs
    exact callT_sound (by kernel_rfl) hF d f _ H n (mkK κ) (h t H n κ hs) φ h0 hp _ K hr (.cons h1 .nil) hk.mkK
  · exact hs.elim
theorem nat2b_ok {F : FuncId → EP} (hF : TabP F) {d : Nat} {f : FuncId} {g : Int → Int → Bool} (h : ∀ (t s : Int) (H : AH) (n : Nat) (κ : PK), κ (.sb (g t s)) H n → callT F d f [.si .i64 t, .si .i64 s] H n (mkK κ)) : NatP f (nat2b g) := fun args H n κ hs φ h0 hp vs K hr hargs hk => by
  unfold nat2b at hs
  split at hs
  · obtain ⟨x, y, rfl, h1, h2⟩ := vs2 hargs
    obtain ⟨t, h1, hs⟩ := asI_si h1 hs
    obtain ⟨s, h2, hs⟩ := asI_si h2 hs
    exact callT_sound (by kernel_rfl) hF d f _ H n (mkK κ) (h t s H n κ hs) φ h0 hp _ K hr (.cons h1 (.cons h2 .nil)) hk.mkK
  · exact hs.elim
theorem nat3_ok {F : FuncId → EP} (hF : TabP F) {d : Nat} {f : FuncId} {g : Int → Int → Int → Int} (h : ∀ (t s a : Int) (H : AH) (n : Nat) (κ : PK), κ (.si .i64 (g t s a)) H n → callT F d f [.si .i64 t, .si .i64 s, .si .i64 a] H n (mkK κ)) : NatP f (nat3 g) := fun args H n κ hs φ h0 hp vs K hr hargs hk => by
  unfold nat3 at hs
  split at hs
  · obtain ⟨x, y, z, rfl, h1, h2, h3⟩ := vs3 hargs
    obtain ⟨t, h1, hs⟩ := asI_si h1 hs
    obtain ⟨s, h2, hs⟩ := asI_si h2 hs
    obtain ⟨a, h3, hs⟩ := asI_si h3 hs
    exact callT_sound (by kernel_rfl) hF d f _ H n (mkK κ) (h t s a H n κ hs) φ h0 hp _ K hr (.cons h1 (.cons h2 (.cons h3 .nil))) hk.mkK
  · exact hs.elim
def nat1s (f : Int → List Nat) (args : List AV) (H : AH) (n : Nat) (κ : PK) : Prop := match args with
  | [x] => asI x fun t => κ (.ss (f t)) H n
  | _ => False
theorem nat1s_ok {F : FuncId → EP} (hF : TabP F) {d : Nat} {f : FuncId} {g : Int → List Nat} (h : ∀ t : Int, callT F d f [.si .i64 t] .nil 0 fun u _ _ => mkT u = .ss (g t)) : NatP f (nat1s g) := fun args H n κ hs φ h0 hp vs K hr hargs hk => by
  unfold nat1s at hs
  split at hs
  · obtain ⟨x, rfl, h1⟩ := vs1 hargs
    obtain ⟨t, h1, hs⟩ := asI_si h1 hs
    exact pureN (v := .ss (g t)) hF rfl rfl (h t) hs hr (.cons h1 .nil) hk
  · exact hs.elim
/-- A text, known or not. -/
def asS (a : AV) (κ : List Nat → Prop) : Prop := match a with
  | .str s => κ s
  | .ss s => κ s
  | _ => False
theorem asS_inv {φ : Ph} {a : AV} {v : Value} {κ : List Nat → Prop} (h : VR φ a v) (k : asS a κ) : ∃ s, VR φ (.ss s) v ∧ (∀ x ∈ s, x < 256) ∧ κ s := by
  unfold asS at k
  split at k
  · exact ⟨_, h.mk, h.str_inv.2, k⟩
  · exact ⟨_, h, h.ss_inv.2, k⟩
  · exact k.elim
def natS (f : List Nat → AV) (args : List AV) (H : AH) (n : Nat) (κ : PK) : Prop := match args with
  | [x] => asS x fun s => s.length ≤ 1000000 ∧ κ (mkT (f s)) H n
  | _ => False
theorem natS_ok {F : FuncId → EP} (hF : TabP F) {d : Nat} {f : FuncId} {g : List Nat → AV} (hg : ∀ s, flat (g s) = true) (h : ∀ s : List Nat, (∀ x ∈ s, x < 256) → s.length ≤ 1000000 → callT F d f [.ss s] .nil 0 fun u _ _ => mkT u = mkT (g s)) : NatP f (natS g) := fun args H n κ hs φ h0 hp vs K hr hargs hk => by
  unfold natS at hs
  split at hs
  · obtain ⟨x, rfl, h1⟩ := vs1 hargs
    obtain ⟨s, h1, h2, h3, hs⟩ := asS_inv h1 hs
    exact pureN (v := g s) hF rfl (hg s) (h s h2 h3) hs hr (.cons h1 .nil) hk
  · exact hs.elim
def nat2i (f : Int → Int → Int) (args : List AV) (H : AH) (n : Nat) (κ : PK) : Prop := match args with
  | [x, y] => asI x fun t => asI y fun s => κ (.si .i64 (f t s)) H n
  | _ => False
theorem nat2i_ok {F : FuncId → EP} (hF : TabP F) {d : Nat} {f : FuncId} {g : Int → Int → Int} (h : ∀ (t s : Int) (H : AH) (n : Nat) (κ : PK), κ (.si .i64 (g t s)) H n → callT F d f [.si .i64 t, .si .i64 s] H n (mkK κ)) : NatP f (nat2i g) := fun args H n κ hs φ h0 hp vs K hr hargs hk => by
  unfold nat2i at hs
  split at hs
  · obtain ⟨x, y, rfl, h1, h2⟩ := vs2 hargs
    obtain ⟨t, h1, hs⟩ := asI_si h1 hs
    obtain ⟨s, h2, hs⟩ := asI_si h2 hs
    exact callT_sound (by kernel_rfl) hF d f _ H n (mkK κ) (h t s H n κ hs) φ h0 hp _ K hr (.cons h1 (.cons h2 .nil)) hk.mkK
  · exact hs.elim
/-! ### one outcome -/
theorem SingG.pure {g : List AV → AH → Nat → PK → Prop} (h : ∀ args H n κ, g args H n κ → ∃ v, κ v H n ∧ ∀ κ' : PK, κ' v H n → g args H n κ') : SingG g := fun args H n κ hs => by
  obtain ⟨v, h1, h2⟩ := h args H n κ hs
  exact ⟨v, H, n, h1, .refl _, Nat.le_refl _, h2⟩
theorem asI_sing {a : AV} {κ : Int → Prop} (h : asI a κ) : ∃ n, κ n ∧ ∀ κ' : Int → Prop, κ' n → asI a κ' := by
  unfold asI at *
  split at h
  · exact ⟨_, h, fun _ k => k⟩
  · exact ⟨_, h, fun _ k => k⟩
  · exact h.elim
theorem asS_sing {a : AV} {κ : List Nat → Prop} (h : asS a κ) : ∃ n, κ n ∧ ∀ κ' : List Nat → Prop, κ' n → asS a κ' := by
  unfold asS at *
  split at h
  · exact ⟨_, h, fun _ k => k⟩
  · exact ⟨_, h, fun _ k => k⟩
  · exact h.elim
theorem sing1b {f : Int → Bool} : SingG (nat1b f) := .pure fun args H n κ hs => by
  unfold nat1b at *
  split at hs
  · obtain ⟨x, h1, k1⟩ := asI_sing hs
    exact ⟨_, h1, fun κ' h => k1 _ h⟩
  · exact hs.elim
theorem sing1s {f : Int → List Nat} : SingG (nat1s f) := .pure fun args H n κ hs => by
  unfold nat1s at *
  split at hs
  · obtain ⟨x, h1, k1⟩ := asI_sing hs
    exact ⟨_, h1, fun κ' h => k1 _ h⟩
  · exact hs.elim
theorem sing2b {f : Int → Int → Bool} : SingG (nat2b f) := .pure fun args H n κ hs => by
  unfold nat2b at *
  split at hs
  · obtain ⟨x, h1, k1⟩ := asI_sing hs
    obtain ⟨y, h2, k2⟩ := asI_sing h1
    exact ⟨_, h2, fun κ' h => k1 _ (k2 _ h)⟩
  · exact hs.elim
theorem sing2i {f : Int → Int → Int} : SingG (nat2i f) := .pure fun args H n κ hs => by
  unfold nat2i at *
  split at hs
  · obtain ⟨x, h1, k1⟩ := asI_sing hs
    obtain ⟨y, h2, k2⟩ := asI_sing h1
    exact ⟨_, h2, fun κ' h => k1 _ (k2 _ h)⟩
  · exact hs.elim
theorem sing3 {f : Int → Int → Int → Int} : SingG (nat3 f) := .pure fun args H n κ hs => by
  unfold nat3 at *
  split at hs
  · obtain ⟨x, h1, k1⟩ := asI_sing hs
    obtain ⟨y, h2, k2⟩ := asI_sing h1
    obtain ⟨z, h3, k3⟩ := asI_sing h2
    exact ⟨_, h3, fun κ' h => k1 _ (k2 _ (k3 _ h))⟩
  · exact hs.elim
theorem singS {f : List Nat → AV} : SingG (natS f) := .pure fun args H n κ hs => by
  unfold natS at *
  split at hs
  · obtain ⟨s, ⟨h0, h1⟩, k1⟩ := asS_sing hs
    exact ⟨_, h1, fun κ' h => k1 _ ⟨h0, h⟩⟩
  · exact hs.elim
theorem singTrue : SingG (natQ trueN) := natQ_sing fun args H n r h => by
  cases args with
  | nil =>
    injection h with h
    subst h
    exact ⟨.refl _, Nat.le_refl _⟩
  | cons _ _ => cases h
end Go.Proofs.Ytkhfdjhohfebgaa
namespace Go.Proofs.Ytkhfdjhohfebgaa
open Go Go.RowKit
def sRight (k : Int) : Bool := decide (1 ≤ k ∧ k ≤ 7)
def sCan (s a : Int) : Bool := decide (1 ≤ s ∧ s ≤ 1099511627776 ∧ 0 ≤ a ∧ a < s)
def sTime (t : Int) : Bool := decide (0 ≤ t ∧ t ≤ 1099511627776)
def sStart (t s a : Int) : Int := if sCan s a = true ∧ sTime t = true ∧ a ≤ t then t - (t - a) % s else 0
def sEnd (b s a : Int) : Int := if sCan s a = true ∧ sTime b = true then (if b < a then a else sStart b s a + s) else 0
theorem sStart_bounds {t s a : Int} : 0 ≤ sStart t s a ∧ sStart t s a ≤ 1099511627776 := by
  unfold sStart
  split
  · rename_i h
    simp only [sCan, sTime, decide_eq_true_eq] at h
    have hm1 := Int.emod_nonneg (t - a) (show s ≠ 0 by omega)
    have hm2 := Int.emod_add_mul_ediv (t - a) s
    have hm3 := Int.mul_nonneg (show 0 ≤ s by omega) (Int.ediv_nonneg (show 0 ≤ t - a by omega) (show 0 ≤ s by omega))
    omega
  · omega
def sOver (a b : Int) : Bool := decide (0 ≤ b ∧ IntKind.i64.wrap (a + b) < a ∨ b < 0 ∧ a < IntKind.i64.wrap (a + b))
def sCap (a b : Int) : Int := if sOver a b = true then (if 0 < b then 9223372036854775807 else -9223372036854775808) else IntKind.i64.wrap (a + b)
set_option maxRecDepth 100000 in
theorem n_right : NatP 38 (nat1b sRight) := nat1b_ok (d := 1) evP_ok fun t H n κ hk => by
  repeat' (conv => whnf
           first | refine Fork.dec (fun _ => ?_) (fun _ => ?_) | refine Fork.ndec (fun _ => ?_) (fun _ => ?_) | refine leafB hk ?_)
  all_goals simp [sRight, *]
set_option maxRecDepth 100000 in
theorem n_can : NatP 62 (nat2b sCan) := nat2b_ok (d := 1) evP_ok fun s a H n κ hk => by
  repeat' (conv => whnf
           first | refine Fork.dec (fun _ => ?_) (fun _ => ?_) | refine Fork.ndec (fun _ => ?_) (fun _ => ?_) | refine leafB hk ?_)
  all_goals simp [sCan, *]
set_option maxRecDepth 100000 in
theorem n_time : NatP 63 (nat1b sTime) := nat1b_ok (d := 1) evP_ok fun s H n κ hk => by
  repeat' (conv => whnf
           first | refine Fork.dec (fun _ => ?_) (fun _ => ?_) | refine Fork.ndec (fun _ => ?_) (fun _ => ?_) | refine leafB hk ?_)
  all_goals simp [sTime, *]
noncomputable def FA : FuncId → EP := withS 62 (nat2b sCan) (withS 63 (nat1b sTime) (withS 38 (nat1b sRight) evP))
theorem FA_ok : TabP FA := withS_ok (withS_ok (withS_ok evP_ok n_right sing1b) n_time sing1b) n_can sing2b
set_option maxRecDepth 100000 in
theorem n_start : NatP 64 (nat3 sStart) := nat3_ok (d := 2) FA_ok fun t s a H n κ hk => by
  repeat' (conv => whnf
           first | refine Fork.dec (fun _ => ?_) (fun _ => ?_) | refine Fork.ndec (fun _ => ?_) (fun _ => ?_) | refine Fork.sb (fun _ => ?_) (fun _ => ?_) | refine Fork.nsb (fun _ => ?_) (fun _ => ?_) | refine And.intro ?_ ?_ | refine leafI hk ?_)
  · rename_i h1
    simp [sStart, sCan, h1]
  · rename_i h2 h1
    simp [sStart, sTime, h1]
  · rename_i h3 h2 h1
    unfold sStart
    rw [if_neg (by omega)]
  · intro h0
    omega
  · rename_i h3 h2 h1
    rw [wrap_i64_of (x := t - a) (by omega) (by omega), Int.tmod_eq_emod_of_nonneg (by omega)]
    have hm1 := Int.emod_nonneg (t - a) (show s ≠ 0 by omega)
    have hm2 := Int.emod_lt_of_pos (t - a) (show 0 < s by omega)
    rw [wrap_i64_of (by omega) (by omega)]
    simp only [sStart, sCan, sTime, decide_eq_true_eq]
    rw [if_pos (by omega)]
noncomputable def FB : FuncId → EP := withS 64 (nat3 sStart) FA
theorem FB_ok : TabP FB := withS_ok FA_ok n_start sing3
set_option maxRecDepth 100000 in
theorem n_end : NatP 52 (nat3 sEnd) := nat3_ok (d := 2) FB_ok fun b s a H n κ hk => by
  repeat' (conv => whnf
           first | refine Fork.dec (fun _ => ?_) (fun _ => ?_) | refine Fork.ndec (fun _ => ?_) (fun _ => ?_) | refine Fork.sb (fun _ => ?_) (fun _ => ?_) | refine Fork.nsb (fun _ => ?_) (fun _ => ?_) | refine And.intro ?_ ?_ | refine leafI hk ?_)
  · rename_i h1
    simp [sEnd, sCan, h1]
  · rename_i h2 h1
    simp [sEnd, sTime, h1]
  · rename_i h3 h2 h1
    simp [sEnd, sCan, sTime, h1, h2, h3]
  · rename_i h3 h2 h1
    have hb := sStart_bounds (t := b) (s := s) (a := a)
    rw [wrap_i64_of (by omega) (by omega)]
    simp [sEnd, sCan, sTime, h1, h2, h3]
noncomputable def FC : FuncId → EP := withS 52 (nat3 sEnd) FB
theorem FC_ok : TabP FC := withS_ok FB_ok n_end sing3
structure TimesOk (t s a : Int) : Prop where
  s1 : 1 ≤ s
  s2 : s ≤ 1099511627776
  a1 : 0 ≤ a
  a2 : a < s
  t1 : 0 ≤ t
  t2 : t < 1099511627776
theorem mod_facts (x s : Int) (hs : 1 ≤ s) : 0 ≤ x % s ∧ x % s < s ∧ x - x % s = s * (x / s) := by
  have h1 := Int.emod_nonneg x (show s ≠ 0 by omega)
  have h2 := Int.emod_lt_of_pos x (show 0 < s by omega)
  have h3 := Int.emod_add_mul_ediv x s
  exact ⟨h1, h2, by omega⟩
theorem start_eq {t s a : Int} (h1 : 1 ≤ s) (h2 : s ≤ 1099511627776) (h3 : 0 ≤ a) (h4 : a < s) (h5 : 0 ≤ t) (h6 : t ≤ 1099511627776) : sStart t s a = if a ≤ t then t - (t - a) % s else 0 := by
  unfold sStart
  have e1 : sCan s a = true := by simp only [sCan, decide_eq_true_eq]; omega
  have e2 : sTime t = true := by simp only [sTime, decide_eq_true_eq]; omega
  by_cases h : a ≤ t
  · rw [if_pos ⟨e1, e2, h⟩, if_pos h]
  · rw [if_neg (fun k => h k.2.2), if_neg h]
theorem end_eq {t s a : Int} (h1 : 1 ≤ s) (h2 : s ≤ 1099511627776) (h3 : 0 ≤ a) (h4 : a < s) (h5 : 0 ≤ t) (h6 : t ≤ 1099511627776) : sEnd t s a = if t < a then a else sStart t s a + s := by
  unfold sEnd
  have e1 : sCan s a = true := by simp only [sCan, decide_eq_true_eq]; omega
  have e2 : sTime t = true := by simp only [sTime, decide_eq_true_eq]; omega
  rw [if_pos ⟨e1, e2⟩]
theorem mod_shift (q s r : Int) (hs : 1 ≤ s) (h0 : 0 ≤ r) (h1 : r < s) : (s * q + r) % s = r := by
  rw [Int.mul_add_emod_self_left]; exact Int.emod_eq_of_lt h0 h1
theorem times_law {t s a : Int} (h : TimesOk t s a) : sStart t s a ≤ t ∧ t < sEnd (sStart t s a) s a ∧ sEnd (sStart t s a) s a - sStart t s a ≤ s ∧ sStart (sStart t s a) s a = sStart t s a ∧ sEnd t s a = sEnd (sStart t s a) s a ∧
    (1099511627776 < sEnd (sStart t s a) s a ∨ sStart (sEnd (sStart t s a) s a) s a = sEnd (sStart t s a) s a) ∧ (sStart t s a = 0 ∨ sEnd (sStart t s a - 1) s a = sStart t s a) := by
  obtain ⟨h1, h2, h3, h4, h5, h6⟩ := h
  have eS := start_eq h1 h2 h3 h4 h5 (by omega)
  by_cases hta : a ≤ t
  · rw [if_pos hta] at eS
    obtain ⟨m1, m2, m3⟩ := mod_facts (t - a) s h1
    have hq : 0 ≤ (t - a) / s := Int.ediv_nonneg (by omega) (by omega)
    generalize (t - a) / s = q at m3 hq
    have hsq : 0 ≤ s * q := Int.mul_nonneg (by omega) hq
    have hb : sStart t s a = a + s * q := by omega
    have hbt : a + s * q ≤ t := by omega
    have hbb : sStart (a + s * q) s a = a + s * q := by
      rw [start_eq h1 h2 h3 h4 (by omega) (by omega), if_pos (by omega), show a + s * q - a = s * q + 0 from by omega, mod_shift q s 0 h1 (by omega) (by omega)]; omega
    have he : sEnd (a + s * q) s a = a + s * q + s := by
      rw [end_eq h1 h2 h3 h4 (by omega) (by omega), if_neg (by omega), hbb]
    rw [hb, hbb, he]
    refine ⟨hbt, by omega, by omega, rfl, ?_, ?_, ?_⟩
    · rw [end_eq h1 h2 h3 h4 h5 (by omega), if_neg (by omega), hb]
    · by_cases hM : 1099511627776 < a + s * q + s
      · exact .inl hM
      · refine .inr ?_
        have e3 : a + s * q + s - a = s * (q + 1) + 0 := by rw [Int.mul_add]; omega
        rw [start_eq h1 h2 h3 h4 (by omega) (by omega), if_pos (by omega), e3, mod_shift (q + 1) s 0 h1 (by omega) (by omega)]; omega
    · by_cases h0 : a + s * q = 0
      · exact .inl h0
      · refine .inr ?_
        rw [end_eq h1 h2 h3 h4 (by omega) (by omega)]
        by_cases hq0 : q = 0
        · subst hq0
          rw [if_pos (by omega)]; omega
        · have hsq1 : s ≤ s * q := by
            have := Int.mul_le_mul_of_nonneg_left (show 1 ≤ q by omega) (show 0 ≤ s by omega)
            omega
          rw [if_neg (by omega), start_eq h1 h2 h3 h4 (by omega) (by omega), if_pos (by omega)]
          have e3 : a + s * q - 1 - a = s * (q - 1) + (s - 1) := by rw [Int.mul_sub]; omega
          rw [e3, mod_shift (q - 1) s (s - 1) h1 (by omega) (by omega)]; omega
  · rw [if_neg hta] at eS
    have h00 : sStart 0 s a = 0 := by rw [start_eq h1 h2 h3 h4 (by omega) (by omega), if_neg (by omega)]
    have he : sEnd 0 s a = a := by rw [end_eq h1 h2 h3 h4 (by omega) (by omega), if_pos (by omega)]
    rw [eS, h00, he]
    refine ⟨by omega, by omega, by omega, rfl, ?_, ?_, .inl rfl⟩
    · rw [end_eq h1 h2 h3 h4 h5 (by omega), if_pos (by omega)]
    · refine .inr ?_
      rw [start_eq h1 h2 h3 h4 (by omega) (by omega), if_pos (by omega)]
      simp
end Go.Proofs.Ytkhfdjhohfebgaa
namespace Go.Proofs.Ytkhfdjhohfebgaa
open Go Go.RowKit
def sName (k : Int) : List Nat :=
  if k = 1 then [115, 117, 109] else if k = 2 then [109, 105, 110] else if k = 3 then [109, 97, 120] else if k = 4 then [99, 111, 117, 110, 116] else if k = 5 then [102, 105, 114, 115, 116]
  else if k = 6 then [108, 97, 115, 116] else if k = 7 then [114, 97, 110, 103, 101] else []
theorem kinds {k : Int} (h1 : ¬ k < 1) (h2 : ¬ 7 < k) : k = 1 ∨ k = 2 ∨ k = 3 ∨ k = 4 ∨ k = 5 ∨ k = 6 ∨ k = 7 := by omega
set_option maxRecDepth 100000 in
theorem n_rname : NatP 42 (nat1s sName) := nat1s_ok (d := 1) evP_ok fun k => by
  conv => whnf
  refine Fork.dec (fun h1 => ?_) (fun h1 => ?_)
  · conv => whnf
    have : sName k = [] := by unfold sName; repeat' rw [if_neg (by omega)]
    rw [this]; rfl
  · conv => whnf
    refine Fork.dec (fun h2 => ?_) (fun h2 => ?_)
    · conv => whnf
      have : sName k = [] := by unfold sName; repeat' rw [if_neg (by omega)]
      rw [this]; rfl
    · rcases kinds h1 h2 with rfl | rfl | rfl | rfl | rfl | rfl | rfl
      · conv => whnf
        exact Idx.mk 0 rfl (by decide) rfl
      · conv => whnf
        exact Idx.mk 1 rfl (by decide) rfl
      · conv => whnf
        exact Idx.mk 2 rfl (by decide) rfl
      · conv => whnf
        exact Idx.mk 3 rfl (by decide) rfl
      · conv => whnf
        exact Idx.mk 4 rfl (by decide) rfl
      · conv => whnf
        exact Idx.mk 5 rfl (by decide) rfl
      · conv => whnf
        exact Idx.mk 6 rfl (by decide) rfl
end Go.Proofs.Ytkhfdjhohfebgaa
namespace Go.Proofs.Ytkhfdjhohfebgaa
open Go Go.RowKit
def lowC (c : Nat) : Nat := if 65 ≤ c ∧ c ≤ 90 then c + 32 else c
def sLow (s : List Nat) : List Nat := s.map lowC
theorem lowC_lt {c : Nat} (h : c < 256) : lowC c < 256 := by unfold lowC; split <;> omega
theorem sLow_lt {s : List Nat} (h : ∀ x ∈ s, x < 256) : ∀ x ∈ sLow s, x < 256 := fun x hx => by
  simp only [sLow, List.mem_map] at hx
  obtain ⟨c, hc, rfl⟩ := hx
  exact lowC_lt (h c hc)
/-- The first ones changed. -/
def lowTo (s : List Nat) (i : Nat) : List Nat := sLow (s.take i) ++ s.drop i
theorem lowTo_len (s : List Nat) (i : Nat) : (lowTo s i).length = s.length := by simp [lowTo, sLow]; omega
theorem lowTo_at {s : List Nat} {i : Nat} (h : i < s.length) : (lowTo s i)[i]? = some s[i] := by
  unfold lowTo
  rw [List.getElem?_append_right (by simp [sLow]; omega)]
  simp [sLow, List.getElem?_eq_getElem h, Nat.min_eq_left (Nat.le_of_lt h)]
abbrev bytesA (s : List Nat) : List AV := s.map fun c : Nat => .si .u8 (Int.ofNat c)
theorem setL_map {s : List Nat} {i c : Nat} (h : i < s.length) : setL (bytesA s) i [.si .u8 (Int.ofNat c)] = some (bytesA (s.set i c)) := by
  induction s generalizing i with
  | nil => simp at h
  | cons x s ih =>
    cases i with
    | zero => cases s <;> rfl
    | succ i =>
      have := ih (i := i) (by simpa using h)
      simp only [bytesA, List.map_cons, setL] at this ⊢
      rw [this]; rfl
theorem lowTo_succ {s : List Nat} {i : Nat} (h : i < s.length) : (lowTo s i).set i (lowC s[i]) = lowTo s (i + 1) := by
  unfold lowTo sLow
  rw [List.set_append_right _ _ (by simp; omega)]
  simp only [List.length_map, List.length_take, Nat.min_eq_left (Nat.le_of_lt h), Nat.sub_self]
  rw [List.drop_eq_getElem_cons h, List.set_cons_zero, List.take_succ_eq_append_getElem h, List.map_append, List.append_assoc]
  rfl
theorem set_same {α : Type} {l : List α} {i : Nat} {x : α} (h : l[i]? = some x) : l.set i x = l := by
  apply List.ext_getElem?
  intro j
  rw [List.getElem?_set]
  split
  · rename_i e
    subst e
    split
    · exact h.symm
    · rename_i h2
      rw [List.getElem?_eq_none (by omega)] at h; cases h
  · rfl
noncomputable abbrev lowSt (s : List Nat) (i : Nat) : AE × AH := (mkE [(3, .sy 0 0 s.length s.length 1), (8, .sy 0 0 s.length s.length 1), (9, .si .i64 s.length), (10, .si .i64 i)], mkH [(0, .cells (bytesA (lowTo s i)) false)])
end Go.Proofs.Ytkhfdjhohfebgaa
namespace Go.Proofs.Ytkhfdjhohfebgaa
open Go Go.RowKit
def upC (c : Nat) : Nat := if 97 ≤ c ∧ c ≤ 122 then c - 32 else c
def sUp (s : List Nat) : List Nat := s.map upC
theorem upC_lt {c : Nat} (h : c < 256) : upC c < 256 := by unfold upC; split <;> omega
theorem sUp_lt {s : List Nat} (h : ∀ x ∈ s, x < 256) : ∀ x ∈ sUp s, x < 256 := fun x hx => by
  simp only [sUp, List.mem_map] at hx
  obtain ⟨c, hc, rfl⟩ := hx
  exact upC_lt (h c hc)
theorem sUp_take {s : List Nat} {i : Nat} (h : i < s.length) : sUp (s.take (i + 1)) = sUp (s.take i) ++ [upC s[i]] := by
  unfold sUp
  rw [List.take_succ_eq_append_getElem h, List.map_append]; rfl
noncomputable abbrev upSt (s : List Nat) : Nat → AE × AH
  | 0 => (mkE [(0, .ss s), (3, .nsl), (4, .si .i64 0)], mkH [])
  | i + 1 => (mkE [(0, .ss s), (3, .sy 0 0 (i + 1) (i + 1) 1), (4, .si .i64 (i + 1 : Nat))], mkH [(0, .cells (bytesA (sUp (s.take (i + 1)))) true)])
theorem up_cov {s : List Nat} {i n j : Nat} {σ : AE} {H : AH} (e0 : mk (getq (pa 0) σ) = .ss s) (e1 : mk (getq (pa 3) σ) = .sy j 0 (i + 1) (i + 1) 1) (e2 : mk (getq (pa 4) σ) = .si .i64 (i + 1 : Nat)) (e3 : H.get j = some (.cells (bytesA (sUp (s.take (i + 1)))) true)) : Cov 0 σ H n ((upSt s (i + 1)).1, (upSt s (i + 1)).2, 1) := by
  refine Cov.of (fun _ => j) (Nat.zero_le _) (fun b hb => (Nat.not_lt_zero b hb).elim) ?_ ?_ ?_
  · intro x hx
    simp only [List.mem_cons, List.not_mem_nil, or_false] at hx
    rcases hx with rfl | rfl | rfl
    · exact .str e0
    · exact .sy (by decide) e1
    · exact .int e2
  · intro x hx
    simp only [List.mem_cons, List.not_mem_nil, or_false] at hx
    subst hx
    exact ⟨Nat.zero_lt_one, _, e3, SubO.maps fun c => .int rfl⟩
  · intro x hx y hy
    simp only [List.mem_cons, List.not_mem_nil, or_false] at hx hy
    subst hx hy
    exact fun _ => rfl
theorem up_e1 {c : Nat} (h3 : (97 : Int) ≤ Int.ofNat c) (h4 : Int.ofNat c ≤ 122) : IntKind.u8.wrap (IntKind.u8.wrap (Int.ofNat c - 97) + 65) = Int.ofNat (upC c) := by
  simp only [Int.ofNat_eq_natCast] at h3 h4 ⊢
  unfold upC
  rw [if_pos (by omega), IntKind.wrap_u8, IntKind.wrap_u8]; omega
theorem up_e2 {c : Nat} (h : ¬ (97 : Int) ≤ Int.ofNat c ∨ ¬ Int.ofNat c ≤ 122) : Int.ofNat c = Int.ofNat (upC c) := by
  simp only [Int.ofNat_eq_natCast] at h ⊢
  unfold upC
  rw [if_neg (by omega)]
end Go.Proofs.Ytkhfdjhohfebgaa
namespace Go.Proofs.Ytkhfdjhohfebgaa
open Go Go.RowKit
def pk (f : Int → Bool) : Int := if f 1 = true then 1 else if f 2 = true then 2 else if f 3 = true then 3 else if f 4 = true then 4 else if f 5 = true then 5 else if f 6 = true then 6 else if f 7 = true then 7 else 0
def pkE (f : Int → Bool) : Int := if pk f = 0 then 17 else 0
noncomputable def aIs (s : List Nat) (k : Int) : Bool := beqL (sName k) (sLow s)
noncomputable def rIs (s : List Nat) (k : Int) : Bool := beqL (sUp (sName k)) (sUp s)
noncomputable def FD : FuncId → EP := withS 42 (nat1s sName) FC
theorem FD_ok : TabP FD := withS_ok FC_ok n_rname sing1s
end Go.Proofs.Ytkhfdjhohfebgaa
namespace Go.Proofs.Ytkhfdjhohfebgaa
open Go Go.RowKit
set_option maxRecDepth 100000 in
theorem n_rright : NatP 50 (nat2b sCan) := nat2b_ok (d := 1) evP_ok fun s a H n κ hk => by
  repeat' (conv => whnf
           first | refine Fork.dec (fun _ => ?_) (fun _ => ?_) | refine Fork.ndec (fun _ => ?_) (fun _ => ?_) | refine leafB hk ?_)
  all_goals simp [sCan, *]
noncomputable def FE : FuncId → EP := withS 50 (nat2b sCan) FD
theorem FE_ok : TabP FE := withS_ok FD_ok n_rright sing2b
set_option maxRecDepth 100000 in
theorem n_rstart : NatP 53 (nat3 sStart) := nat3_ok (d := 2) FE_ok fun t s a H n κ hk => by
  repeat' (conv => whnf
           first | refine Fork.dec (fun _ => ?_) (fun _ => ?_) | refine Fork.ndec (fun _ => ?_) (fun _ => ?_) | refine Fork.sb (fun _ => ?_) (fun _ => ?_) | refine Fork.nsb (fun _ => ?_) (fun _ => ?_) | refine And.intro ?_ ?_ | refine leafI hk ?_)
  · rename_i h1
    simp [sStart, sCan, h1]
  · rename_i h2 h1
    unfold sStart
    rw [if_neg (by omega)]
  · rename_i h3 h2 h1
    unfold sStart
    rw [if_neg (by simp only [sTime, decide_eq_true_eq]; omega)]
  · omega
  · rename_i h3 h2 h1
    have hq := Int.ediv_nonneg (show 0 ≤ t - a by omega) (show 0 ≤ s by omega)
    have hm := Int.emod_add_mul_ediv (t - a) s
    have hm1 := Int.emod_nonneg (t - a) (show s ≠ 0 by omega)
    have hm2 := Int.emod_lt_of_pos (t - a) (show 0 < s by omega)
    have hsq := Int.mul_nonneg (show 0 ≤ s by omega) hq
    have hle : (t - a) / s ≤ s * ((t - a) / s) := by
      have := Int.mul_le_mul_of_nonneg_right (show 1 ≤ s by omega) hq
      omega
    rw [wrap_i64_of (x := t - a) (by omega) (by omega), Int.tdiv_eq_ediv_of_nonneg (by omega), Int.mul_comm ((IntKind.i64.wrap ((t - a) / s))) s, wrap_i64_of (x := (t - a) / s) (by omega) (by omega), wrap_i64_of (x := s * ((t - a) / s)) (by omega) (by omega), wrap_i64_of (by omega) (by omega)]
    simp only [sStart, sCan, sTime, decide_eq_true_eq]
    rw [if_pos (by omega)]
    omega
noncomputable def FG : FuncId → EP := withS 53 (nat3 sStart) FE
theorem FG_ok : TabP FG := withS_ok FE_ok n_rstart sing3
set_option maxRecDepth 100000 in
theorem n_rend : NatP 54 (nat3 sEnd) := nat3_ok (d := 2) FG_ok fun b s a H n κ hk => by
  repeat' (conv => whnf
           first | refine Fork.dec (fun _ => ?_) (fun _ => ?_) | refine Fork.ndec (fun _ => ?_) (fun _ => ?_) | refine Fork.sb (fun _ => ?_) (fun _ => ?_) | refine Fork.nsb (fun _ => ?_) (fun _ => ?_) | refine And.intro ?_ ?_ | refine leafI hk ?_)
  all_goals
    have hb := sStart_bounds (t := b) (s := s) (a := a)
    unfold sEnd
    simp only [sCan, sTime, decide_eq_true_eq]
  · rw [if_neg (by omega)]
  · rw [if_neg (by omega)]
  · rw [if_neg (by omega)]
  · rw [if_pos (by omega), if_pos (by omega)]
  · rw [if_pos (by omega), if_neg (by omega), wrap_i64_of (by omega) (by omega)]
end Go.Proofs.Ytkhfdjhohfebgaa
namespace Go.Proofs.Ytkhfdjhohfebgaa
open Go Go.RowKit
theorem letter {a b : Nat} (h1 : 97 ≤ a) (h2 : a ≤ 122) : Nat.beq a (lowC b) = Nat.beq (upC a) (upC b) := by
  have key : a = lowC b ↔ upC a = upC b := by
    have e : upC a = a - 32 := by unfold upC; rw [if_pos ⟨h1, h2⟩]
    rw [e]
    unfold lowC upC
    split <;> split <;> omega
  rw [Bool.eq_iff_iff, Nat.beq_eq, Nat.beq_eq]
  exact key
theorem alike : ∀ (l s : List Nat), (∀ x ∈ l, 97 ≤ x ∧ x ≤ 122) → beqL l (sLow s) = beqL (sUp l) (sUp s)
  | [], [], _ => rfl
  | [], _ :: _, _ => rfl
  | _ :: _, [], _ => rfl
  | a :: l, b :: s, h => by
    have h1 := h a List.mem_cons_self
    have ih := alike l s fun x hx => h x (List.mem_cons_of_mem _ hx)
    have e := letter (b := b) h1.1 h1.2
    simp only [sLow, sUp, List.map_cons, beqL] at ih ⊢
    rw [e, ih]
theorem sName_letters (k : Int) : ∀ x ∈ sName k, 97 ≤ x ∧ x ≤ 122 := by
  unfold sName
  repeat' split
  all_goals simp
theorem is_same (s : List Nat) : aIs s = rIs s := funext fun k => alike _ _ (sName_letters k)
end Go.Proofs.Ytkhfdjhohfebgaa
namespace Go.Proofs.Ytkhfdjhohfebgaa
open Go Go.RowKit
noncomputable def FH : FuncId → EP := withS 54 (nat3 sEnd) FG
theorem FH_ok : TabP FH := withS_ok FG_ok n_rend sing3
theorem beqL_refl : ∀ l : List Nat, beqL l l = true
  | [] => rfl
  | a :: l => by
    unfold beqL
    rw [show Nat.beq a a = true from Nat.beq_refl a]
    exact beqL_refl l
theorem right_name (k : Int) : sRight k = !beqL (sName k) [] := by
  unfold sRight sName
  repeat' split
  all_goals first | (subst_vars; rfl) | (rw [decide_eq_false (by omega)]; rfl)
end Go.Proofs.Ytkhfdjhohfebgaa
namespace Go.Proofs.Ytkhfdjhohfebgaa
open Go Go.RowKit
section
variable {φ : Ph} {H : AH} {n : Nat} {h0 hp : Hp}
/-- What lies at a place, seen from anywhere. -/
def RoAt (hp : Hp) (p : Pl) (l : List AV) : Prop := ∃ c t fz, hp.f p.B = some (.cells c t fz) ∧ l.length ≤ p.T ∧ p.s + p.T ≤ c.size ∧ ∀ ψ, CR ψ c p.s l
def ph1 (p : Pl) : Ph := fun b => if b = 0 then some p else none
def ph2 (p q : Pl) : Ph := fun b => if b = 0 then some p else if b = 1 then some q else none
theorem HR.ro1 (hw : Wf hp) {p : Pl} {l : List AV} (h : RoAt hp p l) : HR (ph1 p) (mkH [(0, .ro l)]) 1 hp hp := by
  obtain ⟨c, t, fz, h1, h2, h3, h4⟩ := h
  refine ⟨fun b q e => ?_, fun b o e => ?_, fun b b' o o' q q' e _ hw' => ?_, fun b o e => ⟨hw b o e, e⟩, Nat.le_refl _⟩
  · simp only [ph1] at e
    split at e
    · injection e with e; subst e; exact ⟨by omega, hw _ _ h1⟩
    · cases e
  · have hm := mkH_get e
    simp only [List.mem_cons, List.not_mem_nil, or_false] at hm
    injection hm with e1 e2
    subst e1 e2
    exact .inr ⟨p, _, rfl, h1, h1, c, t, fz, rfl, h2, h3, h4 _⟩
  · have hm := mkH_get e
    simp only [List.mem_cons, List.not_mem_nil, or_false] at hm
    injection hm with e1 e2
    subst e2
    cases hw'
theorem HR.ro2 (hw : Wf hp) {p q : Pl} {l m : List AV} (h : RoAt hp p l) (k : RoAt hp q m) : HR (ph2 p q) (mkH [(0, .ro l), (1, .ro m)]) 2 hp hp := by
  obtain ⟨c, t, fz, h1, h2, h3, h4⟩ := h
  obtain ⟨c', t', fz', k1, k2, k3, k4⟩ := k
  have mem : ∀ b o, (mkH [(0, AO.ro l), (1, AO.ro m)]).get b = some o → (b = 0 ∧ o = .ro l) ∨ (b = 1 ∧ o = .ro m) := fun b o e => by
    have hm := mkH_get e
    simp only [List.mem_cons, List.not_mem_nil, or_false] at hm
    rcases hm with hm | hm
    · injection hm with e1 e2; exact .inl ⟨e1, e2⟩
    · injection hm with e1 e2; exact .inr ⟨e1, e2⟩
  refine ⟨fun b r e => ?_, fun b o e => ?_, fun b b' o o' r r' e _ hw' => ?_, fun b o e => ⟨hw b o e, e⟩, Nat.le_refl _⟩
  · simp only [ph2] at e
    split at e
    · injection e with e; subst e; exact ⟨by omega, hw _ _ h1⟩
    · split at e
      · injection e with e; subst e; exact ⟨by omega, hw _ _ k1⟩
      · cases e
  · rcases mem b o e with ⟨rfl, rfl⟩ | ⟨rfl, rfl⟩
    · exact .inr ⟨p, _, rfl, h1, h1, c, t, fz, rfl, h2, h3, h4 _⟩
    · exact .inr ⟨q, _, rfl, k1, k1, c', t', fz', rfl, k2, k3, k4 _⟩
  · rcases mem b o e with ⟨_, rfl⟩ | ⟨_, rfl⟩ <;> cases hw'
theorem HR.ro0 (hw : Wf hp) : HR (fun _ => none) .nil 0 hp hp := start_none hw
/-- A run on a small memory, all other memory being its base: only its value is kept. -/
theorem smallN {F : FuncId → EP} (hF : TabP F) {d : Nat} {f : FuncId} {args0 : List AV} {H0 : AH} {n0 : Nat} {v : AV} (hv : flat v = true) (h : callT F d f args0 H0 n0 fun u _ _ => mkT u = mkT v)
    {vs : Array Value} {κ : PK} {K : KH} (hs : κ (mkT v) H n) (hr : HR φ H n h0 hp) (hk : ThenP φ h0 κ K) (hic : isCall Try.prog f = true) {φ0 : Ph} (hr0 : Wf hp → HR φ0 H0 n0 hp hp) (hargs : VRs φ0 args0 vs.toList) : CallF Try.prog f vs hp K := by
  have key : Wf hp → CallF Try.prog f vs hp K := fun hw => callT_sound (by kernel_rfl) hF d f args0 H0 n0 _ h φ0 hp hp vs K (hr0 hw) hargs fun ψ u H' n' w g _ hg hu he => by
    have hg2 : HR φ H n h0 g := hr.grow (fun b o hb => (hg.base b o hb).2) hg.size
    have h3 : VR φ (mkT v) w := (flat_VR (φ := ψ) (flat_mkT hv) (he ▸ hu.mkT))
    exact hk φ _ H n w g (PLe.refl _) hg2 h3 hs
  exact ⟨hic, fun w hi => (key hi.wf).2 w hi⟩
/-- Cells that are known, looked at from a place of their own. -/
theorem RoAt.of (hr : HR φ H n h0 hp) {b o m : Nat} {l r s : List AV} {p : Pl} (hb : H.get b = some (.ro l) ∨ ∃ z, H.get b = some (.cells l z)) (hpb : φ b = some p) (hs : subL l o m = some r) (hm : r.map mk = s.map mk) (hf : s.all flat.flat1 = true) : RoAt hp ⟨p.B, p.s + o, m⟩ s := by
  have key : ∃ c t fz, hp.f p.B = some (.cells c t fz) ∧ l.length ≤ p.T ∧ p.s + p.T ≤ c.size ∧ CR φ c p.s l := by
    rcases hb with hb | ⟨z, hb⟩
    · obtain ⟨ob, _, h2, c, t, fz, rfl, h3, h4, h5⟩ := hr.of hb hpb
      exact ⟨c, t, fz, h2, h3, h4, h5⟩
    · obtain ⟨ob, _, h2, c, t, fz, rfl, h3, h4, _, _, h5⟩ := hr.of hb hpb
      exact ⟨c, t, fz, h2, h3, h4, h5⟩
  obtain ⟨c, t, fz, h1, h2, h3, h4⟩ := key
  obtain ⟨h5, h6⟩ := subL_spec hs
  have hlen : s.length = m := by
    have := congrArg List.length hm
    simp only [List.length_map] at this
    rw [← this, h6]
    simp; omega
  refine ⟨c, t, fz, h1, by simp only; omega, by simp only; omega, fun ψ i a hi => ?_⟩
  have hi2 := (List.getElem?_eq_some_iff.1 hi).1
  have h7 : ∃ a', r[i]? = some a' ∧ mk a' = mk a := by
    have e := congrArg (fun x : List AV => x[i]?) hm
    simp only [List.getElem?_map, hi, Option.map_some] at e
    rw [Option.map_eq_some_iff] at e
    exact e
  obtain ⟨a', h8, h9⟩ := h7
  have h10 : l[o + i]? = some a' := by
    rw [h6] at h8
    rw [List.getElem?_take, if_pos (by omega), List.getElem?_drop] at h8
    exact h8
  obtain ⟨v, h11, h12⟩ := h4 (o + i) a' h10
  refine ⟨v, by simp only; rw [Nat.add_assoc]; exact h11, ?_⟩
  have h13 : VR φ (mk a) v := h9 ▸ h12.mk
  have h14 : flat.flat1 a = true := List.all_eq_true.1 hf a (List.mem_of_getElem? hi)
  exact flat1_VR h14 (by cases a <;> first | exact h13 | cases h14)
end
end Go.Proofs.Ytkhfdjhohfebgaa
namespace Go.Proofs.Ytkhfdjhohfebgaa
open Go Go.RowKit Go.ChangeShapes Go.WideShapes
section
variable {H : Type} {enc : TypeId × Value → H} {P : Program} {w : World} {base : Nat} {sp : Nat → Bool} {held : Bool}
theorem mapM_ints {e : TypeId} {k : IntKind} (he : P.underlying e = some (.int k)) {m c : Nat} {cs : List Value} : ∀ (L : List Nat) (xs : List (DataW H × List MemPlace)), L.mapM (fun i => DataW.trod enc P w base sp held m e ((cs.drop (i * c)).take c)) = some xs →
    (∀ i ∈ L, ∃ n, (cs.drop (i * c)).take c = [.int k n] ∧ (Lit.int k n).wf = true) ∧ ∀ x ∈ xs, x.2 = []
  | [], xs, h => by
    simp at h
    subst h
    simp
  | i :: L, xs, h => by
    rw [List.mapM_cons] at h
    simp only [bind, Option.bind_eq_some_iff, pure, Option.some.injEq] at h
    obtain ⟨y, hy, ys, hys, rfl⟩ := h
    obtain ⟨h1, h2⟩ := mapM_ints he L ys hys
    obtain ⟨a, ea, rfl, wa⟩ := DataW.trod_int he hy
    refine ⟨fun j hj => ?_, fun x hx => ?_⟩
    · rcases List.mem_cons.1 hj with rfl | hj
      · exact ⟨a, ea, wa⟩
      · exact h1 j hj
    · rcases List.mem_cons.1 hx with rfl | hx
      · rfl
      · exact h2 x hx
def intOf : Value → Int
  | .int _ n => n
  | _ => 0
/-- An array of numbers. -/
theorem open_intarr {r : Reach} {b0 n : Nat} {t e : TypeId} {k : IntKind} {v : Value} {d : DataW H} {ps : List MemPlace} (hu : P.underlying t = some (.array n e)) (he : P.underlying e = some (.int k)) (h1 : P.cellsOf e = 1) (hs : P.cellsOf t = n)
    (hval : Value.okWide P w r b0 t v) (hd : DataW.Trod enc P w base sp held t v d ps) : ∃ zs : List Int, zs.length = n ∧ v = .agg (zs.map (Value.int k)).toArray ∧ ps = [] ∧ ∀ z ∈ zs, (Lit.int k z).wf = true := by
  simp only [Value.okWide, hu] at hval
  obtain ⟨cs, rfl, hsz, _⟩ := hval
  rw [hs] at hsz
  obtain ⟨fuel, hf⟩ := hd
  cases fuel with
  | zero => simp [DataW.trod] at hf
  | succ m =>
    rw [DataW.trod_step] at hf
    unfold DataW.trodStep at hf
    simp only [hu, Value.cells] at hf
    rw [if_pos (by rw [hs]; simpa using hsz)] at hf
    simp only [Option.map_eq_some_iff] at hf
    obtain ⟨ys, hy, e1⟩ := hf
    obtain ⟨q1, q2⟩ := mapM_ints he _ ys hy
    simp only [Prod.mk.injEq] at e1
    have hcell : ∀ i (hi : i < cs.size), ∃ z, cs[i] = .int k z ∧ (Lit.int k z).wf = true := fun i hi => by
      obtain ⟨z, hz, hwf⟩ := q1 i (by simp; omega)
      rw [h1, Nat.mul_one] at hz
      have : cs.toList[i]? = some (.int k z) := by
        have h3 : ((cs.toList.drop i).take 1)[0]? = some (.int k z) := by rw [hz]; rfl
        simpa [List.getElem?_take, List.getElem?_drop] using h3
      refine ⟨z, ?_, hwf⟩
      rw [Array.getElem?_toList, Array.getElem?_eq_getElem hi] at this
      injection this
    refine ⟨cs.toList.map intOf, by simpa using hsz, ?_, ?_, fun z hz => ?_⟩
    · congr 1
      apply Array.ext
      · simp
      · intro i hi hi2
        obtain ⟨z, h4, _⟩ := hcell i hi
        simp [h4, intOf]
    · rw [← e1.2]
      simp only [List.flatMap_eq_nil_iff]
      exact q2
    · simp only [List.mem_map, Array.mem_toList_iff] at hz
      obtain ⟨v, hv, rfl⟩ := hz
      obtain ⟨i, hi, e⟩ := Array.mem_iff_getElem.1 hv
      obtain ⟨z, h4, h5⟩ := hcell i hi
      rw [← e, h4]
      exact h5
theorem u8_rng {z : Int} (h : (Lit.int .u8 z).wf = true) : 0 ≤ z ∧ z ≤ 255 := by
  simp [Lit.wf, IntKind.min, IntKind.max, IntKind.signed, IntKind.bits] at h
  omega
theorem len2 {zs : List Int} (h : zs.length = 2) : ∃ a b, zs = [a, b] := by
  match zs, h with
  | [a, b], _ => exact ⟨a, b, rfl⟩
theorem len3 {zs : List Int} (h : zs.length = 3) : ∃ a b c, zs = [a, b, c] := by
  match zs, h with
  | [a, b, c], _ => exact ⟨a, b, c, rfl⟩
theorem vr_ints {φ : Ph} {k : IntKind} (zs : List Int) : VR φ (.agg (zs.map (AV.si k))) (.agg (zs.map (Value.int k)).toArray) := .agg (by simpa using VRs.map (fun z => VR.si k z) zs)
theorem vr_string {φ : Ph} (s : ByteArray) : VR φ (.ss (s.data.toList.map UInt8.toNat)) (.string s) := by
  have h : VR φ (.ss (s.data.toList.map UInt8.toNat)) (.string (vstr (s.data.toList.map UInt8.toNat))) := .ss fun x hx => by
    simp only [List.mem_map] at hx
    obtain ⟨c, _, rfl⟩ := hx
    exact UInt8.toNat_lt c
  rwa [vstr_data] at h
end
end Go.Proofs.Ytkhfdjhohfebgaa
namespace Go.Proofs.Ytkhfdjhohfebgaa
open Go Go.RowKit
/-! ### samples -/
abbrev Smp := List (Int × Int)
def smp (L : Smp) : List AV := L.flatMap fun x => [.si .i64 x.1, .si .i64 x.2]
theorem smp_length (L : Smp) : (smp L).length = L.length * 2 := by
  induction L with
  | nil => rfl
  | cons x L ih => simp only [smp, List.flatMap_cons, List.length_append, List.length_cons, List.length_nil] at ih ⊢; omega
theorem smp_flat (L : Smp) : (smp L).all flat.flat1 = true := by
  induction L with
  | nil => rfl
  | cons x L ih => exact ih
theorem smp_map (L : Smp) : (smp L).map mk = smp L := by
  induction L with
  | nil => rfl
  | cons x L ih =>
    show mk (.si .i64 x.1) :: mk (.si .i64 x.2) :: (smp L).map mk = _
    rw [ih]; rfl
theorem smp_drop : ∀ (L : Smp) (i : Nat), (smp L).drop (i * 2) = smp (L.drop i)
  | L, 0 => by simp
  | [], i + 1 => by simp [smp]
  | x :: L, i + 1 => by
    rw [show (i + 1) * 2 = i * 2 + 2 from by omega]
    exact smp_drop L i
theorem smp_at {L : Smp} {i : Nat} (h : i < L.length) : (smp L).drop (i * 2) = .si .i64 L[i].1 :: .si .i64 L[i].2 :: smp (L.drop (i + 1)) := by
  rw [smp_drop, List.drop_eq_getElem_cons h]; rfl
theorem smp_sub {L : Smp} {i o : Nat} (h : i < L.length) (ho : o = i * 2) : subL (smp L) o 2 = some [.si .i64 L[i].1, .si .i64 L[i].2] := by
  subst ho
  unfold subL
  rw [Nat.ble_eq_true_of_le (by rw [smp_length]; omega), smp_at h]; rfl
theorem smp_nth0 {L : Smp} {i o : Nat} (h : i < L.length) (ho : o = i * 2) : nth (smp L) o = some (.si .i64 L[i].1) := by
  subst ho
  have := congrArg (fun l => l[0]?) (smp_at h)
  simp only [List.getElem?_drop, Nat.add_zero, List.getElem?_cons_zero] at this
  rw [nth_eq, this]
theorem smp_nth1 {L : Smp} {i o : Nat} (h : i < L.length) (ho : o = i * 2 + 1) : nth (smp L) o = some (.si .i64 L[i].2) := by
  subst ho
  have := congrArg (fun l => l[1]?) (smp_at h)
  simp only [List.getElem?_drop, List.getElem?_cons_succ, List.getElem?_cons_zero] at this
  rw [nth_eq, this]
/-- A slice that holds these samples. -/
def SmpAt (H : AH) (a : AV) (L : Smp) : Prop := (hd a = .nsl ∧ L = []) ∨ (∃ b o x l r, (a = .rw b o L.length 2 x ∧ x ≠ 4) ∧ (H.get b = some (.ro l) ∨ ∃ z, H.get b = some (.cells l z)) ∧ subL l o (L.length * 2) = some r ∧ r.map mk = smp L) ∨ ∃ b o c k l r, hd a = .sl b o L.length c k ∧ (H.get b = some (.ro l) ∨ ∃ z, H.get b = some (.cells l z)) ∧ subL l o (L.length * 2) = some r ∧ r.map mk = smp L ∧ L.length ≤ c
/-! ### rows of numbers -/
def ints (V : List Int) : List AV := V.map fun v => .si .i64 v
theorem ints_flat (V : List Int) : (ints V).all flat.flat1 = true := by
  induction V with
  | nil => rfl
  | cons x L ih => exact ih
theorem ints_map (V : List Int) : (ints V).map mk = ints V := by simp [ints, mk, Function.comp_def]
theorem ints_length (V : List Int) : (ints V).length = V.length := by simp [ints]
theorem ints_nth {V : List Int} {i o : Nat} (h : i < V.length) (ho : o = i) : nth (ints V) o = some (.si .i64 V[i]) := by
  subst ho
  rw [nth_eq, ints, List.getElem?_map, List.getElem?_eq_getElem h]; rfl
def IntAt (H : AH) (a : AV) (V : List Int) : Prop := (hd a = .nsl ∧ V = []) ∨ (∃ b o x l r, (a = .rw b o V.length 1 x ∧ x ≠ 4) ∧ (H.get b = some (.ro l) ∨ ∃ z, H.get b = some (.cells l z)) ∧ subL l o V.length = some r ∧ r.map mk = ints V) ∨ ∃ b o c k l r, hd a = .sl b o V.length c k ∧ (H.get b = some (.ro l) ∨ ∃ z, H.get b = some (.cells l z)) ∧ subL l o V.length = some r ∧ r.map mk = ints V ∧ V.length ≤ c
section
variable {φ : Ph} {H : AH} {n : Nat} {h0 hp : Hp}
/-- An empty row's block, at any place in it. -/
theorem RoAt.emp (hr : HR φ H n h0 hp) {b a T : Nat} {l : List AV} {p : Pl} (hb : H.get b = some (.ro l) ∨ ∃ z, H.get b = some (.cells l z)) (hpb : φ b = some p) (ha : p.s ≤ a) (hT : a + T ≤ p.s + p.T) : RoAt hp ⟨p.B, a, 0⟩ [] := by
  rcases hb with hb | ⟨z, hb⟩
  · obtain ⟨ob, _, h2, c, t, fz, rfl, h3, h4, h5⟩ := hr.of hb hpb
    exact ⟨c, t, fz, h2, Nat.le_refl _, (show a + 0 ≤ c.size by omega), fun ψ i a h => by simp at h⟩
  · obtain ⟨ob, _, h2, c, t, fz, rfl, h3, h4, _, _, h5⟩ := hr.of hb hpb
    exact ⟨c, t, fz, h2, Nat.le_refl _, (show a + 0 ≤ c.size by omega), fun ψ i a h => by simp at h⟩
/-- Samples, seen from a memory of their own. -/
theorem SmpAt.open (hr : HR φ H n h0 hp) {a : AV} {L : Smp} {v : Value} (hS : SmpAt H a L) (hv : VR φ a v) : (L = [] ∧ ∀ χ, VR χ .nsl v) ∨ ∃ p C, L.length ≤ C ∧ RoAt hp p (smp L) ∧ ∀ χ b, χ b = some p → VR χ (.sy b 0 L.length C 0) v := by
  rcases hS with ⟨ey, rfl⟩ | ⟨b, o, x, l, r, ⟨rfl, hx4⟩, hb, hsub, hmk⟩ | ⟨b, o, c, kk, l, r, ey, hb, hsub, hmk, hlc⟩
  · have e6 := hv.hd
    rw [ey] at e6
    exact .inl ⟨rfl, fun χ => by rw [e6.nsl_inv]; exact .nsl⟩
  · rcases hv.rw_inv with ⟨h1, hem⟩ | ⟨p, y, C, hp, rfl, h2, h3, h4, h5, _, _⟩
    · have := hem.nil hx4
      subst this
      exact .inl ⟨List.eq_nil_of_length_eq_zero h1, fun χ => .nsl⟩
    · by_cases hL : L = []
      · subst hL
        exact .inr ⟨⟨p.B, y, 0⟩, C, h4, RoAt.emp hr hb hp h3 h5, fun χ b hχ => .sy (p := ⟨p.B, y, 0⟩) (o := 0) hχ (fun _ => rfl) (fun q => absurd rfl q)⟩
      · have := h2 (fun q => hL (List.eq_nil_of_length_eq_zero q))
        subst this
        have hro := RoAt.of (s := smp L) hr hb hp hsub (by rw [hmk, smp_map]) (smp_flat L)
        exact .inr ⟨⟨p.B, p.s + o, L.length * 2⟩, C, h4, hro, fun χ b hχ => .sy (p := ⟨p.B, p.s + o, L.length * 2⟩) (o := 0) hχ (fun _ => rfl) (fun q => absurd rfl q)⟩
  · have e6 := hv.hd
    rw [ey] at e6
    obtain ⟨p, C, hpb, rfl, hC0, hC1⟩ := e6.sl_inv
    have hlC : L.length ≤ C := by
      by_cases hk0 : kk = 0
      · rw [hC0 hk0]; exact hlc
      · exact Nat.le_trans hlc (hC1 hk0).1
    have hro := RoAt.of (s := smp L) hr hb hpb hsub (by rw [hmk, smp_map]) (smp_flat L)
    exact .inr ⟨⟨p.B, p.s + o, L.length * 2⟩, C, hlC, hro, fun χ b hχ => .sy (p := ⟨p.B, p.s + o, L.length * 2⟩) hχ (fun _ => rfl) (fun q => absurd rfl q)⟩
theorem IntAt.open (hr : HR φ H n h0 hp) {a : AV} {V : List Int} {v : Value} (hS : IntAt H a V) (hv : VR φ a v) : (V = [] ∧ ∀ χ, VR χ .nsl v) ∨ ∃ p C, RoAt hp p (ints V) ∧ ∀ χ b, χ b = some p → VR χ (.sy b 0 V.length C 0) v := by
  rcases hS with ⟨ey, rfl⟩ | ⟨b, o, x, l, r, ⟨rfl, hx4⟩, hb, hsub, hmk⟩ | ⟨b, o, c, kk, l, r, ey, hb, hsub, hmk, _⟩
  · have e6 := hv.hd
    rw [ey] at e6
    exact .inl ⟨rfl, fun χ => by rw [e6.nsl_inv]; exact .nsl⟩
  · rcases hv.rw_inv with ⟨h1, hem⟩ | ⟨p, y, C, hp, rfl, h2, h3, h4, h5, _, _⟩
    · have := hem.nil hx4
      subst this
      exact .inl ⟨List.eq_nil_of_length_eq_zero h1, fun χ => .nsl⟩
    · by_cases hL : V = []
      · subst hL
        exact .inr ⟨⟨p.B, y, 0⟩, C, RoAt.emp hr hb hp h3 h5, fun χ b hχ => .sy (p := ⟨p.B, y, 0⟩) (o := 0) hχ (fun _ => rfl) (fun q => absurd rfl q)⟩
      · have := h2 (fun q => hL (List.eq_nil_of_length_eq_zero q))
        subst this
        have hro := RoAt.of (s := ints V) hr hb hp hsub (by rw [hmk, ints_map]) (ints_flat V)
        exact .inr ⟨⟨p.B, p.s + o, V.length⟩, C, hro, fun χ b hχ => .sy (p := ⟨p.B, p.s + o, V.length⟩) (o := 0) hχ (fun _ => rfl) (fun q => absurd rfl q)⟩
  · have e6 := hv.hd
    rw [ey] at e6
    obtain ⟨p, C, hpb, rfl, hC0, hC1⟩ := e6.sl_inv
    have hro := RoAt.of (s := ints V) hr hb hpb hsub (by rw [hmk, ints_map]) (ints_flat V)
    exact .inr ⟨⟨p.B, p.s + o, V.length⟩, C, hro, fun χ b hχ => .sy (p := ⟨p.B, p.s + o, V.length⟩) hχ (fun _ => rfl) (fun q => absurd rfl q)⟩
end
theorem eix_of {ix : AV} {k : IntKind} {i : Int} {j len : Nat} (h : ix = .int k i) (hi : i = (j : Int)) (lt : j < len) : eix ix len = some j := by
  subst h hi
  unfold eix
  have : Nat.blt j len = true := by rw [Nat.blt_eq]; exact lt
  simp only [Int.ofNat_eq_natCast, this]
theorem foldl_take {α β : Type} {f : β → α → β} {l : List α} {b : β} {i : Nat} (h : i < l.length) : (l.take (i + 1)).foldl f b = f ((l.take i).foldl f b) l[i] := by
  rw [List.take_succ_eq_append_getElem h, List.foldl_append]; rfl
def vals (L : Smp) : List Int := L.map (·.2)
theorem vals_take {L : Smp} {i : Nat} (h : i < L.length) : vals (L.take (i + 1)) = vals (L.take i) ++ [L[i].2] := by
  unfold vals
  rw [List.take_succ_eq_append_getElem h, List.map_append]; rfl
theorem vals_len {L : Smp} {i : Nat} (h : i ≤ L.length) : (vals (L.take i)).length = i := by simp [vals]; omega
theorem ints_snoc (W : List Int) (v : Int) : (ints W ++ [AV.si .i64 v]).map mk = ints (W ++ [v]) := by simp [ints, mk, Function.comp_def]
theorem eslice_to {P : Program} {t e : TypeId} {es b o n c j : Nat} {i : Int} {kk : IntKind} (hu : P.underlying t = some (.slice e)) (hs : tySize P e = some es) (hi : i = (j : Int)) (hj : j ≤ c) : eslice P t (.sl b o n c 0) none (some (.int kk i)) none = some (.sl b o j c 0) := by
  subst hi
  have e1 : ebnd (some (AV.int kk (j : Int))) n = some j := rfl
  simp only [eslice, hu, hs, e1]
  simp only [ebnd]
  rw [if_pos ⟨Nat.zero_le _, hj, Nat.le_refl _⟩]
  simp
theorem smp_take : ∀ (L : Smp) (i : Nat), (smp L).take (i * 2) = smp (L.take i)
  | L, 0 => by simp [smp]
  | [], i + 1 => by simp [smp]
  | x :: L, i + 1 => by
    rw [show (i + 1) * 2 = i * 2 + 2 from by omega]
    show AV.si .i64 x.1 :: AV.si .i64 x.2 :: (smp L).take (i * 2) = _
    rw [smp_take L i]; rfl
theorem smp_sub0 {L : Smp} {j : Nat} (h : j ≤ L.length) : subL (smp L) 0 ((L.take j).length * 2) = some (smp (L.take j)) := by
  have : (L.take j).length = j := by rw [List.length_take]; omega
  rw [this]
  unfold subL
  rw [Nat.ble_eq_true_of_le (by rw [smp_length]; omega)]
  simp [smp_take]
theorem smp_whole (L : Smp) : subL (smp L) 0 (L.length * 2) = some (smp L) := subL_all (smp_length L)
/-- A function of a number and samples. -/
def natKS (B : Nat) (f : Int → Smp → AV) (args : List AV) (H : AH) (n : Nat) (κ : PK) : Prop := match args with
  | [x, l] => asI x fun k => ∃ L, SmpAt H l L ∧ L.length ≤ B ∧ κ (mkT (f k L)) H n
  | _ => False
theorem singKS {B : Nat} {f : Int → Smp → AV} : SingG (natKS B f) := .pure fun args H n κ hs => by
  unfold natKS at *
  split at hs
  · obtain ⟨k, ⟨L, h1, h2, h3⟩, k1⟩ := asI_sing hs
    exact ⟨_, h3, fun κ' h => k1 _ ⟨L, h1, h2, h⟩⟩
  · exact hs.elim
theorem natKS_ok {B : Nat} {F : FuncId → EP} (hF : TabP F) {d : Nat} {f : FuncId} {g : Int → Smp → AV} (hic : isCall Try.prog f = true) (hg : ∀ k L, flat (g k L) = true) (h0 : ∀ k, callT F d f [.si .i64 k, .nsl] .nil 0 fun u _ _ => mkT u = mkT (g k []))
    (h1 : ∀ k L cap, L.length ≤ B → callT F d f [.si .i64 k, .sl 0 0 L.length cap 0] (mkH [(0, .ro (smp L))]) 1 fun u _ _ => mkT u = mkT (g k L)) : NatP f (natKS B g) := fun args H n κ hs φ h0' hp vs K hr hargs hk => by
  unfold natKS at hs
  split at hs
  · obtain ⟨x, y, rfl, e1, e2⟩ := vs2 hargs
    obtain ⟨k, e1, L, hS, hL, hs2⟩ := asI_si e1 hs
    rcases hS.open hr e2 with ⟨rfl, hv⟩ | ⟨p, C, _, hro, hv⟩
    · exact smallN hF (hg k []) (h0 k) hs2 hr hk hic HR.ro0 (.cons (e1 : VR _ (.si .i64 k) x) (.cons (hv _) .nil))
    · exact smallN hF (hg k L) (h1 k L C hL) hs2 hr hk hic (fun hw => HR.ro1 hw hro) (.cons (by rw [e1.si_inv]; exact .si _ _) (.cons (hv _ 0 rfl).hd .nil))
  · exact hs.elim
def natKI (f : Int → List Int → AV) (args : List AV) (H : AH) (n : Nat) (κ : PK) : Prop := match args with
  | [x, l] => asI x fun k => ∃ V, IntAt H l V ∧ V.length ≤ 9223372036854775807 ∧ κ (mkT (f k V)) H n
  | _ => False
theorem singKI {f : Int → List Int → AV} : SingG (natKI f) := .pure fun args H n κ hs => by
  unfold natKI at *
  split at hs
  · obtain ⟨k, ⟨L, h1, h2, h3⟩, k1⟩ := asI_sing hs
    exact ⟨_, h3, fun κ' h => k1 _ ⟨L, h1, h2, h⟩⟩
  · exact hs.elim
theorem natKI_ok {F : FuncId → EP} (hF : TabP F) {d : Nat} {f : FuncId} {g : Int → List Int → AV} (hic : isCall Try.prog f = true) (hg : ∀ k L, flat (g k L) = true) (h0 : ∀ k, callT F d f [.si .i64 k, .nsl] .nil 0 fun u _ _ => mkT u = mkT (g k []))
    (h1 : ∀ k V cap, V.length ≤ 9223372036854775807 → callT F d f [.si .i64 k, .sl 0 0 V.length cap 0] (mkH [(0, .ro (ints V))]) 1 fun u _ _ => mkT u = mkT (g k V)) : NatP f (natKI g) := fun args H n κ hs φ h0' hp vs K hr hargs hk => by
  unfold natKI at hs
  split at hs
  · obtain ⟨x, y, rfl, e1, e2⟩ := vs2 hargs
    obtain ⟨k, e1, V, hS, hL, hs2⟩ := asI_si e1 hs
    rcases hS.open hr e2 with ⟨rfl, hv⟩ | ⟨p, C, hro, hv⟩
    · exact smallN hF (hg k []) (h0 k) hs2 hr hk hic HR.ro0 (.cons (e1 : VR _ (.si .i64 k) x) (.cons (hv _) .nil))
    · exact smallN hF (hg k V) (h1 k V C hL) hs2 hr hk hic (fun hw => HR.ro1 hw hro) (.cons (by rw [e1.si_inv]; exact .si _ _) (.cons (hv _ 0 rfl).hd .nil))
  · exact hs.elim
end Go.Proofs.Ytkhfdjhohfebgaa
namespace Go.Proofs.Ytkhfdjhohfebgaa
open Go Go.RowKit
def pCap (a b : Int) : Int := sCap a b
def rOver (a b : Int) : Bool := decide (0 < b ∧ IntKind.i64.wrap (9223372036854775807 - b) < a ∨ b < 0 ∧ a < IntKind.i64.wrap (-9223372036854775808 - b))
def rCap (a b : Int) : Int := if rOver a b = true then (if 0 < b then 9223372036854775807 else -9223372036854775808) else IntKind.i64.wrap (a + b)
set_option maxRecDepth 100000 in
theorem n_pcap : NatP 67 (nat2i pCap) := nat2i_ok (d := 2) evP_ok fun a b H n κ hk => by
  repeat' (conv => whnf
           first | refine Fork.dec (fun _ => ?_) (fun _ => ?_) | refine Fork.ndec (fun _ => ?_) (fun _ => ?_) | refine Fork.sb (fun _ => ?_) (fun _ => ?_) | refine Fork.nsb (fun _ => ?_) (fun _ => ?_) | refine leafI hk ?_)
  all_goals
    simp only [pCap, sCap, sOver, decide_eq_true_eq]
    split
    · first | (split <;> omega) | omega
    · omega
set_option maxRecDepth 100000 in
theorem n_rcap : NatP 75 (nat2i rCap) := nat2i_ok (d := 2) evP_ok fun a b H n κ hk => by
  repeat' (conv => whnf
           first | refine Fork.dec (fun _ => ?_) (fun _ => ?_) | refine Fork.ndec (fun _ => ?_) (fun _ => ?_) | refine Fork.sb (fun _ => ?_) (fun _ => ?_) | refine Fork.nsb (fun _ => ?_) (fun _ => ?_) | refine leafI hk ?_)
  all_goals
    simp only [rCap, rOver, decide_eq_true_eq]
    split
    · first | (split <;> omega) | omega
    · omega
structure SS where
  n : Int
  sum : Int
  least : Int
  great : Int
  first : Int
  last : Int
def stateCells (k : Int) (s : SS) : List AV := [.si .i64 k, .si .i64 s.n, .si .i64 s.sum, .si .i64 s.least, .si .i64 s.great, .si .i64 s.first, .si .i64 s.last, .si .i64 0]
def stateCellsK (k : Int) (s : SS) : List AV := [.int .i64 k, .si .i64 s.n, .si .i64 s.sum, .si .i64 s.least, .si .i64 s.great, .si .i64 s.first, .si .i64 s.last, .si .i64 0]
def aWide (s : SS) : Int := if IntKind.i64.wrap (s.great - s.least) < 0 then 9223372036854775807 else IntKind.i64.wrap (s.great - s.least)
def aVal (k : Int) (s : SS) : Int := if k = 1 then s.sum else if k = 2 then s.least else if k = 3 then s.great else if k = 4 then s.n else if k = 5 then s.first else if k = 6 then s.last else aWide s
def aTold (k : Int) (s : SS) : AV := .tup [.int .i64 (if s.n = 0 then 0 else aVal k s), .bool (!decide (s.n = 0))]
noncomputable def FJ : FuncId → EP := withD 57 [] (withD 74 [] (withS 67 (nat2i pCap) (withS 75 (nat2i rCap) FH)))
theorem FJ_ok : TabP FJ := withD_ok (withD_ok (withS_ok (withS_ok FH_ok n_rcap sing2i) n_pcap sing2i) (by kernel_rfl) (by kernel_rfl)) (by kernel_rfl) (by kernel_rfl)
theorem told0 {k : Int} {s : SS} (h : s.n = 0) : AV.tup [.si .i64 0, .sb false] = mkT (aTold k s) := by simp [aTold, mkT, mk, h]
theorem told1 {k : Int} {s : SS} (h : ¬ s.n = 0) {w : Int} (hw : aVal k s = w) : AV.tup [.si .i64 w, .sb true] = mkT (aTold k s) := by simp [aTold, mkT, mk, h, hw]
set_option maxHeartbeats 4000000 in
set_option maxRecDepth 100000 in
theorem value_run (k : Int) (h1 : 1 ≤ k) (h2 : k ≤ 7) (s : SS) : callT FJ 3 58 [.ptr 0 0] (mkH [(0, .ro (stateCellsK k s))]) 1 fun u _ _ => mkT u = mkT (aTold k s) := by
  obtain ⟨sn, ssum, sl, sg, sf, sla⟩ := s
  rcases kinds (k := k) (by omega) (by omega) with rfl | rfl | rfl | rfl | rfl | rfl | rfl
  all_goals
    repeat' (conv => whnf
             first | refine Fork.dec (fun _ => ?_) (fun _ => ?_) | (refine told0 ?_; assumption) | (refine told1 ?_ rfl; assumption) | (refine told1 ?_ (w := _) ?_))
    all_goals first
      | assumption
      | (show aWide _ = _
         unfold aWide
         first | rw [if_pos (by assumption)] | rw [if_neg (by assumption)])
end Go.Proofs.Ytkhfdjhohfebgaa
namespace Go.Proofs.Ytkhfdjhohfebgaa
open Go Go.RowKit
/-! ### a state's value, known -/
def StateAt (H : AH) (b : Nat) (k : Int) (s : SS) : Prop := ∃ l, (H.get b = some (.ro l) ∨ ∃ z, H.get b = some (.cells l z)) ∧ l.map mk = stateCells k s
def natVal (args : List AV) (H : AH) (n : Nat) (κ : PK) : Prop := match args with
  | [a] => (a = .nil ∧ κ (.tup [.si .i64 0, .sb false]) H n) ∨ ∃ k s b, a = .ptr b 0 ∧ StateAt H b k s ∧ 1 ≤ k ∧ k ≤ 7 ∧ κ (mkT (aTold k s)) H n
  | _ => False
theorem singVal : SingG natVal := .pure fun args H n κ hs => by
  unfold natVal at *
  split at hs
  · rcases hs with ⟨h1, h2⟩ | ⟨k, s, b, h1, h2, h3, h4, h5⟩
    · exact ⟨_, h2, fun κ' h => .inl ⟨h1, h⟩⟩
    · exact ⟨_, h5, fun κ' h => .inr ⟨k, s, b, h1, h2, h3, h4, h⟩⟩
  · exact hs.elim
set_option maxRecDepth 100000 in
theorem value_nil : callT FJ 3 58 [.nil] .nil 0 fun u _ _ => mkT u = mkT (.tup [.int .i64 0, .bool false]) := by
  conv => whnf
  rfl
theorem n_value : NatP 58 natVal := fun args H n κ hs φ h0 hp vs K hr hargs hk => by
  unfold natVal at hs
  split at hs
  · obtain ⟨x, rfl, h1⟩ := vs1 hargs
    rcases hs with ⟨rfl, h2⟩ | ⟨k, s, b, rfl, ⟨l, hb, hl⟩, h3, h4, h5⟩
    · exact smallN (v := .tup [.int .i64 0, .bool false]) FJ_ok rfl value_nil h2 hr hk (by kernel_rfl) HR.ro0 (.cons (by rw [h1.nil_inv]; exact .nil) .nil)
    · obtain ⟨p, hpb, rfl⟩ := h1.ptr_inv
      have hlen : l.length = 8 := by simpa [stateCells] using congrArg List.length hl
      have hro := RoAt.of (s := stateCellsK k s) hr hb hpb (subL_all hlen) (by rw [hl]; rfl) rfl
      exact smallN FJ_ok (v := aTold k s) rfl (value_run k h3 h4 s) h5 hr hk (by kernel_rfl) (fun hw => HR.ro1 hw hro) (.cons (.ptr (p := ⟨p.B, p.s + 0, 8⟩) (b := 0) (o := 0) rfl) .nil)
  · exact hs.elim
noncomputable def FK : FuncId → EP := withS 58 natVal FJ
theorem FK_ok : TabP FK := withS_ok FJ_ok n_value singVal
/-! ### numbers added -/
def aAdd (s : SS) (v : Int) : SS := if s.n = 0 then ⟨IntKind.i64.wrap (s.n + 1), pCap s.sum v, min v v, max v v, v, v⟩ else ⟨IntKind.i64.wrap (s.n + 1), pCap s.sum v, min s.least v, max s.great v, s.first, v⟩
def ss0 : SS := ⟨0, 0, 0, 0, 0, 0⟩
def aAll (L : Smp) : SS := L.foldl (fun s x => aAdd s x.2) ss0
theorem aAll_take {L : Smp} {i : Nat} (h : i < L.length) : aAll (L.take (i + 1)) = aAdd (aAll (L.take i)) L[i].2 := by
  unfold aAll
  rw [List.take_succ_eq_append_getElem h, List.foldl_append]; rfl
def aNum (k : Int) (L : Smp) : Int := if sRight k = true then (if (aAll L).n = 0 then 0 else aVal k (aAll L)) else 0
def aHas (k : Int) (L : Smp) : Bool := sRight k && !decide ((aAll L).n = 0)
def aFold (k : Int) (L : Smp) : AV := .tup [.int .i64 (aNum k L), .bool (aHas k L)]
theorem aFold_pos {k : Int} {L : Smp} (h : sRight k = true) : aFold k L = aTold k (aAll L) := by simp [aFold, aNum, aHas, aTold, h]
theorem aFold_neg {k : Int} {L : Smp} (h : sRight k = false) : aFold k L = .tup [.int .i64 0, .bool false] := by simp [aFold, aNum, aHas, h]
/-! ### the walk -/
noncomputable def foldSt (k : Int) (L : Smp) (cap i : Nat) : AE × AH := (mkE [(6, .ptr 1 0), (15, .sl 0 0 L.length cap 0), (16, .si .i64 L.length), (17, .si .i64 i)], mkH [(0, .ro (smp L)), (1, .cells (stateCells k (aAll (L.take i))) true)])
theorem fold_cov {k : Int} {L : Smp} {cap i p n : Nat} {σ : AE} {H : AH} {l : List AV} (hp : p ≤ 2) (e6 : getq (pa 6) σ = .ptr 1 0) (e15 : mk (getq (pa 15) σ) = .sy 0 0 L.length cap 0) (e16 : mk (getq (pa 16) σ) = .si .i64 L.length) (e17 : mk (getq (pa 17) σ) = .si .i64 i)
    (h0 : H.get 0 = some (.ro (smp L))) (h1 : H.get 1 = some (.cells l true)) (h2 : l.map mk = stateCells k (aAll (L.take i))) : Cov p σ H n ((foldSt k L cap i).1, (foldSt k L cap i).2, 2) := by
  refine Cov.of (fun b => b) hp (fun b hb => rfl) ?_ ?_ ?_
  · intro x hx
    simp only [List.mem_cons, List.not_mem_nil, or_false] at hx
    rcases hx with rfl | rfl | rfl | rfl
    · exact .ptr (by decide) e6
    · exact .sl (by decide) e15
    · exact .int e16
    · exact .int e17
  · intro x hx
    simp only [List.mem_cons, List.not_mem_nil, or_false] at hx
    rcases hx with rfl | rfl
    · exact ⟨by simp, _, h0, SubO.ro_mk (smp_flat L) rfl⟩
    · exact ⟨by simp, _, h1, SubO.cells_mk rfl h2 (fun q => q)⟩
  · intro x hx y hy
    simp only [List.mem_cons, List.not_mem_nil, or_false] at hx hy
    rcases hx with rfl | rfl <;> rcases hy with rfl | rfl <;> exact fun q => q
noncomputable def foldSt0 (L : Smp) (cap i : Nat) : AE × AH := (mkE [(6, .nil), (15, .sl 0 0 L.length cap 0), (16, .si .i64 L.length), (17, .si .i64 i)], mkH [(0, .ro (smp L))])
theorem fold_cov0 {L : Smp} {cap i p n : Nat} {σ : AE} {H : AH} (hp : p ≤ 1) (e6 : getq (pa 6) σ = .nil) (e15 : mk (getq (pa 15) σ) = .sy 0 0 L.length cap 0) (e16 : mk (getq (pa 16) σ) = .si .i64 L.length) (e17 : mk (getq (pa 17) σ) = .si .i64 i)
    (h0 : H.get 0 = some (.ro (smp L))) : Cov p σ H n ((foldSt0 L cap i).1, (foldSt0 L cap i).2, 1) := by
  refine Cov.of (fun b => b) hp (fun b hb => rfl) ?_ ?_ ?_
  · intro x hx
    simp only [List.mem_cons, List.not_mem_nil, or_false] at hx
    rcases hx with rfl | rfl | rfl | rfl
    · exact .flat rfl (congrArg mk e6)
    · exact .sl (by decide) e15
    · exact .int e16
    · exact .int e17
  · intro x hx
    simp only [List.mem_cons, List.not_mem_nil, or_false] at hx
    subst hx
    exact ⟨by simp, _, h0, SubO.ro_mk (smp_flat L) rfl⟩
  · intro x hx y hy
    simp only [List.mem_cons, List.not_mem_nil, or_false] at hx hy
    subst hx hy
    exact fun q => q
theorem eight {a1 a2 a3 a4 a5 a6 a7 a8 b1 b2 b3 b4 b5 b6 b7 b8 : AV} (h1 : mk a1 = b1) (h2 : mk a2 = b2) (h3 : mk a3 = b3) (h4 : mk a4 = b4) (h5 : mk a5 = b5) (h6 : mk a6 = b6) (h7 : mk a7 = b7) (h8 : mk a8 = b8) :
    List.map mk [a1, a2, a3, a4, a5, a6, a7, a8] = [b1, b2, b3, b4, b5, b6, b7, b8] := by subst h1 h2 h3 h4 h5 h6 h7 h8; rfl
theorem right_pos {k : Int} (h : sRight k = true) : 1 ≤ k ∧ k ≤ 7 := by simpa only [sRight, decide_eq_true_eq] using h
set_option maxHeartbeats 4000000 in
set_option maxRecDepth 100000 in
theorem fold_run (k : Int) (L : Smp) (cap : Nat) (hL : L.length ≤ 9223372036854775807) : callT FK 3 41 [.si .i64 k, .sl 0 0 L.length cap 0] (mkH [(0, .ro (smp L))]) 1 fun u _ _ => mkT u = mkT (aFold k L) := by
  conv => whnf
  refine Fork.nsb (fun hr => ?_) (fun hr => ?_)
  · conv => whnf
    refine LoopP.mk (_root_.Fin (L.length + 1)) 1 (fun a => foldSt0 L cap a.val) (fun a => L.length - a.val) 0 ?_ ?_
    · exact fold_cov0 (i := 0) (by decide) rfl rfl rfl rfl rfl
    · intro ⟨i, hi⟩
      conv => whnf
      refine Fork.dec (fun h1 => ?_) (fun h1 => ?_)
      · have h2 : i < L.length := Int.ofNat_lt.1 h1
        have hw : IntKind.i64.wrap ((i : Int) + 1) = ((i + 1 : Nat) : Int) := by rw [wrap_i64_of (by omega) (by omega)]; omega
        conv => whnf
        refine Idx.mk i rfl h2 ?_
        conv => whnf
        refine optP_of (smp_sub h2 (by show 0 + i * 2 = i * 2; omega)) ?_
        have hlt : L.length - (i + 1) < L.length - i := by omega
        conv => whnf
        exact ⟨⟨i + 1, by omega⟩, hlt, fold_cov0 (Nat.le_refl 1) rfl rfl rfl (congrArg (AV.si IntKind.i64) hw) rfl⟩
      · conv => whnf
        refine .inl ⟨rfl, ?_⟩
        conv => whnf
        exact (show mkT _ = AV.tup [.si .i64 0, .sb false] from rfl).trans (by rw [aFold_neg hr]; rfl)
  · have hk := right_pos hr
    conv => whnf
    refine LoopP.mk (_root_.Fin (L.length + 1)) 2 (fun a => foldSt k L cap a.val) (fun a => L.length - a.val) 0 ?_ ?_
    · exact fold_cov (i := 0) (by decide) rfl rfl rfl rfl rfl rfl rfl
    · intro ⟨i, hi⟩
      conv => whnf
      refine Fork.dec (fun h1 => ?_) (fun h1 => ?_)
      · have h2 : i < L.length := Int.ofNat_lt.1 h1
        have hw : IntKind.i64.wrap ((i : Int) + 1) = ((i + 1 : Nat) : Int) := by rw [wrap_i64_of (by omega) (by omega)]; omega
        conv => whnf
        refine Idx.mk i rfl h2 ?_
        conv => whnf
        refine optP_of (smp_sub h2 (by show 0 + i * 2 = i * 2; omega)) ?_
        have hlt : L.length - (i + 1) < L.length - i := by omega
        conv => whnf
        refine Fork.ndec (fun h3 => absurd (show (0 : Int) < k by omega) h3) (fun h3 => ?_)
        conv => whnf
        refine Fork.dec (fun h4 => ?_) (fun h4 => ?_)
        · conv => whnf
          refine ⟨⟨i + 1, by omega⟩, hlt, fold_cov (l := _) (Nat.le_succ 1) rfl rfl rfl (congrArg (AV.si IntKind.i64) hw) rfl rfl ?_⟩
          exact Eq.trans rfl (congrArg (stateCells k) ((aAll_take h2).trans (if_pos h4)).symm)
        · conv => whnf
          refine ⟨⟨i + 1, by omega⟩, hlt, fold_cov (l := _) (Nat.le_succ 1) rfl rfl rfl (congrArg (AV.si IntKind.i64) hw) rfl rfl ?_⟩
          exact Eq.trans rfl (congrArg (stateCells k) ((aAll_take h2).trans (if_neg h4)).symm)
      · conv => whnf
        have h2 : i = L.length := by have : ¬ (i : Int) < L.length := h1; omega
        subst h2
        refine .inr ⟨k, aAll (L.take L.length), 1, rfl, ⟨_, .inr ⟨_, rfl⟩, rfl⟩, hk.1, hk.2, ?_⟩
        conv => whnf
        rw [List.take_length]
        rw [aFold_pos hr]
        rfl
set_option maxHeartbeats 4000000 in
set_option maxRecDepth 100000 in
theorem fold_nil (k : Int) : callT FK 3 41 [.si .i64 k, .nsl] .nil 0 fun u _ _ => mkT u = mkT (aFold k []) := by
  conv => whnf
  refine Fork.nsb (fun hr => ?_) (fun hr => ?_)
  · conv => whnf
    refine LoopP.roll 1 ?_
    conv => whnf
    refine .inl ⟨rfl, ?_⟩
    conv => whnf
    exact (show mkT _ = AV.tup [.si .i64 0, .sb false] from rfl).trans (by rw [aFold_neg hr]; rfl)
  · have hk := right_pos hr
    conv => whnf
    refine LoopP.roll 1 ?_
    conv => whnf
    refine .inr ⟨k, ss0, 0, rfl, ⟨_, .inr ⟨_, rfl⟩, rfl⟩, hk.1, hk.2, ?_⟩
    conv => whnf
    exact (show mkT _ = mkT (aTold k ss0) from rfl).trans (congrArg mkT (aFold_pos (L := []) hr).symm)
theorem n_fold : NatP 41 (natKS 9223372036854775807 aFold) := natKS_ok FK_ok (by kernel_rfl) (fun k L => rfl) fold_nil fold_run
end Go.Proofs.Ytkhfdjhohfebgaa
namespace Go.Proofs.Ytkhfdjhohfebgaa
open Go Go.RowKit
noncomputable def FL : FuncId → EP := withD 59 [] (withS 41 (natKS 9223372036854775807 aFold) FK)
theorem FL_ok : TabP FL := withD_ok (withS_ok FK_ok n_fold singKS) (by kernel_rfl) (by kernel_rfl)
/-! ### what numbers make -/
def rWide (least most : Int) : Int := if 0 ≤ least ∨ most < 0 ∨ most ≤ IntKind.i64.wrap (9223372036854775807 + least) then IntKind.i64.wrap (most - least) else 9223372036854775807
def rVal (k x : Int) (r : List Int) : Int := if k = 1 then r.foldl rCap x else if k = 2 then r.foldl min x else if k = 3 then r.foldl max x else if k = 4 then (r.length + 1 : Nat) else if k = 5 then x else if k = 6 then (x :: r)[r.length]'(by simp) else rWide (r.foldl min x) (r.foldl max x)
def rNum (k : Int) (V : List Int) : Int := if sRight k = true then (match V with
  | [] => 0
  | x :: r => rVal k x r) else 0
def rHas (k : Int) (V : List Int) : Bool := sRight k && !V.isEmpty
def rTold (k : Int) (V : List Int) : AV := .tup [.int .i64 (rNum k V), .bool (rHas k V)]
theorem name_empty {k : Int} (h : beqL (sName k) [] = true) : sRight k = false := by rw [right_name, h]; rfl
theorem name_full {k : Int} (h : beqL (sName k) [] = false) : sRight k = true := by rw [right_name, h]; rfl
theorem rTold_neg {k : Int} {V : List Int} (h : sRight k = false) : rTold k V = .tup [.int .i64 0, .bool false] := by simp [rTold, rNum, rHas, h]
theorem rTold_nil {k : Int} : rTold k [] = .tup [.int .i64 0, .bool false] := by simp [rTold, rNum, rHas]
theorem rTold_pos {k x : Int} {r : List Int} (h : sRight k = true) : rTold k (x :: r) = .tup [.int .i64 (rVal k x r), .bool true] := by simp [rTold, rNum, rHas, h]
theorem leafR {k x w : Int} {r : List Int} (hr : sRight k = true) (h : rVal k x r = w) : AV.tup [.si .i64 w, .sb true] = mkT (rTold k (x :: r)) := by rw [rTold_pos hr, ← h]; rfl
/-! ### the walk -/
noncomputable def valSt (k x : Int) (r : List Int) (cap i : Nat) : AE × AH := (mkE [(0, .si .i64 k), (1, .sl 0 0 (r.length + 1) cap 0), (6, .si .i64 ((r.take i).foldl rCap x)), (7, .si .i64 ((r.take i).foldl min x)), (8, .si .i64 ((r.take i).foldl max x)), (9, .si .i64 (i + 1 : Nat))], mkH [(0, .ro (ints (x :: r)))])
theorem val_cov {k x : Int} {r : List Int} {cap i p n : Nat} {σ : AE} {H : AH} (hp : p ≤ 1) (e0 : mk (getq (pa 0) σ) = .si .i64 k) (e1 : mk (getq (pa 1) σ) = .sy 0 0 (r.length + 1) cap 0) (e6 : mk (getq (pa 6) σ) = .si .i64 ((r.take i).foldl rCap x))
    (e7 : mk (getq (pa 7) σ) = .si .i64 ((r.take i).foldl min x)) (e8 : mk (getq (pa 8) σ) = .si .i64 ((r.take i).foldl max x)) (e9 : mk (getq (pa 9) σ) = .si .i64 (i + 1 : Nat)) (h0 : H.get 0 = some (.ro (ints (x :: r)))) : Cov p σ H n ((valSt k x r cap i).1, (valSt k x r cap i).2, 1) := by
  refine Cov.of (fun b => b) hp (fun b hb => rfl) ?_ ?_ ?_
  · intro x hx
    simp only [List.mem_cons, List.not_mem_nil, or_false] at hx
    rcases hx with rfl | rfl | rfl | rfl | rfl | rfl
    · exact .int e0
    · exact .sl (by decide) e1
    · exact .int e6
    · exact .int e7
    · exact .int e8
    · exact .int e9
  · intro x hx
    simp only [List.mem_cons, List.not_mem_nil, or_false] at hx
    subst hx
    exact ⟨by simp, _, h0, SubO.ro_mk (ints_flat _) rfl⟩
  · intro x hx y hy
    simp only [List.mem_cons, List.not_mem_nil, or_false] at hx hy
    subst hx hy
    exact fun q => q
set_option maxRecDepth 100000 in
theorem values_nil (k : Int) : callT FL 3 59 [.si .i64 k, .nsl] .nil 0 fun u _ _ => mkT u = mkT (rTold k []) := by
  rw [rTold_nil]
  conv => whnf
  refine Fork.sb (fun h1 => ?_) (fun h1 => ?_)
  · conv => whnf
    rfl
  · conv => whnf
    rfl
set_option maxHeartbeats 4000000 in
set_option maxRecDepth 100000 in
theorem values_run (k : Int) (V : List Int) (cap : Nat) (hV : V.length ≤ 9223372036854775807) : callT FL 3 59 [.si .i64 k, .sl 0 0 V.length cap 0] (mkH [(0, .ro (ints V))]) 1 fun u _ _ => mkT u = mkT (rTold k V) := by
  rcases V with _ | ⟨x, r⟩
  · rw [rTold_nil]
    conv => whnf
    refine Fork.sb (fun h1 => ?_) (fun h1 => ?_)
    · conv => whnf
      rfl
    · conv => whnf
      rfl
  · conv => whnf
    refine Fork.sb (fun h1 => ?_) (fun h1 => ?_)
    · rw [rTold_neg (name_empty h1)]
      conv => whnf
      rfl
    · have hr := name_full h1
      have hk := right_pos hr
      simp only [List.length_cons] at hV
      conv => whnf
      refine LoopP.mk (_root_.Fin (r.length + 1)) 1 (fun a => valSt k x r cap a.val) (fun a => r.length - a.val) 0 ?_ ?_
      · exact val_cov (i := 0) (Nat.le_refl 1) rfl rfl rfl rfl rfl rfl rfl
      · intro ⟨i, hi⟩
        conv => whnf
        refine Fork.dec (fun h2 => ?_) (fun h2 => ?_)
        · have h2 : ((i + 1 : Nat) : Int) < ((r.length + 1 : Nat) : Int) := h2
          have h3 : i < r.length := by omega
          have hlt : r.length - (i + 1) < r.length - i := by omega
          have hw : IntKind.i64.wrap (((i + 1 : Nat) : Int) + 1) = ((i + 1 + 1 : Nat) : Int) := by rw [wrap_i64_of (x := ((i + 1 : Nat) : Int) + 1) (by omega) (by omega)]; omega
          have hat : nth (ints (x :: r)) (0 + (i + 1) * 1) = some (.si .i64 r[i]) := ints_nth (V := x :: r) (i := i + 1) (by simp; omega) (by omega)
          conv => whnf
          refine Idx.mk (i + 1) rfl (by omega) ?_
          conv => whnf
          refine optP_of hat ?_
          conv => whnf
          refine Idx.mk (i + 1) rfl (by omega) ?_
          conv => whnf
          refine optP_of hat ?_
          conv => whnf
          refine Idx.mk (i + 1) rfl (by omega) ?_
          conv => whnf
          refine optP_of hat ?_
          conv => whnf
          exact ⟨⟨i + 1, by omega⟩, hlt, val_cov (Nat.le_refl 1) rfl rfl (congrArg (AV.si .i64) (foldl_take (f := rCap) (b := x) h3).symm) (congrArg (AV.si .i64) (foldl_take (f := min) (b := x) h3).symm) (congrArg (AV.si .i64) (foldl_take (f := max) (b := x) h3).symm) (congrArg (AV.si .i64) hw) rfl⟩
        · have h2 : ¬ ((i + 1 : Nat) : Int) < ((r.length + 1 : Nat) : Int) := h2
          have h3 : i = r.length := by omega
          subst h3
          obtain ⟨j, hj⟩ : ∃ j : Nat, k = (j : Int) + 1 := ⟨(k - 1).toNat, by omega⟩
          have hkw : IntKind.i64.wrap (k - 1) = (j : Int) := by rw [wrap_i64_of (by omega) (by omega)]; omega
          have hlw : IntKind.i64.wrap (((r.length + 1 : Nat) : Int) - 1) = (r.length : Int) := by rw [wrap_i64_of (by omega) (by omega)]; omega
          have htk : r.take r.length = r := List.take_length
          repeat' (conv => whnf
                   first | refine Fork.dec (fun _ => ?_) (fun _ => ?_) | refine optP_of (eix_of rfl hlw (Nat.lt_succ_self _)) ?_ | refine optP_of (ints_nth (V := x :: r) (i := r.length) (by simp) (by show 0 + r.length * 1 = r.length; omega)) ?_ | refine Idx.mk j hkw (by show j < 7; omega) ?_)
          all_goals
            have hj7 : j = 0 ∨ j = 1 ∨ j = 2 ∨ j = 3 ∨ j = 4 ∨ j = 5 ∨ j = 6 := by omega
            rcases hj7 with rfl | rfl | rfl | rfl | rfl | rfl | rfl
            all_goals (conv => whnf)
            all_goals refine (show mkT _ = AV.tup [.si .i64 _, .sb true] from rfl).trans (leafR hr ?_)
          all_goals
            subst hj
            simp only [List.take_length] at *
            first
              | rfl
              | (show rWide _ _ = _
                 unfold rWide
                 first | (rw [if_pos]; omega) | (rw [if_neg]; omega))
theorem n_rvalues : NatP 59 (natKI rTold) := natKI_ok FL_ok (by kernel_rfl) (fun k V => rfl) values_nil values_run
end Go.Proofs.Ytkhfdjhohfebgaa
namespace Go.Proofs.Ytkhfdjhohfebgaa
open Go Go.RowKit
noncomputable def FM : FuncId → EP := withS 59 (natKI rTold) FL
theorem FM_ok : TabP FM := withS_ok FL_ok n_rvalues singKI
noncomputable abbrev rfoldSt (k : Int) (L : Smp) (cap : Nat) : Nat → AE × AH
  | 0 => (mkE [(0, .si .i64 k), (1, .sl 0 0 L.length cap 0), (6, .nsl), (7, .si .i64 0)], mkH [(0, .ro (smp L))])
  | i + 1 => (mkE [(0, .si .i64 k), (1, .sl 0 0 L.length cap 0), (6, .sl 1 0 (i + 1) (i + 1) 1), (7, .si .i64 (i + 1 : Nat))], mkH [(0, .ro (smp L)), (1, .cells (ints (vals (L.take (i + 1)))) true)])
theorem rfold_cov {k : Int} {L : Smp} {cap i n p : Nat} {σ : AE} {H : AH} {l : List AV} (hp : p ≤ 1) (e0 : mk (getq (pa 0) σ) = .si .i64 k) (e1 : mk (getq (pa 1) σ) = .sy 0 0 L.length cap 0) (e6 : mk (getq (pa 6) σ) = .sy 3 0 (i + 1) (i + 1) 1) (e7 : mk (getq (pa 7) σ) = .si .i64 (i + 1 : Nat))
    (h0 : H.get 0 = some (.ro (smp L))) (h1 : H.get 3 = some (.cells l true)) (h2 : l.map mk = ints (vals (L.take (i + 1)))) : Cov p σ H n ((rfoldSt k L cap (i + 1)).1, (rfoldSt k L cap (i + 1)).2, 2) := by
  refine Cov.of (fun b => if b = 0 then 0 else 3) (by omega) (fun b hb => by rw [if_pos (by omega)]; omega) ?_ ?_ ?_
  · intro x hx
    simp only [List.mem_cons, List.not_mem_nil, or_false] at hx
    rcases hx with rfl | rfl | rfl | rfl
    · exact .int e0
    · exact .sl (by decide) e1
    · exact .sl (by decide) e6
    · exact .int e7
  · intro x hx
    simp only [List.mem_cons, List.not_mem_nil, or_false] at hx
    rcases hx with rfl | rfl
    · exact ⟨by simp, _, h0, SubO.ro_mk (smp_flat L) rfl⟩
    · exact ⟨by simp, _, h1, SubO.cells_mk (ints_flat _) (by rw [h2, ints_map]) (fun q => q)⟩
  · intro x hx y hy
    simp only [List.mem_cons, List.not_mem_nil, or_false] at hx hy
    rcases hx with rfl | rfl <;> rcases hy with rfl | rfl <;> simp
theorem rfold_cov0 {k : Int} {L : Smp} {cap n p : Nat} {σ : AE} {H : AH} (hp : p ≤ 1) (e0 : mk (getq (pa 0) σ) = .si .i64 k) (e1 : mk (getq (pa 1) σ) = .sy 0 0 L.length cap 0) (e6 : mk (getq (pa 6) σ) = .nsl) (e7 : mk (getq (pa 7) σ) = .si .i64 0)
    (h0 : H.get 0 = some (.ro (smp L))) : Cov p σ H n ((rfoldSt k L cap 0).1, (rfoldSt k L cap 0).2, 2) := by
  refine Cov.of (fun b => b) (by omega) (fun b hb => rfl) ?_ ?_ ?_
  · intro x hx
    simp only [List.mem_cons, List.not_mem_nil, or_false] at hx
    rcases hx with rfl | rfl | rfl | rfl
    · exact .int e0
    · exact .sl (by decide) e1
    · exact .flat rfl e6
    · exact .int e7
  · intro x hx
    simp only [List.mem_cons, List.not_mem_nil, or_false] at hx
    subst hx
    exact ⟨by simp, _, h0, SubO.ro_mk (smp_flat L) rfl⟩
  · intro x hx y hy
    simp only [List.mem_cons, List.not_mem_nil, or_false] at hx hy
    subst hx hy
    exact fun q => q
def rFold (k : Int) (L : Smp) : AV := rTold k (vals L)
set_option maxRecDepth 100000 in
theorem rfold_nil (k : Int) : callT FM 3 43 [.si .i64 k, .nsl] .nil 0 fun u _ _ => mkT u = mkT (rFold k []) := by
  conv => whnf
  refine LoopP.roll 1 ?_
  conv => whnf
  refine ⟨[], .inl ⟨rfl, rfl⟩, by decide, ?_⟩
  conv => whnf
  rfl
set_option maxHeartbeats 4000000 in
set_option maxRecDepth 100000 in
theorem rfold_run (k : Int) (L : Smp) (cap : Nat) (hL : L.length ≤ 8796093022208) : callT FM 3 43 [.si .i64 k, .sl 0 0 L.length cap 0] (mkH [(0, .ro (smp L))]) 1 fun u _ _ => mkT u = mkT (rFold k L) := by
  conv => whnf
  refine LoopP.mk (_root_.Fin (L.length + 1)) 2 (fun a => rfoldSt k L cap a.val) (fun a => L.length - a.val) 0 ?_ ?_
  · exact rfold_cov0 (Nat.le_refl 1) rfl rfl rfl rfl rfl
  · intro ⟨i, hi⟩
    cases i with
    | zero =>
      conv => whnf
      refine Fork.dec (fun h1 => ?_) (fun h1 => ?_)
      · have h2 : 0 < L.length := Int.ofNat_lt.1 h1
        have hlt : L.length - 1 < L.length - 0 := by omega
        conv => whnf
        refine Idx.mk 0 rfl h2 ?_
        conv => whnf
        refine optP_of (smp_nth1 h2 rfl) ?_
        conv => whnf
        refine ⟨⟨1, by omega⟩, hlt, rfold_cov (i := 0) (Nat.le_refl 1) rfl rfl rfl rfl rfl rfl ?_⟩
        exact Eq.trans rfl (congrArg ints (vals_take h2).symm)
      · have h2 : L = [] := List.eq_nil_of_length_eq_zero (by have : ¬ (0 : Int) < (L.length : Int) := h1; omega)
        subst h2
        conv => whnf
        refine ⟨[], .inl ⟨rfl, rfl⟩, by decide, ?_⟩
        conv => whnf
        rfl
    | succ i =>
      conv => whnf
      refine Fork.dec (fun h1 => ?_) (fun h1 => ?_)
      · have h2 : i + 1 < L.length := Int.ofNat_lt.1 h1
        have hlt : L.length - (i + 2) < L.length - (i + 1) := by omega
        have hw : IntKind.i64.wrap (((i + 1 : Nat) : Int) + 1) = ((i + 1 + 1 : Nat) : Int) := by rw [wrap_i64_of (x := ((i + 1 : Nat) : Int) + 1) (by omega) (by omega)]; omega
        conv => whnf
        refine Idx.mk (i + 1) rfl h2 ?_
        conv => whnf
        refine optP_of (smp_nth1 h2 (by show 0 + (i + 1) * 2 + 1 = (i + 1) * 2 + 1; omega)) ?_
        conv => whnf
        refine optP_of (app_grow (k := 0) (by' := 8) (m := 1) (sn := i + 1) (c := i + 1) rfl rfl rfl rfl rfl rfl rfl rfl (by decide) rfl rfl rfl (by omega) (by omega) (subL_all (by rw [ints_length, vals_len (by omega)]; omega))) ?_
        conv => whnf
        refine ⟨⟨i + 2, by omega⟩, hlt, rfold_cov (i := i + 1) (Nat.le_refl 1) rfl rfl rfl (congrArg (AV.si .i64) hw) rfl rfl ?_⟩
        refine Eq.trans ?_ (congrArg ints (vals_take h2).symm)
        exact ints_snoc _ _
      · have h2 : i + 1 = L.length := by have : ¬ ((i + 1 : Nat) : Int) < (L.length : Int) := h1; omega
        have hv : (vals (L.take (i + 1))).length = i + 1 := vals_len (by omega)
        have hL' : L.take (i + 1) = L := by rw [h2, List.take_length]
        conv => whnf
        refine ⟨vals (L.take (i + 1)), .inr (.inr ⟨1, 0, i + 1, 1, _, _, (show _ = AV.sl 1 0 (i + 1) (i + 1) 1 from rfl).trans (by rw [hv]), .inr ⟨_, rfl⟩, subL_all (ints_length _), ints_map _, Nat.le_of_eq hv⟩), by omega, ?_⟩
        conv => whnf
        exact (show mkT _ = mkT (rTold k (vals (L.take (i + 1)))) from rfl).trans (by rw [hL']; rfl)
theorem n_rfold : NatP 43 (natKS 8796093022208 rFold) := natKS_ok FM_ok (by kernel_rfl) (fun k V => rfl) rfold_nil rfold_run
end Go.Proofs.Ytkhfdjhohfebgaa
