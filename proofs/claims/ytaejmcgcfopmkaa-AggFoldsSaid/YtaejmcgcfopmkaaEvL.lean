/- The machine that asks: a region that draws its order, any order. -/
import Derived.Test.YtaejmcgcfopmkaaEvK
namespace Go.Proofs.Ytaejmcgcfopmkaa
open Go Go.RowKit
structure TR where
  v : AV
  σ : AE
  H : AH
  n : Nat
inductive Tr (ops : Array Oper) : List Oper → List DB → List (AH × Nat) → AE → AH → Nat → List TR → AE → AH → Nat → Prop
  | nil {bs : List DB} {hist : List (AH × Nat)} {σ : AE} {H : AH} {n : Nat} : Tr ops [] bs hist σ H n [] σ H n
  | cons {o : Oper} {l : List Oper} {b : DB} {bs : List DB} {hist : List (AH × Nat)} {σ : AE} {H : AH} {n : Nat} {σr : AE} {v : AV} {H1 : AH} {n1 : Nat} {tr : List TR} {σ' : AE} {H' : AH} {n' : Nat}
    (s : StepOk ops o b hist σ H n σr v H1 n1) (r : Tr ops l bs ((H, n) :: hist) (eput σr o.dst v) H1 n1 tr σ' H' n') : Tr ops (o :: l) (b :: bs) hist σ H n (⟨v, σr, H, n⟩ :: tr) σ' H' n'
section
variable {φ : Ph} {h0 h : Hp} {ρ : Env} {cd : CP} {ops : Array Oper}
theorem dynL_tr (hcd : CPok cd) (hcs : CSing cd) {kn : KP} : ∀ (l : List Oper) (bs : List DB) (hist : List (AH × Nat)) (σ : AE) (H : AH) (n : Nat), (∀ (i : Nat) o b, l[i]? = some o → bs[i]? = some b → bOk o b ∧ gslotIn ops o b.2 = true) → dynL ops l bs cd hist σ H n kn →
    ∃ tr σ' H' n', Tr ops l bs hist σ H n tr σ' H' n' ∧ kn σ' H' n'
  | [], bs, hist, σ, H, n, _, hs => ⟨[], σ, H, n, .nil, hs⟩
  | o :: l, [], hist, σ, H, n, _, hs => hs.elim
  | o :: l, b :: bs, hist, σ, H, n, hb, hs => by
    have hs : dynOp ops o b cd hist σ H n (fun σ' H' n' => dynL ops l bs cd ((H, n) :: hist) σ' H' n' kn) := hs
    obtain ⟨h1, h2⟩ := hb 0 o b rfl rfl
    obtain ⟨σr, v, H1, n1, h3, h4⟩ := dynOp_step hcd hcs h1 h2 hs
    obtain ⟨tr, σ', H', n', h5, h6⟩ := dynL_tr hcd hcs l bs _ _ H1 n1 (fun i o b e1 e2 => hb (i + 1) o b (by simpa using e1) (by simpa using e2)) h4
    exact ⟨_, σ', H', n', .cons h3 h5, h6⟩
theorem tr_length {l : List Oper} {bs : List DB} {hist : List (AH × Nat)} {σ : AE} {H : AH} {n : Nat} {tr : List TR} {σ' : AE} {H' : AH} {n' : Nat} (ht : Tr ops l bs hist σ H n tr σ' H' n') : tr.length = l.length := by
  induction ht with
  | nil => rfl
  | cons s r ih => simp [ih]
/-- What is told of one operation. -/
structure At (ops : Array Oper) (Bs : List DB) (σ0 : AE) (val : Nat → AV) (σs : Nat → AE) (Hs : Nat → AH) (ns : Nat → Nat) (i : Nat) (o : Oper) : Prop where
  look : ∀ t a, (σs i).get t = some a → Sup (curN ops val σ0 (fun _ => true) i t) a
  grow : GrowsA (Hs i) (Hs (i + 1))
  bs : ∃ b, Bs[i]? = some b ∧ (loudOp o.op = true → LoudF ops o b.2 (σs i) (Hs i) (ns i) (val i) (Hs (i + 1)) (ns (i + 1))) ∧
    (loudOp o.op = false → Hs (i + 1) = Hs i ∧ ns (i + 1) = ns i ∧ ∀ k, b.1 = some k → k ≤ i → StillF ops o b.2 (σs i) (Hs (i - k)) (val i))
theorem tr_told {Bs : List DB} {σ0 : AE} {val : Nat → AV} {σs : Nat → AE} {Hs : Nat → AH} {ns : Nat → Nat} {l : List Oper} {bs : List DB} {hist : List (AH × Nat)} {σ : AE} {H : AH} {n : Nat} {tr : List TR} {σ' : AE} {H' : AH} {n' : Nat} (ht : Tr ops l bs hist σ H n tr σ' H' n') :
    ∀ k, (∀ j : Nat, l[j]? = ops[k + j]?) → (∀ j : Nat, bs[j]? = Bs[k + j]?) → (∀ t a, σ.get t = some a → Sup (curN ops val σ0 (fun _ => true) k t) a) → (∀ j, j < k → nth hist j = some (Hs (k - 1 - j), ns (k - 1 - j))) → H = Hs k → n = ns k →
    (∀ (j : Nat) e, tr[j]? = some e → val (k + j) = e.v ∧ σs (k + j) = e.σ ∧ Hs (k + j) = e.H ∧ ns (k + j) = e.n) → Hs (k + l.length) = H' → ns (k + l.length) = n' →
    (∀ i o, k ≤ i → i < k + l.length → ops[i]? = some o → At ops Bs σ0 val σs Hs ns i o) ∧ tr.length = l.length ∧ ∀ t a, σ'.get t = some a → Sup (curN ops val σ0 (fun _ => true) (k + l.length) t) a := by
  induction ht with
  | nil => exact fun k _ _ hσ _ _ _ _ _ _ => ⟨fun i o h1 h2 => by simp at h2; omega, rfl, hσ⟩
  | @cons o l b bs hist σ H n σr v H1 n1 tr σ' H' n' s r ih =>
    intro k hl hb hσ hh hH hn htr hH' hn'
    have ho : ops[k]? = some o := by simpa using (hl 0).symm
    have hbk : Bs[k]? = some b := by simpa using (hb 0).symm
    obtain ⟨t1, t3, t4, t5⟩ := htr 0 _ rfl
    simp only [Nat.add_zero] at t1 t3 t4 t5
    have hH1 : H1 = Hs (k + 1) ∧ n1 = ns (k + 1) := by
      cases r with
      | nil => exact ⟨by simpa using hH'.symm, by simpa using hn'.symm⟩
      | cons s2 r2 =>
        obtain ⟨_, _, q4, q5⟩ := htr 1 _ rfl
        exact ⟨q4.symm, q5.symm⟩
    have hσr : ∀ t a, σr.get t = some a → Sup (curN ops val σ0 (fun _ => true) k t) a := fun t a hg => Sup.trans (fun b hb => hσ t b hb) (s.sup t a hg)
    have hσ1 : ∀ t a, (eput σr o.dst v).get t = some a → Sup (curN ops val σ0 (fun _ => true) (k + 1) t) a := fun t a hg => by
      simp only [curN, dstAt, ho, Option.bind_some, true_and]
      cases hd : o.dst with
      | none => rw [hd] at hg; rw [if_neg (by simp)]; exact hσr t a hg
      | some d =>
        rw [hd] at hg
        rcases setq_get depthE σr d t a hg with ⟨rfl, h2⟩ | ⟨h1, h2⟩
        · rw [if_pos rfl, t1, h2]; exact .refl rfl
        · rw [if_neg (by simpa using Ne.symm h1)]; exact hσr t a h2
    obtain ⟨r1, r2, r3⟩ := ih (k + 1) (fun j => by have := hl (j + 1); simpa [Nat.add_assoc, Nat.add_comm 1 j] using this) (fun j => by have := hb (j + 1); simpa [Nat.add_assoc, Nat.add_comm 1 j] using this) hσ1
      (fun j hj => by
        cases j with
        | zero =>
          show some (H, n) = _
          rw [hH, hn]; simp
        | succ j =>
          show nth hist j = _
          rw [hh j (by omega)]
          have : k - 1 - j = k + 1 - 1 - (j + 1) := by omega
          rw [this]) hH1.1 hH1.2
      (fun j e he => by
        have := htr (j + 1) e (by simpa using he)
        rwa [show k + (j + 1) = k + 1 + j from by omega] at this)
      (by rw [← hH']; congr 1; simp; omega) (by rw [← hn']; congr 1; simp; omega)
    have hlen : k + (o :: l).length = k + 1 + l.length := by simp; omega
    rw [hlen]
    refine ⟨fun i o' h1 h2 ho' => ?_, by simp [r2], r3⟩
    by_cases hi : i = k
    · subst hi
      rw [ho] at ho'; injection ho' with ho'; subst ho'
      refine ⟨?_, ?_, b, hbk, fun hl => ?_, fun hl => ?_⟩
      · rw [t3]; exact hσr
      · rw [← hH, ← hH1.1]; exact s.grow
      · rw [t3, t1, ← hH, ← hn, ← hH1.1, ← hH1.2]; exact s.loud hl
      · obtain ⟨g1, g2, G, g3, g4⟩ := s.still hl
        refine ⟨by rw [← hH1.1, ← hH]; exact g1, by rw [← hH1.2, ← hn]; exact g2, fun j hj hji => ?_⟩
        rw [t3, t1]
        have hr : ∃ r, nth ((H, n) :: hist) j = some r ∧ r.1 = Hs (i - j) := by
          cases j with
          | zero => exact ⟨(H, n), rfl, by rw [Nat.sub_zero]; exact hH⟩
          | succ j =>
            refine ⟨_, hh j (by omega), ?_⟩
            show Hs (i - 1 - j) = _
            rw [show i - 1 - j = i - (j + 1) from by omega]
        obtain ⟨r, e1, e2⟩ := hr
        rw [← e2, ← g3 j r hj e1]
        exact g4
    · exact r1 i o' (by omega) h2 ho'
/-! ### bits of what is ahead -/
theorem fold_or {A : List Nat} {i j : Nat} : ∀ (l : List Edge) (m : Nat), (l.foldl (fun m e => if Region.binds .any e && decide (e.on < i) then m ||| (2 ^ e.on ||| A.getD e.on 0) else m) m).testBit j = true →
    m.testBit j = true ∨ ∃ e ∈ l, Region.binds .any e = true ∧ e.on < i ∧ (e.on = j ∨ (A.getD e.on 0).testBit j = true)
  | [], m, h => .inl h
  | e :: l, m, h => by
    simp only [List.foldl_cons] at h
    rcases fold_or l _ h with h1 | ⟨e', h1, h2⟩
    · split at h1
      · rename_i hc
        simp only [Bool.and_eq_true, decide_eq_true_eq] at hc
        simp only [Nat.testBit_or, Bool.or_eq_true, Nat.testBit_two_pow, decide_eq_true_eq] at h1
        rcases h1 with h1 | h1 | h1
        · exact .inl h1
        · exact .inr ⟨e, List.mem_cons_self, hc.1, hc.2, .inl h1⟩
        · exact .inr ⟨e, List.mem_cons_self, hc.1, hc.2, .inr h1⟩
      · exact .inl h1
    · exact .inr ⟨e', List.mem_cons_of_mem _ h1, h2⟩
theorem befA_listed {A : List Nat} (hA : ancOk A ops = true) {listed : Array Bool} (hd : Down ops listed) {j : Nat} : ∀ (m i : Nat), i < m → (∀ o, ops[i]? = some o → ∀ e ∈ o.after, Region.binds .any e = true → listed.getD e.on false = true) → i < ops.size → befA A j i = true → listed.getD j false = true
  | 0, i, hm, _, _, _ => by omega
  | m + 1, i, hm, hi, hsz, hb => by
    have ho := Array.getElem?_eq_getElem hsz
    have h1 := List.all_eq_true.1 hA i (by simpa using hsz)
    simp only [ho, beq_iff_eq] at h1
    unfold befA at hb
    rw [h1] at hb
    rcases fold_or _ _ hb with h2 | ⟨e, h2, h3, h4, h5⟩
    · simp at h2
    · have hl := hi _ ho e (by simpa using h2) h3
      rcases h5 with h5 | h5
      · exact h5 ▸ hl
      · exact befA_listed hA hd m e.on (by omega) (fun o' ho' e' he' hb' => hd e.on o' ho' hl e' he' hb') (by omega) h5
theorem no_loud3 {Bs : List DB} {σ0 : AE} {val : Nat → AV} {σs : Nat → AE} {Hs : Nat → AH} {ns : Nat → Nat} (ht : ∀ i o, ops[i]? = some o → At ops Bs σ0 val σs Hs ns i o) : ∀ (d p : Nat), p + d ≤ ops.size → (∀ j o, p ≤ j → j < p + d → ops[j]? = some o → loudOp o.op = false) → Hs (p + d) = Hs p ∧ ns (p + d) = ns p
  | 0, _, _, _ => ⟨rfl, rfl⟩
  | d + 1, p, hle, hq => by
    obtain ⟨h1, h2⟩ := no_loud3 ht d p (by omega) fun j o a b => hq j o a (by omega)
    have hlt : p + d < ops.size := by omega
    have ho := Array.getElem?_eq_getElem hlt
    obtain ⟨b, _, _, hs⟩ := (ht _ _ ho).bs
    obtain ⟨g1, g2, _⟩ := hs (hq (p + d) _ (by omega) (by omega) ho)
    exact ⟨by rw [← h1]; exact g1, by rw [← h2]; exact g2⟩
theorem grows3 {Bs : List DB} {σ0 : AE} {val : Nat → AV} {σs : Nat → AE} {Hs : Nat → AH} {ns : Nat → Nat} (ht : ∀ i o, ops[i]? = some o → At ops Bs σ0 val σs Hs ns i o) : ∀ (d p : Nat), p + d ≤ ops.size → GrowsA (Hs p) (Hs (p + d))
  | 0, _, _ => .refl _
  | d + 1, p, hle => (grows3 ht d p (by omega)).trans (ht _ _ (Array.getElem?_eq_getElem (show p + d < ops.size by omega))).grow
theorem dyn3_any {Bs : List DB} {σ0 σ' : AE} {val : Nat → AV} {σs : Nat → AE} {Hs : Nat → AH} {ns : Nat → Nat} {N : Env → Hp → Prop} (ht : ∀ i o, ops[i]? = some o → At ops Bs σ0 val σs Hs ns i o) (hst : dynOk ops Bs = true)
    (hσ' : ∀ t a, σ'.get t = some a → Sup (curN ops val σ0 (fun _ => true) ops.size t) a) (hr : HR φ (Hs 0) (ns 0) h0 h) (hf : FR φ σ0 ρ) (hN : ∀ ψ ρ' h', PLe φ ψ → HR ψ (Hs ops.size) (ns ops.size) h0 h' → FR ψ σ' ρ' → N ρ' h') : AnyI Try.prog ops ρ h N := by
  simp only [dynOk, Bool.and_eq_true] at hst
  obtain ⟨hed, hanc, hst⟩ := hst
  generalize ancsGo ops.toList 0 [] = A at hanc hst
  have per : ∀ i o, ops[i]? = some o → ∃ b, Bs[i]? = some b ∧ (∀ t ∈ b.2, t ∈ looks ops o) ∧ (match b.1 with
      | none => isCallV o.op = true
      | some k => loudOp o.op = false ∧ k ≤ i ∧ ∀ j, j < i - k → loudAt ops j = true → befA A j i = true) ∧
      ∀ j a, j < i → ops[j]? = some a → (a.apart ops o = true ∧ (loudOp a.op = false ∨ loudOp o.op = false)) ∨ befA A j i = true := fun i o ho => by
    have hisz := (Array.getElem?_eq_some_iff.1 ho).1
    have h1 := List.all_eq_true.1 hst i (by simpa using hisz)
    unfold opOk at h1
    rw [ho] at h1
    split at h1
    · rename_i o' b e1 e2
      injection e1 with e1
      subst e1
      simp only [Bool.and_eq_true, List.all_eq_true] at h1
      obtain ⟨⟨⟨h1, _⟩, h2⟩, h3⟩ := h1
      refine ⟨b, e2, fun t htm => by simpa using h1 t htm, ?_, fun j a hlt hj => ?_⟩
      · split at h2
        · rename_i e; simp only [e]; exact h2
        · rename_i k e
          simp only [e]
          simp only [Bool.and_eq_true, Bool.not_eq_true', decide_eq_true_eq, List.all_eq_true, Bool.or_eq_true] at h2
          exact ⟨h2.1, h2.2.1, fun j hj hl => by
            rcases h2.2.2 j (by simpa using hj) with q | q
            · rw [hl] at q; cases q
            · exact q⟩
      · have := h3 j (by simpa using hlt)
        rw [hj] at this
        simpa only [Bool.or_eq_true, Bool.and_eq_true, Bool.not_eq_true'] using this
    · cases h1
  have pair : ∀ i j a b, j < i → ops[i]? = some b → ops[j]? = some a → (a.apart ops b = true ∧ (loudOp a.op = false ∨ loudOp b.op = false)) ∨ befA A j i = true := fun i j a b hlt hi hj => by
    obtain ⟨_, _, _, _, h4⟩ := per i b hi
    exact h4 j a hlt hj
  refine ⟨hed, fun listed ρ1 h1 => ∃ ψ p, PLe φ ψ ∧ p ≤ ops.size ∧ HR ψ (Hs p) (ns p) h0 h1 ∧ (∀ j o, ops[j]? = some o → loudOp o.op = true → (listed.getD j false = true ↔ j < p)) ∧
      ∀ t a, curN ops val σ0 (fun j => listed.getD j false) ops.size t = some a → VR ψ a (ρ1 t), ?_, ?_, ?_⟩
  · refine ⟨φ, 0, PLe.refl _, Nat.zero_le _, hr, fun j o hj _ => ?_, fun t a e => ?_⟩
    · have : (Array.replicate ops.size false).getD j false = false := by simp [Array.getD]
      rw [this]; simp
    · have : curN ops val σ0 (fun j => (Array.replicate ops.size false).getD j false) ops.size t = curN ops val σ0 (fun j => decide (j < 0)) ops.size t :=
        curN_congr _ fun j _ _ => by simp [Array.getD]
      rw [this, curN_cut _ (Nat.zero_le _)] at e
      exact hf t a e
  · intro listed i o ρ1 h1 hsz hdn ho hun hedge ⟨ψ, p, hp, hple, hr1, hlo, henv⟩
    have hi : i < ops.size := (Array.getElem?_eq_some_iff.1 ho).1
    have before : ∀ j, befA A j i = true → listed.getD j false = true := fun j hb => befA_listed hanc hdn (i + 1) i (by omega) (fun o' ho' e he hb' => by
      rw [ho] at ho'; injection ho' with ho'; subst ho'
      exact hedge e he hb') hi hb
    have behind : ∀ j, j < ops.size → befA A i j = true → listed.getD j false = false := fun j hj hb => by
      cases hl : listed.getD j false with
      | false => rfl
      | true =>
        have := befA_listed hanc hdn (j + 1) j (by omega) (fun o' ho' e he hb' => hdn j o' ho' hl e he hb') hj hb
        rw [hun] at this; cases this
    have hlook : ∀ t, t ∈ looks ops o → curN ops val σ0 (fun j => listed.getD j false) ops.size t = curN ops val σ0 (fun _ => true) i t := fun t htl => by
      rw [← curN_cut (val := val) ops.size (Nat.le_of_lt hi)]
      refine curN_congr _ fun j hj hd => ?_
      have hjo := Array.getElem?_eq_getElem hj
      have hd2 : ops[j].dst = some t := by simpa [dstAt, hjo] using hd
      by_cases hji : j = i
      · subst hji; simp [hun]
      · by_cases hlt : j < i
        · rcases pair i j _ _ hlt ho hjo with ⟨ha, _⟩ | hb
          · exact absurd htl ((Oper.apart_spec ha).1 t hd2)
          · rw [before j hb]; simp [hlt]
        · rcases pair j i _ _ (by omega) hjo ho with ⟨ha, _⟩ | hb
          · exact absurd htl ((Oper.apart_spec ha).2.2 t hd2)
          · rw [behind j hj hb]; simp [hlt]
    have hat := ht i o ho
    obtain ⟨b, hb1, hb2, hb3, _⟩ := per i o ho
    obtain ⟨b', hb4, hloud, hstill⟩ := hat.bs
    rw [hb1] at hb4
    injection hb4 with hb4
    subst hb4
    have hsl : SlotR ψ (σs i) b.2 ρ1 := fun t htm => by
      rcases getq_some depthE t (σs i) _ rfl with e | e
      · show VR ψ (getq (pathOf depthE t) (σs i)) (ρ1 t)
        rw [e]; exact .bad _
      · refine hat.look t _ e ψ _ fun a' ha' => henv t a' ?_
        rw [hlook t (hb2 t htm)]; exact ha'
    have hset : ∀ j, (listed.setIfInBounds i true).getD j false = if j = i then true else listed.getD j false := fun j => getD_set (by omega)
    have henv2 : ∀ {χ : Ph} {u : Value}, PLe ψ χ → VR χ (val i) u → ∀ t a, curN ops val σ0 (fun j => (listed.setIfInBounds i true).getD j false) ops.size t = some a → VR χ a ((ρ1.put o.dst u) t) := fun {χ u} hpχ hu t a e => by
      rw [curN_upd (L := fun j => listed.getD j false) (i := i) (fun j hj => by simp only [hset, if_neg hj]) (by simp only [hset, if_true]) ops.size hi (fun j h1 h2 hd1 hd2 => by
        have hjo := Array.getElem?_eq_getElem h2
        have e1 : o.dst = some t := by simpa [dstAt, ho] using hd1
        have e2 : ops[j].dst = some t := by simpa [dstAt, hjo] using hd2
        rcases pair j i _ _ h1 hjo ho with ⟨ha, _⟩ | hb
        · exact absurd e2 ((Oper.apart_spec ha).2.1 t e1)
        · exact behind j h2 hb)] at e
      by_cases hd : o.dst = some t
      · rw [if_pos (by simpa [dstAt, ho] using hd)] at e
        injection e with e
        subst e
        rw [hd, put_some, upd_same]; exact hu
      · rw [if_neg (by simpa [dstAt, ho] using hd)] at e
        have := VR.mono hpχ _ _ (henv t a e)
        rwa [put_agree (fun x hx => by intro q; exact hd (by rw [hx, q]))]
    cases hl : loudOp o.op with
    | true =>
      have hpi : p ≤ i := by
        have := (hlo i o ho hl)
        rw [hun] at this
        by_cases hc : i < p
        · have := this.2 hc; cases this
        · omega
      have hnol : ∀ j o', p ≤ j → j < p + (i - p) → ops[j]? = some o' → loudOp o'.op = false := fun j o' h1 h2 hj => by
        cases hlj : loudOp o'.op with
        | false => rfl
        | true =>
          rcases pair i j _ _ (by omega) ho hj with ⟨_, hx⟩ | hb
          · rcases hx with hx | hx
            · rw [hlj] at hx; cases hx
            · rw [hl] at hx; cases hx
          · have := (hlo j o' hj hlj).1 (before j hb)
            omega
      obtain ⟨c1, c2⟩ := no_loud3 ht (i - p) p (by omega) hnol
      rw [show p + (i - p) = i from by omega] at c1 c2
      rw [← c1, ← c2] at hr1
      refine hloud hl ψ h0 h1 ρ1 _ hr1 hsl fun χ u g hpχ hg hu => ⟨χ, i + 1, hp.trans hpχ, hi, hg, fun j o' hj hlj => ?_, henv2 hpχ hu⟩
      rw [hset]
      by_cases hji : j = i
      · subst hji; simp
      · rw [if_neg hji]
        have hjsz := (Array.getElem?_eq_some_iff.1 hj).1
        by_cases hlt : j < i
        · have : listed.getD j false = true := by
            rcases pair i j _ _ hlt ho hj with ⟨_, hx⟩ | hb
            · rcases hx with hx | hx
              · rw [hlj] at hx; cases hx
              · rw [hl] at hx; cases hx
            · exact before j hb
          rw [this]; simp; omega
        · have : listed.getD j false = false := by
            rcases pair j i _ _ (by omega) hj ho with ⟨_, hx⟩ | hb
            · rcases hx with hx | hx
              · rw [hl] at hx; cases hx
              · rw [hlj] at hx; cases hx
            · exact behind j hjsz hb
          rw [this]; simp; omega
    | false =>
      obtain ⟨_, _, hsf⟩ := hstill hl
      have hk : ∃ k, b.1 = some k ∧ k ≤ i ∧ ∀ j, j < i - k → loudAt ops j = true → befA A j i = true := by
        split at hb3
        · rename_i e
          unfold isCallV at hb3
          split at hb3
          · rename_i f xs ts e2
            rw [e2] at hl; cases hl
          · cases hb3
        · rename_i k e
          exact ⟨k, e, hb3.2⟩
      obtain ⟨k, hk1, hk2, hk3⟩ := hk
      have hGr : GrowsA (Hs (i - k)) (Hs p) := by
        by_cases hpk : i - k ≤ p
        · have := grows3 ht (p - (i - k)) (i - k) (by omega)
          rwa [show i - k + (p - (i - k)) = p from by omega] at this
        · obtain ⟨c1, _⟩ := no_loud3 ht (i - k - p) p (by omega) fun j o' h1 h2 hj => by
            cases hlj : loudOp o'.op with
            | false => rfl
            | true =>
              have h3 := hk3 j (by omega) (by unfold loudAt; rw [hj]; exact hlj)
              have := (hlo j o' hj hlj).1 (before j h3)
              omega
          rw [show p + (i - k - p) = i - k from by omega] at c1
          rw [c1]; exact .refl _
      refine hsf k hk1 hk2 ψ (ns p) h0 h1 ρ1 _ (hr1.less hGr) hsl fun u hu => ⟨ψ, p, hp, hple, hr1, fun j o' hj hlj => ?_, henv2 (PLe.refl _) hu⟩
      rw [hset]
      by_cases hji : j = i
      · subst hji; rw [ho] at hj; injection hj with hj; subst hj; rw [hl] at hlj; cases hlj
      · rw [if_neg hji]; exact hlo j o' hj hlj
  · intro listed ρ1 h1 hsz hall ⟨ψ, p, hp, hple, hr1, hlo, henv⟩
    obtain ⟨c1, c2⟩ := no_loud3 ht (ops.size - p) p (by omega) fun j o a b hj => by
      cases hl : loudOp o.op with
      | false => rfl
      | true =>
        have := (hlo j o hj hl).1 (hall j (by omega))
        omega
    rw [show p + (ops.size - p) = ops.size from by omega] at c1 c2
    rw [← c1, ← c2] at hr1
    refine hN ψ ρ1 h1 hp hr1 fun t a e => hσ' t a e ψ _ fun a' ha' => henv t a' ?_
    rw [← ha']
    exact curN_congr _ fun j hj _ => hall j hj
theorem dynL_sound (hcd : CPok cd) (hcs : CSing cd) {Bs : List DB} {σ : AE} {H : AH} {n : Nat} {kn : KP} {N : Env → Hp → Prop} (hst : dynOk ops Bs = true) (hs : dynL ops ops.toList Bs cd [] σ H n kn) (hr : HR φ H n h0 h) (hf : FR φ σ ρ)
    (hN : ∀ ψ σ' H' n' ρ' h', PLe φ ψ → HR ψ H' n' h0 h' → FR ψ σ' ρ' → kn σ' H' n' → N ρ' h') : AnyI Try.prog ops ρ h N := by
  have hst2 := hst
  simp only [dynOk, Bool.and_eq_true] at hst2
  obtain ⟨tr, σ', H', n', h1, h2⟩ := dynL_tr hcd hcs ops.toList Bs [] σ H n (fun i o b ho hb => by
    rw [Array.getElem?_toList] at ho
    have hisz := (Array.getElem?_eq_some_iff.1 ho).1
    have h1 := List.all_eq_true.1 hst2.2.2 i (by simpa using hisz)
    unfold opOk at h1
    rw [ho, hb] at h1
    simp only [Bool.and_eq_true] at h1
    refine ⟨?_, h1.1.1.2⟩
    unfold bOk
    have h2 := h1.1.2
    split at h2
    · rename_i e; rw [e]; exact h2
    · rename_i k e
      rw [e]
      simp only [Bool.and_eq_true, Bool.not_eq_true'] at h2
      exact h2.1) hs
  let dflt : TR := ⟨.bad, .nil, H', n'⟩
  let at_ : Nat → TR := fun j => (tr[j]?).getD dflt
  have hat : ∀ (j : Nat) e, tr[j]? = some e → at_ j = e := fun j e hj => by simp only [at_, hj, Option.getD_some]
  have hsize : ops.toList.length = ops.size := Array.length_toList
  have hlen : tr.length = ops.size := by
    rw [← hsize]
    exact tr_length h1
  let Hs : Nat → AH := fun j => if j < tr.length then (at_ j).H else H'
  let ns : Nat → Nat := fun j => if j < tr.length then (at_ j).n else n'
  have hend : Hs ops.size = H' ∧ ns ops.size = n' := ⟨by simp only [Hs]; rw [if_neg (by omega)], by simp only [ns]; rw [if_neg (by omega)]⟩
  have hs0 : H = Hs 0 ∧ n = ns 0 := by
    cases hl : ops.toList with
    | nil =>
      have e0 : ops.size = 0 := by rw [← hsize, hl]; rfl
      rw [hl] at h1
      cases h1
      simp only [Hs, ns]
      rw [if_neg (by omega), if_neg (by omega)]
      exact ⟨rfl, rfl⟩
    | cons o l =>
      rw [hl] at h1
      cases h1 with
      | cons s r => exact ⟨rfl, rfl⟩
  obtain ⟨told, _, hfin⟩ := tr_told (Bs := Bs) (σ0 := σ) (val := fun j => (at_ j).v) (σs := fun j => (at_ j).σ) (Hs := Hs) (ns := ns) h1 0 (fun j => by rw [Nat.zero_add, Array.getElem?_toList]) (fun j => by rw [Nat.zero_add]) (fun t a q => .refl q) (fun j hj => by omega) hs0.1 hs0.2
    (fun j e hj => by
      have hjl := (List.getElem?_eq_some_iff.1 hj).1
      rw [Nat.zero_add]
      refine ⟨by rw [hat j e hj], by rw [hat j e hj], ?_, ?_⟩
      · simp only [Hs]; rw [if_pos hjl, hat j e hj]
      · simp only [ns]; rw [if_pos hjl, hat j e hj])
    (by simp only [Hs]; rw [if_neg (by rw [hlen, hsize]; omega)])
    (by simp only [ns]; rw [if_neg (by rw [hlen, hsize]; omega)])
  rw [Nat.zero_add, hsize] at told hfin
  refine dyn3_any (fun i o ho => told i o (Nat.zero_le _) (Array.getElem?_eq_some_iff.1 ho).1 ho) hst hfin (by rw [← hs0.1, ← hs0.2]; exact hr) hf ?_
  rw [hend.1, hend.2]
  exact fun ψ ρ' h' a b c => hN ψ σ' H' n' ρ' h' a b c h2
end
end Go.Proofs.Ytaejmcgcfopmkaa
