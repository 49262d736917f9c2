/- The machine that asks: regions that draw their order. -/
import Derived.Test.YtaejmcgcfopmkaaEvU
import Derived.Test.YtaejmcgcfopmkaaEvX
namespace Go.Proofs.Ytaejmcgcfopmkaa
open Go Go.RowKit
/-- One outcome. -/
def Sg {α : Type} (m : (α → Prop) → Prop) : Prop := ∀ κ, m κ → ∃ v, κ v ∧ ∀ κ' : α → Prop, κ' v → m κ'
section
variable {α β : Type}
theorem Sg.one (a : α) : Sg (fun κ => κ a) := fun _ h => ⟨a, h, fun _ h => h⟩
theorem Sg.no : Sg (fun _ : α → Prop => False) := fun _ h => h.elim
theorem Sg.opt (o : Option α) : Sg (fun κ => optP o κ) := fun κ h => by
  obtain ⟨a, rfl, k⟩ := optP_inv h
  exact ⟨a, k, fun _ h => h⟩
theorem Sg.ask (o : Option α) : Sg (fun κ => Ask o κ) := fun _ ⟨a, h, k⟩ => ⟨a, k, fun _ k' => ⟨a, h, k'⟩⟩
theorem Sg.idx (i : Int) (len : Nat) : Sg (fun κ => Idx i len κ) := fun _ ⟨j, h, lt, k⟩ => ⟨j, k, fun _ k' => ⟨j, h, lt, k'⟩⟩
theorem Sg.bind {m : (α → Prop) → Prop} {k : α → (β → Prop) → Prop} (hm : Sg m) (hk : ∀ a, Sg (k a)) : Sg (fun κ => m (fun a => k a κ)) := fun κ h => by
  obtain ⟨a, h1, h2⟩ := hm _ h
  obtain ⟨v, h3, h4⟩ := hk a _ h1
  exact ⟨v, h3, fun κ' k' => h2 _ (h4 _ k')⟩
theorem Sg.map {m : (α → Prop) → Prop} (f : α → β) (hm : Sg m) : Sg (fun κ => m (fun a => κ (f a))) := hm.bind fun a => Sg.one (f a)
theorem Sg.optb {k : α → (β → Prop) → Prop} (o : Option α) (hk : ∀ a, Sg (k a)) : Sg (fun κ => optP o fun a => k a κ) := Sg.bind (Sg.opt o) hk
theorem Sg.bif {b : Bool} {m : (α → Prop) → Prop} (hm : Sg m) : Sg (fun κ => bifP b (m κ) False) := by
  cases b
  · exact Sg.no
  · exact hm
theorem Sg.bif2 {b : Bool} {m m' : (α → Prop) → Prop} (hm : Sg m) (hm' : Sg m') : Sg (fun κ => bifP b (m κ) (m' κ)) := by
  cases b
  · exact hm'
  · exact hm
theorem Sg.bifn {b : Bool} {m : (α → Prop) → Prop} (hm : Sg m) : Sg (fun κ => bifP b False (m κ)) := Sg.bif2 Sg.no hm
theorem Sg.and {p : Prop} {m : (α → Prop) → Prop} (hm : Sg m) : Sg (fun κ => p ∧ m κ) := fun κ ⟨h1, h2⟩ => by
  obtain ⟨v, h3, h4⟩ := hm κ h2
  exact ⟨v, h3, fun κ' k' => ⟨h1, h4 κ' k'⟩⟩
theorem Sg.fork {q : Bool} {m m' : (α → Prop) → Prop} (hm : Sg m) (hm' : Sg m') : Sg (fun κ => Fork q (m κ) (m' κ)) := fun κ h => by
  cases q with
  | true =>
    obtain ⟨v, h3, h4⟩ := hm κ (h.t rfl)
    exact ⟨v, h3, fun κ' k' => ⟨fun _ => h4 κ' k', fun q => by cases q⟩⟩
  | false =>
    obtain ⟨v, h3, h4⟩ := hm' κ (h.f rfl)
    exact ⟨v, h3, fun κ' k' => ⟨(fun q => by cases q), fun _ => h4 κ' k'⟩⟩
theorem Sg.pick (c a b : AV) : Sg (fun κ => pickP c (κ a) (κ b)) := by
  cases c
  case bool q => cases q <;> exact Sg.one _
  case sb q => exact Sg.fork (Sg.one _) (Sg.one _)
  all_goals exact Sg.no
end
theorem Sg.sym {op : BinOp} {k j : IntKind} {a b : Int} {c : Bool} : Sg (fun κ => symP op k j a b c κ) := by
  cases op
  case shl => cases c <;> first | exact Sg.and (Sg.one _) | exact Sg.bifn (Sg.one _)
  case shr => cases c <;> first | exact Sg.and (Sg.one _) | exact Sg.bifn (Sg.one _)
  case quo => cases c <;> first | exact Sg.bif (Sg.and (Sg.one _)) | exact Sg.bif (Sg.bifn (Sg.one _))
  case rem => cases c <;> first | exact Sg.bif (Sg.and (Sg.one _)) | exact Sg.bif (Sg.bifn (Sg.one _))
  all_goals exact Sg.bif (Sg.one _)
theorem Sg.str {op : BinOp} {a b : List Nat} : Sg (fun κ => strP op a b κ) := by
  cases op
  case add => exact Sg.and (Sg.one _)
  all_goals first | exact Sg.one _ | exact Sg.no
theorem Sg.bol {op : BinOp} {t : TypeId} {a b : Bool} : Sg (fun κ => bolP op t a b κ) := by
  cases op <;> first | exact Sg.bif (Sg.one _) | exact Sg.bif Sg.no
theorem Sg.bin {op : BinOp} {t : TypeId} {x y : AV} {H : AH} : Sg (fun κ => binP op t x y H κ) := by
  unfold binP
  split <;> first | exact Sg.sym | exact Sg.str | exact Sg.bol | exact Sg.opt _
theorem Sg.un {op : UnOp} {x : AV} : Sg (fun κ => unP op x κ) := by
  unfold unP
  split <;> first | exact Sg.one _ | exact Sg.opt _
theorem Sg.mm {q : Bool} {x y : AV} : Sg (fun κ => mmP q x y κ) := by
  unfold mmP
  split <;> first | exact Sg.one _ | exact Sg.opt _
theorem Sg.len {t : TypeId} {x : AV} {H : AH} : Sg (fun κ => lenP t x H κ) := by
  unfold lenP
  split <;> first | exact Sg.map mk (Sg.opt _) | exact Sg.opt _
theorem Sg.ix {ix : AV} {len : Nat} {s : Bool} : Sg (fun κ => ixP ix len s κ) := by
  unfold ixP
  split <;> first | exact Sg.idx _ _ | exact Sg.opt _
theorem Sg.indexAddr {t : TypeId} {x ix : AV} : Sg (fun κ => indexAddrP t x ix κ) := by
  have h : ∀ κ, indexAddrP t x ix κ = (match Try.prog.underlying t, x with
    | some (.slice e), .sl b o n _ _ => optP (tySize Try.prog e) fun k => ixP ix n false fun i => κ (.ptr b (o + i * k))
    | some (.slice e), .sy b o n _ _ => optP (tySize Try.prog e) fun k => ixP ix n true fun i => κ (.ptr b (o + i * k))
    | some (.array len e), .ptr b o => optP (tySize Try.prog e) fun k => ixP ix len false fun i => κ (.ptr b (o + i * k))
    | _, _ => False) := fun _ => rfl
  simp only [h]
  split <;> first | exact Sg.no | exact Sg.optb _ fun k => Sg.map _ Sg.ix
theorem Sg.index {t : TypeId} {x ix : AV} : Sg (fun κ => indexP t x ix κ) := by
  have h : ∀ κ, indexP t x ix κ = (match Try.prog.underlying t, x with
    | some (.array len e), .agg l => optP (tySize Try.prog e) fun k => ixP ix len false fun i => optP (epart Try.prog e l (i * k)) κ
    | some .string, .str s => ixP ix s.length false fun i => optP (nth s i) fun c => (match ix with
      | .int _ _ => κ (.int .u8 (Int.ofNat c))
      | _ => κ (.si .u8 (Int.ofNat c)))
    | some .string, .ss s => ixP ix s.length true fun i => Ask (nth s i) fun c => κ (.si .u8 (Int.ofNat c))
    | _, _ => False) := fun _ => rfl
  simp only [h]
  split
  · exact Sg.optb _ fun k => Sg.bind Sg.ix fun i => Sg.opt _
  · refine Sg.bind Sg.ix fun i => Sg.optb _ fun c => ?_
    split <;> exact Sg.one _
  · exact Sg.bind Sg.ix fun i => Sg.map _ (Sg.ask _)
  · exact Sg.no
theorem Sg.get {l : List AV} {t : TypeId} {o : Nat} : Sg (fun κ => getP l t o κ) := by
  have h : ∀ κ, getP l t o κ = (match tyAgg Try.prog t with
    | some false => optP (nth l o) κ
    | some true => optP (tySize Try.prog t) fun m => optP (subL l o m) fun r => κ (.agg r)
    | none => False) := fun _ => rfl
  simp only [h]
  split
  · exact Sg.opt _
  · exact Sg.optb _ fun m => Sg.map _ (Sg.opt _)
  · exact Sg.no
theorem Sg.load {t : TypeId} {a : AV} {H : AH} : Sg (fun κ => loadP t a H κ) := by
  have h : ∀ κ, loadP t a H κ = (match a with
    | .ptr b o => (match H.get b with
      | some (.cells l _) => getP l t o κ
      | some (.ro l) => getP l t o κ
      | _ => False)
    | _ => False) := fun _ => rfl
  simp only [h]
  split
  · split <;> first | exact Sg.get | exact Sg.no
  · exact Sg.no
theorem Sg.slice {t : TypeId} {x : AV} {lo hi mx : Option AV} : Sg (fun κ => sliceP t x lo hi mx κ) := Sg.bif2 (Sg.map mk (Sg.ask _)) (Sg.opt _)
theorem Sg.q {o : Op} {σ : AE} {H : AH} : Sg (fun κ => qP o σ H κ) := by
  unfold qP
  split
  · exact Sg.one _
  · exact Sg.one _
  · exact Sg.pick _ _ _
  · exact Sg.load
  · exact Sg.bin
  · exact Sg.un
  · exact Sg.indexAddr
  · exact Sg.index
  · exact Sg.slice
  · split <;> first | exact Sg.len | exact Sg.no
  · split <;> first | exact Sg.mm | exact Sg.no
  · split <;> first | exact Sg.mm | exact Sg.no
  · exact Sg.opt _
section
variable {φ : Ph} {H : AH} {n : Nat} {h0 h : Hp} {σ : AE} {ρ : Env} {cd : CP}
theorem qP_sound (hr : HR φ H n h0 h) (hf : FR φ σ ρ) {o : Op} {κ : AV → Prop} {K : Value → Prop} (hs : qP o σ H κ) (hk : ∀ r u, κ r → VR φ r u → K u) : apure Try.prog o ρ h K := by
  have slow : optP (epure Try.prog o σ H) κ → apure Try.prog o ρ h K := fun hs => by
    obtain ⟨r, h1, h2⟩ := optP_inv hs
    exact epure_sound hr hf h1 fun u hu => hk _ u h2 hu
  unfold qP at hs
  split at hs
  · exact hk _ _ hs (hf.ev _)
  · exact hk _ _ hs (hf.ev _)
  · rename_i c a b
    obtain ⟨q, h1, h2, h3⟩ := pickP_inv (hf.ev c) hs
    simp only [apure, h1]
    cases q with
    | true => exact hk _ _ (h2 rfl) (hf.ev _)
    | false => exact hk _ _ (h3 rfl) (hf.ev _)
  · exact loadP_sound hr (hf.ev _) hs hk
  · exact binP_sound hr (hf.ev _) (hf.ev _) hs hk
  · exact unP_sound (hf.ev _) hs hk
  · exact indexAddrP_sound (hf.ev _) (hf.ev _) hs hk
  · exact indexP_sound (hf.ev _) (hf.ev _) hs hk
  · rename_i t x lo hi mx
    show aslice Try.prog t (ρ.ev x) (lo.map ρ.ev) (hi.map ρ.ev) (mx.map ρ.ev) K
    unfold sliceP at hs
    cases hq : (isS (eev σ x) || (sliceP.optS (lo.map (eev σ)) || (sliceP.optS (hi.map (eev σ)) || sliceP.optS (mx.map (eev σ))))) with
    | true =>
      rw [hq] at hs
      obtain ⟨r, h1, h2⟩ := Ask.inv hs
      exact eslice_hd hf (hf.ev x) h1 fun u hu => hk _ u h2 hu.mk
    | false =>
      rw [hq] at hs
      obtain ⟨r, h1, h2⟩ := optP_inv hs
      exact eslice_sound hf (hf.ev x) h1 fun u hu => hk _ u h2 hu
  · rename_i xs ts
    show qbuiltin Try.prog .len ts.toList (xs.toList.map ρ.ev) h K
    split at hs
    · rename_i t x e1 e2
      obtain ⟨v, e3, h1⟩ := args1 hf e2
      rw [e1, e3]
      exact lenP_sound hr h1 hs hk
    · exact hs.elim
  · rename_i xs ts
    show qbuiltin Try.prog .min ts.toList (xs.toList.map ρ.ev) h K
    split at hs
    · rename_i x y e2
      obtain ⟨v, u, e3, h1, h2⟩ := args2 hf e2
      rw [e3]
      exact mmP_sound h1 h2 hs hk
    · exact hs.elim
  · rename_i xs ts
    show qbuiltin Try.prog .max ts.toList (xs.toList.map ρ.ev) h K
    split at hs
    · rename_i x y e2
      obtain ⟨v, u, e3, h1, h2⟩ := args2 hf e2
      rw [e3]
      exact mmP_sound h1 h2 hs hk
    · exact hs.elim
  · exact slow hs
theorem getq_setq {v : AV} : ∀ {p : Pa} {σ : AE}, getq p σ ≠ .bad → getq p (setq v p σ) = v
  | .stop, σ, h => (h rfl).elim
  | .here, .nil, h => rfl
  | .here, .node _ _ _, h => rfl
  | .lo p, .nil, h => (h rfl).elim
  | .lo p, .node l u r, h => getq_setq (p := p) (σ := l) h
  | .hi p, .nil, h => (h rfl).elim
  | .hi p, .node l u r, h => getq_setq (p := p) (σ := r) h
def GrowsA (H H' : AH) : Prop := ∀ b o, H.get b = some o → H'.get b = some o
theorem GrowsA.refl (H : AH) : GrowsA H H := fun _ _ h => h
theorem GrowsA.trans {A B C : AH} (h : GrowsA A B) (k : GrowsA B C) : GrowsA A C := fun b o e => k b o (h b o e)
theorem HR.less {H' : AH} (hr : HR φ H' n h0 h) (hg : GrowsA H H') : HR φ H n h0 h :=
  ⟨hr.dom, fun b o hb => hr.live b o (hg b o hb), fun b b' o o' p p' hb hb' => hr.inj b b' o o' p p' (hg _ _ hb) (hg _ _ hb'), hr.base, hr.size⟩
/-- A call has one outcome, and leaves what there was. -/
def CSing (cd : CP) : Prop := ∀ f args H n κ, cd f args H n κ → ∃ v H' n', κ v H' n' ∧ GrowsA H H' ∧ n ≤ n' ∧ ∀ κ' : PK, κ' v H' n' → cd f args H n κ'
def SlotR (φ : Ph) (σ : AE) (ts : List Nat) (ρ : Env) : Prop := ∀ t ∈ ts, VR φ (getq (pa t) σ) (ρ t)
theorem filtq_FR : ∀ {ts : List Nat}, SlotR φ σ ts ρ → FR φ (filtq σ ts) ρ
  | [], _, t, a, h => by cases h
  | s :: ts, hs, t, a, h => by
    have h : (setq (getq (pa s) σ) (pa s) (filtq σ ts)).get t = some a := h
    rcases setq_get depthE _ s t a h with ⟨rfl, h2⟩ | ⟨_, h2⟩
    · rw [← h2]; exact hs _ List.mem_cons_self
    · exact filtq_FR (fun x hx => hs x (List.mem_cons_of_mem _ hx)) t a h2
def StillF (ops : Array Oper) (o : Oper) (ts : List Nat) (σ : AE) (H : AH) (v : AV) : Prop := ∀ (φ : Ph) (n : Nat) (h0 h : Hp) (ρ : Env) (K : Env → Hp → Prop), HR φ H n h0 h → SlotR φ σ ts ρ → (∀ u, VR φ v u → K (ρ.put o.dst u) h) → gstep Try.prog ops o ρ h K
def LoudF (ops : Array Oper) (o : Oper) (ts : List Nat) (σ : AE) (H : AH) (n : Nat) (v : AV) (H' : AH) (n' : Nat) : Prop := ∀ (φ : Ph) (h0 h : Hp) (ρ : Env) (K : Env → Hp → Prop), HR φ H n h0 h → SlotR φ σ ts ρ →
  (∀ ψ u g, PLe φ ψ → HR ψ H' n' h0 g → VR ψ v u → K (ρ.put o.dst u) g) → gstep Try.prog ops o ρ h K
/-- What stands for a slot stands for it by another value too. -/
def Sup (x : Option AV) (a : AV) : Prop := ∀ φ u, (∀ a', x = some a' → VR φ a' u) → VR φ a u
theorem Sup.refl {x : Option AV} {a : AV} (h : x = some a) : Sup x a := fun φ u k => k a h
theorem Sup.trans {x y : Option AV} {a : AV} (h : ∀ b, y = some b → Sup x b) (k : Sup y a) : Sup x a := fun φ u q => k φ u fun b hb => h b hb φ u q
structure StepOk (ops : Array Oper) (o : Oper) (b : DB) (hist : List (AH × Nat)) (σ : AE) (H : AH) (n : Nat) (σr : AE) (v : AV) (H1 : AH) (n1 : Nat) : Prop where
  sup : ∀ t a, σr.get t = some a → Sup (σ.get t) a
  grow : GrowsA H H1
  le : n ≤ n1
  loud : loudOp o.op = true → LoudF ops o b.2 σr H n v H1 n1
  still : loudOp o.op = false → H1 = H ∧ n1 = n ∧ ∃ G, (∀ k r, b.1 = some k → nth ((H, n) :: hist) k = some r → G = r.1) ∧ StillF ops o b.2 σr G v
def bOk (o : Oper) (b : DB) : Prop := match b.1 with
  | none => isCallV o.op = true
  | some _ => loudOp o.op = false
theorem dynOp_step (hcd : CPok cd) (hcs : CSing cd) {ops : Array Oper} {o : Oper} {b : DB} {hist : List (AH × Nat)} {k : KP} (hb : bOk o b) (hgs : gslotIn ops o b.2 = true) (hs : dynOp ops o b cd hist σ H n k) :
    ∃ σr v H1 n1, StepOk ops o b hist σ H n σr v H1 n1 ∧ k (eput σr o.dst v) H1 n1 := by
  let go : AE → Prop := fun σ => (match b.1 with
    | none => (match o.op with
      | .call c => callP c cd (filtq σ b.2) H n fun v H n => k (eput σ o.dst v) H n
      | _ => False)
    | some j => optP (nth ((H, n) :: hist) j) fun r => qP o.op (filtq σ b.2) r.1 fun v => k (eput σ o.dst v) H n)
  have did : ∀ σr, (∀ t a, σr.get t = some a → Sup (σ.get t) a) → (∀ φ ρ h K, SlotR φ σr b.2 ρ → astep Try.prog o.op ρ h (fun v h' => K (ρ.put o.dst v) h') → gstep Try.prog ops o ρ h K) → go σr →
      ∃ σr v H1 n1, StepOk ops o b hist σ H n σr v H1 n1 ∧ k (eput σr o.dst v) H1 n1 := by
    intro σr hsup hg hs
    unfold bOk at hb
    simp only [go] at hs
    cases hb1 : b.1 with
    | none =>
      rw [hb1] at hs hb
      dsimp only at hs hb
      split at hs
      · rename_i c hop
        obtain ⟨callee, args, ats⟩ := c
        rw [hop] at hb
        cases callee with
        | builtin _ => cases hb
        | invoke _ _ => cases hb
        | value f =>
          unfold callP at hs
          dsimp only at hs
          split at hs
          · rename_i g a cs q
            obtain ⟨v, H', n', h1, h2, h3, h4⟩ := hcs _ _ _ _ _ hs
            refine ⟨σr, v, H', n', ⟨hsup, h2, h3, fun _ => ?_, fun hl => ?_⟩, h1⟩
            · intro φ h0 h ρ K hr hsl hk
              refine hg φ ρ h K hsl ?_
              have hs2 : callP ⟨.value f, args, ats⟩ cd (filtq σr b.2) H n fun v2 H2 n2 => v2 = v ∧ H2 = H' ∧ n2 = n' := by
                unfold callP
                dsimp only
                rw [q]
                exact h4 _ ⟨rfl, rfl, rfl⟩
              rw [hop]
              exact callP_sound hcd hr (filtq_FR hsl) hs2 fun ψ v2 H2 n2 u g q1 q2 q3 ⟨e1, e2, e3⟩ => by
                rw [e1] at q3
                rw [e2, e3] at q2
                exact hk ψ u g q1 q2 q3
            · rw [hop] at hl; cases hl
          · exact hs.elim
      · exact hs.elim
    | some j =>
      rw [hb1] at hs hb
      dsimp only at hs hb
      obtain ⟨r, h1, h2⟩ := optP_inv hs
      obtain ⟨v, h3, h4⟩ := Sg.q _ h2
      refine ⟨σr, v, H, n, ⟨hsup, .refl _, Nat.le_refl _, fun hl => (by rw [hl] at hb; cases hb), fun _ => ⟨rfl, rfl, r.1, fun k' r' e1 e2 => ?_, ?_⟩⟩, h3⟩
      · rw [hb1] at e1
        injection e1 with e1
        subst e1
        rw [h1] at e2
        injection e2 with e2
        rw [e2]
      · intro φ n h0 h ρ K hr hsl hk
        refine hg φ ρ h K hsl (quiet_step hb ?_)
        exact qP_sound hr (filtq_FR hsl) (h4 (fun x => x = v) rfl) fun r u e hu => by
          subst e
          exact hk u hu
  have skip : ∀ σr, (∀ t a, σr.get t = some a → Sup (σ.get t) a) → (∀ φ ρ h K, SlotR φ σr b.2 ρ → K (ρ.put o.dst undef) h → gstep Try.prog ops o ρ h K) → k (eput σr o.dst undefA) H n →
      ∃ σr v H1 n1, StepOk ops o b hist σ H n σr v H1 n1 ∧ k (eput σr o.dst v) H1 n1 := by
    intro σr hsup hg hs
    refine ⟨σr, undefA, H, n, ⟨hsup, .refl _, Nat.le_refl _, fun hl => ?_, fun _ => ?_⟩, hs⟩
    · intro φ h0 h ρ K hr hsl hk
      exact hg φ ρ h K hsl (hk φ undef h (PLe.refl _) hr .undef)
    · refine ⟨rfl, rfl, (match b.1 with
        | some k => (match nth ((H, n) :: hist) k with
          | some r => r.1
          | none => H)
        | none => H), fun k r e1 e2 => by rw [e1]; dsimp only; rw [e2], ?_⟩
      intro φ n h0 h ρ K hr hsl hk
      exact hg φ ρ h K hsl (hk undef .undef)
  have same : ∀ t a, σ.get t = some a → Sup (σ.get t) a := fun t a h => .refl h
  have put : ∀ (t : Nat) (q : Bool), getq (pa t) σ = .sb q → ∀ s a, (eput σ (some t) (.bool q)).get s = some a → Sup (σ.get s) a := fun t q hq s a hg => by
    rcases setq_get depthE σ t s a hg with ⟨rfl, h2⟩ | ⟨_, h2⟩
    · subst h2
      intro φ u hu
      rcases getq_some depthE s σ _ hq with e | e
      · cases e
      · have := (hu _ e).sb_inv
        subst this
        exact .bool q
    · exact .refl h2
  have hs : (match o.guard with
    | none => go σ
    | some (j, want) => (match gslot ops j with
      | none => False
      | some t => (match getq (pa t) σ with
        | .bool q => (match q == want with
          | true => go σ
          | false => k (eput σ o.dst undefA) H n)
        | .sb q => (match want with
          | true => Fork q (go (eput σ (some t) (.bool true))) (k (eput (eput σ (some t) (.bool false)) o.dst undefA) H n)
          | false => Fork q (k (eput (eput σ (some t) (.bool true)) o.dst undefA) H n) (go (eput σ (some t) (.bool false))))
        | .tup _ => k (eput σ o.dst undefA) H n
        | _ => False))) := hs
  split at hs
  · rename_i hg
    exact did σ same (fun φ ρ h K _ ha => by unfold gstep; simp only [hg]; exact ha) hs
  · rename_i j want hg
    split at hs
    · exact hs.elim
    · rename_i t ht
      have htm : t ∈ b.2 := by
        unfold gslotIn at hgs
        rw [hg] at hgs
        dsimp only at hgs
        rw [ht] at hgs
        simpa using hgs
      have gw : ∀ (ρ : Env) (h : Hp) (K : Env → Hp → Prop), ρ t = .bool want → astep Try.prog o.op ρ h (fun v h' => K (ρ.put o.dst v) h') → gstep Try.prog ops o ρ h K := fun ρ h K hv ha => by
        unfold gstep; simp only [hg, ht, hv]
        rw [if_pos trivial]; exact ha
      have gn : ∀ (ρ : Env) (h : Hp) (K : Env → Hp → Prop), ρ t = .bool (!want) → K (ρ.put o.dst undef) h → gstep Try.prog ops o ρ h K := fun ρ h K hv ha => by
        unfold gstep; simp only [hg, ht, hv]
        rw [if_neg (by cases want <;> simp)]; exact ha
      split at hs
      · rename_i q hq
        split at hs
        · rename_i hqw
          have hqw2 : q = want := by simpa using hqw
          subst hqw2
          exact did σ same (fun φ ρ h K hsl ha => gw ρ h K (by have := hsl t htm; rw [hq] at this; exact this.bool_inv) ha) hs
        · rename_i hqw
          have hqw2 : q = !want := by cases q <;> cases want <;> simp_all
          exact skip σ same (fun φ ρ h K hsl ha => gn ρ h K (by have := hsl t htm; rw [hq] at this; rw [this.bool_inv, hqw2]) ha) hs
      · rename_i q hq
        -- the slot, by which way it is
        have gb : ∀ (q' : Bool), getq (pa t) (eput σ (some t) (.bool q')) = .bool q' := fun q' => by
          exact getq_setq (by rw [hq]; simp)
        split at hs
        · cases q with
          | true => exact did _ (put t true hq) (fun φ ρ h K hsl ha => gw ρ h K (by have := hsl t htm; rw [gb] at this; exact this.bool_inv) ha) (hs.t rfl)
          | false => exact skip _ (put t false hq) (fun φ ρ h K hsl ha => gn ρ h K (by have := hsl t htm; rw [gb] at this; rw [this.bool_inv]; rfl) ha) (hs.f rfl)
        · cases q with
          | true => exact skip _ (put t true hq) (fun φ ρ h K hsl ha => gn ρ h K (by have := hsl t htm; rw [gb] at this; rw [this.bool_inv]; rfl) ha) (hs.t rfl)
          | false => exact did _ (put t false hq) (fun φ ρ h K hsl ha => gw ρ h K (by have := hsl t htm; rw [gb] at this; exact this.bool_inv) ha) (hs.f rfl)
      · rename_i us hq
        refine skip σ same (fun φ ρ h K hsl ha => ?_) hs
        have := hsl t htm
        rw [hq] at this
        obtain ⟨cs, hv, _⟩ := this.tup_inv
        unfold gstep; simp only [hg, ht, hv]
        exact ha
      · exact hs.elim
end
end Go.Proofs.Ytaejmcgcfopmkaa
