/- The engine: regions that draw, code, functions. -/
import Derived.Test.YtaejmcgcfopmkaaEngDraw
namespace Go.Proofs.Ytaejmcgcfopmkaa
open Go Go.RowKit

/-! ### a region that draws its order, all of it quiet -/
def qconv (P : Program) (src dst : TypeId) (x : Value) (h : Hp) (K : Value → Prop) : Prop :=
  match x with
  | .int _ n => (match P.underlying src, P.underlying dst with
    | some (.int _), some (.int k) => K (.int k (k.wrap n))
    | _, _ => False)
  | .slice base len _ => (match P.underlying src, P.underlying dst with
    | some (.slice e), some .string => P.underlying e = some (.int .u8) ∧ (match base with
      | none => K (.string ByteArray.empty)
      | some ⟨b, o, none⟩ => (match h.f b with
        | some (.cells c _ _) => (match (cellsL c o len).bind bytesOf with
          | some bs => K (.string ⟨bs.toArray⟩)
          | none => False)
        | _ => False)
      | _ => False)
    | _, _ => False)
  | _ => False
theorem qconv_sound {P : Program} {src dst : TypeId} {x : Value} {h : Hp} {K : Value → Prop} (hk : qconv P src dst x h K) : PG P (convert src dst x) h K := by
  unfold qconv at hk
  split at hk
  · rename_i k n
    split at hk
    · rename_i k1 k2 h1 h2
      exact .here (fun w _ => by simp [convert, run_underlying h1, run_underlying h2, Conv.intToInt]) hk
    · exact hk.elim
  · rename_i base len cap
    split at hk
    · rename_i e h1 h2
      obtain ⟨he, hk⟩ := hk
      split at hk
      · refine .here (fun w _ => ?_) hk
        exact run_convert_bytes_nil w src e h1 he _ _ dst h2
      · rename_i b o
        split at hk
        · rename_i c t fz hc
          split at hk
          · rename_i bs hb
            refine .here (fun w hi => ?_) hk
            cases hl : cellsL c o len with
            | none => rw [hl] at hb; cases hb
            | some l =>
              rw [hl] at hb
              obtain ⟨ns, rfl, rfl⟩ := bytesOf_spec l bs hb
              have hload := run_loadCells (P := P) (w := w) (fun i => hi.cell (i := i) hc) hl
              rw [run_convert_bytes_string w src dst e _ _ _ h1 he h2, run_bytesToString w _ _ _ ns hload, foldl_push_bytes]
              simp [ByteArray.empty, ByteArray.emptyWithCapacity]
              rfl
          · exact hk.elim
        · exact hk.elim
      · exact hk.elim
    · exact hk.elim
  · exact hk.elim
def aqstep (P : Program) (o : Op) (ρ : Env) (h : Hp) (K : Value → Prop) : Prop :=
  match o with
  | .call c => (match c.callee with
    | .value f => qcall P (ρ.ev f) (c.args.map ρ.ev) h K
    | .builtin b => qbuiltin P b c.argTypes.toList (c.args.toList.map ρ.ev) h K
    | _ => False)
  | .convert src dst x => qconv P src dst (ρ.ev x) h K
  | o => apure P o ρ h K
/-- The worlds of the class: the view, however many blocks there are. -/
def Cls (h : Hp) (w0 w : World) : Prop := ∃ n, h.n ≤ n ∧ Is w (h.to n) ∧ Same w0 w
theorem aqstep_sound {P : Program} {o : Oper} {a : Act} {ρ : Env} {h : Hp} {w0 : World} {K : Value → Prop} (he : a.eval = ρ.ev) (hk : aqstep P o.op ρ h K) : ∃ v, K v ∧ ∀ w, Cls h w0 w → o.quietAt P a (Cls h w0) w v := by
  have pure_ : ∀ {v : Value}, (∀ w, Fits w h → (execOp ρ.ev o).run P w = .ok (.value v) w) → ∀ w, Cls h w0 w → o.quietAt P a (Cls h w0) w v := fun hr w ⟨n, _, hi, _⟩ => by
    unfold Oper.quietAt
    rw [he, hr w hi.2]
    exact ⟨rfl, rfl⟩
  unfold aqstep at hk
  split at hk
  · rename_i c hc
    split at hk
    · rename_i f hf
      unfold qcall at hk
      split at hk
      · rename_i g first captured hg
        obtain ⟨v, ⟨hcall, hq⟩, hv⟩ := hk
        refine ⟨v, hv, fun w ⟨n, hn, hi, hs⟩ => ?_⟩
        obtain ⟨dst, op, ty, pos, after, guard⟩ := o
        obtain ⟨callee, args, ats⟩ := c
        dsimp only at hc hf hg hq
        subst hc hf
        have hrun : (execOp ρ.ev ⟨dst, .call { callee := .value f, args := args, argTypes := ats }, ty, pos, after, guard⟩).run P w = .ok (.enter g (first ++ args.map ρ.ev ++ captured)) w := by
          simp only [execOp, resolve, hg, Deferred.ofValue, invoke, Sem.run_bind, Sem.run_pure, Result.andThen_ok, run_callFunc hcall]
        unfold Oper.quietAt
        rw [he, hrun]
        refine ⟨rfl, (hq n hn w hi).mono fun e w' ⟨u, g', h1, h2, h3, h4, k, h5, h6⟩ => ?_⟩
        subst h1 h4 h6
        exact ⟨rfl, k, by omega, h2, hs.trans h3⟩
      · exact hk.elim
    · rename_i b hb
      have : apure P o.op ρ h K := by
        rw [hc]; unfold apure; simp only [hb]; exact hk
      obtain ⟨v, hv, hr⟩ := apure_sound this
      exact ⟨v, hv, pure_ hr⟩
    · exact hk.elim
  · rename_i src dst x hc
    obtain ⟨v, hv, hr⟩ := qconv_sound hk
    refine ⟨v, hv, pure_ fun w hw => ?_⟩
    obtain ⟨dst', op, ty, pos, after, guard⟩ := o
    dsimp only at hc
    subst hc
    simp only [execOp, Sem.run_bind, hr w hw, Result.andThen_ok]
    rfl
  · obtain ⟨v, hv, hr⟩ := apure_sound hk
    exact ⟨v, hv, pure_ hr⟩
def aopsQ (P : Program) (ops : Array Oper) (h : Hp) : List Oper → Env → (Env → Prop) → Prop
  | [], ρ, N => N ρ
  | o :: l, ρ, N => (match o.guard with
    | none => aqstep P o.op ρ h fun v => aopsQ P ops h l (ρ.put o.dst v) N
    | some (j, want) => (match gslot ops j with
      | none => False
      | some t => (match ρ t with
        | .bool q => Br (q == want) (aqstep P o.op (ρ.upd t (.bool want)) h fun v => aopsQ P ops h l ((ρ.upd t (.bool want)).put o.dst v) N)
          (aopsQ P ops h l ((ρ.upd t (.bool (!want))).put o.dst undef) N)
        | .tuple _ => aopsQ P ops h l (ρ.put o.dst undef) N
        | _ => False)))
theorem aopsQ_sound {P : Program} {ops : Array Oper} {n : Nat} {ds : List Nat} {ρ0 : Env} {h : Hp} {w0 : World} {N : Env → Prop} {Q : Act → Prop} (hQ : ∀ a ρ, Rel n a ρ → Keep ds ρ0 ρ → N ρ → Q a) :
    ∀ (l : List Oper), (∀ o ∈ l, ∀ t, o.dst = some t → t < n ∧ ds.contains t = true) → ∀ (ρ : Env) (a : Act), aopsQ P ops h l ρ N → Rel n a ρ → Keep ds ρ0 ρ → wpQuiet P ops (Cls h w0) Q l a
  | [], _, ρ, a, hk, hr, hp => hQ a ρ hr hp hk
  | o :: l, hd, ρ, a, hk, hr, hp => by
    have hd1 := hd o (by simp)
    have hdn : ∀ t, o.dst = some t → t < n := fun t e => (hd1 t e).1
    have hdd : ∀ t, o.dst = some t → ds.contains t = true := fun t e => (hd1 t e).2
    have ih := aopsQ_sound (P := P) (ops := ops) (h := h) (w0 := w0) hQ l (fun o' ho => hd o' (by simp [ho]))
    unfold aopsQ at hk
    unfold wpQuiet
    split at hk
    · rename_i hg
      rw [if_pos (by simp [Region.wanted, hg])]
      obtain ⟨v, hv, hq⟩ := aqstep_sound (w0 := w0) hr.eval hk
      exact ⟨v, hq, ih _ _ hv (hr.put hdn v) (hp.put hdd v)⟩
    · rename_i j want hg
      split at hk
      · exact hk.elim
      · rename_i t ht
        have hy := yielded_eq hr ops ht
        split at hk
        · rename_i q hq
          rw [hq] at hy
          rcases Br_elim hk with ⟨hqw, hk2⟩ | ⟨hqw, hk2⟩
          · have hqw : q = want := by simpa using hqw
            subst hqw
            rw [upd_eta hq] at hk2
            rw [if_pos (by simp [Region.wanted, hg, hy])]
            obtain ⟨v, hv, hq⟩ := aqstep_sound (w0 := w0) hr.eval hk2
            exact ⟨v, hq, ih _ _ hv (hr.put hdn v) (hp.put hdd v)⟩
          · have hqw : q = !want := by cases q <;> cases want <;> simp_all
            subst hqw
            rw [upd_eta hq] at hk2
            rw [if_neg (by simp [Region.wanted, hg, hy])]
            exact ih _ _ hk2 (hr.put hdn undef) (hp.put hdd undef)
        · rename_i vs hq
          rw [hq] at hy
          rw [if_neg (by simp [Region.wanted, hg, hy])]
          exact ih _ _ hk (hr.put hdn undef) (hp.put hdd undef)
        · exact hk.elim

/-! ### code -/
def opDsts (l : List Oper) : List Nat := l.filterMap (·.dst)
def codeDsts : Code → List Nat
  | .region _ ops _ => opDsts ops.toList
  | .seq a b => codeDsts a ++ codeDsts b
  | .cond _ a b => codeDsts a ++ codeDsts b
  | .block _ c => codeDsts c
  | .loop c => codeDsts c
  | .scope c => codeDsts c
  | _ => []
abbrev EH := Env → Hp → Prop
def Wf (h : Hp) : Prop := ∀ b o, h.f b = some o → b < h.n
theorem Is.wf {w : World} {h : Hp} (hi : Is w h) : Wf h := fun _ _ e => hi.lt e
/-- A loop, its body a transformer. -/
def LoopG (B : EH → EH) (cd : List Nat) (ρ : Env) (h : Hp) : Prop :=
  ∃ (I : EH) (μ : Env → Hp → Nat), I ρ h ∧ ∀ ρ' h', I ρ' h' → Wf h' → Keep cd ρ ρ' → B (fun ρ2 h2 => ∃ g, Sub g h2 ∧ I ρ2 g ∧ μ ρ2 g < μ ρ' h') ρ' h'
def avc (P : Program) : Code → EH → EH → (Nat → EH) → EH
  | .skip, N, _, _, ρ, h => N ρ h
  | .region _ ops draw, N, _, _, ρ, h => if draw = true then (Region.lexB .any ops = true ∧ aopsQ P ops h ops.toList ρ fun ρ' => ∀ n, h.n ≤ n → N ρ' (h.to n)) ∨ (swapB P ops = true ∧ aops P ops ops.toList ρ h N) ∨ AnyI P ops ρ h N else aops P ops ops.toList ρ h N
  | .seq a b, N, R, X, ρ, h => avc P a (fun ρ' h' => avc P b N R X ρ' h') R X ρ h
  | .cond c a b, N, R, X, ρ, h => (match ρ.ev c with
    | .bool q => Br q (avc P a N R X ρ h) (avc P b N R X ρ h)
    | _ => False)
  | .block id c, N, R, X, ρ, h => avc P c N R (fun i ρ' h' => if i = id then N ρ' h' else X i ρ' h') ρ h
  | .loop c, _, R, X, ρ, h => LoopG (fun N' ρ' h' => avc P c N' R X ρ' h') (codeDsts c) ρ h
  | .exit i, _, _, X, ρ, h => X i ρ h
  | .ret, _, R, _, ρ, h => R ρ h
  | _, _, _, _, _, _ => False
def Post (n : Nat) (ds : List Nat) (ρ0 : Env) (w0 : World) (N R : EH) (X : Nat → EH) : Exit → Act → World → Prop
  | .normal, a, w => ∃ ρ h, Rel n a ρ ∧ Is w h ∧ Same w0 w ∧ Keep ds ρ0 ρ ∧ N ρ h
  | .ret, a, w => ∃ ρ h, Rel n a ρ ∧ Is w h ∧ Same w0 w ∧ Keep ds ρ0 ρ ∧ R ρ h
  | .exit i, a, w => ∃ ρ h, Rel n a ρ ∧ Is w h ∧ Same w0 w ∧ Keep ds ρ0 ρ ∧ X i ρ h
  | _, _, _ => False
theorem Keep.mono {ds es : List Nat} {ρ0 ρ : Env} (hk : Keep ds ρ0 ρ) (hs : ∀ t, ds.contains t = true → es.contains t = true) : Keep es ρ0 ρ := fun t ht => hk t (by
  cases h : ds.contains t with
  | false => rfl
  | true => rw [hs t h] at ht; cases ht)
theorem Keep.trans {ds : List Nat} {a b c : Env} (h : Keep ds a b) (k : Keep ds b c) : Keep ds a c := fun t ht => (k t ht).trans (h t ht)
theorem wp_loop_ghost {P : Program} {c : Code} {Q : Exit → Act → World → Prop} {γ : Type} (I : γ → Act → World → Prop) (μ : γ → Nat)
    (round : ∀ g a w, I g a w → c.wp P (Exit.then (fun a' w' => ∃ g', I g' a' w' ∧ μ g' < μ g) Q) a w) {g : γ} {a : Act} {w : World} (h0 : I g a w) : (Code.loop c).wp P Q a w := by
  intro b k cs
  have key : ∀ n g a w, μ g = n → I g a w → ∃ e a' w', Q e a' w' ∧ Arrives P (lone (b.at a (.code c :: .inLoop c :: k)) cs w) b k cs e a' w' := by
    intro n
    induction n using Nat.strongRecOn with
    | _ n ih =>
      intro g a w hn hI
      obtain ⟨e, a₁, w₁, hq, harr⟩ := round g a w hI b (.inLoop c :: k) cs
      cases e with
      | normal =>
        obtain ⟨g', hI₁, hlt⟩ := hq
        obtain ⟨e₂, a₂, w₂, hq₂, harr₂⟩ := ih (μ g') (hn ▸ hlt) g' a₁ w₁ rfl hI₁
        exact ⟨e₂, a₂, w₂, hq₂, .of_steps (Steps.trans harr (.one step_inLoop)) harr₂⟩
      | exit id => exact ⟨_, a₁, w₁, hq, .pass (x := .inLoop c) rfl (fun _ _ => .inl (by simp)) harr⟩
      | goto l => exact ⟨_, a₁, w₁, hq, .pass (x := .inLoop c) rfl (fun _ _ => .inl (by simp)) harr⟩
      | ret => exact ⟨_, a₁, w₁, hq, .pass (x := .inLoop c) rfl (fun _ _ => .inl (by simp)) harr⟩
      | panic ch => exact ⟨_, a₁, w₁, hq, .pass (x := .inLoop c) rfl (fun _ _ => .inl (by simp)) harr⟩
      | outgrown => exact ⟨_, a₁, w₁, hq, .pass (x := .inLoop c) rfl (fun _ _ => .inl (by simp)) harr⟩
  obtain ⟨e, a', w', hq, harr⟩ := key _ g a w rfl h0
  exact ⟨e, a', w', hq, .of_steps (.one step_loop) harr⟩
theorem opDsts_spec {l : List Oper} {n : Nat} {ds : List Nat} (hd : ∀ t ∈ opDsts l, t < n ∧ ds.contains t = true) : ∀ o ∈ l, ∀ t, o.dst = some t → t < n ∧ ds.contains t = true :=
  fun o ho t e => hd t (List.mem_filterMap.2 ⟨o, ho, e⟩)
theorem avc_sound {P : Program} (hm : P.follows .mixedOrders = true) {n : Nat} {w0 : World} : ∀ (c : Code) (ds : List Nat), (∀ t ∈ codeDsts c, t < n ∧ ds.contains t = true) → ∀ (N R : EH) (X : Nat → EH) (ρ0 ρ : Env) (h : Hp) (a : Act) (w : World),
    avc P c N R X ρ h → Rel n a ρ → Is w h → Same w0 w → Keep ds ρ0 ρ → c.wp P (Post n ds ρ0 w0 N R X) a w := by
  intro c
  induction c with
  | skip => intro ds _ N R X ρ0 ρ h a w hk hr hi hs hp; exact wp_skip ⟨ρ, h, hr, hi, hs, hp, hk⟩
  | region id ops draw =>
    intro ds hd N R X ρ0 ρ h a w hk hr hi hs hp
    have hd' := opDsts_spec (l := ops.toList) hd
    unfold avc at hk
    split at hk
    · rename_i hdr
      subst hdr
      rcases hk with hk | hk | hk
      case inr.inr => exact wp_region_inv (n := n) (ds := ds) (ρ0 := ρ0) (w0 := w0) hm hd' (fun a' w' ρ' h' hr' hp' hi' hs' hN => ⟨ρ', h', hr', hi', hs', hp', hN⟩) hk hr hp hi hs
      case inr.inl => exact wp_region_swap (n := n) (ds := ds) (ρ0 := ρ0) (w0 := w0) hm hk.1 hd' (fun a' w' ρ' h' hr' hp' hi' hs' hN => ⟨ρ', h', hr', hi', hs', hp', hN⟩) hk.2 hr hp hi hs
      refine wp_region_quiet (C := Cls h w0) hm hk.1 ⟨h.n, Nat.le_refl _, hi, hs⟩ ?_
      exact aopsQ_sound (fun a' ρ' hr' hp' hN w' ⟨k, hkn, hi', hs'⟩ => ⟨ρ', h.to k, hr', hi', hs', hp', hN k hkn⟩) ops.toList hd' ρ a hk.2 hr hp
    · rename_i hdr
      have hdr : draw = false := by simpa using hdr
      subst hdr
      refine wp_region_list ?_
      exact aops_sound (n := n) (ds := ds) (ρ0 := ρ0) (w0 := w0) (fun a' w' ρ' h' hr' hp' hi' hs' hN => ⟨ρ', h', hr', hi', hs', hp', hN⟩) ops.toList hd' ρ h a w hk hr hp hi hs
  | seq x y ihx ihy =>
    intro ds hd N R X ρ0 ρ h a w hk hr hi hs hp
    refine wp_seq (Code.wp_mono (fun e a' w' hq => ?_) (ihx ds (fun t ht => hd t (by simp [codeDsts, ht])) (fun ρ' h' => avc P y N R X ρ' h') R X ρ0 ρ h a w hk hr hi hs hp))
    cases e with
    | normal =>
      obtain ⟨ρ', h', hr', hi', hs', hp', hN⟩ := hq
      exact ihy ds (fun t ht => hd t (by simp [codeDsts, ht])) N R X ρ0 ρ' h' a' w' hN hr' hi' hs' hp'
    | _ => exact hq
  | cond t x y ihx ihy =>
    intro ds hd N R X ρ0 ρ h a w hk hr hi hs hp
    unfold avc at hk
    split at hk
    · rename_i q hq
      refine wp_cond_split (t := q) (by rw [hr.eval, hq]) (fun e => ?_) (fun e => ?_)
      · exact ihx ds (fun t ht => hd t (by simp [codeDsts, ht])) N R X ρ0 ρ h a w (hk.1 e) hr hi hs hp
      · exact ihy ds (fun t ht => hd t (by simp [codeDsts, ht])) N R X ρ0 ρ h a w (hk.2 e) hr hi hs hp
    · exact hk.elim
  | block id x ih =>
    intro ds hd N R X ρ0 ρ h a w hk hr hi hs hp
    refine wp_block (Code.wp_mono (fun e a' w' hq => ?_) (ih ds hd N R (fun i ρ' h' => if i = id then N ρ' h' else X i ρ' h') ρ0 ρ h a w hk hr hi hs hp))
    cases e with
    | exit i =>
      obtain ⟨ρ', h', hr', hi', hs', hp', hX⟩ := hq
      simp only [Exit.inBlock]
      split
      · rename_i e; rw [if_pos e] at hX; exact ⟨ρ', h', hr', hi', hs', hp', hX⟩
      · rename_i e; rw [if_neg e] at hX; exact ⟨ρ', h', hr', hi', hs', hp', hX⟩
    | _ => exact hq
  | loop x ih =>
    intro ds hd N R X ρ0 ρ h a w hk hr hi hs hp
    obtain ⟨I, μ, h0, hstep⟩ := hk
    have hsub : ∀ t, (codeDsts x).contains t = true → ds.contains t = true := fun t ht => (hd t (show t ∈ codeDsts x from by simpa using ht)).2
    refine wp_loop_ghost (γ := Env × Hp) (fun g a' w' => Rel n a' g.1 ∧ Is w' g.2 ∧ Same w0 w' ∧ Keep (codeDsts x) ρ g.1 ∧ I g.1 g.2) (fun g => μ g.1 g.2) (fun g a' w' ⟨hr', hi', hs', hp', hI⟩ => ?_) (g := (ρ, h)) ⟨hr, hi, hs, fun _ _ => rfl, h0⟩
    have hb := hstep g.1 g.2 hI hi'.wf hp'
    refine Code.wp_mono (fun e a2 w2 hq => ?_) (ih (codeDsts x) (fun t ht => ⟨(hd t ht).1, by simpa using (show t ∈ codeDsts x from ht)⟩) _ R X ρ g.1 g.2 a' w' hb hr' hi' hs' hp')
    cases e with
    | normal =>
      obtain ⟨ρ2, h2, hr2, hi2, hs2, hp2, g2, hsub2, hI2, hlt⟩ := hq
      exact ⟨(ρ2, g2), ⟨hr2, hi2.sub hsub2, hs2, hp2, hI2⟩, hlt⟩
    | ret =>
      obtain ⟨ρ2, h2, hr2, hi2, hs2, hp2, hR⟩ := hq
      exact ⟨ρ2, h2, hr2, hi2, hs2, hp.trans (hp2.mono hsub), hR⟩
    | exit i =>
      obtain ⟨ρ2, h2, hr2, hi2, hs2, hp2, hR⟩ := hq
      exact ⟨ρ2, h2, hr2, hi2, hs2, hp.trans (hp2.mono hsub), hR⟩
    | _ => exact hq
  | exit i => intro ds _ N R X ρ0 ρ h a w hk hr hi hs hp; exact wp_exit ⟨ρ, h, hr, hi, hs, hp, hk⟩
  | ret => intro ds _ N R X ρ0 ρ h a w hk hr hi hs hp; exact wp_ret ⟨ρ, h, hr, hi, hs, hp, hk⟩
  | _ => intro ds _ N R X ρ0 ρ h a w hk; exact hk.elim
end Go.Proofs.Ytaejmcgcfopmkaa
