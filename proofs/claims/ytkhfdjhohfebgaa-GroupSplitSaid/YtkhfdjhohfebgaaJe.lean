/- Texts of our own, joined: the engine, the machine that runs code, and what is known of the functions. -/
import Derived.Test.YtkhfdjhohfebgaaJd
set_option linter.unusedSimpArgs false
set_option linter.unusedVariables false
namespace Go.Proofs.Ytkhfdjhohfebgaa
open Go Go.RowKit
section
variable {r : AV × AH × Nat} {σ : AE} {H : AH} {n : Nat} {call : CQ}
theorem evq_eq (x : Operand) (σ : AE) : evq x σ = eev σ x := by cases x <;> rfl
theorem evsq_eq : ∀ (l : List Operand) (σ : AE), evsq l σ = l.map (eev σ)
  | [], _ => rfl
  | x :: l, σ => by
    show evq x σ :: evsq l σ = _
    rw [evq_eq, evsq_eq l]; rfl
theorem optq_inv {α : Type} {o : Option α} {k : α → AR} (h : optq o k = some r) : ∃ a, o = some a := by
  cases o with
  | none => cases h
  | some a => exact ⟨a, rfl⟩
theorem boolq_inv {a : AV} {k : Bool → AR} (h : boolq a k = some r) : ∃ q, a = .bool q := by
  cases a <;> first | exact ⟨_, rfl⟩ | cases h
theorem ptrq_inv {a : AV} {k : Nat → Nat → AR} (h : ptrq a k = some r) : ∃ b o, a = .ptr b o := by
  cases a <;> first | exact ⟨_, _, rfl⟩ | cases h
theorem tupq_inv {a : AV} {k : List AV → AR} (h : tupq a k = some r) : ∃ l, a = .tup l := by
  cases a <;> first | exact ⟨_, rfl⟩ | cases h
theorem fnq_inv {a : AV} {k : Nat → List AV → List AV → AR} (h : fnq a k = some r) : ∃ f b c, a = .fn f b c := by
  cases a <;> first | exact ⟨_, _, _, rfl⟩ | cases h
theorem cellsq_inv {o : Option AO} {k : List AV → Bool → AR} (h : cellsq o k = some r) : ∃ l z, o = some (.cells l z) := by
  cases o with
  | none => cases h
  | some o => cases o <;> first | exact ⟨_, _, rfl⟩ | cases h
theorem intq_cases (a : AV) : (∃ k i, a = .int k i) ∨ ∀ f s, intq a f s = s := by
  cases a <;> first | exact .inl ⟨_, _, rfl⟩ | exact .inr fun _ _ => rfl
theorem nthq_inv {α : Type} : ∀ {l : List α} {i : Nat} {k : α → AR}, nthq l i k = some r → ∃ a, nth l i = some a ∧ ∀ k', nthq l i k' = k' a
  | [], i, k, h => by cases h
  | x :: l, 0, k, h => ⟨x, rfl, fun _ => rfl⟩
  | x :: l, i + 1, k, h => by
    have h : nthq l i k = some r := h
    obtain ⟨a, h1, h2⟩ := nthq_inv h
    exact ⟨a, h1, h2⟩
theorem kindq_eq (k j : IntKind) : kindq k j = decide (k = j) := by cases k <;> cases j <;> rfl
theorem ltq_eq (a b : Int) : ltq a b = decide (a < b) := by
  cases a with
  | ofNat m =>
    cases b with
    | ofNat n =>
      show Nat.blt m n = _
      rw [Bool.eq_iff_iff, Nat.blt_eq, decide_eq_true_eq]
      simp only [Int.ofNat_eq_natCast]; omega
    | negSucc n =>
      show false = _
      symm; rw [decide_eq_false_iff_not]
      simp only [Int.ofNat_eq_natCast, Int.negSucc_eq]; omega
  | negSucc m =>
    cases b with
    | ofNat n =>
      show true = _
      symm; rw [decide_eq_true_eq]
      simp only [Int.ofNat_eq_natCast, Int.negSucc_eq]; omega
    | negSucc n =>
      show Nat.blt n m = _
      rw [Bool.eq_iff_iff, Nat.blt_eq, decide_eq_true_eq]
      simp only [Int.negSucc_eq]; omega
theorem eqq_eq (a b : Int) : eqq a b = decide (a = b) := by
  cases a with
  | ofNat m =>
    cases b with
    | ofNat n =>
      show Nat.beq m n = _
      rw [Bool.eq_iff_iff, Nat.beq_eq, decide_eq_true_eq]
      simp only [Int.ofNat_eq_natCast]; omega
    | negSucc n =>
      show false = _
      symm; rw [decide_eq_false_iff_not]
      simp only [Int.ofNat_eq_natCast, Int.negSucc_eq]; omega
  | negSucc m =>
    cases b with
    | ofNat n =>
      show false = _
      symm; rw [decide_eq_false_iff_not]
      simp only [Int.ofNat_eq_natCast, Int.negSucc_eq]; omega
    | negSucc n =>
      show Nat.beq m n = _
      rw [Bool.eq_iff_iff, Nat.beq_eq, decide_eq_true_eq]
      simp only [Int.negSucc_eq]; omega
theorem notq_eq (b : Bool) : notq b = !b := by cases b <;> rfl
theorem wrapq_eq (k : IntKind) (x : Int) : wrapq k x = k.wrap x := by
  have pick : ∀ {b : Bool} {u v : Int}, (b = true → v = u) → (Bool.rec u v b : Int) = u := fun {b u v} h => by
    cases b with
    | false => rfl
    | true => exact h rfl
  cases k <;> try rfl
  case i64 =>
    cases x with
    | ofNat m =>
      refine pick fun h => ?_
      rw [Nat.blt_eq] at h
      rw [IntKind.wrap_i64]; simp only [Int.ofNat_eq_natCast]; omega
    | negSucc m =>
      refine pick fun h => ?_
      rw [Nat.blt_eq] at h
      rw [IntKind.wrap_i64]; simp only [Int.negSucc_eq]; omega
  case u8 =>
    cases x with
    | ofNat m =>
      refine pick fun h => ?_
      rw [Nat.blt_eq] at h
      rw [IntKind.wrap_u8]; simp only [Int.ofNat_eq_natCast]; omega
    | negSucc m => rfl
  case u64 =>
    cases x with
    | ofNat m =>
      refine pick fun h => ?_
      rw [Nat.blt_eq] at h
      rw [IntKind.wrap_u64]; simp only [Int.ofNat_eq_natCast]; omega
    | negSucc m => rfl
theorem bifq_inv {b : Bool} {t : AR} (h : bifq b t none = some r) : b = true := by
  cases b with
  | true => rfl
  | false => cases h
theorem intopq_spec {op : BinOp} {k j : IntKind} {a b : Int} {κ : AV → AR} (h : intopq op k j a b κ = some r) : ∃ v, eint op k j a b = some v ∧ ∀ κ', intopq op k j a b κ' = κ' v := by
  have slow : ∀ {op}, slowI op k j a b κ = some r → ∃ v, eint op k j a b = some v ∧ ∀ κ', slowI op k j a b κ' = κ' v := fun {op} h => by
    obtain ⟨v, hv⟩ := optq_inv h
    exact ⟨v, hv, fun κ' => by unfold slowI; rw [hv]; rfl⟩
  have cmp : ∀ {f : Int → Int → Bool}, cmpq f k j a b κ = some r → k = j ∧ ∀ κ', cmpq f k j a b κ' = κ' (.bool (f a b)) := fun {f} h => by
    have hb := bifq_inv h
    refine ⟨by rw [kindq_eq] at hb; simpa using hb, fun κ' => ?_⟩
    unfold cmpq; rw [hb]; rfl
  cases op <;> first | exact slow h | skip
  case add =>
    have hb := bifq_inv h
    have hk : k = j := by rw [kindq_eq] at hb; simpa using hb
    refine ⟨.int k (wrapq k (Int.add a b)), ?_, fun κ' => ?_⟩
    · simp only [eint, if_pos hk, wrapq_eq]; rfl
    · show addq k j a b κ' = _
      unfold addq; rw [hb]; rfl
  case sub =>
    have hb := bifq_inv h
    have hk : k = j := by rw [kindq_eq] at hb; simpa using hb
    refine ⟨.int k (wrapq k (Int.sub a b)), ?_, fun κ' => ?_⟩
    · simp only [eint, if_pos hk, wrapq_eq]; rfl
    · show subq k j a b κ' = _
      unfold subq; rw [hb]; rfl
  case eql =>
    obtain ⟨hk, h2⟩ := cmp (f := eqq) h
    exact ⟨_, by simp only [eint, if_pos hk, eqq_eq], h2⟩
  case neq =>
    obtain ⟨hk, h2⟩ := cmp (f := fun a b => notq (eqq a b)) h
    exact ⟨_, by simp only [eint, if_pos hk, eqq_eq, notq_eq], h2⟩
  case lss =>
    obtain ⟨hk, h2⟩ := cmp (f := ltq) h
    exact ⟨_, by simp only [eint, if_pos hk, ltq_eq], h2⟩
  case leq =>
    obtain ⟨hk, h2⟩ := cmp (f := fun a b => notq (ltq b a)) h
    refine ⟨_, ?_, h2⟩
    simp only [eint, if_pos hk, ltq_eq, notq_eq]
    congr 2; rw [Bool.eq_iff_iff]; simp
  case gtr =>
    obtain ⟨hk, h2⟩ := cmp (f := fun a b => ltq b a) h
    exact ⟨_, by simp only [eint, if_pos hk, ltq_eq], h2⟩
  case geq =>
    obtain ⟨hk, h2⟩ := cmp (f := fun a b => notq (ltq a b)) h
    refine ⟨_, ?_, h2⟩
    simp only [eint, if_pos hk, ltq_eq, notq_eq]
    congr 2; rw [Bool.eq_iff_iff]; simp

/-! ### operations -/
/-- What a call yields does not hang on what follows. -/
def CQN (call : CQ) : Prop := ∀ f args H n κ r, call f args H n κ = some r → ∃ v H' n', ∀ κ', call f args H n κ' = κ' v H' n'
theorem estep_noCall {P : Program} {c : AC} {o : Op} {y : AV × AH × Nat} (h : estep P noCall o σ H n = some y) : estep P c o σ H n = some y := by
  cases o <;> try exact h
  case makeMap t x => cases x <;> exact h
  case call cl =>
    obtain ⟨callee, args, ats⟩ := cl
    cases callee with
    | value f =>
      simp only [estep] at h
      split at h <;> cases h
    | invoke _ _ => exact h
    | builtin b => cases b <;> exact h
theorem slowS_spec {o : Op} {κ : KA} (h : slowS o call σ H n κ = some r) : ∃ v H' n', estep Try.prog (callA call) o σ H n = some (v, H', n') ∧ ∀ κ', slowS o call σ H n κ' = κ' v H' n' := by
  obtain ⟨⟨v, H', n'⟩, hy⟩ := optq_inv h
  refine ⟨v, H', n', estep_noCall hy, fun κ' => ?_⟩
  unfold slowS; rw [hy]; rfl
theorem pure_spec {o : Op} {v : AV} (hs : loudOp o = false) (h : epure Try.prog o σ H = some v) : estep Try.prog (callA call) o σ H n = some (v, H, n) := estep_pure hs h
theorem loadL_spec {t : TypeId} {l : List AV} {o : Nat} {κ : AV → AR} (h : loadL l o (loadKind t) κ = some r) : ∃ v, (match tyAgg Try.prog t with
      | some false => nth l o
      | some true => (match tySize Try.prog t with
        | some n => (subL l o n).map .agg
        | none => none)
      | none => none) = some v ∧ ∀ κ', loadL l o (loadKind t) κ' = κ' v := by
  unfold loadKind at h ⊢
  cases hg : tyAgg Try.prog t with
  | none => rw [hg] at h; cases h
  | some q =>
    rw [hg] at h
    cases q with
    | false =>
      have h : nthq l o κ = some r := h
      obtain ⟨v, h1, h2⟩ := nthq_inv h
      exact ⟨v, h1, h2⟩
    | true =>
      dsimp only at h ⊢
      cases hz : tySize Try.prog t with
      | none => rw [hz] at h; cases h
      | some m =>
        rw [hz] at h
        have h : optq (subL l o m) (fun x => κ (.agg x)) = some r := h
        obtain ⟨x, hx⟩ := optq_inv h
        refine ⟨.agg x, by dsimp only; rw [hx]; rfl, fun κ' => ?_⟩
        show optq (subL l o m) (fun x => κ' (.agg x)) = _
        rw [hx]; rfl
theorem set1q_spec {v : AV} : ∀ {l : List AV} {o : Nat} {k : List AV → AR}, set1q l o v k = some r → ∃ l', setL l o [v] = some l' ∧ ∀ k', set1q l o v k' = k' l'
  | [], o, k, h => by cases h
  | y :: t, 0, k, h => ⟨v :: t, by simp only [setL]; cases t <;> rfl, fun _ => rfl⟩
  | y :: t, o + 1, k, h => by
    have h : set1q t o v (fun x => k (y :: x)) = some r := h
    obtain ⟨l', h1, h2⟩ := set1q_spec h
    refine ⟨y :: l', by simp only [setL, h1]; rfl, fun k' => ?_⟩
    show set1q t o v (fun x => k' (y :: x)) = _
    rw [h2]
theorem cellOneq_spec {v : AV} (h : cellOneq v = true) : v.cells = [v] ∧ okC v = true ∧ one1 v = true := by
  cases v <;> first | exact ⟨rfl, rfl, rfl⟩ | cases h
set_option maxRecDepth 20000 in
theorem storeS_spec {t : TypeId} {a x : Operand} {κ : KA} (h : storeS t a x call σ H n κ = some r) : ∃ v H' n', estep Try.prog (callA call) (.store t a x) σ H n = some (v, H', n') ∧ ∀ κ', storeS t a x call σ H n κ' = κ' v H' n' := by
  show ∃ v H' n', estore Try.prog t (eev σ a) (eev σ x) H n = some (v, H', n') ∧ _
  unfold storeS at h ⊢
  cases hc : (Bool.rec false (cellOneq (evq x σ)) (sizeOne t) : Bool) with
  | false =>
    rw [hc] at h
    obtain ⟨⟨v, H', n'⟩, hy⟩ := optq_inv h
    refine ⟨v, H', n', by rw [← evq_eq, ← evq_eq]; exact hy, fun κ' => ?_⟩
    show optq _ (pairK κ') = _
    rw [hy]; rfl
  | true =>
    rw [hc] at h
    have hs : sizeOne t = true := by cases hz : sizeOne t with
      | true => rfl
      | false => rw [hz] at hc; cases hc
    rw [hs] at hc
    have hc : cellOneq (evq x σ) = true := hc
    obtain ⟨c1, c2, c3⟩ := cellOneq_spec hc
    have hsz : tySize Try.prog t = some 1 := by
      unfold sizeOne at hs
      split at hs
      · assumption
      · cases hs
    have h : ptrq (evq a σ) (fun b o => cellsq (H.get b) fun l z => set1q l o (evq x σ) fun x => κ undefA (H.set (some (.cells x z)) depthH b) n) = some r := h
    obtain ⟨b, o, hp⟩ := ptrq_inv h
    rw [hp] at h
    have h : cellsq (H.get b) (fun l z => set1q l o (evq x σ) fun x => κ undefA (H.set (some (.cells x z)) depthH b) n) = some r := h
    obtain ⟨l, z, hl⟩ := cellsq_inv h
    rw [hl] at h
    have h : set1q l o (evq x σ) (fun x => κ undefA (H.set (some (.cells x z)) depthH b) n) = some r := h
    obtain ⟨l', s1, s2⟩ := set1q_spec h
    refine ⟨undefA, H.set (some (.cells l' z)) depthH b, n, ?_, fun κ' => ?_⟩
    · rw [← evq_eq, ← evq_eq, hp]
      simp only [estore, hl, hsz, c1, c2, s1]
      simp [c3]
    · show ptrq (evq a σ) _ = _
      rw [hp]
      show cellsq (H.get b) _ = _
      rw [hl]
      exact s2 _
theorem nilQ_inv {a : AV} {k : AV → AR} (h : nilQ a k = some r) : (∃ b o, a = .ptr b o) ∨ ∃ f b c, a = .fn f b c := by
  cases a <;> first | exact .inl ⟨_, _, rfl⟩ | exact .inr ⟨_, _, _, rfl⟩ | cases h
set_option maxRecDepth 20000 in
theorem stepq_spec (hc : CQN call) {o : Op} {κ : KA} (h : stepq o call σ H n κ = some r) : ∃ v H' n', estep Try.prog (callA call) o σ H n = some (v, H', n') ∧ ∀ κ', stepq o call σ H n κ' = κ' v H' n' := by
  cases o <;> first | exact slowS_spec h | skip
  case move x => exact ⟨eev σ x, H, n, rfl, fun κ' => by rw [← evq_eq]; rfl⟩
  case assign x => exact ⟨eev σ x, H, n, rfl, fun κ' => by rw [← evq_eq]; rfl⟩
  case pick c a b =>
    have h : pickS c a b call σ H n κ = some r := h
    unfold pickS at h
    obtain ⟨q, hq⟩ := boolq_inv h
    have key : ∀ κ', stepq (.pick c a b) call σ H n κ' = (Bool.rec (κ' (evq b σ) H n) (κ' (evq a σ) H n) q : AR) := fun κ' => by
      show pickS c a b call σ H n κ' = _
      unfold pickS; rw [hq]; rfl
    cases q with
    | true => exact ⟨eev σ a, H, n, pure_spec rfl (by simp only [epure, ← evq_eq c, hq]), fun κ' => by rw [key, ← evq_eq]⟩
    | false => exact ⟨eev σ b, H, n, pure_spec rfl (by simp only [epure, ← evq_eq c, hq]), fun κ' => by rw [key, ← evq_eq]⟩
  case load t a =>
    have h : ptrq (evq a σ) (fun b o => cellsq (H.get b) fun l _ => loadL l o (loadKind t) fun v => κ v H n) = some r := h
    obtain ⟨b, o, hp⟩ := ptrq_inv h
    rw [hp] at h
    have h : cellsq (H.get b) (fun l _ => loadL l o (loadKind t) fun v => κ v H n) = some r := h
    obtain ⟨l, z, hl⟩ := cellsq_inv h
    rw [hl] at h
    have h : loadL l o (loadKind t) (fun v => κ v H n) = some r := h
    obtain ⟨v, h1, h2⟩ := loadL_spec h
    refine ⟨v, H, n, pure_spec rfl ?_, fun κ' => ?_⟩
    · simp only [epure, ← evq_eq, hp, eload, hl]; exact h1
    · show ptrq (evq a σ) _ = _
      rw [hp]
      show cellsq (H.get b) _ = _
      rw [hl]
      exact h2 _
  case store t a x => exact storeS_spec h
  case nilCheck x =>
    have h : nilQ (evq x σ) (fun v => κ v H n) = some r := h
    rcases nilQ_inv h with ⟨b, o, hp⟩ | ⟨f, b, c, hp⟩
    · exact ⟨.ptr b o, H, n, pure_spec rfl (by simp only [epure, ← evq_eq, hp]), fun κ' => by
        show nilQ (evq x σ) _ = _
        rw [hp]; rfl⟩
    · exact ⟨.fn f b c, H, n, pure_spec rfl (by simp only [epure, ← evq_eq, hp]), fun κ' => by
        show nilQ (evq x σ) _ = _
        rw [hp]; rfl⟩
  case binOp op t x y t' =>
    have h : intq (evq x σ) (fun k a => intq (evq y σ) (fun j b => intopq op k j a b fun v => κ v H n) none) (optq (ebin Try.prog op t (evq x σ) (evq y σ) H) fun v => κ v H n) = some r := h
    have e0 : ∀ v, ebin Try.prog op t (evq x σ) (evq y σ) H = some v → estep Try.prog (callA call) (.binOp op t x y t') σ H n = some (v, H, n) := fun v hv => pure_spec rfl (by simp only [epure, ← evq_eq]; exact hv)
    rcases intq_cases (evq x σ) with ⟨k, i, hx⟩ | hx
    · rw [hx] at h
      have h : intq (evq y σ) (fun j b => intopq op k j i b fun v => κ v H n) none = some r := h
      rcases intq_cases (evq y σ) with ⟨j, i2, hy⟩ | hy
      · rw [hy] at h
        have h : intopq op k j i i2 (fun v => κ v H n) = some r := h
        obtain ⟨v, h1, h2⟩ := intopq_spec h
        refine ⟨v, H, n, e0 v (by rw [hx, hy]; exact h1), fun κ' => ?_⟩
        show intq (evq x σ) _ _ = _
        rw [hx]
        show intq (evq y σ) _ _ = _
        rw [hy]
        exact h2 _
      · rw [hy] at h; cases h
    · rw [hx] at h
      obtain ⟨v, hv⟩ := optq_inv h
      refine ⟨v, H, n, e0 v hv, fun κ' => ?_⟩
      show intq (evq x σ) _ _ = _
      rw [hx, hv]; rfl
  case unOp op t x =>
    have h : optq (eun op (evq x σ)) (fun v => κ v H n) = some r := h
    obtain ⟨v, hv⟩ := optq_inv h
    refine ⟨v, H, n, pure_spec rfl (by simp only [epure, ← evq_eq]; exact hv), fun κ' => ?_⟩
    show optq (eun op (evq x σ)) _ = _
    rw [hv]; rfl
  case fieldAddr s x i =>
    have h : ptrq (evq x σ) (fun b o => optq (tyField Try.prog s i) fun p => κ (.ptr b (Nat.add o p.2)) H n) = some r := h
    obtain ⟨b, o, hp⟩ := ptrq_inv h
    rw [hp] at h
    have h : optq (tyField Try.prog s i) (fun p => κ (.ptr b (Nat.add o p.2)) H n) = some r := h
    obtain ⟨⟨t, off⟩, ht⟩ := optq_inv h
    refine ⟨.ptr b (o + off), H, n, pure_spec rfl (by simp only [epure, ← evq_eq, hp, efieldAddr, ht]), fun κ' => ?_⟩
    show ptrq (evq x σ) _ = _
    rw [hp]
    show optq (tyField Try.prog s i) _ = _
    rw [ht]; rfl
  case indexAddr t x ix =>
    have h : optq (eindexAddr Try.prog t (evq x σ) (evq ix σ)) (fun v => κ v H n) = some r := h
    obtain ⟨v, hv⟩ := optq_inv h
    refine ⟨v, H, n, pure_spec rfl (by simp only [epure, ← evq_eq]; exact hv), fun κ' => ?_⟩
    show optq (eindexAddr Try.prog t (evq x σ) (evq ix σ)) _ = _
    rw [hv]; rfl
  case extract x i =>
    have h : tupq (evq x σ) (fun l => nthq l i fun v => κ v H n) = some r := h
    obtain ⟨l, hl⟩ := tupq_inv h
    rw [hl] at h
    have h : nthq l i (fun v => κ v H n) = some r := h
    obtain ⟨v, h1, h2⟩ := nthq_inv h
    refine ⟨v, H, n, pure_spec rfl (by simp only [epure, ← evq_eq, hl, eextract]; exact h1), fun κ' => ?_⟩
    show tupq (evq x σ) _ = _
    rw [hl]
    exact h2 _
  case call c =>
    obtain ⟨callee, args, ats⟩ := c
    cases callee with
    | invoke _ _ => cases h
    | builtin b => exact slowS_spec (o := .call ⟨.builtin b, args, ats⟩) h
    | value f =>
      have h : fnq (evq f σ) (fun g a cs => call g (a ++ (evsq args.toList σ ++ cs)) H n κ) = some r := h
      obtain ⟨g, a, cs, hf⟩ := fnq_inv h
      rw [hf] at h
      have h : call g (a ++ (evsq args.toList σ ++ cs)) H n κ = some r := h
      obtain ⟨v, H', n', hv⟩ := hc _ _ _ _ _ _ h
      refine ⟨v, H', n', ?_, fun κ' => ?_⟩
      · simp only [estep, ← evq_eq, hf, callA]
        rw [List.append_assoc]
        have e : args.toList.map (fun x => evq x σ) = evsq args.toList σ := by
          rw [evsq_eq]; exact List.map_congr_left fun x _ => evq_eq x σ
        first
          | (rw [e, hv]; rfl)
          | (rw [← evsq_eq, hv]; rfl)
      · show fnq (evq f σ) _ = _
        rw [hf]
        exact hv κ'
theorem doq_spec (hc : CQN call) {o : Op} {d : Option Nat} {k : KS} (h : doq o d call σ H n k = some r) : ∃ v H' n', estep Try.prog (callA call) o σ H n = some (v, H', n') ∧ ∀ k', doq o d call σ H n k' = k' (putq d v σ) H' n' := by
  have h : stepq o call σ H n (fun v H n => k (putq d v σ) H n) = some r := h
  obtain ⟨v, H', n', h1, h2⟩ := stepq_spec hc h
  exact ⟨v, H', n', h1, fun k' => h2 _⟩
theorem gvalq_inv {a : AV} {want : Bool} {d s : AR} (h : gvalq a want d s = some r) : (∃ q, a = .bool q) ∨ ∃ l, a = .tup l := by
  cases a <;> first | exact .inl ⟨_, rfl⟩ | exact .inr ⟨_, rfl⟩ | cases h
theorem oneq_spec (hc : CQN call) {ops : Array Oper} {o : Oper} {k : KS} (h : oneq ops o call σ H n k = some r) : ∃ σ1 H1 n1, (∀ k', oneq ops o call σ H n k' = k' σ1 H1 n1) ∧ ∀ kk : AE → AH → Nat → AS, eop Try.prog (callA call) ops o kk σ H n = kk σ1 H1 n1 := by
  unfold oneq at h ⊢
  unfold eop
  cases hg : o.guard with
  | none =>
    rw [hg] at h
    obtain ⟨v, H', n', h1, h2⟩ := doq_spec hc h
    exact ⟨_, _, _, h2, fun kk => by simp only [h1, eput]⟩
  | some g =>
    obtain ⟨j, want⟩ := g
    rw [hg] at h
    have h : optq (gslot ops j) (fun t => gvalq (getq (pa t) σ) want (doq o.op o.dst call σ H n k) (k (putq o.dst undefA σ) H n)) = some r := h
    obtain ⟨t, ht⟩ := optq_inv h
    rw [ht] at h
    have h : gvalq (getq (pa t) σ) want (doq o.op o.dst call σ H n k) (k (putq o.dst undefA σ) H n) = some r := h
    simp only [ht]
    rcases gvalq_inv h with ⟨q, hq⟩ | ⟨l, hq⟩
    · rw [hq] at h
      by_cases hw : q = want
      · subst hw
        have h : doq o.op o.dst call σ H n k = some r := by cases q <;> exact h
        obtain ⟨v, H', n', h1, h2⟩ := doq_spec hc h
        refine ⟨putq o.dst v σ, H', n', fun k' => ?_, fun kk => ?_⟩
        · show gvalq (getq (pa t) σ) _ _ _ = _
          rw [hq]; refine Eq.trans ?_ (h2 k'); cases q <;> rfl
        · simp only [hq, beq_self_eq_true, h1, eput]
      · refine ⟨putq o.dst undefA σ, H, n, fun k' => ?_, fun kk => ?_⟩
        · show gvalq (getq (pa t) σ) _ _ _ = _
          rw [hq]; cases q <;> cases want <;> first | rfl | exact absurd rfl hw
        · have : (q == want) = false := by simpa using hw
          simp only [hq, this, eput]
    · refine ⟨putq o.dst undefA σ, H, n, fun k' => ?_, fun kk => ?_⟩
      · show gvalq (getq (pa t) σ) _ _ _ = _
        rw [hq]; rfl
      · simp only [hq, eput]
theorem opsq_spec (hc : CQN call) {ops : Array Oper} : ∀ {l : List Oper} {σ : AE} {H : AH} {n : Nat} {k : KS}, opsq ops l call σ H n k = some r → ∃ σ' H' n', eops Try.prog (callA call) ops l σ H n = some (.norm, σ', H', n') ∧ ∀ k', opsq ops l call σ H n k' = k' σ' H' n'
  | [], σ, H, n, k, h => ⟨σ, H, n, rfl, fun _ => rfl⟩
  | o :: l, σ, H, n, k, h => by
    have h : oneq ops o call σ H n (fun σ H n => opsq ops l call σ H n k) = some r := h
    obtain ⟨σ1, H1, n1, h1, h2⟩ := oneq_spec hc h
    rw [h1] at h
    obtain ⟨σ', H', n', h3, h4⟩ := opsq_spec hc h
    refine ⟨σ', H', n', ?_, fun k' => ?_⟩
    · show eop Try.prog (callA call) ops o (eops Try.prog (callA call) ops l) σ H n = _
      rw [h2]; exact h3
    · show oneq ops o call σ H n (fun σ H n => opsq ops l call σ H n k') = _
      rw [h1, h4]

/-! ### code -/
theorem execB_mono {P : Program} {c : AC} {ih ih' : Code → AE → AH → Nat → AS} (hi : ∀ c σ H n y, ih c σ H n = some y → ih' c σ H n = some y) (cd : Code) (σ : AE) (H : AH) (n : Nat) (y : EX × AE × AH × Nat) (h : execB P c ih cd σ H n = some y) : execB P c ih' cd σ H n = some y := by
  cases cd <;> simp only [execB] at h ⊢ <;> try exact h
  case scope b => exact hi _ _ _ _ _ h
  case seq a b =>
    split at h
    · rename_i σ1 H1 n1 e1
      rw [hi _ _ _ _ _ e1]
      exact hi _ _ _ _ _ h
    · rename_i hne
      rw [hi _ _ _ _ _ h]
      obtain ⟨e, σ1, H1, n1⟩ := y
      cases e with
      | norm => exact (hne _ _ _ h).elim
      | ret => rfl
      | exit i => rfl
  case cond cd a b =>
    split at h
    · exact hi _ _ _ _ _ h
    · exact hi _ _ _ _ _ h
    · cases h
  case block id b =>
    split at h
    · rename_i i σ1 H1 n1 e1
      rw [hi _ _ _ _ _ e1]
      exact h
    · rename_i hne
      rw [hi _ _ _ _ _ h]
      obtain ⟨e, σ1, H1, n1⟩ := y
      cases e with
      | norm => rfl
      | ret => rfl
      | exit i => exact (hne _ _ _ _ h).elim
  case loop b =>
    split at h
    · rename_i σ1 H1 n1 e1
      rw [hi _ _ _ _ _ e1]
      exact hi _ _ _ _ _ h
    · rename_i hne
      rw [hi _ _ _ _ _ h]
      obtain ⟨e, σ1, H1, n1⟩ := y
      cases e with
      | norm => exact (hne _ _ _ h).elim
      | ret => rfl
      | exit i => rfl
theorem exec_succ {P : Program} {c : AC} : ∀ (f : Nat) (cd : Code) (σ : AE) (H : AH) (n : Nat) (y : EX × AE × AH × Nat), exec P c f cd σ H n = some y → exec P c (f + 1) cd σ H n = some y
  | 0, _, _, _, _, _, h => by cases h
  | f + 1, cd, σ, H, n, y, h => by
    have h : execB P c (exec P c f) cd σ H n = some y := h
    exact execB_mono (exec_succ f) cd σ H n y h
theorem exec_le {P : Program} {c : AC} {f g : Nat} (hle : f ≤ g) {cd : Code} {y : EX × AE × AH × Nat} (h : exec P c f cd σ H n = some y) : exec P c g cd σ H n = some y := by
  induction hle with
  | refl => exact h
  | step _ ih => exact exec_succ _ _ _ _ _ _ ih
def contE (kn : KS) (kx : Nat → KS) (kr : KS) : EX → KS
  | .norm => kn
  | .exit i => kx i
  | .ret => kr
def XSpec (b : XQ) (c : Code) (call : CQ) : Prop := ∀ (σ : AE) (H : AH) (n : Nat) (kn : KS) (kx : Nat → KS) (kr : KS) (r : AV × AH × Nat), b call σ H n kn kx kr = some r →
  ∃ e σ' H' n', (∃ f, exec Try.prog (callA call) f c σ H n = some (e, σ', H', n')) ∧ ∀ kn kx kr, b call σ H n kn kx kr = contE kn kx kr e σ' H' n'
theorem execq_spec (hc : CQN call) (c : Code) : XSpec (execq c) c call := by
  induction c with
  | skip => exact fun σ H n kn kx kr r h => ⟨.norm, σ, H, n, ⟨1, rfl⟩, fun _ _ _ => rfl⟩
  | region id ops draw =>
    intro σ H n kn kx kr r h
    cases hd : draw with
    | false =>
      subst hd
      have h : opsq ops ops.toList call σ H n kn = some r := h
      obtain ⟨σ', H', n', h1, h2⟩ := opsq_spec hc h
      exact ⟨.norm, σ', H', n', ⟨1, h1⟩, fun kn kx kr => h2 kn⟩
    | true =>
      subst hd
      have red : ∀ kn kx kr, execq (.region id ops true) call σ H n kn kx kr = (Bool.rec (dynq ops) (fun call σ H n kn _ _ => opsq ops ops.toList call σ H n kn) (swapB Try.prog ops) : XQ) call σ H n kn kx kr := fun _ _ _ => rfl
      cases hs : swapB Try.prog ops with
      | true =>
        rw [red, hs] at h
        have h : opsq ops ops.toList call σ H n kn = some r := h
        obtain ⟨σ', H', n', h1, h2⟩ := opsq_spec hc h
        refine ⟨.norm, σ', H', n', ⟨1, ?_⟩, fun kn kx kr => ?_⟩
        · show execB Try.prog (callA call) (exec Try.prog (callA call) 0) (.region id ops true) σ H n = _
          simp only [execB, hs, Bool.not_true, Bool.and_false]; exact h1
        · rw [red, hs]; exact h2 kn
      | false =>
        rw [red, hs] at h
        have h : optq (edyn Try.prog (callA call) ops σ H n) (fun y => kn y.2.1 y.2.2.1 y.2.2.2) = some r := h
        obtain ⟨⟨e, σ', H', n'⟩, hy⟩ := optq_inv h
        have he : e = .norm := by
          unfold edyn at hy
          split at hy
          · split at hy
            · injection hy with hy; injection hy with hy; exact hy.symm
            · cases hy
          · cases hy
        subst he
        refine ⟨.norm, σ', H', n', ⟨1, ?_⟩, fun kn kx kr => ?_⟩
        · show execB Try.prog (callA call) (exec Try.prog (callA call) 0) (.region id ops true) σ H n = _
          simp only [execB, hs, Bool.not_false, Bool.and_true]; exact hy
        · rw [red, hs]
          show optq (edyn Try.prog (callA call) ops σ H n) _ = _
          rw [hy]; rfl
  | seq a b iha ihb =>
    intro σ H n kn kx kr r h
    have h : execq a call σ H n (fun σ H n => execq b call σ H n kn kx kr) kx kr = some r := h
    obtain ⟨e, σ1, H1, n1, ⟨f1, h1⟩, h2⟩ := iha _ _ _ _ _ _ _ h
    have red : ∀ kn kx kr, execq (.seq a b) call σ H n kn kx kr = contE (fun σ H n => execq b call σ H n kn kx kr) kx kr e σ1 H1 n1 := fun kn kx kr => h2 _ _ _
    rw [h2] at h
    cases e with
    | norm =>
      have h : execq b call σ1 H1 n1 kn kx kr = some r := h
      obtain ⟨e', σ', H', n', ⟨f2, h3⟩, h4⟩ := ihb _ _ _ _ _ _ _ h
      refine ⟨e', σ', H', n', ⟨max f1 f2 + 1, ?_⟩, fun kn kx kr => (red kn kx kr).trans (h4 kn kx kr)⟩
      show execB Try.prog (callA call) (exec Try.prog (callA call) (max f1 f2)) (.seq a b) σ H n = _
      simp only [execB, exec_le (Nat.le_max_left f1 f2) h1, exec_le (Nat.le_max_right f1 f2) h3]
    | ret =>
      refine ⟨.ret, σ1, H1, n1, ⟨f1 + 1, ?_⟩, fun kn kx kr => red kn kx kr⟩
      show execB Try.prog (callA call) (exec Try.prog (callA call) f1) (.seq a b) σ H n = _
      simp only [execB, h1]
    | exit i =>
      refine ⟨.exit i, σ1, H1, n1, ⟨f1 + 1, ?_⟩, fun kn kx kr => red kn kx kr⟩
      show execB Try.prog (callA call) (exec Try.prog (callA call) f1) (.seq a b) σ H n = _
      simp only [execB, h1]
  | cond cd a b iha ihb =>
    intro σ H n kn kx kr r h
    have h : boolq (evq cd σ) (fun q => (Bool.rec (execq b call σ H n kn kx kr) (execq a call σ H n kn kx kr) q : AR)) = some r := h
    obtain ⟨q, hq⟩ := boolq_inv h
    rw [hq] at h
    have red : ∀ kn kx kr, execq (.cond cd a b) call σ H n kn kx kr = (Bool.rec (execq b call σ H n kn kx kr) (execq a call σ H n kn kx kr) q : AR) := fun kn kx kr => by
      show boolq (evq cd σ) _ = _
      rw [hq]; rfl
    cases q with
    | true =>
      obtain ⟨e, σ1, H1, n1, ⟨f1, h1⟩, h2⟩ := iha _ _ _ _ _ _ _ h
      refine ⟨e, σ1, H1, n1, ⟨f1 + 1, ?_⟩, fun kn kx kr => (red kn kx kr).trans (h2 kn kx kr)⟩
      show execB Try.prog (callA call) (exec Try.prog (callA call) f1) (.cond cd a b) σ H n = _
      simp only [execB, ← evq_eq, hq, h1]
    | false =>
      obtain ⟨e, σ1, H1, n1, ⟨f1, h1⟩, h2⟩ := ihb _ _ _ _ _ _ _ h
      refine ⟨e, σ1, H1, n1, ⟨f1 + 1, ?_⟩, fun kn kx kr => (red kn kx kr).trans (h2 kn kx kr)⟩
      show execB Try.prog (callA call) (exec Try.prog (callA call) f1) (.cond cd a b) σ H n = _
      simp only [execB, ← evq_eq, hq, h1]
  | block id b ih =>
    intro σ H n kn kx kr r h
    have h : execq b call σ H n kn (fun i σ H n => (Bool.rec (kx i σ H n) (kn σ H n) (Nat.beq i id) : AR)) kr = some r := h
    obtain ⟨e, σ1, H1, n1, ⟨f1, h1⟩, h2⟩ := ih _ _ _ _ _ _ _ h
    have red : ∀ kn kx kr, execq (.block id b) call σ H n kn kx kr = contE kn (fun i σ H n => (Bool.rec (kx i σ H n) (kn σ H n) (Nat.beq i id) : AR)) kr e σ1 H1 n1 := fun kn kx kr => h2 _ _ _
    cases e with
    | norm =>
      refine ⟨.norm, σ1, H1, n1, ⟨f1 + 1, ?_⟩, fun kn kx kr => red kn kx kr⟩
      show execB Try.prog (callA call) (exec Try.prog (callA call) f1) (.block id b) σ H n = _
      simp only [execB, h1]
    | ret =>
      refine ⟨.ret, σ1, H1, n1, ⟨f1 + 1, ?_⟩, fun kn kx kr => red kn kx kr⟩
      show execB Try.prog (callA call) (exec Try.prog (callA call) f1) (.block id b) σ H n = _
      simp only [execB, h1]
    | exit i =>
      cases hb : Nat.beq i id with
      | true =>
        refine ⟨.norm, σ1, H1, n1, ⟨f1 + 1, ?_⟩, fun kn kx kr => (red kn kx kr).trans (by simp only [contE, hb])⟩
        show execB Try.prog (callA call) (exec Try.prog (callA call) f1) (.block id b) σ H n = _
        simp only [execB, h1, hb]
      | false =>
        refine ⟨.exit i, σ1, H1, n1, ⟨f1 + 1, ?_⟩, fun kn kx kr => (red kn kx kr).trans (by simp only [contE, hb])⟩
        show execB Try.prog (callA call) (exec Try.prog (callA call) f1) (.block id b) σ H n = _
        simp only [execB, h1, hb]
  | loop b ih =>
    have key : ∀ F, XSpec (loopq (execq b) F) (.loop b) call := by
      intro F
      induction F with
      | zero => intro σ H n kn kx kr r h; cases h
      | succ F ihF =>
        intro σ H n kn kx kr r h
        have h : execq b call σ H n (fun σ H n => loopq (execq b) F call σ H n kn kx kr) kx kr = some r := h
        obtain ⟨e, σ1, H1, n1, ⟨f1, h1⟩, h2⟩ := ih _ _ _ _ _ _ _ h
        have red : ∀ kn kx kr, loopq (execq b) (F + 1) call σ H n kn kx kr = contE (fun σ H n => loopq (execq b) F call σ H n kn kx kr) kx kr e σ1 H1 n1 := fun kn kx kr => h2 _ _ _
        rw [h2] at h
        cases e with
        | norm =>
          have h : loopq (execq b) F call σ1 H1 n1 kn kx kr = some r := h
          obtain ⟨e', σ', H', n', ⟨f2, h3⟩, h4⟩ := ihF _ _ _ _ _ _ _ h
          refine ⟨e', σ', H', n', ⟨max f1 f2 + 1, ?_⟩, fun kn kx kr => (red kn kx kr).trans (h4 kn kx kr)⟩
          show execB Try.prog (callA call) (exec Try.prog (callA call) (max f1 f2)) (.loop b) σ H n = _
          simp only [execB, exec_le (Nat.le_max_left f1 f2) h1, exec_le (Nat.le_max_right f1 f2) h3]
        | ret =>
          refine ⟨.ret, σ1, H1, n1, ⟨f1 + 1, ?_⟩, fun kn kx kr => red kn kx kr⟩
          show execB Try.prog (callA call) (exec Try.prog (callA call) f1) (.loop b) σ H n = _
          simp only [execB, h1]
        | exit i =>
          refine ⟨.exit i, σ1, H1, n1, ⟨f1 + 1, ?_⟩, fun kn kx kr => red kn kx kr⟩
          show execB Try.prog (callA call) (exec Try.prog (callA call) f1) (.loop b) σ H n = _
          simp only [execB, h1]
    exact fun σ H n kn kx kr r h => key fuelE σ H n kn kx kr r h
  | exit i => exact fun σ H n kn kx kr r h => ⟨.exit i, σ, H, n, ⟨1, rfl⟩, fun _ _ _ => rfl⟩
  | ret => exact fun σ H n kn kx kr r h => ⟨.ret, σ, H, n, ⟨1, rfl⟩, fun _ _ _ => rfl⟩
  | label l => exact fun σ H n kn kx kr r h => ⟨.norm, σ, H, n, ⟨1, rfl⟩, fun _ _ _ => rfl⟩
  | scope b ih =>
    intro σ H n kn kx kr r h
    have h : execq b call σ H n kn kx kr = some r := h
    obtain ⟨e, σ1, H1, n1, ⟨f1, h1⟩, h2⟩ := ih _ _ _ _ _ _ _ h
    exact ⟨e, σ1, H1, n1, ⟨f1 + 1, h1⟩, fun kn kx kr => h2 kn kx kr⟩
  | _ => intro σ H n kn kx kr r h; cases h

/-! ### functions -/
theorem resq_spec : ∀ {rs : List ResultVar} {σ : AE} {H : AH} {k : List AV → AR}, resq rs σ H k = some r → ∃ vs, eres Try.prog σ H rs = some vs ∧ ∀ k', resq rs σ H k' = k' vs
  | [], σ, H, k, h => ⟨[], rfl, fun _ => rfl⟩
  | .tmp t :: rs, σ, H, k, h => by
    have h : resq rs σ H (fun vs => k (getq (pa t) σ :: vs)) = some r := h
    obtain ⟨vs, h1, h2⟩ := resq_spec h
    refine ⟨getq (pa t) σ :: vs, by simp only [eres, h1]; rfl, fun k' => ?_⟩
    show resq rs σ H (fun vs => k' (getq (pa t) σ :: vs)) = _
    rw [h2]
  | .cell a t :: rs, σ, H, k, h => by
    have h : optq (eload Try.prog t (getq (pa a) σ) H) (fun v => resq rs σ H fun vs => k (v :: vs)) = some r := h
    obtain ⟨v, hv⟩ := optq_inv h
    rw [hv] at h
    have h : resq rs σ H (fun vs => k (v :: vs)) = some r := h
    obtain ⟨vs, h1, h2⟩ := resq_spec h
    refine ⟨v :: vs, by simp only [eres, show eev σ (.tmp a) = getq (pa a) σ from rfl, hv, h1]; rfl, fun k' => ?_⟩
    show optq (eload Try.prog t (getq (pa a) σ) H) (fun v => resq rs σ H fun vs => k' (v :: vs)) = _
    rw [hv]
    exact h2 _
set_option maxRecDepth 20000 in
theorem runq_spec (hc : CQN call) {c : Code} {rs : List ResultVar} {m : Nat} {args : List AV} {κ : KA} (h : runq call c rs m args H n κ = some r) :
    args.length ≤ m ∧ ∃ f e σ' H' n' vs, exec Try.prog (callA call) f c (eentry args 0 .nil) H n = some (e, σ', H', n') ∧ (∀ i, e ≠ .exit i) ∧ eres Try.prog σ' H' rs = some vs ∧ ∀ κ', runq call c rs m args H n κ' = κ' (epack vs) H' n' := by
  cases hb : Nat.ble args.length m with
  | false =>
    unfold runq at h
    rw [hb] at h; cases h
  | true =>
    have red : ∀ κ', runq call c rs m args H n κ' = execq c call (eentry args 0 .nil) H n (fun σ H n => resq rs σ H fun vs => κ' (epack vs) H n) (fun _ _ _ _ => none) (fun σ H n => resq rs σ H fun vs => κ' (epack vs) H n) := fun κ' => by
      unfold runq; rw [hb]
    rw [red] at h
    obtain ⟨e, σ', H', n', ⟨f, h1⟩, h2⟩ := execq_spec hc c _ _ _ _ _ _ _ h
    rw [h2] at h
    have hne : ∀ i, e ≠ .exit i := fun i q => by subst q; cases h
    have h : resq rs σ' H' (fun vs => κ (epack vs) H' n') = some r := by
      cases e with
      | norm => exact h
      | ret => exact h
      | exit i => exact (hne i rfl).elim
    obtain ⟨vs, h3, h4⟩ := resq_spec h
    refine ⟨Nat.le_of_ble_eq_true hb, f, e, σ', H', n', vs, h1, hne, h3, fun κ' => ?_⟩
    rw [red, h2]
    cases e with
    | norm => exact h4 _
    | ret => exact h4 _
    | exit i => exact (hne i rfl).elim
/-- A known function hands on one result. -/
def NatN (g : List AV → AH → Nat → KA → AR) : Prop := ∀ args H n κ r, g args H n κ = some r → ∃ v H' n', ∀ κ', g args H n κ' = κ' v H' n'
def TabQ (F : FuncId → EQ) : Prop := ∀ f, match F f with
  | .no => True
  | .run c rs m => fnOk Try.prog f = true ∧ ∃ fn, Try.prog.funcs[f]? = some fn ∧ fn.body = some c ∧ fn.results.toList = rs ∧ fn.ntmps = m
  | .nat g => NatN g ∧ COk Try.prog f fun args H n => g args H n topq
theorem callq_succ {F : FuncId → EQ} (d : Nat) {f : FuncId} {args : List AV} {κ : KA} : callq F (d + 1) f args H n κ = (EQ.rec (fun _ _ _ _ => none) (fun c rs k => runq (callq F d) c rs k) (fun g => g) (F f) : List AV → AH → Nat → KA → AR) args H n κ := rfl
set_option maxRecDepth 20000 in
theorem callq_CQN {F : FuncId → EQ} (hF : TabQ F) : ∀ d, CQN (callq F d)
  | 0 => fun f args H n κ r h => by cases h
  | d + 1 => fun f args H n κ r h => by
    have hf := hF f
    rw [callq_succ] at h
    simp only [callq_succ]
    cases hFf : F f with
    | no => rw [hFf] at h; cases h
    | run c rs m =>
      rw [hFf] at h
      have h : runq (callq F d) c rs m args H n κ = some r := h
      obtain ⟨_, fu, e, σ', H', n', vs, _, _, _, h4⟩ := runq_spec (callq_CQN hF d) h
      exact ⟨_, _, _, h4⟩
    | nat g =>
      rw [hFf] at h hf
      exact hf.1 args H n κ r h
set_option maxRecDepth 20000 in
theorem callq_sound {F : FuncId → EQ} (hm : Try.prog.follows .mixedOrders = true) (hF : TabQ F) : ∀ d f, COk Try.prog f (callA (callq F d) f)
  | 0, f => fun args H n v H' n' e => by cases e
  | d + 1, f => fun args H n v H' n' e φ h0 h vs K hr hargs hk => by
    have hf := hF f
    have e : callq F (d + 1) f args H n topq = some (v, H', n') := e
    rw [callq_succ] at e
    cases hFf : F f with
    | no => rw [hFf] at e; cases e
    | nat g =>
      rw [hFf] at e hf
      exact hf.2 args H n v H' n' e φ h0 h vs K hr hargs hk
    | run c rs m =>
      rw [hFf] at e hf
      have e : runq (callq F d) c rs m args H n topq = some (v, H', n') := e
      obtain ⟨hle, fu, x, σ', G, p, us, h1, h2, h3, h4⟩ := runq_spec (callq_CQN hF d) e
      rw [h4] at e
      have e : some (epack us, G, p) = some (v, H', n') := e
      injection e with e; injection e with e1 e2; injection e2 with e2 e3
      subst e1 e2 e3
      obtain ⟨hok, fn, hfn, hb, hrs, hnt⟩ := hf
      subst hrs hnt
      simp only [fnOk, hfn, hb, Bool.and_eq_true] at hok
      obtain ⟨hic, hds⟩ := hok
      have hal := hargs.length
      refine ⟨hic, callG_of hm hfn hb rfl rfl hds (by simpa [hal] using hle) fun _ => ?_⟩
      refine exec_sound (callq_sound hm hF d) h0 fu c φ _ σ' H G n p _ h x _ _ _ hr (entry_FR hargs) h1 fun ψ ρ' h' hp hr' hf' => ?_
      have fin : resK Try.prog fn.results.toList [] ρ' h' K := eres_sound hr' hf' fn.results.toList us [] h3 fun ws hws => .here (hk ψ _ h' hp hr' (by simpa using epack_VR hws))
      cases x with
      | norm => exact fin
      | ret => exact fin
      | exit i => exact (h2 i rfl).elim
set_option maxRecDepth 20000 in
theorem evQ_ok : TabQ evQ := fun f => by
  unfold evQ
  cases h : fnOkq f with
  | false => trivial
  | true =>
    show match bodyq f with
      | .no => True
      | .run c rs m => fnOk Try.prog f = true ∧ ∃ fn, Try.prog.funcs[f]? = some fn ∧ fn.body = some c ∧ fn.results.toList = rs ∧ fn.ntmps = m
      | .nat g => NatN g ∧ COk Try.prog f fun args H n => g args H n topq
    unfold bodyq
    split
    · trivial
    · rename_i c rs m hb
      split at hb
      · rename_i fn hfn
        split at hb
        · rename_i c' hc'
          injection hb with q1 q2 q3
          subst q1 q2 q3
          exact ⟨h, fn, hfn, hc', rfl, rfl⟩
        · cases hb
      · cases hb
    · rename_i g hb
      split at hb
      · split at hb <;> cases hb
      · cases hb
set_option maxRecDepth 20000 in
/-- A law that the quick machine finds true. -/
theorem evQ_calls {F : FuncId → EQ} (hF : TabQ F) {d : Nat} {f : FuncId} {args : List AV} {vs : Array Value} (hargs : VRs Ph.no args vs.toList)
    (he : isTrue (callq F d f args .nil 0 topq) = true) (w : World) : Calls Try.prog f vs w fun e w' => e = .returned (.bool true) ∧ Below w.heap.size w w' := by
  unfold isTrue at he
  split at he
  · rename_i H' n' e
    have hs := callq_sound (by kernel_rfl) hF d f args .nil 0 _ H' n' e _ (wholeHp w) (wholeHp w) vs (fun v g => v = .bool true ∧ (wholeHp w).n ≤ g.n ∧ ∀ b o, (wholeHp w).f b = some o → g.f b = some o) (wholeHp_start w) hargs
      (fun ψ u g _ hg hu => ⟨hu.bool_inv, hg.size, fun b o hb => (hg.base b o hb).2⟩)
    refine (hs.2 w (wholeHp_is w)).mono fun e' w' ⟨v, g, h1, h2, h3, h4, h5, h6⟩ => ?_
    subst h1 h4
    refine ⟨rfl, h3.1, h3.2.1, h3.2.2, ?_, fun b hb => ?_⟩
    · rw [h2.1]; exact h5
    · have := h6 b _ (show (wholeHp w).f b = some w.heap[b] from Array.getElem?_eq_getElem hb)
      rw [h2.2 b _ this, Array.getElem?_eq_getElem hb]
  · cases he
end
end Go.Proofs.Ytkhfdjhohfebgaa
namespace Go.Proofs.Ytkhfdjhohfebgaa
open Go Go.RowKit
theorem HR.grow {φ : Ph} {H : AH} {n : Nat} {h0 h g : Hp} (hr : HR φ H n h0 h) (hs : ∀ b o, h.f b = some o → g.f b = some o) (hn : h.n ≤ g.n) : HR φ H n h0 g :=
  ⟨fun b p e => ⟨(hr.dom b p e).1, Nat.lt_of_lt_of_le (hr.dom b p e).2 hn⟩, fun b o e =>
    (hr.live b o e).imp id fun ⟨p, ob, h1, h2, h3, h4⟩ => ⟨p, ob, h1, h2, hs _ _ h3, h4⟩, hr.inj, fun b o e => ⟨Nat.lt_of_lt_of_le (hr.base b o e).1 hn, hs _ _ (hr.base b o e).2⟩, Nat.le_trans hr.size hn, fun q hq => ⟨⟨(hr.frz q hq).1.1.grow hn (by obtain ⟨_, c, t, fz, h1, _⟩ := (hr.frz q hq).1.1; rw [h1, hs _ _ h1]), (hr.frz q hq).1.2⟩, (hr.frz q hq).2⟩⟩
theorem start_none {h : Hp} (hw : Wf h) : HR Ph.no .nil 0 h h :=
  ⟨fun _ _ k => (by cases k), fun _ _ k => (by cases k), fun _ _ _ _ _ _ k => (by cases k), fun b o k => ⟨hw b o k, k⟩, Nat.le_refl _, fun _ k => k.elim⟩
theorem isTrue_inv {r : AR} (h : isTrue r = true) : ∃ H n, r = some (.bool true, H, n) := by
  unfold isTrue at h
  split at h
  · exact ⟨_, _, rfl⟩
  · cases h
/-- A function without arguments that was found to answer true. -/
def trueN (args : List AV) (H : AH) (n : Nat) (κ : KA) : AR := match args with
  | [] => κ (.bool true) H n
  | _ => none
theorem trueN_N : NatN trueN := fun args H n κ r h => by
  cases args with
  | nil => exact ⟨_, _, _, fun _ => rfl⟩
  | cons _ _ => cases h
theorem trueN_ok {F : FuncId → EQ} (hF : TabQ F) {d : Nat} {f : FuncId} (he : isTrue (callq F d f [] .nil 0 topq) = true) : COk Try.prog f fun args H n => trueN args H n topq := fun args H n v H' n' e φ h0 h vs K hr hargs hk => by
  cases args with
  | cons _ _ => cases e
  | nil =>
    injection e with e; injection e with e1 e2; injection e2 with e2 e3
    subst e1 e2 e3
    obtain ⟨H1, n1, e4⟩ := isTrue_inv he
    have hv : vs = #[] := by
      have := hargs.nil_inv
      cases vs; simp_all
    subst hv
    have key : ∀ {g : Hp} {K : KH}, Wf g → (∀ u g', (∀ b o, g.f b = some o → g'.f b = some o) → g.n ≤ g'.n → u = .bool true → K u g') → CallF Try.prog f #[] g K := fun {g K} hw hK =>
      callq_sound (by kernel_rfl) hF d f [] .nil 0 _ H1 n1 e4 Ph.no g g #[] K (start_none hw) .nil fun ψ u g' _ hg hu => hK u g' (fun b o hb => (hg.base b o hb).2) hg.size hu.bool_inv
    have hic : isCall Try.prog f = true := (key (g := ⟨fun _ => none, 0⟩) (K := fun _ _ => True) (fun _ _ q => by cases q) fun _ _ _ _ _ => trivial).1
    refine ⟨hic, fun w hi => ?_⟩
    exact (key hi.wf fun u g' h1 h2 h3 => by
      subst h3
      exact hk φ _ g' (PLe.refl _) (hr.grow h1 h2) (.bool true)).2 w hi
/-- The table, one function known to answer true. -/
noncomputable def withTrue (k : FuncId) (F : FuncId → EQ) (f : FuncId) : EQ := Bool.rec (F f) (.nat trueN) (Nat.beq f k)
theorem withTrue_ok {F G : FuncId → EQ} (hF : TabQ F) (hG : TabQ G) {d : Nat} {k : FuncId} (he : isTrue (callq G d k [] .nil 0 topq) = true) : TabQ (withTrue k F) := fun f => by
  unfold withTrue
  cases hb : Nat.beq f k with
  | false => exact hF f
  | true =>
    have := Nat.eq_of_beq_eq_true hb
    subst this
    exact ⟨trueN_N, trueN_ok hG he⟩
theorem two_cells {cs : Array Value} (h : cs.size = 2) : ∃ a b, cs = #[a, b] := by
  obtain ⟨l⟩ := cs
  match l, h with
  | [a, b], _ => exact ⟨a, b, rfl⟩
/-- Any values, as values that nobody looks into. -/
theorem VRs.anys (φ : Ph) (l : List Value) : VRs φ (l.map AV.any) l := by
  have := VRs.map (φ := φ) (f := AV.any) (g := id) VR.any l
  simpa using this
end Go.Proofs.Ytkhfdjhohfebgaa
namespace Go.Proofs.Ytkhfdjhohfebgaa
open Go Go.RowKit
abbrev PK := AV → AH → Nat → Prop
abbrev CP := FuncId → List AV → AH → Nat → PK → Prop
abbrev KP := AE → AH → Nat → Prop
def optP {α : Type} (o : Option α) (k : α → Prop) : Prop := match o with
  | some a => k a
  | none => False
def bifP (b : Bool) (t e : Prop) : Prop := match b with
  | true => t
  | false => e
/-- A way that parts by a truth that is not known. -/
structure Fork (b : Bool) (A B : Prop) : Prop where
  t : b = true → A
  f : b = false → B
theorem Fork.dec {p : Prop} [Decidable p] {A B : Prop} (t : p → A) (f : ¬ p → B) : Fork (decide p) A B := ⟨fun h => t (of_decide_eq_true h), fun h => f (of_decide_eq_false h)⟩
theorem Fork.ndec {p : Prop} [Decidable p] {A B : Prop} (t : ¬ p → A) (f : p → B) : Fork (!decide p) A B := ⟨fun h => t (by simpa using h), fun h => f (by simpa using h)⟩

/-- What is known by a proof, not by reckoning. -/
inductive Ask {α : Type} (o : Option α) (κ : α → Prop) : Prop where
  | mk (a : α) (h : o = some a) (k : κ a)
/-- An index that is not known. -/
inductive Idx (i : Int) (len : Nat) (κ : Nat → Prop) : Prop where
  | mk (j : Nat) (h : i = (j : Int)) (lt : j < len) (k : κ j)
/-- A value as one that is known. -/
def hd : AV → AV
  | .si k n => .int k n
  | .sb b => .bool b
  | .ss s => .str s
  | .sy b o n c k => .sl b o n c k
  | v => v
/-- A value as one that is not known. -/
def mk : AV → AV
  | .int k n => .si k n
  | .bool b => .sb b
  | .str s => .ss s
  | .sl b o n c k => .sy b o n c k
  | v => v
def isS : AV → Bool
  | .si _ _ => true
  | .sb _ => true
  | .ss _ => true
  | .sy _ _ _ _ _ => true
  | _ => false

theorem Fork.sb {A B : Prop} {b : Bool} (t : b = true → A) (f : b = false → B) : Fork b A B := ⟨t, f⟩
theorem Fork.nsb {A B : Prop} {b : Bool} (t : b = false → A) (f : b = true → B) : Fork (!b) A B := ⟨fun h => t (by simpa using h), fun h => f (by simpa using h)⟩

/-! ### operations -/
/-- 'c': the second number is known. -/
def symP (op : BinOp) (k j : IntKind) (a b : Int) (c : Bool) (κ : AV → Prop) : Prop := match op with
  | .shl => (match c with
    | true => bifP (ltq b 0) False (κ (.si k (k.wrap (a * 2 ^ min b.toNat k.bits))))
    | false => 0 ≤ b ∧ κ (.si k (k.wrap (a * 2 ^ min b.toNat k.bits))))
  | .shr => (match c with
    | true => bifP (ltq b 0) False (κ (.si k (a.fdiv (2 ^ min b.toNat k.bits))))
    | false => 0 ≤ b ∧ κ (.si k (a.fdiv (2 ^ min b.toNat k.bits))))
  | op => bifP (kindq k j) (match op with
    | .add => κ (.si k (k.wrap (a + b)))
    | .sub => κ (.si k (k.wrap (a - b)))
    | .mul => κ (.si k (k.wrap (a * b)))
    | .quo => (match c with
      | true => bifP (eqq b 0) False (κ (.si k (k.wrap (a.tdiv b))))
      | false => b ≠ 0 ∧ κ (.si k (k.wrap (a.tdiv b))))
    | .rem => (match c with
      | true => bifP (eqq b 0) False (κ (.si k (a.tmod b)))
      | false => b ≠ 0 ∧ κ (.si k (a.tmod b)))
    | .and => κ (.si k (bitsV .and k a b))
    | .or => κ (.si k (bitsV .or k a b))
    | .xor => κ (.si k (bitsV .xor k a b))
    | .andNot => κ (.si k (bitsV .andNot k a b))
    | .eql => κ (.sb (decide (a = b)))
    | .neq => κ (.sb (!decide (a = b)))
    | .lss => κ (.sb (decide (a < b)))
    | .leq => κ (.sb (decide (a ≤ b)))
    | .gtr => κ (.sb (decide (b < a)))
    | .geq => κ (.sb (decide (b ≤ a)))
    | _ => False) False
def strP (op : BinOp) (a b : List Nat) (κ : AV → Prop) : Prop := match op with
  | .add => a.length + b.length ≤ 9223372036854775807 ∧ κ (.ss (a ++ b))
  | .eql => κ (.sb (beqL a b))
  | .neq => κ (.sb (!beqL a b))
  | .lss => κ (.sb (ltL a b))
  | .leq => κ (.sb (ltL a b || beqL a b))
  | .gtr => κ (.sb (!(ltL a b || beqL a b)))
  | .geq => κ (.sb (!ltL a b))
  | _ => False
noncomputable def bolP (op : BinOp) (t : TypeId) (a b : Bool) (κ : AV → Prop) : Prop := bifP (isBoolT Try.prog t) (match op with
  | .eql => κ (.sb (a == b))
  | .neq => κ (.sb (!(a == b)))
  | _ => False) False
noncomputable def binP (op : BinOp) (t : TypeId) (x y : AV) (H : AH) (κ : AV → Prop) : Prop := match x, y with
  | .int k a, .int j b => optP (eint op k j a b) κ
  | .int k a, .si j b => symP op k j a b false κ
  | .si k a, .int j b => symP op k j a b true κ
  | .si k a, .si j b => symP op k j a b false κ
  | .ss a, .ss b => strP op a b κ
  | .ss a, .str b => strP op a b κ
  | .str a, .ss b => strP op a b κ
  | .sb a, .sb b => bolP op t a b κ
  | .sb a, .bool b => bolP op t a b κ
  | .bool a, .sb b => bolP op t a b κ
  | .agg xs, .agg ys => bifP (xs.any isS || ys.any isS) (optP (ebin Try.prog op t (.agg (xs.map hd)) (.agg (ys.map hd)) H) fun v => κ (mk v)) (optP (ebin Try.prog op t (.agg xs) (.agg ys) H) κ)
  | x, y => optP (ebin Try.prog op t x y H) κ
noncomputable def unP (op : UnOp) (x : AV) (κ : AV → Prop) : Prop := match op, x with
  | .not, .sb b => κ (.sb (!b))
  | .neg, .si k n => κ (.si k (k.wrap (0 - n)))
  | .xor, .si k n => κ (.si k (bitsV .xor k (if k.signed then -1 else k.max) n))
  | op, x => optP (eun op x) κ
def pickP (c : AV) (A B : Prop) : Prop := match c with
  | .bool true => A
  | .bool false => B
  | .sb q => Fork q A B
  | _ => False
def intKindOf (P : Program) (t : TypeId) : Option IntKind := match P.underlying t with
  | some (.int k) => some k
  | _ => none
/-- What is yielded, taken apart (so that a name stays a number that reckons). -/
noncomputable def un3 (κ : PK) (r : AV × AH × Nat) : Prop := Prod.rec (fun v q => Prod.rec (fun H n => κ v H n) q) r
noncomputable def slowP (o : Op) (σ : AE) (H : AH) (n : Nat) (κ : PK) : Prop := optP (estep Try.prog noCall o σ H n) (un3 κ)
noncomputable def mmP (mx : Bool) (x y : AV) (κ : AV → Prop) : Prop := match x, y with
  | .si k a, .si _ b => κ (.si k (if mx then max a b else min a b))
  | .si k a, .int _ b => κ (.si k (if mx then max a b else min a b))
  | .int k a, .si _ b => κ (.si k (if mx then max a b else min a b))
  | x, y => optP (emm mx x y) κ
noncomputable def lenP (t : TypeId) (x : AV) (H : AH) (κ : AV → Prop) : Prop := match x with
  | .ss _ => optP (elen Try.prog t (hd x) H) fun v => κ (mk v)
  | .sy _ _ _ _ _ => optP (elen Try.prog t (hd x) H) fun v => κ (mk v)
  | .rw _ _ n _ _ => bifP (isSlT Try.prog t) (κ (.si .i64 n)) False
  | .fr n _ _ => bifP (isSlT Try.prog t) (κ (.si .i64 n)) False
  | _ => optP (elen Try.prog t x H) κ
noncomputable def ixP (ix : AV) (len : Nat) (s : Bool) (κ : Nat → Prop) : Prop := match ix, s with
  | .si _ i, _ => Idx i len κ
  | .int _ i, true => Idx i len κ
  | _, _ => optP (eix ix len) κ
noncomputable def indexAddrP (t : TypeId) (x ix : AV) (κ : AV → Prop) : Prop := match Try.prog.underlying t, x with
  | some (.slice e), .sl b o n _ _ => optP (tySize Try.prog e) fun k => ixP ix n false fun i => κ (.ptr b (o + i * k))
  | some (.slice e), .sy b o n _ _ => optP (tySize Try.prog e) fun k => ixP ix n true fun i => κ (.ptr b (o + i * k))
  | some (.slice e), .rw b o n _ _ => optP (tySize Try.prog e) fun k => ixP ix n true fun i => κ (.ptr b (o + i * k))
  | some (.slice e), .fr n k' l => optP (tySize Try.prog e) fun k => bifP (Nat.beq k k') (ixP ix n true fun i => κ (.fa l (i * k))) False
  | some (.array len e), .ptr b o => optP (tySize Try.prog e) fun k => ixP ix len false fun i => κ (.ptr b (o + i * k))
  | _, _ => False
noncomputable def indexP (t : TypeId) (x ix : AV) (κ : AV → Prop) : Prop := match Try.prog.underlying t, x with
  | some (.array len e), .agg l => optP (tySize Try.prog e) fun k => ixP ix len false fun i => optP (epart Try.prog e l (i * k)) κ
  | some .string, .str s => ixP ix s.length false fun i => optP (nth s i) fun c => (match ix with
    | .int _ _ => κ (.int .u8 (Int.ofNat c))
    | _ => κ (.si .u8 (Int.ofNat c)))
  | some .string, .ss s => ixP ix s.length true fun i => Ask (nth s i) fun c => κ (.si .u8 (Int.ofNat c))
  | _, _ => False
noncomputable def getP (l : List AV) (t : TypeId) (o : Nat) (κ : AV → Prop) : Prop := match tyAgg Try.prog t with
  | some false => optP (nth l o) κ
  | some true => optP (tySize Try.prog t) fun m => optP (subL l o m) fun r => κ (.agg r)
  | none => False
noncomputable def loadP (t : TypeId) (a : AV) (H : AH) (κ : AV → Prop) : Prop := match a with
  | .ptr b o => (match H.get b with
    | some (.cells l _) => getP l t o κ
    | some (.ro l) => getP l t o κ
    | _ => False)
  | .fa l o => getP l t o κ
  | _ => False
noncomputable def storeP (t : TypeId) (a v : AV) (H : AH) (n : Nat) (κ : PK) : Prop := match a with
  | .ptr b o => (match H.get b with
    | some (.cells l z) => optP (tySize Try.prog t) fun s => bifP (Nat.beq v.cells.length s && (okC v && v.cells.all one1)) (optP (setL l o v.cells) fun l' => κ undefA (H.set (some (.cells l' z)) depthH b) n) False
    | _ => False)
  | _ => False
noncomputable def mk3 (κ : PK) (r : AV × AH × Nat) : Prop := un3 (fun v H n => κ (mk v) H n) r
/-! ### rows that may be none -/
def isR : AV → Bool
  | .rw _ _ _ _ _ => true
  | .fr _ _ _ => true
  | _ => false
/-- Bounds of a part of a row. -/
inductive RSl (lo hi mx : Option AV) (n : Nat) (κ : Nat → Nat → Prop) : Prop where
  | mk (l h : Nat) (hl : ebnd (lo.map hd) 0 = some l) (hh : ebnd (hi.map hd) n = some h) (hm : mx = none ∨ (hi.isSome = true ∧ ebnd (mx.map hd) 0 = some h)) (h1 : l ≤ h) (h2 : h ≤ n) (k : κ l h)
def rwO (o k l : Nat) : Option AV → Nat
  | none => o
  | some _ => o + l * k
def rwN (n l h : Nat) : Option AV → Option AV → Nat
  | none, none => n
  | some _, none => n - l
  | none, some _ => h
  | some _, some _ => h - l
def rwX (x : Nat) : Option AV → Option AV → Nat
  | none, _ => x
  | some _, none => (match x with
    | 0 => 0
    | 1 => 0
    | x + 2 => x + 2)
  | some _, some _ => (match x with
    | 4 => 4
    | _ => 1)
def rwSub (b o n k x : Nat) (lo hi mx : Option AV) (l h : Nat) : AV := .rw b (rwO o k l lo) (rwN n l h lo hi) k (rwX x hi mx)
noncomputable def rslP (t : TypeId) (b o n k x : Nat) (lo hi mx : Option AV) (κ : AV → Prop) : Prop := match Try.prog.underlying t with
  | some (.slice e) => optP (tySize Try.prog e) fun es => bifP (Nat.beq es k) (RSl lo hi mx n fun l h => κ (rwSub b o n k x lo hi mx l h)) False
  | _ => False
def frL (k : Nat) (L : List AV) (l h : Nat) : Option AV → Option AV → List AV
  | none, none => L
  | some _, none => L.drop (l * k)
  | none, some _ => L.take (h * k)
  | some _, some _ => (L.drop (l * k)).take ((h - l) * k)
noncomputable def fslP (t : TypeId) (n k : Nat) (L : List AV) (lo hi : Option AV) (κ : AV → Prop) : Prop := match Try.prog.underlying t with
  | some (.slice e) => optP (tySize Try.prog e) fun es => bifP (Nat.beq es k) (RSl lo hi none n fun l h => κ (.fr (rwN n l h lo hi) k (frL k L l h lo hi))) False
  | _ => False
/-- The next entry of a map, whichever it is. -/
inductive Nxt (H : AH) (a : AV) (s : Bool) (κ : AV → AH → Prop) : Prop where
  | mk (it b m : Nat) (seen : List Nat) (es : List (AV × AV)) (hs : s = false) (ha : a = .ptr it 0) (hi : H.get it = some (.iter b m seen)) (hb : H.get b = some (.map es)) (hm : es.length = m)
    (over : (∀ i, i < m → i ∈ seen) → κ (.tup [.bool false]) H)
    (step : ∀ i e, es[i]? = some e → i ∉ seen → κ (.tup [.bool true, Go.Proofs.Ytkhfdjhohfebgaa.mk e.1, e.2]) (H.set (some (.iter b m (seen ++ [i]))) depthH it))
/-- The entry that came last. -/
inductive Ent (H : AH) (a : AV) (κ : AV → Prop) : Prop where
  | mk (it b m i : Nat) (seen : List Nat) (es : List (AV × AV)) (e : AV × AV) (ha : a = .ptr it 0) (hi : H.get it = some (.iter b m (seen ++ [i]))) (hb : H.get b = some (.map es)) (hm : es.length = m) (he : es[i]? = some e)
    (k : κ (.tup [Go.Proofs.Ytkhfdjhohfebgaa.mk e.1, e.2]))
/-- What a row holds. -/
inductive RSrc (H : AH) (k : Nat) : AV → Nat → List AV → Prop where
  | rw {b o n k' x : Nat} {l new : List AV} (hb : H.get b = some (.ro l) ∨ ∃ z, H.get b = some (.cells l z)) (hs : subL l o (n * k) = some new) : RSrc H k (.rw b o n k' x) n new
  | old {x : AV} {m : Nat} {new : List AV} (e : esrc H k (hd x) = some (m, new)) : RSrc H k x m new
  | fr {n : Nat} {l : List AV} : RSrc H k (.fr n k l) n l
/-- A row that is appended to: how many, what, the memory without it. -/
inductive RowS (H : AH) (k : Nat) : AV → Nat → List AV → AH → Bool → Prop where
  | nsl : RowS H k .nsl 0 [] H true
  | rw {b o n : Nat} {l old : List AV} {z : Bool} (hb : H.get b = some (.cells l z)) (hs : subL l o (n * k) = some old) : RowS H k (.rw b o n k 0) n old (H.set none depthH b) z
  | sl {b o n c : Nat} {l old : List AV} {z : Bool} (hb : H.get b = some (.cells l z)) (hs : subL l o (n * k) = some old) (hn : n ≤ c) (hc : o + c * k ≤ l.length) : RowS H k (.sl b o n c 0) n old (H.set none depthH b) z
structure RTy (t u : TypeId) (k by' : Nat) : Prop where
  h : ∃ e ud z, Try.prog.underlying t = some (.slice e) ∧ Try.prog.underlying u = some ud ∧ (∀ q, ud ≠ .int q) ∧ tySize Try.prog e = some k ∧ tyBytes Try.prog e = some by' ∧ tyZero Try.prog e = some z ∧ z.cells.size = k ∧ 0 < by' ∧ 0 < k
inductive RApp (t u : TypeId) (s x : AV) (H : AH) (n : Nat) (κ : PK) : Prop where
  | grow (k by' m sn : Nat) (new old : List AV) (G : AH) (z : Bool) (ty : RTy t u k by') (src : RSrc H k x m new) (hnew : new.length = m * k) (hone : new.all one1 = true) (row : RowS H k s sn old G z) (big : (sn + m) * by' ≤ 140737488355328)
    (k' : κ (.rw n 0 (sn + m) k 0) (G.set (some (.cells (old ++ new) z)) depthH n) (n + 1))
  | exact (k by' m b o sn : Nat) (new old : List AV) (hs : s = .rw b o sn k 1) (ty : RTy t u k by') (src : RSrc H k x m new) (hnew : new.length = m * k) (hone : new.all one1 = true) (hm : m ≠ 0) (row : RSrc H k s sn old) (big : (sn + m) * by' ≤ 140737488355328)
    (k' : κ (.rw n 0 (sn + m) k 0) (H.set (some (.cells (old ++ new) true)) depthH n) (n + 1))
noncomputable def appendP (t u : TypeId) (s x : AV) (H : AH) (n : Nat) (κ : PK) : Prop := bifP (isR s || isR x) (RApp t u s x H n κ) (bifP (isS s || isS x) (Ask (eappend Try.prog t u (hd s) (hd x) H n) (mk3 κ)) (optP (eappend Try.prog t u s x H n) (un3 κ)))
noncomputable def copyP (t : TypeId) (s x : AV) (H : AH) (n : Nat) (κ : PK) : Prop := bifP (isS s || isS x) (Ask (ecopy Try.prog t (hd s) (hd x) H n) (mk3 κ)) (optP (ecopy Try.prog t s x H n) (un3 κ))
noncomputable def makeP (t : TypeId) (l c : AV) (H : AH) (n : Nat) (κ : PK) : Prop := bifP (isS l || isS c) (Ask (emake Try.prog t (hd l) (hd c) H n) (mk3 κ)) (optP (emake Try.prog t l c H n) (un3 κ))
noncomputable def sliceP (t : TypeId) (x : AV) (lo hi mx : Option AV) (κ : AV → Prop) : Prop := match x with
  | .rw b o n k q => rslP t b o n k q lo hi mx κ
  | .fr n k q => (match mx with
    | none => fslP t n k q lo hi κ
    | some _ => False)
  | x => bifP (isS x || (optS lo || (optS hi || optS mx))) (Ask (eslice Try.prog t (hd x) (lo.map hd) (hi.map hd) (mx.map hd)) fun v => κ (mk v)) (optP (eslice Try.prog t x lo hi mx) κ)
where optS : Option AV → Bool
  | some v => isS v
  | none => false
noncomputable def callP (c : Call) (call : CP) (σ : AE) (H : AH) (n : Nat) (κ : PK) : Prop := match c.callee with
  | .value f => (match eev σ f with
    | .fn g a cs => call g (a ++ c.args.toList.map (eev σ) ++ cs) H n κ
    | _ => False)
  | .builtin .len => (match c.argTypes.toList, c.args.toList.map (eev σ) with
    | [t], [x] => lenP t x H fun v => κ v H n
    | _, _ => False)
  | .builtin .min => (match c.args.toList.map (eev σ) with
    | [x, y] => mmP false x y fun v => κ v H n
    | _ => False)
  | .builtin .max => (match c.args.toList.map (eev σ) with
    | [x, y] => mmP true x y fun v => κ v H n
    | _ => False)
  | .builtin .append => (match c.argTypes.toList, c.args.toList.map (eev σ) with
    | [t, u], [s, x] => appendP t u s x H n κ
    | _, _ => False)
  | .builtin .copy => (match c.argTypes.toList, c.args.toList.map (eev σ) with
    | [t, _], [s, x] => copyP t s x H n κ
    | _, _ => False)
  | _ => False
/-- A row of bytes as a text. -/
inductive RStr (src dst : TypeId) (x : AV) (H : AH) (κ : AV → Prop) : Prop where
  | mk (b o n k q : Nat) (l new : List AV) (s : List Nat) (hx : x = .rw b o n k q) (hq : q ≠ 4) (ty : ∃ e, Try.prog.underlying src = some (.slice e) ∧ Try.prog.underlying e = some (.int .u8) ∧ Try.prog.underlying dst = some .string) (hb : H.get b = some (.ro l) ∨ ∃ z, H.get b = some (.cells l z)) (hl : subL l o n = some new) (hs : ebytes new = some s) (k' : κ (.ss s))
noncomputable def convP (src dst : TypeId) (x : AV) (H : AH) (n : Nat) (κ : PK) : Prop := match x with
  | .si _ a => (match intKindOf Try.prog src, intKindOf Try.prog dst with
    | some _, some k => κ (.si k (k.wrap a)) H n
    | _, _ => False)
  | .rw _ _ _ _ _ => RStr src dst x H fun v => κ v H n
  | _ => bifP (isS x) (Ask (econv Try.prog src dst (hd x) H n) (mk3 κ)) (optP (econv Try.prog src dst x H n) (un3 κ))
noncomputable def stepP (o : Op) (call : CP) (σ : AE) (H : AH) (n : Nat) (κ : PK) : Prop := match o with
  | .move x => κ (eev σ x) H n
  | .assign x => κ (eev σ x) H n
  | .pick c a b => pickP (eev σ c) (κ (eev σ a) H n) (κ (eev σ b) H n)
  | .load t a => loadP t (eev σ a) H fun v => κ v H n
  | .store t a x => storeP t (eev σ a) (eev σ x) H n κ
  | .binOp op t x y _ => binP op t (eev σ x) (eev σ y) H fun v => κ v H n
  | .unOp op _ x => unP op (eev σ x) fun v => κ v H n
  | .indexAddr t x ix => indexAddrP t (eev σ x) (eev σ ix) fun v => κ v H n
  | .index t x ix => indexP t (eev σ x) (eev σ ix) fun v => κ v H n
  | .slice t x lo hi mx => sliceP t (eev σ x) (lo.map (eev σ)) (hi.map (eev σ)) (mx.map (eev σ)) fun v => κ v H n
  | .makeSlice t l c => makeP t (eev σ l) (eev σ c) H n κ
  | .convert s d x => convP s d (eev σ x) H n κ
  | .call c => callP c call σ H n κ
  | .lookup t m k ok => bifP (isS (eev σ k)) (Ask (elookup Try.prog t (eev σ m) (hd (eev σ k)) ok H) fun v => κ v H n) (optP (elookup Try.prog t (eev σ m) (eev σ k) ok H) fun v => κ v H n)
  | .next it s => Nxt H (eev σ it) s fun v H => κ v H n
  | .entry it => Ent H (eev σ it) fun v => κ v H n
  | o => slowP o σ H n κ

/-! ### code -/
noncomputable def opP (ops : Array Oper) (o : Oper) (call : CP) (σ : AE) (H : AH) (n : Nat) (k : KP) : Prop := match o.guard with
  | none => stepP o.op call σ H n fun v H n => k (eput σ o.dst v) H n
  | some (j, want) => (match gslot ops j with
    | none => False
    | some t => (match getq (pa t) σ with
      | .bool q => (match q == want with
        | true => stepP o.op call σ H n fun v H n => k (eput σ o.dst v) H n
        | false => k (eput σ o.dst undefA) H n)
      | .sb q => (match want with
        | true => Fork q (stepP o.op call (eput σ (some t) (.bool true)) H n fun v H n => k (eput (eput σ (some t) (.bool true)) o.dst v) H n) (k (eput (eput σ (some t) (.bool false)) o.dst undefA) H n)
        | false => Fork q (k (eput (eput σ (some t) (.bool true)) o.dst undefA) H n) (stepP o.op call (eput σ (some t) (.bool false)) H n fun v H n => k (eput (eput σ (some t) (.bool false)) o.dst v) H n))
      | .tup _ => k (eput σ o.dst undefA) H n
      | _ => False))
noncomputable def opsP (ops : Array Oper) (l : List Oper) : CP → AE → AH → Nat → KP → Prop :=
  List.rec (fun _ σ H n k => k σ H n) (fun o _ ih call σ H n k => opP ops o call σ H n fun σ H n => ih call σ H n k) l
abbrev XP := CP → AE → AH → Nat → KP → (Nat → KP) → KP → Prop
/-- A known truth put into its slot. -/
noncomputable def refP (c : Operand) (q : Bool) (σ : AE) : AE := match c with
  | .tmp t => eput σ (some t) (.bool q)
  | _ => σ
noncomputable def condP (c : Operand) (σ : AE) (A B : AE → Prop) : Prop := match eev σ c with
  | .bool true => A σ
  | .bool false => B σ
  | .sb q => Fork q (A (refP c true σ)) (B (refP c false σ))
  | _ => False
/-- What stands for one state stands for another one, whose blocks below p have the same names. -/
def Cov (p : Nat) (σ : AE) (H : AH) (n : Nat) (s : AE × AH × Nat) : Prop := ∀ (φ : Ph) (h0 h : Hp) (ρ : Env), HR φ H n h0 h → FR φ σ ρ → ∃ ψ : Ph, ((∀ b q, b < p → φ b = some q → ψ b = some q) ∧ (∀ q, φ.z q → ψ.z q) ∧ ∀ q, ψ.y q → φ.y q) ∧ HR ψ s.2.1 s.2.2 h0 h ∧ FR ψ s.1 ρ
/-- A loop walked to its end, at most k times. -/
noncomputable def rollP (k : Nat) (body : AE → AH → Nat → KP → Prop) : KP := Nat.rec (fun _ _ _ => False) (fun _ ih σ H n => body σ H n ih) k
inductive LoopP (p : Nat) (body : AE → AH → Nat → KP → Prop) (σ : AE) (H : AH) (n : Nat) : Prop where
  | mk (α : Type) (m : Nat) (st : α → AE × AH) (μ : α → Nat) (a0 : α) (h0 : Cov p σ H n ((st a0).1, (st a0).2, m)) (h : ∀ a, body (st a).1 (st a).2 m fun σ' H' n' => ∃ a', μ a' < μ a ∧ Cov p σ' H' n' ((st a').1, (st a').2, m))
  | roll (k : Nat) (h : rollP k body σ H n)
/-! ### a region that draws its order -/
/-- Of one operation: how many places back the memory is that it looks at (none: it is a call), and its slots. -/
abbrev DB := Option Nat × List Nat
abbrev DT := List (Nat × List DB)
noncomputable def findD (D : DT) (id : Nat) : Option (List DB) := List.rec none (fun x _ ih => Bool.rec ih (some x.2) (Nat.beq x.1 id)) D
noncomputable def filtq (σ : AE) (ts : List Nat) : AE := List.rec .nil (fun t _ ih => setq (getq (pa t) σ) (pa t) ih) ts
/-- An operation that only looks. -/
noncomputable def qP (o : Op) (σ : AE) (H : AH) (κ : AV → Prop) : Prop := match o with
  | .move x => κ (eev σ x)
  | .assign x => κ (eev σ x)
  | .pick c a b => pickP (eev σ c) (κ (eev σ a)) (κ (eev σ b))
  | .load t a => loadP t (eev σ a) H κ
  | .binOp op t x y _ => binP op t (eev σ x) (eev σ y) H κ
  | .unOp op _ x => unP op (eev σ x) κ
  | .indexAddr t x ix => indexAddrP t (eev σ x) (eev σ ix) κ
  | .index t x ix => indexP t (eev σ x) (eev σ ix) κ
  | .slice t x lo hi mx => sliceP t (eev σ x) (lo.map (eev σ)) (hi.map (eev σ)) (mx.map (eev σ)) κ
  | .call ⟨.builtin .len, xs, ts⟩ => (match ts.toList, xs.toList.map (eev σ) with
    | [t], [x] => lenP t x H κ
    | _, _ => False)
  | .call ⟨.builtin .min, xs, _⟩ => (match xs.toList.map (eev σ) with
    | [x, y] => mmP false x y κ
    | _ => False)
  | .call ⟨.builtin .max, xs, _⟩ => (match xs.toList.map (eev σ) with
    | [x, y] => mmP true x y κ
    | _ => False)
  | o => optP (epure Try.prog o σ H) κ
noncomputable def dynOp (ops : Array Oper) (o : Oper) (b : DB) (cd : CP) (hist : List (AH × Nat)) (σ : AE) (H : AH) (n : Nat) (k : KP) : Prop :=
  let go : AE → Prop := fun σ => (match b.1 with
    | none => (match o.op with
      | .call c => callP c cd (filtq σ b.2) H n fun v H n => k (eput σ o.dst v) H n
      | _ => False)
    | some j => optP (nth ((H, n) :: hist) j) fun r => qP o.op (filtq σ b.2) r.1 fun v => k (eput σ o.dst v) H n)
  match o.guard with
  | none => go σ
  | some (j, want) => (match gslot ops j with
    | none => False
    | some t => (match getq (pa t) σ with
      | .bool q => (match q == want with
        | true => go σ
        | false => k (eput σ o.dst undefA) H n)
      | .sb q => (match want with
        | true => Fork q (go (eput σ (some t) (.bool true))) (k (eput (eput σ (some t) (.bool false)) o.dst undefA) H n)
        | false => Fork q (k (eput (eput σ (some t) (.bool true)) o.dst undefA) H n) (go (eput σ (some t) (.bool false))))
      | .tup _ => k (eput σ o.dst undefA) H n
      | _ => False))
noncomputable def dynL (ops : Array Oper) (l : List Oper) : List DB → CP → List (AH × Nat) → AE → AH → Nat → KP → Prop :=
  List.rec (fun _ _ _ σ H n k => k σ H n) (fun o _ ih bs cd hist σ H n k => List.rec False (fun b bs' _ => dynOp ops o b cd hist σ H n fun σ' H' n' => ih bs' cd ((H, n) :: hist) σ' H' n' k) bs) l
/-- What is ahead of each operation by the edges, as bits. -/
def maskOf (A : List Nat) (i : Nat) (o : Oper) : Nat := o.after.toList.foldl (fun m e => if Region.binds .any e && decide (e.on < i) then m ||| (2 ^ e.on ||| A.getD e.on 0) else m) 0
def ancsGo : List Oper → Nat → List Nat → List Nat
  | [], _, A => A
  | o :: l, i, A => ancsGo l (i + 1) (A ++ [maskOf A i o])
def ancOk (A : List Nat) (ops : Array Oper) : Bool := (List.range ops.size).all fun i => match ops[i]? with
  | some o => A.getD i 0 == maskOf A i o
  | none => true
def befA (A : List Nat) (j i : Nat) : Bool := (A.getD i 0).testBit j
def isCallV : Op → Bool
  | .call ⟨.value _, _, _⟩ => true
  | _ => false
def loudAt (ops : Array Oper) (j : Nat) : Bool := match ops[j]? with
  | some o => loudOp o.op
  | none => false
def gslotIn (ops : Array Oper) (o : Oper) (ts : List Nat) : Bool := match o.guard with
  | none => true
  | some (j, _) => (match gslot ops j with
    | some t => ts.contains t
    | none => true)
def opOk (A : List Nat) (ops : Array Oper) (bs : List DB) (i : Nat) : Bool := match ops[i]?, bs[i]? with
  | some o, some b => b.2.all (fun t => (looks ops o).contains t) && gslotIn ops o b.2 && (match b.1 with
      | none => isCallV o.op
      | some k => !loudOp o.op && (decide (k ≤ i) && (List.range (i - k)).all fun j => !loudAt ops j || befA A j i)) &&
    (List.range i).all fun j => (match ops[j]? with
      | some a => a.apart ops o && (!loudOp a.op || !loudOp o.op)
      | none => true) || befA A j i
  | _, _ => false
def dynOk (ops : Array Oper) (bs : List DB) : Bool := edgesOk ops && (ancOk (ancsGo ops.toList 0 []) ops && (List.range ops.size).all (opOk (ancsGo ops.toList 0 []) ops bs))
/-! A region told in several orders: pairs of which nobody knows which comes first, and for each way one order. -/
def pairsOf : List Nat → List (Nat × Nat)
  | a :: b :: l => (a, b) :: pairsOf l
  | _ => []
def firstL : List Nat → Nat → Nat → Bool
  | [], _, _ => false
  | x :: π, a, b => Nat.beq x a || (!Nat.beq x b && firstL π a b)
def allB : Nat → List (List Bool)
  | 0 => [[]]
  | m + 1 => (allB m).flatMap fun l => [true :: l, false :: l]
def okL (P : Program) (ops : Array Oper) (R : List (Nat × Nat)) : List Nat → List Nat → Bool
  | _, [] => true
  | acc, i :: l => acc.all (fun j => commB P ops j i || (befB ops 4 j i || (R.contains (j, i) || R.contains (i, j)))) && okL P ops R (i :: acc) l
def loudAt2 (ops : Array Oper) (R : List (Nat × Nat)) (i : Nat) : Bool := match ops[i]? with
  | some o => !loudOp o.op || R.all fun p => Nat.beq p.1 i || (Nat.beq p.2 i || (befB ops 4 p.1 i || befB ops 4 p.2 i))
  | none => true
def ordOk (P : Program) (ops : Array Oper) (bs : List DB) : Bool := edgesOk ops && (match bs with
  | [] => false
  | h :: πs => (List.range ops.size).all (loudAt2 ops (pairsOf h.2)) && (((allB (pairsOf h.2).length).all fun os => πs.any fun π => (pairsOf h.2).map (fun p => firstL π.2 p.1 p.2) == os) &&
    πs.all fun π => decide (π.2.Nodup) && (π.2.length == ops.size && (π.2.all (fun i => decide (i < ops.size)) && okL P ops (pairsOf h.2) [] π.2))))
def isOrd (bs : List DB) : Bool := match bs with
  | (some k, _) :: _ => Nat.beq k 1000000
  | _ => false
noncomputable def pickL (l : List Oper) (π : List Nat) : List Oper := List.rec [] (fun i _ ih => match nth l i with
  | some o => o :: ih
  | none => ih) π
noncomputable def ordL (ops : Array Oper) (πs : List DB) (call : CP) (σ : AE) (H : AH) (n : Nat) (k : KP) : Prop := List.rec True (fun π _ ih => opsP ops (pickL ops.toList π.2) call σ H n k ∧ ih) πs
noncomputable def regP (ops : Array Oper) (bs : List DB) (call cd : CP) (σ : AE) (H : AH) (n : Nat) (k : KP) : Prop := match isOrd bs with
  | true => ordL ops bs.tail call σ H n k
  | false => dynL ops ops.toList bs cd [] σ H n k
def regOk (P : Program) (ops : Array Oper) (bs : List DB) : Bool := match isOrd bs with
  | true => ordOk P ops bs
  | false => dynOk ops bs
noncomputable def drawOk (D : DT) (c : Code) : Bool := Code.rec (motive := fun _ => Bool)
  true
  (fun id ops draw => Bool.rec true (Option.rec (swapB Try.prog ops) (fun bs => regOk Try.prog ops bs) (findD D id)) draw)
  (fun _ _ a b => Bool.rec false b a)
  (fun _ _ _ a b => Bool.rec false b a)
  (fun _ _ b => b)
  (fun _ b => b)
  (fun _ _ _ _ _ _ => true)
  (fun _ => true)
  (fun _ b => b)
  (fun _ => true)
  (fun _ => true)
  true
  (fun _ => true) c
noncomputable def execP (p : Nat) (cd : CP) (D : DT) (c : Code) : XP := Code.rec (motive := fun _ => XP)
  (fun _ σ H n kn _ _ => kn σ H n)
  (fun id ops draw => Bool.rec (fun call σ H n kn _ _ => opsP ops ops.toList call σ H n kn) (Option.rec (fun call σ H n kn _ _ => opsP ops ops.toList call σ H n kn) (fun bs call σ H n kn _ _ => regP ops bs call cd σ H n kn) (findD D id)) draw)
  (fun _ _ a b call σ H n kn kx kr => a call σ H n (fun σ H n => b call σ H n kn kx kr) kx kr)
  (fun c _ _ a b call σ H n kn kx kr => condP c σ (fun σ => a call σ H n kn kx kr) (fun σ => b call σ H n kn kx kr))
  (fun id _ b call σ H n kn kx kr => b call σ H n kn (fun i σ H n => bifP (Nat.beq i id) (kn σ H n) (kx i σ H n)) kr)
  (fun _ b call σ H n _ kx kr => LoopP p (fun σ H n k => b call σ H n k kx kr) σ H n)
  (fun _ _ _ _ _ _ _ _ _ _ _ _ _ => False)
  (fun i _ σ H n _ kx _ => kx i σ H n)
  (fun _ b call σ H n kn kx kr => b call σ H n kn kx kr)
  (fun _ _ σ H n kn _ _ => kn σ H n)
  (fun _ _ _ _ _ _ _ _ => False)
  (fun _ σ H n _ _ kr => kr σ H n)
  (fun _ _ _ _ _ _ _ _ => False) c
noncomputable def resP (rs : List ResultVar) (σ : AE) (H : AH) (k : List AV → Prop) : Prop :=
  List.rec (fun k => k []) (fun r _ ih k => ResultVar.rec (fun t => ih fun vs => k (getq (pa t) σ :: vs)) (fun a t => loadP t (getq (pa a) σ) H fun v => ih fun vs => k (v :: vs)) r) rs k
/-- A function's run, its callees by a table. -/
noncomputable def runP (call cd : CP) (D : DT) (c : Code) (rs : List ResultVar) (m : Nat) (args : List AV) (H : AH) (n : Nat) (κ : PK) : Prop :=
  bifP (Nat.ble args.length m) (execP n cd D c call (eentry args 0 .nil) H n (fun σ H n => resP rs σ H fun vs => κ (epack vs) H n) (fun _ _ _ _ => False) (fun σ H n => resP rs σ H fun vs => κ (epack vs) H n)) False
inductive EP where
  | no
  | run (D : DT) (c : Code) (rs : List ResultVar) (m : Nat)
  | nat (g : List AV → AH → Nat → PK → Prop)
  | det (g : List AV → AH → Nat → PK → Prop)
/-- The functions of the table that may be called in a region that draws its order. -/
noncomputable def callD (F : FuncId → EP) : CP := fun f args H n κ => EP.rec (fun _ _ _ _ => False) (fun _ _ _ _ _ _ _ _ => False) (fun _ _ _ _ _ => False) (fun g => g) (F f) args H n κ
noncomputable def callT (F : FuncId → EP) (d : Nat) : CP := Nat.rec (fun _ _ _ _ _ => False) (fun _ ih f args H n κ => EP.rec (fun _ _ _ _ => False) (fun D c rs m => runP ih (callD F) D c rs m) (fun g => g) (fun g => g) (F f) args H n κ) d
noncomputable def bodyP (D : DT) (f : FuncId) : EP := match Try.prog.funcs[f]? with
  | some fn => (match fn.body with
    | some c => .run D c fn.results.toList fn.ntmps
    | none => .no)
  | none => .no
noncomputable def drawF (D : DT) (f : FuncId) : Bool := match Try.prog.funcs[f]? with
  | some fn => (match fn.body with
    | some c => drawOk D c
    | none => false)
  | none => false
noncomputable def evP (f : FuncId) : EP := Bool.rec .no (Bool.rec .no (bodyP [] f) (drawF [] f)) (fnOkq f)
end Go.Proofs.Ytkhfdjhohfebgaa
namespace Go.Proofs.Ytkhfdjhohfebgaa
open Go Go.RowKit
set_option maxRecDepth 20000
section
variable {φ : Ph} {H : AH} {n : Nat} {h0 h : Hp} {σ : AE} {ρ : Env}
theorem optP_inv {α : Type} {o : Option α} {k : α → Prop} (h : optP o k) : ∃ a, o = some a ∧ k a := by
  cases o with
  | none => exact h.elim
  | some a => exact ⟨a, rfl, h⟩
theorem optP_of {α : Type} {o : Option α} {k : α → Prop} {a : α} (h : o = some a) (hk : k a) : optP o k := by subst h; exact hk
theorem bifP_inv {b : Bool} {t : Prop} (h : bifP b t False) : b = true ∧ t := by
  cases b with
  | true => exact ⟨rfl, h⟩
  | false => exact h.elim
theorem Ask.inv {α : Type} {o : Option α} {k : α → Prop} (h : Ask o k) : ∃ a, o = some a ∧ k a := by
  obtain ⟨a, h1, h2⟩ := h; exact ⟨a, h1, h2⟩
theorem VR.hd {a : AV} {v : Value} (h : VR φ a v) : VR φ (hd a) v := by cases a <;> exact h
theorem VR.mk {a : AV} {v : Value} (h : VR φ a v) : VR φ (mk a) v := by cases a <;> exact h
theorem VRs.mapHd : ∀ {l : List AV} {vs : List Value}, VRs φ l vs → VRs φ (l.map Go.Proofs.Ytkhfdjhohfebgaa.hd) vs
  | [], vs, h => by rw [h.nil_inv]; exact .nil
  | a :: l, vs, h => by
    obtain ⟨v, us, rfl, h1, h2⟩ := h.cons_inv
    exact .cons h1.hd (VRs.mapHd h2)
theorem VR.aggHd {l : List AV} {v : Value} (h : VR φ (.agg l) v) : VR φ (.agg (l.map Go.Proofs.Ytkhfdjhohfebgaa.hd)) v := by
  obtain ⟨cs, rfl, h1⟩ := h.agg_inv
  exact .agg h1.mapHd
/-- What follows an operation of the machine that asks. -/
def ThenP (φ : Ph) (h0 : Hp) (κ : PK) (K : KH) : Prop := ∀ (ψ : Ph) (v : AV) (H : AH) (n : Nat) (u : Value) (g : Hp), PLe φ ψ → HR ψ H n h0 g → VR ψ v u → κ v H n → K u g
theorem ThenP.then {κ : PK} {K : KH} {v : AV} (hk : ThenP φ h0 κ K) (h : κ v H n) : Then φ h0 v H n K := fun ψ u g h1 h2 h3 => hk ψ v H n u g h1 h2 h3 h
theorem ThenP.thenMk {κ : PK} {K : KH} {r : AV × AH × Nat} (hk : ThenP φ h0 κ K) (h : mk3 κ r) : Then φ h0 r.1 r.2.1 r.2.2 K := fun ψ u g h1 h2 h3 => hk ψ _ _ _ u g h1 h2 h3.mk h
def CPok (call : CP) : Prop := ∀ (f : FuncId) (args : List AV) (H : AH) (n : Nat) (κ : PK), call f args H n κ → ∀ (φ : Ph) (h0 h : Hp) (vs : Array Value) (K : KH), HR φ H n h0 h → VRs φ args vs.toList → ThenP φ h0 κ K → CallF Try.prog f vs h K

/-! ### operations -/
theorem symP_sound {P : Program} {op : BinOp} {t : TypeId} {k j : IntKind} {a b : Int} {c : Bool} {κ : AV → Prop} {K : Value → Prop} (hs : symP op k j a b c κ) (hk : ∀ r u, κ r → VR φ r u → K u) : abin P op t (.int k a) (.int j b) K := by
  have hi : ∀ {x}, κ (.si k x) → K (.int k x) := fun h => hk _ _ h (.si _ _)
  have hb : ∀ {x}, κ (.sb x) → K (.bool x) := fun h => hk _ _ h (.sb _)
  have kd : ∀ {A : Prop}, bifP (kindq k j) A False → k = j ∧ A := fun h => by
    obtain ⟨h1, h2⟩ := bifP_inv h
    rw [kindq_eq] at h1
    exact ⟨by simpa using h1, h2⟩
  cases op <;> simp only [symP] at hs
  case shl =>
    cases c with
    | false => exact ⟨hs.1, hi hs.2⟩
    | true =>
      cases hl : ltq b 0 with
      | true => rw [hl] at hs; exact hs.elim
      | false =>
        rw [hl] at hs
        rw [ltq_eq] at hl
        have : ¬ b < 0 := by simpa using hl
        exact ⟨by omega, hi hs⟩
  case shr =>
    cases c with
    | false => exact ⟨hs.1, hi hs.2⟩
    | true =>
      cases hl : ltq b 0 with
      | true => rw [hl] at hs; exact hs.elim
      | false =>
        rw [hl] at hs
        rw [ltq_eq] at hl
        have : ¬ b < 0 := by simpa using hl
        exact ⟨by omega, hi hs⟩
  all_goals (obtain ⟨hkj, h2⟩ := kd hs; clear hs; subst hkj)
  case quo =>
    cases c with
    | false => exact ⟨rfl, h2.1, hi h2.2⟩
    | true =>
      cases hl : eqq b 0 with
      | true => rw [hl] at h2; exact h2.elim
      | false =>
        rw [hl] at h2
        rw [eqq_eq] at hl
        exact ⟨rfl, by simpa using hl, hi h2⟩
  case rem =>
    cases c with
    | false => exact ⟨rfl, h2.1, hi h2.2⟩
    | true =>
      cases hl : eqq b 0 with
      | true => rw [hl] at h2; exact h2.elim
      | false =>
        rw [hl] at h2
        rw [eqq_eq] at hl
        exact ⟨rfl, by simpa using hl, hi h2⟩
  case neq =>
    refine ⟨rfl, ?_⟩
    have : decide (a ≠ b) = !decide (a = b) := by simp
    rw [this]; exact hb h2
  all_goals first | exact ⟨rfl, hi h2⟩ | exact ⟨rfl, hb h2⟩
theorem strP_sound {P : Program} {op : BinOp} {t : TypeId} {a b : List Nat} {κ : AV → Prop} {K : Value → Prop} (ha : ∀ x ∈ a, x < 256) (hb : ∀ x ∈ b, x < 256) (hs : strP op a b κ) (hk : ∀ r u, κ r → VR φ r u → K u) : abin P op t (.string (vstr a)) (.string (vstr b)) K := by
  have key : ∀ {r : AV}, estr op a b = some r → κ (mk r) → abin P op t (.string (vstr a)) (.string (vstr b)) K := fun e h1 => estr_sound (φ := φ) ha hb e fun u hu => hk _ u h1 hu.mk
  cases op <;> simp only [strP] at hs
  case add => exact key (r := .str (a ++ b)) (by simp only [estr]; rw [if_pos hs.1]) hs.2
  all_goals first | exact hs.elim | exact key rfl hs
theorem bolP_sound {op : BinOp} {t : TypeId} {a b : Bool} {κ : AV → Prop} {K : Value → Prop} (hs : bolP op t a b κ) (hk : ∀ r u, κ r → VR φ r u → K u) : abin Try.prog op t (.bool a) (.bool b) K := by
  obtain ⟨h1, h2⟩ := bifP_inv hs
  have ht := isBoolT_spec h1
  cases op <;> first | exact h2.elim | exact ⟨ht, hk _ _ h2 (.sb _)⟩
theorem binP_sound (hr : HR φ H n h0 h) {op : BinOp} {t : TypeId} {x y : AV} {v u : Value} {κ : AV → Prop} {K : Value → Prop} (hx : VR φ x v) (hy : VR φ y u) (hs : binP op t x y H κ) (hk : ∀ r u, κ r → VR φ r u → K u) : abinH Try.prog op t v u h K := by
  unfold binP at hs
  split at hs
  · obtain ⟨r, h1, h2⟩ := optP_inv hs
    rw [hx.int_inv, hy.int_inv]
    show abin Try.prog op t (.int _ _) (.int _ _) K
    exact eint_sound (φ := φ) h1 fun u hu => hk _ u h2 hu
  · rw [hx.int_inv, hy.si_inv]; exact symP_sound (P := Try.prog) (t := t) hs hk
  · rw [hx.si_inv, hy.int_inv]; exact symP_sound (P := Try.prog) (t := t) hs hk
  · rw [hx.si_inv, hy.si_inv]; exact symP_sound (P := Try.prog) (t := t) hs hk
  · obtain ⟨rfl, h1⟩ := hx.ss_inv
    obtain ⟨rfl, h2⟩ := hy.ss_inv
    exact strP_sound (P := Try.prog) (t := t) h1 h2 hs hk
  · obtain ⟨rfl, h1⟩ := hx.ss_inv
    obtain ⟨rfl, h2⟩ := hy.str_inv
    exact strP_sound (P := Try.prog) (t := t) h1 h2 hs hk
  · obtain ⟨rfl, h1⟩ := hx.str_inv
    obtain ⟨rfl, h2⟩ := hy.ss_inv
    exact strP_sound (P := Try.prog) (t := t) h1 h2 hs hk
  · rw [hx.sb_inv, hy.sb_inv]; exact bolP_sound hs hk
  · rw [hx.sb_inv, hy.bool_inv]; exact bolP_sound hs hk
  · rw [hx.bool_inv, hy.sb_inv]; exact bolP_sound hs hk
  · rename_i xs ys
    cases hb : (xs.any isS || ys.any isS) with
    | true =>
      rw [hb] at hs
      obtain ⟨r, h1, h2⟩ := optP_inv hs
      exact ebin_sound hr hx.aggHd hy.aggHd h1 fun u hu => hk _ u h2 hu.mk
    | false =>
      rw [hb] at hs
      obtain ⟨r, h1, h2⟩ := optP_inv hs
      exact ebin_sound hr hx hy h1 fun u hu => hk _ u h2 hu
  · obtain ⟨r, h1, h2⟩ := optP_inv hs
    exact ebin_sound hr hx hy h1 fun u hu => hk _ u h2 hu
theorem unP_sound {op : UnOp} {x : AV} {v : Value} {κ : AV → Prop} {K : Value → Prop} (hx : VR φ x v) (hs : unP op x κ) (hk : ∀ r u, κ r → VR φ r u → K u) : aun op v K := by
  unfold unP at hs
  split at hs
  · rw [hx.sb_inv]; exact hk _ _ hs (.sb _)
  · rw [hx.si_inv]; exact hk _ _ hs (.si _ _)
  · rw [hx.si_inv]; exact hk _ _ hs (.si _ _)
  · obtain ⟨r, h1, h2⟩ := optP_inv hs
    exact eun_sound hx h1 fun u hu => hk _ u h2 hu
theorem mmP_sound {q : Bool} {x y : AV} {v u : Value} {κ : AV → Prop} {K : Value → Prop} (hx : VR φ x v) (hy : VR φ y u) (hs : mmP q x y κ) (hk : ∀ r u, κ r → VR φ r u → K u) : aminmax q v u K := by
  unfold mmP at hs
  split at hs
  · rw [hx.si_inv, hy.si_inv]; exact hk _ _ hs (.si _ _)
  · rw [hx.si_inv, hy.int_inv]; exact hk _ _ hs (.si _ _)
  · rw [hx.int_inv, hy.si_inv]; exact hk _ _ hs (.si _ _)
  · obtain ⟨r, h1, h2⟩ := optP_inv hs
    exact emm_sound hx hy h1 fun u hu => hk _ u h2 hu
theorem lenP_sound (hr : HR φ H n h0 h) {t : TypeId} {x : AV} {v : Value} {κ : AV → Prop} {K : Value → Prop} (hx : VR φ x v) (hs : lenP t x H κ) (hk : ∀ r u, κ r → VR φ r u → K u) : alen Try.prog t v h K := by
  unfold lenP at hs
  split at hs
  · obtain ⟨r, h1, h2⟩ := optP_inv hs
    exact elen_sound hr hx.hd h1 fun u hu => hk _ u h2 hu.mk
  · obtain ⟨r, h1, h2⟩ := optP_inv hs
    exact elen_sound hr hx.hd h1 fun u hu => hk _ u h2 hu.mk
  · obtain ⟨h1, h2⟩ := bifP_inv hs
    have hu : ∃ e, Try.prog.underlying t = some (.slice e) := by
      unfold isSlT at h1
      split at h1
      · rename_i e; exact ⟨_, e⟩
      · cases h1
    obtain ⟨e, hu⟩ := hu
    rcases hx.rw_inv with ⟨rfl, he⟩ | ⟨p, a, C, _, rfl, _⟩
    · obtain ⟨_, rfl⟩ := he.is; simp only [alen, hu]; exact hk _ _ h2 (.si _ _)
    · simp only [alen, hu]; exact hk _ _ h2 (.si _ _)
  · obtain ⟨h1, h2⟩ := bifP_inv hs
    have hu : ∃ e, Try.prog.underlying t = some (.slice e) := by
      unfold isSlT at h1
      split at h1
      · rename_i e; exact ⟨_, e⟩
      · cases h1
    obtain ⟨e, hu⟩ := hu
    obtain ⟨a, C, rfl⟩ := hx.fr_is
    simp only [alen, hu]; exact hk _ _ h2 (.si _ _)
  · obtain ⟨r, h1, h2⟩ := optP_inv hs
    exact elen_sound hr hx h1 fun u hu => hk _ u h2 hu
theorem ixP_spec {ix : AV} {len : Nat} {s : Bool} {v : Value} {κ : Nat → Prop} (hx : VR φ ix v) (hs : ixP ix len s κ) : ∃ i, i < len ∧ (∃ k, v = .int k (i : Int)) ∧ κ i := by
  unfold ixP at hs
  split at hs
  · obtain ⟨j, rfl, h1, h2⟩ := hs
    exact ⟨j, h1, ⟨_, hx.si_inv⟩, h2⟩
  · obtain ⟨j, rfl, h1, h2⟩ := hs
    exact ⟨j, h1, ⟨_, hx.int_inv⟩, h2⟩
  · obtain ⟨i, h1, h2⟩ := optP_inv hs
    obtain ⟨h3, h4⟩ := eix_spec hx h1
    exact ⟨i, h3, h4, h2⟩
theorem indexAddrP_sound {t : TypeId} {x ix : AV} {v u : Value} {κ : AV → Prop} {K : Value → Prop} (hx : VR φ x v) (hi : VR φ ix u) (hs : indexAddrP t x ix κ) (hk : ∀ r u, κ r → VR φ r u → K u) : aindexAddr Try.prog t v u K := by
  have sl : ∀ {e b o m c k s}, Try.prog.underlying t = some (.slice e) → VR φ (.sl b o m c k) v → optP (tySize Try.prog e) (fun k => ixP ix m s fun i => κ (.ptr b (o + i * k))) → aindexAddr Try.prog t v u K := fun {e b o m c k s} hu hx hs => by
    obtain ⟨es, h1, h2⟩ := optP_inv hs
    obtain ⟨i, h3, ⟨kk, rfl⟩, h4⟩ := ixP_spec hi h2
    obtain ⟨p, C, hp, rfl, _, _⟩ := hx.sl_inv
    simp only [aindexAddr, hu, h1]
    refine ⟨by omega, by omega, ?_⟩
    rw [Int.toNat_natCast, Nat.add_assoc]
    exact hk _ _ h4 (.ptr hp)
  unfold indexAddrP at hs
  split at hs
  · rename_i hu; exact sl hu hx hs
  · rename_i hu; exact sl hu hx.hd hs
  · rename_i hu
    obtain ⟨es, h1, h2⟩ := optP_inv hs
    obtain ⟨i, h3, ⟨kk, rfl⟩, h4⟩ := ixP_spec hi h2
    rcases hx.rw_inv with ⟨h5, _⟩ | ⟨p, a, C, hp, rfl, ha, _⟩
    · omega
    have ha := ha (by omega)
    subst ha
    simp only [aindexAddr, hu, h1]
    refine ⟨by omega, by omega, ?_⟩
    rw [Int.toNat_natCast, Nat.add_assoc]
    exact hk _ _ h4 (.ptr hp)
  · rename_i hu
    obtain ⟨es, h1, h2⟩ := optP_inv hs
    obtain ⟨hes, h2b⟩ := bifP_inv h2
    have := Nat.eq_of_beq_eq_true hes
    subst this
    obtain ⟨i, h3, ⟨kk, rfl⟩, h4⟩ := ixP_spec hi h2b
    rcases hx.fr_inv with ⟨h5, _⟩ | ⟨q, y, C, hq, rfl, hC, hl⟩
    · omega
    simp only [aindexAddr, hu, h1]
    refine ⟨by omega, by omega, ?_⟩
    rw [Int.toNat_natCast]
    have hlen : ∀ {n : Nat} {l : List AV}, subL q.L y n = some l → subL q.L y l.length = some l := fun {n l} hl => by
      have : l.length = n := by obtain ⟨g1, g2⟩ := subL_spec hl; rw [g2]; simp; omega
      rw [this]; exact hl
    exact hk _ _ h4 (.fa hq (hlen hl))
  · rename_i len el b o hu
    obtain ⟨es, h1, h2⟩ := optP_inv hs
    obtain ⟨i, h3, ⟨kk, rfl⟩, h4⟩ := ixP_spec hi h2
    obtain ⟨p, hp, rfl⟩ := hx.ptr_inv
    simp only [aindexAddr, hu, h1]
    refine ⟨by omega, by omega, ?_⟩
    rw [Int.toNat_natCast, Nat.add_assoc]
    exact hk _ _ h4 (.ptr hp)
  · exact hs.elim
theorem indexP_sound {t : TypeId} {x ix : AV} {v u : Value} {κ : AV → Prop} {K : Value → Prop} (hx : VR φ x v) (hi : VR φ ix u) (hs : indexP t x ix κ) (hk : ∀ r u, κ r → VR φ r u → K u) : aindex Try.prog t v u K := by
  have str : ∀ {s : List Nat} {i c : Nat} {kk : IntKind} {q : Bool}, Try.prog.underlying t = some .string → VR φ (.str s) v → u = .int kk (i : Int) → i < s.length → nth s i = some c → (∀ u, VR φ (.int .u8 (Int.ofNat c)) u → K u) → aindex Try.prog t v u K := fun {s i c kk q} hu hx he hlt hc hk => by
    obtain ⟨rfl, hs⟩ := hx.str_inv
    subst he
    rw [nth_eq] at hc
    have h2 := hs c (List.mem_of_getElem? hc)
    simp only [aindex, hu, vstr_toList, Int.toNat_natCast, List.getElem?_map, hc, Option.map_some]
    refine ⟨by omega, hk _ ?_⟩
    have : ((UInt8.ofNat c).toNat : Int) = Int.ofNat c := by
      rw [UInt8.toNat_ofNat', Nat.mod_eq_of_lt h2]; rfl
    rw [this]; exact .int _ _
  unfold indexP at hs
  split at hs
  · rename_i len el l hu
    obtain ⟨cs, rfl, hl⟩ := hx.agg_inv
    obtain ⟨k, h1, h2⟩ := optP_inv hs
    obtain ⟨i, h3, ⟨kk, rfl⟩, h4⟩ := ixP_spec hi h2
    obtain ⟨r, h5, h6⟩ := optP_inv h4
    simp only [aindex, hu, h1]
    refine ⟨by omega, by omega, ?_⟩
    rw [Int.toNat_natCast]
    exact epart_sound hl h5 fun u hu => hk _ u h6 hu
  · rename_i s hu
    obtain ⟨i, h3, ⟨kk, he⟩, h4⟩ := ixP_spec hi hs
    obtain ⟨c, h5, h6⟩ := optP_inv h4
    refine str (q := true) hu hx he h3 h5 fun u hu => ?_
    split at h6
    · exact hk _ u h6 hu
    · exact hk _ u h6 hu.mk
  · rename_i s hu
    obtain ⟨i, h3, ⟨kk, he⟩, h4⟩ := ixP_spec hi hs
    obtain ⟨c, h5, h6⟩ := h4.inv
    exact str (q := true) hu hx.hd he h3 h5 fun u hu => hk _ u h6 hu.mk
  · exact hs.elim
theorem getP_load {l : List AV} {t : TypeId} {b o : Nat} {κ : AV → Prop} {z : Bool} (hb : H.get b = some (.cells l z) ∨ H.get b = some (.ro l)) (hs : getP l t o κ) : ∃ r, eload Try.prog t (.ptr b o) H = some r ∧ κ r := by
  unfold getP at hs
  split at hs
  · rename_i hg
    obtain ⟨r, h1, h2⟩ := optP_inv hs
    exact ⟨r, by rcases hb with hb | hb <;> simp only [eload, hb, hg, h1], h2⟩
  · rename_i hg
    obtain ⟨m, h1, h2⟩ := optP_inv hs
    obtain ⟨r, h3, h4⟩ := optP_inv h2
    exact ⟨.agg r, by rcases hb with hb | hb <;> simp only [eload, hb, hg, h1, h3, Option.map_some], h4⟩
  · exact hs.elim
theorem loadP_sound (hr : HR φ H n h0 h) {t : TypeId} {a : AV} {v : Value} {κ : AV → Prop} {K : Value → Prop} (ha : VR φ a v) (hs : loadP t a H κ) (hk : ∀ r u, κ r → VR φ r u → K u) : aload Try.prog t v h K := by
  unfold loadP at hs
  split at hs
  · split at hs
    · rename_i hb
      obtain ⟨r, h1, h2⟩ := getP_load (.inl hb) hs
      exact eload_sound hr ha h1 fun u hu => hk _ u h2 hu
    · rename_i hb
      obtain ⟨r, h1, h2⟩ := getP_load (z := true) (.inr hb) hs
      exact eload_sound hr ha h1 fun u hu => hk _ u h2 hu
    · exact hs.elim
  · rename_i l o
    obtain ⟨q, y, hq, rfl, hl⟩ := ha.fa_inv
    obtain ⟨⟨⟨_, c, tt, fz, hc, hsz, hcr⟩, _⟩, _⟩ := hr.frz q hq
    have hcl : CR φ c (q.s + y) l := by
      obtain ⟨g1, g2⟩ := subL_spec hl
      rw [g2]; exact CR.drop hcr
    unfold getP at hs
    simp only [aload, hc]
    split at hs
    · rename_i hg
      obtain ⟨r, h1, h2⟩ := optP_inv hs
      obtain ⟨v, g1, g2⟩ := hcl.nth h1
      simp only [hg, g1]
      exact hk _ _ h2 g2
    · rename_i hg
      obtain ⟨m, h1, h2⟩ := optP_inv hs
      obtain ⟨r, h3, h4⟩ := optP_inv h2
      obtain ⟨vs, g1, g2⟩ := hcl.sub h3
      simp only [hg, h1, g1]
      exact hk _ _ h4 (.agg (by simpa using g2))
    · exact hs.elim
  · exact hs.elim
theorem storeP_sound (hr : HR φ H n h0 h) {t : TypeId} {a x : AV} {av xv : Value} {κ : PK} {K : KH} (ha : VR φ a av) (hx : VR φ x xv) (hs : storeP t a x H n κ) (hk : ThenP φ h0 κ K) : astore Try.prog t av xv h K := by
  unfold storeP at hs
  split at hs
  · split at hs
    · rename_i l z hb
      obtain ⟨s, h1, h2⟩ := optP_inv hs
      obtain ⟨h3, h4⟩ := bifP_inv h2
      obtain ⟨l', h5, h6⟩ := optP_inv h4
      refine estore_sound hr ha hx (r := undefA) ?_ (hk.then h6)
      simp only [estore, hb, h1, h3, h5]
    · exact hs.elim
  · exact hs.elim
theorem slow3 {κ : PK} {K : KH} {q : Bool} {e e' : AR} {A : Prop} (hk : ThenP φ h0 κ K) (hs : bifP q (Ask e' (mk3 κ)) (optP e (un3 κ)))
    (a : ∀ r H' n', e = some (r, H', n') → Then φ h0 r H' n' K → A) (b : ∀ r H' n', e' = some (r, H', n') → Then φ h0 r H' n' K → A) : A := by
  cases q with
  | true =>
    obtain ⟨r, h1, h2⟩ := Ask.inv hs
    exact b _ _ _ h1 (hk.thenMk h2)
  | false =>
    obtain ⟨r, h1, h2⟩ := optP_inv hs
    exact a _ _ _ h1 (hk.then h2)
theorem pickP_inv {c : AV} {v : Value} {A B : Prop} (hc : VR φ c v) (hs : pickP c A B) : ∃ q, v = .bool q ∧ (q = true → A) ∧ (q = false → B) := by
  unfold pickP at hs
  split at hs
  · exact ⟨true, hc.bool_inv, fun _ => hs, fun k => by cases k⟩
  · exact ⟨false, hc.bool_inv, (fun k => by cases k), fun _ => hs⟩
  · rename_i q; exact ⟨q, hc.sb_inv, hs.t, hs.f⟩
  · exact hs.elim
theorem noCall_ok : ∀ f, COk Try.prog f (noCall f) := fun f args H n v H' n' e => by cases e
theorem slowP_sound (hr : HR φ H n h0 h) (hf : FR φ σ ρ) {o : Op} {κ : PK} {K : KH} (hs : slowP o σ H n κ) (hk : ThenP φ h0 κ K) : astep Try.prog o ρ h K := by
  obtain ⟨⟨v, H', n'⟩, h1, h2⟩ := optP_inv hs
  exact estep_sound noCall_ok hr hf h1 (hk.then h2)
theorem Then.int {κ : PK} {K : KH} {k : IntKind} {a : Int} (hr : HR φ H n h0 h) (hk : ThenP φ h0 κ K) (h1 : κ (.si k a) H n) : K (.int k a) h := hk φ _ H n _ h (PLe.refl _) hr (.si k a) h1
/-- A slice's bounds as known ones. -/
theorem eslice_hd (hf : FR φ σ ρ) {t : TypeId} {x r : AV} {v : Value} {lo hi mx : Option Operand} {K : Value → Prop} (hx : VR φ x v) (e : eslice Try.prog t (hd x) ((lo.map (eev σ)).map hd) ((hi.map (eev σ)).map hd) ((mx.map (eev σ)).map hd) = some r)
    (hk : ∀ u, VR φ r u → K u) : aslice Try.prog t v (lo.map ρ.ev) (hi.map ρ.ev) (mx.map ρ.ev) K := by
  -- three slots that hold the bounds
  have key : ∀ (l h m : Option AV) (lv hv mv : Option Value), (∀ a, l = some a → ∃ u, lv = some u ∧ VR φ a u) → (l = none → lv = none) → (∀ a, h = some a → ∃ u, hv = some u ∧ VR φ a u) → (h = none → hv = none) → (∀ a, m = some a → ∃ u, mv = some u ∧ VR φ a u) → (m = none → mv = none) →
      eslice Try.prog t (hd x) l h m = some r → aslice Try.prog t v lv hv mv K := by
    intro l h m lv hv mv a1 a2 a3 a4 a5 a6 e
    let σ' : AE := ((PM.nil.set l depthE 0).set h depthE 1).set m depthE 2
    let ρ' : Env := fun i => if i = 0 then lv.getD undef else if i = 1 then hv.getD undef else mv.getD undef
    have hf' : FR φ σ' ρ' := fun i a ha => by
      rcases PM.get_set depthE _ 2 i a ha with ⟨rfl, h2⟩ | ⟨h1, h2⟩
      · obtain ⟨u, rfl, h3⟩ := a5 a h2; exact h3
      · rcases PM.get_set depthE _ 1 i a h2 with ⟨rfl, h4⟩ | ⟨h3, h4⟩
        · obtain ⟨u, rfl, h3⟩ := a3 a h4; exact h3
        · rcases PM.get_set depthE _ 0 i a h4 with ⟨rfl, h6⟩ | ⟨h5, h6⟩
          · obtain ⟨u, rfl, h3⟩ := a1 a h6; exact h3
          · cases h6
    have sl : ∀ (i : Nat) (q : Option AV) (qv : Option Value), (∀ a, q = some a → getq (pa i) σ' = a ∧ ∃ u, qv = some u ∧ ρ' i = u) → (q = none → qv = none) → ∃ o : Option Operand, o.map (eev σ') = q ∧ o.map ρ'.ev = qv := fun i q qv b1 b2 => by
      cases q with
      | none => exact ⟨none, rfl, by rw [b2 rfl]; rfl⟩
      | some a =>
        obtain ⟨c1, u, c2, c3⟩ := b1 a rfl
        exact ⟨some (.tmp i), by simp only [Option.map_some, eev, c1], by simp only [Option.map_some, Env.ev, c2, c3]⟩
    obtain ⟨o1, p1, q1⟩ := sl 0 l lv (fun a ha => by subst ha; obtain ⟨u, rfl, _⟩ := a1 a rfl; exact ⟨by cases h <;> cases m <;> rfl, u, rfl, rfl⟩) a2
    obtain ⟨o2, p2, q2⟩ := sl 1 h hv (fun a ha => by subst ha; obtain ⟨u, rfl, _⟩ := a3 a rfl; exact ⟨by cases l <;> cases m <;> rfl, u, rfl, rfl⟩) a4
    obtain ⟨o3, p3, q3⟩ := sl 2 m mv (fun a ha => by subst ha; obtain ⟨u, rfl, _⟩ := a5 a rfl; exact ⟨by cases l <;> cases h <;> rfl, u, rfl, rfl⟩) a6
    rw [← q1, ← q2, ← q3]
    rw [← p1, ← p2, ← p3] at e
    exact eslice_sound hf' hx.hd e hk
  have s1 : ∀ (o : Option Operand) (a : AV), (o.map (eev σ)).map hd = some a → ∃ u, o.map ρ.ev = some u ∧ VR φ a u := fun o a ha => by
    cases o with
    | none => cases ha
    | some y => injection ha with ha; subst ha; exact ⟨_, rfl, (hf.ev y).hd⟩
  have s2 : ∀ o : Option Operand, (o.map (eev σ)).map hd = none → o.map ρ.ev = none := fun o ha => by
    cases o with
    | none => rfl
    | some y => cases ha
  exact key _ _ _ _ _ _ (s1 lo) (s2 lo) (s1 hi) (s2 hi) (s1 mx) (s2 mx) e
theorem ebnd_hd (hf : FR φ σ ρ) {x : Option Operand} {d i : Nat} (e : ebnd ((x.map (eev σ)).map hd) d = some i) (d' : Int) (hd' : x = none → (i : Int) = d') : bnd (x.map ρ.ev) d' = some (i : Int) := by
  cases x with
  | none => simp only [Option.map_none, bnd]; rw [hd' rfl]
  | some y =>
    simp only [Option.map_some, ebnd] at e
    have hy := (hf.ev y).hd
    split at e
    · rename_i q; cases q
    · rename_i k j q
      injection e with e; subst e
      injection q with q
      rw [q] at hy
      simp only [Option.map_some, hy.int_inv, bnd]
      rfl
    · cases e
theorem rsl_sound (hf : FR φ σ ρ) {t : TypeId} {b o m k q : Nat} {v : Value} {lo hi mx : Option Operand} {κ : AV → Prop} {K : Value → Prop} (hx : VR φ (.rw b o m k q) v) (hs : rslP t b o m k q (lo.map (eev σ)) (hi.map (eev σ)) (mx.map (eev σ)) κ)
    (hk : ∀ r u, κ r → VR φ r u → K u) : aslice Try.prog t v (lo.map ρ.ev) (hi.map ρ.ev) (mx.map ρ.ev) K := by
  unfold rslP at hs
  split at hs
  case h_2 => exact hs.elim
  rename_i e hu
  obtain ⟨es, h1, h2⟩ := optP_inv hs
  obtain ⟨h3, l, hh, hl, he, hm, g1, g2, h4⟩ := bifP_inv h2
  have := Nat.eq_of_beq_eq_true h3
  subst this
  have e1 := ebnd_hd hf hl 0 (fun q => by subst q; rw [ebnd_none hl]; rfl)
  have e2 := ebnd_hd hf he (m : Int) (fun q => by subst q; rw [ebnd_none he])
  have him : (Option.map ρ.ev mx).isSome = true → (Option.map ρ.ev hi).isSome = true := fun q' => by
    rw [isSome_map] at q' ⊢
    rcases hm with hm | ⟨hm, _⟩
    · cases mx with
      | none => cases q'
      | some y => cases hm
    · rw [isSome_map] at hm; exact hm
  have hno : hi = none → hh = m := fun q => by subst q; exact ebnd_none he
  have hlo : lo = none → l = 0 := fun q => by subst q; exact ebnd_none hl
  have key : ∀ (base : Option Addr) (C M : Nat), bnd (mx.map ρ.ev) (C : Int) = some (M : Int) → hh ≤ M → M ≤ C → K (sliceOf base l hh M es) → aslice Try.prog t (.slice base m C) (lo.map ρ.ev) (hi.map ρ.ev) (mx.map ρ.ev) K := fun base C M e3 hM hMC hK => by
    simp only [aslice, hu, h1, e1, e2, e3]
    refine ⟨him, by omega, by omega, ?_, by omega, ?_⟩
    · unfold upTo; split
      · trivial
      · omega
    · rw [Int.toNat_natCast, Int.toNat_natCast, Int.toNat_natCast]; exact hK
  have bm : ∀ C : Nat, hh ≤ C → ∃ M : Nat, bnd (mx.map ρ.ev) (C : Int) = some (M : Int) ∧ hh ≤ M ∧ M ≤ C ∧ (mx = none → M = C) ∧ (mx ≠ none → M = hh) := fun C hC => by
    rcases hm with hm | ⟨_, hm⟩
    · have hmn : mx = none := by cases mx with | none => rfl | some y => cases hm
      subst hmn
      exact ⟨C, rfl, hC, Nat.le_refl _, fun _ => rfl, fun q => absurd rfl q⟩
    · by_cases hmn : mx = none
      · subst hmn
        exact ⟨C, rfl, hC, Nat.le_refl _, fun _ => rfl, fun q => absurd rfl q⟩
      · exact ⟨hh, ebnd_hd hf hm (C : Int) (fun q => absurd q hmn), Nat.le_refl _, hC, fun q => absurd q hmn, fun _ => rfl⟩
  have hlen : rwN m l hh (lo.map (eev σ)) (hi.map (eev σ)) = hh - l := by
    cases lo <;> cases hi
    · have := hno rfl; have := hlo rfl; show m = hh - l; omega
    · have := hlo rfl; show hh = hh - l; omega
    · have := hno rfl; show m - l = hh - l; omega
    · rfl
  have hoff : rwO o es l (lo.map (eev σ)) = o + l * es := by
    cases lo
    · have := hlo rfl; subst this; show o = o + 0 * es; omega
    · rfl
  rcases hx.rw_inv with ⟨rfl, hem⟩ | ⟨p, a, C, hp, rfl, ha, g3, g4, g7, g5, g6⟩
  · obtain ⟨base, rfl⟩ := hem.is
    have hh0 : hh = 0 := by omega
    have hl0 : l = 0 := by omega
    obtain ⟨M, e3, hM, hMC, _, _⟩ := bm 0 (by omega)
    have hM0 : M = 0 := by omega
    refine key base 0 M e3 hM hMC (hk _ _ h4 ?_)
    unfold rwSub
    rw [hlen, hoff, hh0, hl0, hM0]
    show VR φ _ (.slice base 0 0)
    refine .rwe rfl ?_
    rcases hem with h | ⟨h4, a, h⟩
    · exact .inl h
    · subst h4
      cases hi with
      | none => exact .inr ⟨rfl, a, h⟩
      | some y =>
        cases mx with
        | none => exact .inr ⟨rfl, a, h⟩
        | some z => exact .inr ⟨rfl, a, h⟩
  · obtain ⟨M, e3, hM, hMC, hM1, hM2⟩ := bm C (by omega)
    refine key _ C M e3 hM hMC (hk _ _ h4 ?_)
    unfold rwSub
    rw [hlen, hoff, sliceOf_some]
    have hmul : l * es + (M - l) * es ≤ C * es := by
      rw [← Nat.add_mul]; exact Nat.mul_le_mul_right es (by omega)
    have hmul2 : l * es + (hh - l) * es ≤ m * es := by
      rw [← Nat.add_mul]; exact Nat.mul_le_mul_right es (by omega)
    have hx5 : rwX q (hi.map (eev σ)) (mx.map (eev σ)) = 1 → M - l = hh - l := by
      cases hi with
      | none =>
        have hmn : mx = none := by
          cases mx with
          | none => rfl
          | some y => have := him rfl; cases this
        subst hmn
        intro hq
        have := g6 hq
        have := hno rfl
        have := hM1 rfl
        omega
      | some y =>
        cases mx with
        | none =>
          intro hq
          exfalso
          have hq : (match q with
            | 0 => 0
            | 1 => 0
            | x + 2 => x + 2) = 1 := hq
          split at hq <;> omega
        | some z => intro _; rw [hM2 (by simp)]
    have hx6 : rwX q (hi.map (eev σ)) (mx.map (eev σ)) < 2 → a + l * es + (M - l) * es ≤ p.s + p.T := by
      cases hi with
      | none => intro hq; have := g5 hq; omega
      | some y =>
        cases mx with
        | none =>
          intro hq
          have hq : (match q with
            | 0 => 0
            | 1 => 0
            | x + 2 => x + 2) < 2 := hq
          split at hq
          · have := g5 (by omega); omega
          · have := g5 (by omega); omega
          · omega
        | some z => intro _; rw [hM2 (by simp)]; omega
    split
    · rename_i hMl
      subst hMl
      have e0 : (M - M) * es = 0 := by rw [Nat.sub_self, Nat.zero_mul]
      have e1 : (hh - M) * es = 0 := by rw [show hh - M = 0 from by omega, Nat.zero_mul]
      have : 0 ≤ m * es := Nat.zero_le _
      exact .rwx hp (fun hne => by omega) g3 (by omega) (by omega) (fun hq => by omega) hx5
    · exact .rwx hp (fun hne => by have := ha (by omega); omega) (by omega) (by omega) (by omega) hx6 hx5
theorem subL_drop {α : Type} {M L : List α} {o n l : Nat} (h : subL M o n = some L) (hl : l ≤ n) : subL M (o + l) (n - l) = some (L.drop l) := by
  obtain ⟨h1, rfl⟩ := subL_spec h
  unfold subL
  rw [Nat.ble_eq_true_of_le (by omega)]
  simp only [List.drop_take, List.drop_drop]
theorem subL_take {α : Type} {M L : List α} {o n l : Nat} (h : subL M o n = some L) (hl : l ≤ n) : subL M o l = some (L.take l) := by
  obtain ⟨h1, rfl⟩ := subL_spec h
  unfold subL
  rw [Nat.ble_eq_true_of_le (by omega)]
  simp only [List.take_take]
  rw [Nat.min_eq_left hl]
theorem fsl_sound (hf : FR φ σ ρ) {t : TypeId} {m k : Nat} {L : List AV} {v : Value} {lo hi : Option Operand} {κ : AV → Prop} {K : Value → Prop} (hx : VR φ (.fr m k L) v) (hs : fslP t m k L (lo.map (eev σ)) (hi.map (eev σ)) κ)
    (hk : ∀ r u, κ r → VR φ r u → K u) : aslice Try.prog t v (lo.map ρ.ev) (hi.map ρ.ev) none K := by
  unfold fslP at hs
  split at hs
  case h_2 => exact hs.elim
  rename_i e hu
  obtain ⟨es, h1, h2⟩ := optP_inv hs
  obtain ⟨h3, l, hh, hl, he, hm, g1, g2, h4⟩ := bifP_inv h2
  have := Nat.eq_of_beq_eq_true h3
  subst this
  have e1 := ebnd_hd hf hl 0 (fun q => by subst q; rw [ebnd_none hl]; rfl)
  have e2 := ebnd_hd hf he (m : Int) (fun q => by subst q; rw [ebnd_none he])
  have hno : hi = none → hh = m := fun q => by subst q; exact ebnd_none he
  have hlo : lo = none → l = 0 := fun q => by subst q; exact ebnd_none hl
  have key : ∀ (base : Option Addr) (C : Nat), m ≤ C → K (sliceOf base l hh C es) → aslice Try.prog t (.slice base m C) (lo.map ρ.ev) (hi.map ρ.ev) none K := fun base C hC hK => by
    have e3 : bnd (none : Option Value) (C : Int) = some (C : Int) := rfl
    simp only [aslice, hu, h1, e1, e2, e3]
    refine ⟨fun q => (by cases q), by omega, by omega, ?_, by omega, ?_⟩
    · unfold upTo; split
      · trivial
      · omega
    · rw [Int.toNat_natCast, Int.toNat_natCast, Int.toNat_natCast]; exact hK
  have hlen : rwN m l hh (lo.map (eev σ)) (hi.map (eev σ)) = hh - l := by
    cases lo <;> cases hi
    · have := hno rfl; have := hlo rfl; show m = hh - l; omega
    · have := hlo rfl; show hh = hh - l; omega
    · have := hno rfl; show m - l = hh - l; omega
    · rfl
  have hfr : L.length = m * es → frL es L l hh (lo.map (eev σ)) (hi.map (eev σ)) = (L.drop (l * es)).take ((hh - l) * es) := fun hL => by
    cases lo <;> cases hi
    · have := hno rfl; have := hlo rfl
      subst this
      show L = _
      rw [Nat.zero_mul, List.drop_zero, List.take_of_length_le (by rw [hL]; subst_vars; simp)]
    · have := hlo rfl
      subst this
      show L.take (hh * es) = _
      rw [Nat.zero_mul, List.drop_zero, Nat.sub_zero]
    · have := hno rfl
      show L.drop (l * es) = _
      rw [List.take_of_length_le]
      rw [List.length_drop, hL, Nat.sub_mul]; subst_vars; exact Nat.le_refl _
    · rfl
  rcases hx.fr_inv with ⟨rfl, rfl, a, C, rfl, ha⟩ | ⟨q, y, C, hq, rfl, hC, hsub⟩
  · have hh0 : hh = 0 := by omega
    have hl0 : l = 0 := by omega
    subst hh0 hl0
    refine key a C (Nat.zero_le _) (hk _ _ h4 ?_)
    rw [hlen, hfr (by simp)]
    show VR φ (.fr (0 - 0) es ((([] : List AV).drop (0 * es)).take ((0 - 0) * es))) (sliceOf a 0 0 C es)
    have e5 : ((([] : List AV).drop (0 * es)).take ((0 - 0) * es)) = [] := by simp
    rw [e5]
    unfold sliceOf
    refine .fre fun q => ?_
    split at q
    · have := ha q; omega
    · cases a with
      | none => have := ha rfl; omega
      | some _ => cases q
  · have hL : L.length = m * es := by obtain ⟨g5, g6⟩ := subL_spec hsub; rw [g6]; simp; omega
    have hle : l * es + (hh - l) * es ≤ m * es := by rw [← Nat.add_mul]; exact Nat.mul_le_mul_right _ (by omega)
    have hs2 : subL q.L (y + l * es) ((hh - l) * es) = some ((L.drop (l * es)).take ((hh - l) * es)) := subL_take (subL_drop hsub (by omega)) (by omega)
    refine key _ C hC (hk _ _ h4 ?_)
    rw [hlen, hfr hL]
    unfold sliceOf
    split
    · rename_i hMl
      have h0 : hh - l = 0 := by omega
      rw [h0, Nat.zero_mul, List.take_zero]
      exact .fre fun q => by cases q
    · have e6 : Option.map (fun x : Addr => x.add (l * es)) (some ⟨q.B, q.s + y, none⟩) = some ⟨q.B, q.s + (y + l * es), none⟩ := by
        simp only [Option.map_some, Addr.add]
        split
        · rename_i h0; rw [h0]; rfl
        · rw [Nat.add_assoc]
      rw [e6]
      exact .fr hq (by omega) hs2
theorem sliceP_sound (hf : FR φ σ ρ) {t : TypeId} {x : Operand} {lo hi mx : Option Operand} {κ : AV → Prop} {K : Value → Prop} (hs : sliceP t (eev σ x) (lo.map (eev σ)) (hi.map (eev σ)) (mx.map (eev σ)) κ) (hk : ∀ r u, κ r → VR φ r u → K u) : aslice Try.prog t (ρ.ev x) (lo.map ρ.ev) (hi.map ρ.ev) (mx.map ρ.ev) K := by
  by_cases hx : ∃ b o n k q, eev σ x = .rw b o n k q
  · obtain ⟨b, o, m, k, q, hx⟩ := hx
    have hv := hf.ev x
    rw [hx] at hs hv
    exact rsl_sound hf hv hs hk
  by_cases hy : ∃ n k q, eev σ x = .fr n k q
  · obtain ⟨m, k, q, hy⟩ := hy
    have hv := hf.ev x
    rw [hy] at hs hv
    cases mx with
    | none => exact fsl_sound hf hv hs hk
    | some y => exact hs.elim
  have h : sliceP t (eev σ x) (lo.map (eev σ)) (hi.map (eev σ)) (mx.map (eev σ)) κ = bifP (isS (eev σ x) || (sliceP.optS (lo.map (eev σ)) || (sliceP.optS (hi.map (eev σ)) || sliceP.optS (mx.map (eev σ))))) (Ask (eslice Try.prog t (hd (eev σ x)) ((lo.map (eev σ)).map hd) ((hi.map (eev σ)).map hd) ((mx.map (eev σ)).map hd)) fun v => κ (mk v)) (optP (eslice Try.prog t (eev σ x) (lo.map (eev σ)) (hi.map (eev σ)) (mx.map (eev σ))) κ) := by
    cases q : eev σ x
    case rw => exact absurd ⟨_, _, _, _, _, q⟩ hx
    case fr => exact absurd ⟨_, _, _, q⟩ hy
    all_goals rfl
  rw [h] at hs
  cases hq : (isS (eev σ x) || (sliceP.optS (lo.map (eev σ)) || (sliceP.optS (hi.map (eev σ)) || sliceP.optS (mx.map (eev σ))))) with
  | true =>
    rw [hq] at hs
    obtain ⟨r, h1, h2⟩ := Ask.inv hs
    exact eslice_hd hf (hf.ev x) h1 fun u hu => hk _ u h2 hu.mk
  | false =>
    rw [hq] at hs
    obtain ⟨r, h1, h2⟩ := optP_inv hs
    exact eslice_sound hf (hf.ev x) h1 fun u hu => hk _ u h2 hu
theorem rsrc_spec (hr : HR φ H n h0 h) {k m : Nat} {x : AV} {xv : Value} {l : List AV} (hx : VR φ x xv) (e : RSrc H k x m l) : ∃ vs, srcCells h k xv = some (m, vs) ∧ VRs φ l vs := by
  cases e with
  | old e => exact esrc_spec hr hx.hd e
  | fr =>
    rcases hx.fr_inv with ⟨rfl, rfl, a, C, rfl, _⟩ | ⟨q, y, C, hq, rfl, hC, hsub⟩
    · refine ⟨[], ?_, VRs.nil⟩
      rcases a with _ | ⟨B, o, sp⟩
      · rfl
      · cases sp with
        | some _ => rfl
        | none =>
          simp only [srcCells]
          split
          · simp [cellsL]
          · rfl
    · obtain ⟨⟨⟨_, c, tt, fz, hc, hsz, hcr⟩, _⟩, _⟩ := hr.frz q hq
      obtain ⟨vs, g1, g2⟩ := hcr.sub hsub
      exact ⟨vs, by simp only [srcCells, hc, g1, Option.map_some], g2⟩
  | @rw b o m k' q l' _ hb hs =>
    rcases hx.rw_inv with ⟨rfl, hem⟩ | ⟨p, a, C, hp, rfl, ha, g3, g4, g7, g5, g6⟩
    · obtain ⟨_, rfl⟩ := subL_spec hs
      refine ⟨[], ?_, by simpa using VRs.nil⟩
      rcases hem with rfl | ⟨_, ⟨B, o, sp⟩, rfl⟩
      · rfl
      · cases sp with
        | some _ => rfl
        | none =>
          simp only [srcCells]
          split
          · simp [cellsL]
          · rfl
    · have key : ∃ c t fz, h.f p.B = some (.cells c t fz) ∧ CR φ c p.s l' := by
        rcases hb with hb | ⟨z, hb⟩
        · obtain ⟨ob, _, h2, c, t, fz, rfl, h3, h4, h5⟩ := hr.of hb hp
          exact ⟨c, t, fz, h2, h5⟩
        · obtain ⟨ob, _, h2, c, t, fz, rfl, h3, h4, _, _, h5⟩ := hr.of hb hp
          exact ⟨c, t, fz, h2, h5⟩
      obtain ⟨c, t, fz, h2, h5⟩ := key
      by_cases hm : m = 0
      · subst hm
        obtain ⟨_, rfl⟩ := subL_spec hs
        exact ⟨[], by simp only [srcCells, h2, Nat.zero_mul, cellsL, Option.map_some], by simpa using VRs.nil⟩
      · have := ha hm
        subst this
        obtain ⟨vs, g1, g2⟩ := h5.sub hs
        exact ⟨vs, by simp only [srcCells, h2, g1, Option.map_some], g2⟩
variable {call : CP} {κ : PK} {K : KH}
section
variable {t u e : TypeId} {ud : TypeDesc} {k by' m sn : Nat} {z : Value} {new old : List AV} {nv ov : List Value} {xv : Value}
/-- A new block for what was there, and more. -/
theorem app_new {G : AH} {zz : Bool} (hk : ThenP φ h0 κ K) (h1 : κ (.rw n 0 (sn + m) k 0) (G.set (some (.cells (old ++ new) zz)) depthH n) (n + 1)) (hG : HR φ G n h0 h) (ho : VRs φ old ov) (hn : VRs φ new nv) (hol : ov.length = sn * k) (hnl : new.length = m * k) (hz : z.cells.size = k) : growK e z (sn + m) ov nv h (Weak K) := by
  intro cap hcap
  refine ⟨_, Sub.refl _, ?_⟩
  have hcpl : ∀ q, (copies z.cells.toList q).length = q * k := fun q => by rw [copies_length]; simp [hz]
  have hlen : (ov ++ (nv ++ copies z.cells.toList (cap - (sn + m)))).length = cap * k := by
    simp only [List.length_append, hol, ← hn.length, hnl, hcpl]
    rw [← Nat.add_mul, ← Nat.add_mul]; congr 1; omega
  have hor : OR (PNew φ n ⟨h.n, 0, cap * k⟩) ⟨h.n, 0, cap * k⟩ (.cells (old ++ new) zz) (.cells (ov ++ (nv ++ copies z.cells.toList (cap - (sn + m)))).toArray e (0, 0)) := by
    refine ⟨_, e, _, rfl, ?_, by simp only [List.size_toArray, hlen]; omega, free_zero _ _, fun _ => rfl, ?_⟩
    · simp only [List.length_append, hnl, ho.length, hol]
      rw [← Nat.add_mul]; exact Nat.mul_le_mul_right k hcap
    · rw [← List.append_assoc]
      exact CR.mono (hG.ple _) (CR.of (ho.append hn) _)
  exact hk _ _ _ _ (.slice (some ⟨h.n, 0, none⟩) (sn + m) cap) _ (hG.ple _) (hG.new hor depthH) (.rw (p := ⟨h.n, 0, cap * k⟩) (PNew_same _ _ _) (fun _ => by simp) (Nat.le_refl _) hcap (by simp)) h1
theorem app_real {b C a : Nat} {p : Pl} {l : List AV} {z' : Bool} (hr : HR φ H n h0 h) (hk : ThenP φ h0 κ K) (h1 : κ (.rw n 0 (sn + m) k 0) ((H.set none depthH b).set (some (.cells (old ++ new) z')) depthH n) (n + 1))
    (hu : Try.prog.underlying t = some (.slice e)) (hud : Try.prog.underlying u = some ud) (hni : ∀ q, ud ≠ .int q) (hsz : tySize Try.prog e = some k) (hbz : tyBytes Try.prog e = some by') (hzz : tyZero Try.prog e = some z) (c1 : z.cells.size = k) (c2 : 0 < by')
    (hsrc : srcCells h k xv = some (m, nv)) (hn : VRs φ new nv) (hnl : new.length = m * k) (hone : new.all one1 = true) (big : (sn + m) * by' ≤ 140737488355328)
    (hb : H.get b = some (.cells l z')) (hp : φ b = some p) (ha : p.s ≤ a) (hC : sn ≤ C) (hT : a + C * k ≤ p.s + p.T) (hold : (sn = 0 ∧ old = []) ∨ subL l (a - p.s) (sn * k) = some old) : aappend Try.prog t u (.slice (some ⟨p.B, a, none⟩) sn C) xv h (Weak K) := by
  obtain ⟨ob, hB, hf, cc, ty, fz, rfl, q1, q2, q3, q4, q5⟩ := hr.of hb hp
  obtain ⟨ov, hov, ho, hkeep, hle⟩ : ∃ ov, cellsL cc a (sn * k) = some ov ∧ VRs φ old ov ∧ CR φ cc a old ∧ old.length = sn * k := by
    rcases hold with ⟨rfl, rfl⟩ | hold
    · exact ⟨[], by rw [Nat.zero_mul]; rfl, .nil, fun i a h => by simp at h, by simp⟩
    · obtain ⟨vs, g1, g2⟩ := q5.sub hold
      obtain ⟨g3, g4⟩ := subL_spec hold
      have e1 : p.s + (a - p.s) = a := by omega
      rw [e1] at g1
      refine ⟨vs, g1, g2, ?_, by rw [g4]; simp; omega⟩
      have := CR.drop (o := a - p.s) (m := sn * k) q5
      rw [e1, ← g4] at this
      exact this
  have hol : ov.length = sn * k := by rw [← ho.length]; exact hle
  refine ⟨e, ud, k, by', z, m, nv, hu, hud, hni, hsz, hbz, hzz, c1, c2, hsrc, fun hstay => ?_, fun _ => ⟨big, ov, by simp only [srcCells, hf, hov, Option.map_some], app_new hk h1 (hr.kill depthH b) ho hn hol hnl c1⟩⟩
  simp only [stayK, hf]
  have hCk : (sn + m) * k ≤ C * k := Nat.mul_le_mul_right k hstay
  have hadd : (sn + m) * k = sn * k + m * k := Nat.add_mul _ _ _
  have hnvl := hn.length
  refine ⟨all_one1 hn hone, by omega, q3.sub (by omega), _, Sub.refl _, ?_⟩
  have hor : OR (PNew φ n ⟨p.B, a, C * k⟩) ⟨p.B, a, C * k⟩ (.cells (old ++ new) z') (.cells (writeL cc (a + sn * k) nv) ty fz) := by
    refine ⟨_, ty, fz, rfl, by simp only [List.length_append]; omega, by rw [writeL_size]; simp only; omega, q3.sub (by simp only; omega), q4, CR.mono (hr.ple _) (CR.append ?_ ?_)⟩
    · exact CR.kept hkeep (by simp only; omega)
    · simp only
      rw [hle]
      exact CR.wrote hn (by omega)
  exact hk _ _ _ _ (.slice (some ⟨p.B, a, none⟩) (sn + m) C) _ (hr.ple _) (hr.rename (q := ⟨p.B, a, C * k⟩) hb hp rfl hor depthH depthH) (.rw (p := ⟨p.B, a, C * k⟩) (PNew_same _ _ _) (fun _ => by simp) (Nat.le_refl _) hstay (by simp)) h1
theorem app_none {G : AH} {zz : Bool} (hr : HR φ G n h0 h) (hk : ThenP φ h0 κ K) (h1 : κ (.rw n 0 (0 + m) k 0) (G.set (some (.cells ([] ++ new) zz)) depthH n) (n + 1))
    (hu : Try.prog.underlying t = some (.slice e)) (hud : Try.prog.underlying u = some ud) (hni : ∀ q, ud ≠ .int q) (hsz : tySize Try.prog e = some k) (hbz : tyBytes Try.prog e = some by') (hzz : tyZero Try.prog e = some z) (c1 : z.cells.size = k) (c2 : 0 < by')
    (hsrc : srcCells h k xv = some (m, nv)) (hn : VRs φ new nv) (hnl : new.length = m * k) (big : (0 + m) * by' ≤ 140737488355328) : aappend Try.prog t u (.slice none 0 0) xv h (Weak K) := by
  refine ⟨e, ud, k, by', z, m, nv, hu, hud, hni, hsz, hbz, hzz, c1, c2, hsrc, fun hstay => ?_, fun _ => ⟨big, [], rfl, app_new hk h1 hr .nil hn (by simp) hnl c1⟩⟩
  have hm : m = 0 := by omega
  subst hm
  have hnew : new = [] := List.eq_nil_of_length_eq_zero (by omega)
  subst hnew
  refine ⟨_, Sub.refl _, hk φ _ _ _ (.slice none 0 0) h (PLe.refl _) ?_ .rwn h1⟩
  -- a block that has no place
  have hno : φ n = none := by
    cases hq : φ n with
    | none => rfl
    | some p => exact absurd (hr.dom n p hq).1 (Nat.lt_irrefl _)
  refine ⟨fun b p hb => ⟨Nat.lt_succ_of_lt (hr.dom b p hb).1, (hr.dom b p hb).2⟩, fun b o hb => ?_, fun x y q q' px py hx hy hwx hwy hpx hpy ee => ?_, hr.base, hr.size, fun z hz => ⟨(hr.frz z hz).1, fun y oy py hy hwy hpy => ?_⟩⟩
  rotate_left 2
  · rcases PM.get_set depthH _ n y oy hy with ⟨rfl, _⟩ | ⟨_, h2⟩
    · rw [hno] at hpy; cases hpy
    · exact (hr.frz z hz).2 y oy py h2 hwy hpy
  · rcases PM.get_set depthH _ n b o hb with ⟨rfl, h2⟩ | ⟨_, h2⟩
    · injection h2 with h2; subst h2; exact .inl ⟨hno, rfl⟩
    · exact hr.live b o h2
  · have old : ∀ z r pz, (G.set (some (.cells ([] ++ []) zz)) depthH n).get z = some r → φ z = some pz → G.get z = some r := fun z r pz hz hpz => by
      rcases PM.get_set depthH _ n z r hz with ⟨rfl, _⟩ | ⟨_, h2⟩
      · rw [hno] at hpz; cases hpz
      · exact h2
    exact hr.inj x y q q' px py (old x q px hx hpx) (old y q' py hy hpy) hwx hwy hpx hpy ee
end
theorem rapp_sound (hr : HR φ H n h0 h) {t u : TypeId} {s x : AV} {sv xv : Value} (hs : VR φ s sv) (hx : VR φ x xv) (ha : RApp t u s x H n κ) (hk : ThenP φ h0 κ K) : aappend Try.prog t u sv xv h (Weak K) := by
  cases ha with
  | grow k by' m sn new old G zz ty src hnew hone row big h1 =>
    obtain ⟨e, ud, z, hu, hud, hni, hsz, hbz, hzz, c1, c2, c3⟩ := ty.h
    obtain ⟨nv, hn1, hn2⟩ := rsrc_spec hr hx src
    cases row with
    | nsl =>
      rw [hs.nsl_inv]
      exact app_none hr hk h1 hu hud hni hsz hbz hzz c1 c2 hn1 hn2 hnew big
    | @rw b o _ l _ _ hb hsub =>
      rcases hs.rw_inv with ⟨rfl, hem⟩ | ⟨p, a, C, hp, rfl, ha, g3, g4, g7, g5, g6⟩
      · have := hem.nil (by decide)
        subst this
        obtain ⟨_, rfl⟩ := subL_spec hsub
        rw [Nat.zero_mul, List.take_zero] at h1
        exact app_none (hr.kill depthH b) hk h1 hu hud hni hsz hbz hzz c1 c2 hn1 hn2 hnew big
      · refine app_real hr hk h1 hu hud hni hsz hbz hzz c1 c2 hn1 hn2 hnew hone big hb hp g3 g4 (g5 (by decide)) ?_
        by_cases hsn : sn = 0
        · subst hsn
          obtain ⟨_, rfl⟩ := subL_spec hsub
          exact .inl ⟨rfl, by simp⟩
        · have := ha hsn
          subst this
          exact .inr (by rw [Nat.add_sub_cancel_left]; exact hsub)
    | @sl b o _ c l _ _ hb hsub hnc hc =>
      obtain ⟨p, C, hp, rfl, hC0, _⟩ := hs.sl_inv
      have := hC0 rfl
      subst this
      obtain ⟨ob, _, _, cc, ty, fz, rfl, q1, _⟩ := hr.of hb hp
      exact app_real hr hk h1 hu hud hni hsz hbz hzz c1 c2 hn1 hn2 hnew hone big hb hp (Nat.le_add_right _ _) hnc (by omega) (.inr (by rw [Nat.add_sub_cancel_left]; exact hsub))
  | exact k by' m b o sn new old hse ty src hnew hone hm row big h1 =>
    obtain ⟨e, ud, z, hu, hud, hni, hsz, hbz, hzz, c1, c2, c3⟩ := ty.h
    obtain ⟨nv, hn1, hn2⟩ := rsrc_spec hr hx src
    obtain ⟨ov, ho1, ho2⟩ := rsrc_spec hr hs row
    subst hse
    have hol : ov.length = sn * k := by
      cases row with
      | rw _ hsub => obtain ⟨g1, g2⟩ := subL_spec hsub; rw [← ho2.length, g2]; simp; omega
      | old e => cases e
    rcases hs.rw_inv with ⟨rfl, hem⟩ | ⟨p, a, C, hp, rfl, ha, g3, g4, g7, g5, g6⟩
    · have := hem.nil (by decide)
      subst this
      exact ⟨e, ud, k, by', z, m, nv, hu, hud, hni, hsz, hbz, hzz, c1, c2, hn1, fun hstay => by omega, fun _ => ⟨big, ov, ho1, app_new hk h1 hr ho2 hn2 hol hnew c1⟩⟩
    · have := g6 rfl
      exact ⟨e, ud, k, by', z, m, nv, hu, hud, hni, hsz, hbz, hzz, c1, c2, hn1, fun hstay => by omega, fun _ => ⟨big, ov, ho1, app_new hk h1 hr ho2 hn2 hol hnew c1⟩⟩
theorem quiet_step {o : Op} (ho : loudOp o = false) (h1 : apure Try.prog o ρ h fun v => K v h) : astep Try.prog o ρ h K := by
  unfold astep; rw [ho]; exact h1
theorem loud_step {o : Op} (ho : loudOp o = true) (h1 : aloud Try.prog o ρ h K) : astep Try.prog o ρ h K := by
  unfold astep; rw [ho]; exact h1
theorem args2 {l : List Operand} {s x : AV} (hf : FR φ σ ρ) (e : l.map (eev σ) = [s, x]) : ∃ v u, l.map ρ.ev = [v, u] ∧ VR φ s v ∧ VR φ x u := by
  have hm := VRs.map hf.ev l
  rw [e] at hm
  obtain ⟨v1, us, h1, h2, h3⟩ := hm.cons_inv
  obtain ⟨v2, ws, h4, h5, h6⟩ := h3.cons_inv
  rw [h4, h6.nil_inv] at h1
  exact ⟨v1, v2, h1, h2, h5⟩
theorem args1 {l : List Operand} {s : AV} (hf : FR φ σ ρ) (e : l.map (eev σ) = [s]) : ∃ v, l.map ρ.ev = [v] ∧ VR φ s v := by
  have hm := VRs.map hf.ev l
  rw [e] at hm
  obtain ⟨v1, us, h1, h2, h3⟩ := hm.cons_inv
  rw [h3.nil_inv] at h1
  exact ⟨v1, h1, h2⟩
theorem callP_sound (hcall : CPok call) (hr : HR φ H n h0 h) (hf : FR φ σ ρ) {c : Call} (hs : callP c call σ H n κ) (hk : ThenP φ h0 κ K) : astep Try.prog (.call c) ρ h K := by
  have hm := VRs.map hf.ev c.args.toList
  have fin : ∀ r u, κ r H n → VR φ r u → K u h := fun r u h1 hu => hk φ r H n u h (PLe.refl _) hr hu h1
  obtain ⟨callee, args, ats⟩ := c
  unfold callP at hs
  dsimp only at hs hm
  split at hs
  · rename_i f
    have hfv := hf.ev f
    split at hs
    · rename_i g a cs q
      rw [q] at hfv
      obtain ⟨a', c', hv, h1, h2⟩ := hfv.fn_inv
      refine loud_step rfl ?_
      show acall Try.prog (ρ.ev f) (args.map ρ.ev) h K
      rw [hv]
      show CallF Try.prog g (a' ++ args.map ρ.ev ++ c') h K
      refine hcall g _ _ _ _ hs φ h0 h _ K hr ?_ hk
      rw [Array.toList_append, Array.toList_append, Array.toList_map]
      exact (h1.append hm).append h2
    · exact hs.elim
  · refine quiet_step rfl ?_
    show qbuiltin Try.prog .len ats.toList (args.toList.map ρ.ev) h fun v => K v h
    split at hs
    · rename_i t x e1 e2
      obtain ⟨v, e3, h1⟩ := args1 hf e2
      rw [e1, e3]
      exact lenP_sound hr h1 hs fun r u => fin r u
    · exact hs.elim
  · refine quiet_step rfl ?_
    show qbuiltin Try.prog .min ats.toList (args.toList.map ρ.ev) h fun v => K v h
    split at hs
    · rename_i x y e2
      obtain ⟨v, u, e3, h1, h2⟩ := args2 hf e2
      rw [e3]
      exact mmP_sound h1 h2 hs fun r u => fin r u
    · exact hs.elim
  · refine quiet_step rfl ?_
    show qbuiltin Try.prog .max ats.toList (args.toList.map ρ.ev) h fun v => K v h
    split at hs
    · rename_i x y e2
      obtain ⟨v, u, e3, h1, h2⟩ := args2 hf e2
      rw [e3]
      exact mmP_sound h1 h2 hs fun r u => fin r u
    · exact hs.elim
  · refine loud_step rfl ?_
    show lbuiltin Try.prog .append ats.toList (args.toList.map ρ.ev) h K
    split at hs
    · rename_i t u s x e1 e2
      obtain ⟨v, w, e3, h1, h2⟩ := args2 hf e2
      rw [e1, e3]
      unfold appendP at hs
      cases hq : (isR s || isR x) with
      | true => rw [hq] at hs; exact rapp_sound hr h1 h2 hs hk
      | false => rw [hq] at hs; exact slow3 hk hs (fun _ _ _ e => eappend_sound hr h1 h2 e) (fun _ _ _ e => eappend_sound hr h1.hd h2.hd e)
    · exact hs.elim
  · refine loud_step rfl ?_
    show lbuiltin Try.prog .copy ats.toList (args.toList.map ρ.ev) h K
    split at hs
    · rename_i t u s x e1 e2
      obtain ⟨v, w, e3, h1, h2⟩ := args2 hf e2
      rw [e1, e3]
      exact slow3 hk hs (fun _ _ _ e => ecopy_sound hr h1 h2 e) (fun _ _ _ e => ecopy_sound hr h1.hd h2.hd e)
    · exact hs.elim
  · exact hs.elim
theorem intKindOf_spec {t : TypeId} {k : IntKind} (h : intKindOf Try.prog t = some k) : Try.prog.underlying t = some (.int k) := by
  unfold intKindOf at h
  split at h
  · rename_i e; injection h with h; subst h; exact e
  · cases h
theorem MR.at {φ : Ph} : ∀ {es : List (AV × AV)} {ms : List MapEntry}, MR φ es ms → ∀ {i : Nat} {m : MapEntry}, ms[i]? = some m → ∃ e, es[i]? = some e ∧ VR φ e.1 m.key ∧ VR φ e.2 m.val
  | [], ms, h, i, m, e => by rw [show ms = [] from h] at e; simp at e
  | x :: es, ms, ⟨m', us, h1, h2, h3, h4⟩, 0, m, e => by
    subst h1
    simp only [List.getElem?_cons_zero, Option.some.injEq] at e
    subst e
    exact ⟨x, rfl, h2, h3⟩
  | x :: es, ms, ⟨m', us, h1, h2, h3, h4⟩, i + 1, m, e => by
    subst h1
    simp only [List.getElem?_cons_succ] at e ⊢
    exact MR.at h4 e
theorem iter_spec (hr : HR φ H n h0 h) {a : AV} {v : Value} {it b m : Nat} {seen : List Nat} {es : List (AV × AV)} (ha : a = .ptr it 0) (hv : VR φ a v) (hi : H.get it = some (.iter b m seen)) (hb : H.get b = some (.map es)) (hm : es.length = m) :
    ∃ p q ms, p.s + 0 = 0 ∧ φ it = some p ∧ φ b = some q ∧ v = .pointer (some ⟨p.B, p.s + 0, none⟩) ∧ h.f p.B = some (.mapIter (some q.B) m seen.toArray m) ∧ h.f q.B = some (.map ms m) ∧ MR φ es ms.toList ∧ Stmp ms.toList m := by
  subst ha hm
  obtain ⟨p, hp, rfl⟩ := hv.ptr_inv
  obtain ⟨ob, _, h1, hs0, q, hq, rfl⟩ := hr.of hi hp
  obtain ⟨ob, _, h2, ms, cl, rfl, h3, h4⟩ := hr.of hb hq
  have : cl = es.length := h4.1.trans h3.length.symm
  subst this
  exact ⟨p, q, ms, by omega, hp, hq, rfl, h1, h2, h3, h4⟩
theorem nxt_sound (hr : HR φ H n h0 h) {a : AV} {v : Value} {s : Bool} {κ : PK} {K : KH} (hv : VR φ a v) (hs : Nxt H a s fun v H => κ v H n) (hk : ThenP φ h0 κ K) : anext v s h K := by
  obtain ⟨it, b, m, seen, es, rfl, ha, hi, hb, hm, over, step⟩ := hs
  obtain ⟨p, q, ms, ps, hp, hq, rfl, h1, h2, h3, h4⟩ := iter_spec hr ha hv hi hb hm
  rw [ps]
  simp only [anext, h1, h2]
  refine ⟨fun e he => ?_, Nat.le_refl _, fun h0 => ?_, fun e he => ?_⟩
  · obtain ⟨i, hi'⟩ := List.getElem?_of_mem he
    have := (List.getElem?_eq_some_iff.1 hi').1
    rw [h4.2 i e hi', h4.1]; omega
  · refine hk φ _ H n _ h (PLe.refl _) hr (.tup (.cons (.bool _) .nil)) (over fun i hlt => ?_)
    have hlt' : i < ms.toList.length := by rw [← h4.1]; exact hlt
    have hmem : ms.toList[i] ∉ leftL ms.toList seen.toArray := by rw [h0]; simp
    have hb' := h4.2 i _ (List.getElem?_eq_getElem hlt')
    simp only [leftL, List.mem_filter, List.getElem_mem, true_and, hb'] at hmem
    simpa using hmem
  · simp only [leftL, List.mem_filter] at he
    obtain ⟨he1, he2⟩ := he
    obtain ⟨i, hi'⟩ := List.getElem?_of_mem he1
    have hbi := h4.2 i e hi'
    obtain ⟨x, hx, hx1, hx2⟩ := h3.at hi'
    have hns : i ∉ seen := by rw [hbi] at he2; simpa using he2
    have ho : OR φ p (.iter b m (seen ++ [i])) (.mapIter (some q.B) m (seen.toArray.push e.born) m) := ⟨by omega, q, hq, by rw [hbi]; simp⟩
    exact hk φ _ _ n _ _ (PLe.refl _) (hr.put hi hp ho depthH) (.tup (.cons (.bool _) (.cons hx1.mk (.cons hx2 .nil)))) (step i x hx hns)
theorem ent_sound (hr : HR φ H n h0 h) {a : AV} {v : Value} {κ : AV → Prop} {K : Value → Prop} (hv : VR φ a v) (hs : Ent H a κ) (hk : ∀ r u, κ r → VR φ r u → K u) : aentry v h K := by
  obtain ⟨it, b, m, i, seen, es, e, ha, hi, hb, hm, he, k⟩ := hs
  obtain ⟨p, q, ms, ps, hp, hq, rfl, h1, h2, h3, h4⟩ := iter_spec hr ha hv hi hb hm
  rw [ps]
  have hil : i < ms.toList.length := by rw [← h4.1, ← hm]; exact (List.getElem?_eq_some_iff.1 he).1
  obtain ⟨x, hx, hx1, hx2⟩ := h3.at (List.getElem?_eq_getElem hil)
  have hbi := h4.2 i _ (List.getElem?_eq_getElem hil)
  rw [he] at hx
  injection hx with hx
  subst hx
  have hbk : (seen ++ [i]).toArray.back? = some i := by simp
  have hfd : ms.find? (·.born == i) = some ms.toList[i] := by
    rw [← Array.find?_toList, List.find?_eq_some_iff_getElem]
    refine ⟨by simpa using hbi, i, hil, rfl, fun j hj => ?_⟩
    have := h4.2 j _ (List.getElem?_eq_getElem (by omega))
    have hne : ¬ (ms.toList[j]'(by omega)).born = i := by rw [this]; omega
    simpa using hne
  simp only [aentry, h1, h2, hbk, hfd]
  exact ⟨trivial, hk _ _ k (.tup (.cons hx1.mk (.cons hx2 .nil)))⟩
theorem stepP_sound (hcall : CPok call) (hr : HR φ H n h0 h) (hf : FR φ σ ρ) {o : Op} (hs : stepP o call σ H n κ) (hk : ThenP φ h0 κ K) : astep Try.prog o ρ h K := by
  have fin : ∀ r u, κ r H n → VR φ r u → K u h := fun r u h1 hu => hk φ r H n u h (PLe.refl _) hr hu h1
  unfold stepP at hs
  split at hs
  · exact quiet_step rfl (fin _ _ hs (hf.ev _))
  · exact quiet_step rfl (fin _ _ hs (hf.ev _))
  · rename_i c a b
    obtain ⟨q, h1, h2, h3⟩ := pickP_inv (hf.ev c) hs
    refine quiet_step rfl ?_
    simp only [apure, h1]
    cases q with
    | true => exact fin _ _ (h2 rfl) (hf.ev _)
    | false => exact fin _ _ (h3 rfl) (hf.ev _)
  · exact quiet_step rfl (loadP_sound hr (hf.ev _) hs fun r u => fin r u)
  · exact loud_step rfl (storeP_sound hr (hf.ev _) (hf.ev _) hs hk)
  · exact quiet_step rfl (binP_sound hr (hf.ev _) (hf.ev _) hs fun r u => fin r u)
  · exact quiet_step rfl (unP_sound (hf.ev _) hs fun r u => fin r u)
  · exact quiet_step rfl (indexAddrP_sound (hf.ev _) (hf.ev _) hs fun r u => fin r u)
  · exact quiet_step rfl (indexP_sound (hf.ev _) (hf.ev _) hs fun r u => fin r u)
  · rename_i t x lo hi mx
    refine quiet_step rfl ?_
    show aslice Try.prog t (ρ.ev x) (lo.map ρ.ev) (hi.map ρ.ev) (mx.map ρ.ev) fun v => K v h
    exact sliceP_sound (κ := fun v => κ v H n) hf hs fun r u => fin r u
  · exact loud_step rfl (slow3 hk hs (fun _ _ _ e => emake_sound hr (hf.ev _) (hf.ev _) e) (fun _ _ _ e => emake_sound hr (hf.ev _).hd (hf.ev _).hd e))
  · rename_i s d x
    refine loud_step rfl ?_
    show aconv Try.prog s d (ρ.ev x) h K
    unfold convP at hs
    split at hs
    · rename_i a q
      have hx := hf.ev x
      rw [q] at hx
      rw [hx.si_inv]
      split at hs
      · rename_i k1 k2 e1 e2
        simp only [aconv, intKindOf_spec e1, intKindOf_spec e2]
        exact fin _ _ hs (.si _ _)
      · exact hs.elim
    · have hx := hf.ev x
      cases hs with
      | mk b o m k' q l' new s' hx' hq ty hb hl hsb hκ =>
        obtain ⟨el, t1, t2, t3⟩ := ty
        rw [hx'] at hx
        rcases hx.rw_inv with ⟨rfl, hem⟩ | ⟨p, y, C, hp, hv, ha, g3, g4, g7, g5, g6⟩
        · rw [hem.nil hq]
          obtain ⟨_, rfl⟩ := subL_spec hl
          have hsb : ebytes [] = some s' := by simpa using hsb
          injection hsb with hsb; subst hsb
          simp only [aconv, t1, t3]
          exact ⟨t2, fin _ _ hκ (.ss (s := []) (fun _ hx => by cases hx))⟩
        · rw [hv]
          have key : ∃ c t fz, h.f p.B = some (.cells c t fz) ∧ CR φ c p.s l' := by
            rcases hb with hb | ⟨z, hb⟩
            · obtain ⟨ob, _, h2, c, t, fz, rfl, h3, h4, h5⟩ := hr.of hb hp
              exact ⟨c, t, fz, h2, h5⟩
            · obtain ⟨ob, _, h2, c, t, fz, rfl, h3, h4, _, _, h5⟩ := hr.of hb hp
              exact ⟨c, t, fz, h2, h5⟩
          obtain ⟨c, t, fz, h2, h5⟩ := key
          obtain ⟨vs, k1, k2⟩ : ∃ vs, cellsL c y m = some vs ∧ VRs φ new vs := by
            by_cases hm : m = 0
            · subst hm
              obtain ⟨_, rfl⟩ := subL_spec hl
              exact ⟨[], rfl, by simpa using VRs.nil⟩
            · have := ha hm
              subst this
              exact h5.sub hl
          obtain ⟨k3, k4⟩ := ebytes_spec new s' vs k2 hsb
          simp only [aconv, t1, t3, h2, k1, Option.bind_some, k3]
          exact ⟨t2, fin _ _ hκ (.ss k4)⟩
    · exact slow3 hk hs (fun _ _ _ e => econv_sound hr (hf.ev x) e) (fun _ _ _ e => econv_sound hr (hf.ev x).hd e)
  · exact callP_sound hcall hr hf hs hk
  · rename_i t m k ok
    refine quiet_step rfl ?_
    show alookup Try.prog t (ρ.ev m) (ρ.ev k) ok h fun v => K v h
    cases q : isS (eev σ k) with
    | true =>
      rw [q] at hs
      obtain ⟨r, h1, h2⟩ := Ask.inv hs
      exact elookup_sound hr (hf.ev _) (hf.ev _).hd h1 fun u hu => fin r u h2 hu
    | false =>
      rw [q] at hs
      obtain ⟨r, h1, h2⟩ := optP_inv hs
      exact elookup_sound hr (hf.ev _) (hf.ev _) h1 fun u hu => fin r u h2 hu
  · exact loud_step rfl (nxt_sound hr (hf.ev _) hs hk)
  · exact quiet_step rfl (ent_sound hr (hf.ev _) hs fun r u => fin r u)
  · exact slowP_sound hr hf hs hk
end
end Go.Proofs.Ytkhfdjhohfebgaa
