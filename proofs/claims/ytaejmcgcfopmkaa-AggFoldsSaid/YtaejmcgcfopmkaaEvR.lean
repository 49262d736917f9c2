/- The quick machine: what it yields the machine yields. -/
import Derived.Test.YtaejmcgcfopmkaaEvQ
namespace Go.Proofs.Ytaejmcgcfopmkaa
open Go Go.RowKit
section
variable {r : AV × AH × Nat} {σ : AE} {H : AH} {n : Nat} {call : CQ}
theorem evq_eq (x : Operand) (σ : AE) : evq x σ = eev σ x := by cases x <;> rfl
theorem evsq_eq : ∀ (l : List Operand) (σ : AE), evsq l σ = l.map (eev σ)
  | [], _ => rfl
  | x :: l, σ => by
    show evq x σ :: evsq l σ = _
    rw [evq_eq, evsq_eq l]; rfl
theorem optq_inv {α : Type} {o : Option α} {k : α → AR} (h : optq o k = some r) : ∃ a, o = some a := by
  cases o with
  | none => cases h
  | some a => exact ⟨a, rfl⟩
theorem boolq_inv {a : AV} {k : Bool → AR} (h : boolq a k = some r) : ∃ q, a = .bool q := by
  cases a <;> first | exact ⟨_, rfl⟩ | cases h
theorem ptrq_inv {a : AV} {k : Nat → Nat → AR} (h : ptrq a k = some r) : ∃ b o, a = .ptr b o := by
  cases a <;> first | exact ⟨_, _, rfl⟩ | cases h
theorem tupq_inv {a : AV} {k : List AV → AR} (h : tupq a k = some r) : ∃ l, a = .tup l := by
  cases a <;> first | exact ⟨_, rfl⟩ | cases h
theorem fnq_inv {a : AV} {k : Nat → List AV → List AV → AR} (h : fnq a k = some r) : ∃ f b c, a = .fn f b c := by
  cases a <;> first | exact ⟨_, _, _, rfl⟩ | cases h
theorem cellsq_inv {o : Option AO} {k : List AV → Bool → AR} (h : cellsq o k = some r) : ∃ l z, o = some (.cells l z) := by
  cases o with
  | none => cases h
  | some o => cases o <;> first | exact ⟨_, _, rfl⟩ | cases h
theorem intq_cases (a : AV) : (∃ k i, a = .int k i) ∨ ∀ f s, intq a f s = s := by
  cases a <;> first | exact .inl ⟨_, _, rfl⟩ | exact .inr fun _ _ => rfl
theorem nthq_inv {α : Type} : ∀ {l : List α} {i : Nat} {k : α → AR}, nthq l i k = some r → ∃ a, nth l i = some a ∧ ∀ k', nthq l i k' = k' a
  | [], i, k, h => by cases h
  | x :: l, 0, k, h => ⟨x, rfl, fun _ => rfl⟩
  | x :: l, i + 1, k, h => by
    have h : nthq l i k = some r := h
    obtain ⟨a, h1, h2⟩ := nthq_inv h
    exact ⟨a, h1, h2⟩
theorem kindq_eq (k j : IntKind) : kindq k j = decide (k = j) := by cases k <;> cases j <;> rfl
theorem ltq_eq (a b : Int) : ltq a b = decide (a < b) := by
  cases a with
  | ofNat m =>
    cases b with
    | ofNat n =>
      show Nat.blt m n = _
      rw [Bool.eq_iff_iff, Nat.blt_eq, decide_eq_true_eq]
      simp only [Int.ofNat_eq_natCast]; omega
    | negSucc n =>
      show false = _
      symm; rw [decide_eq_false_iff_not]
      simp only [Int.ofNat_eq_natCast, Int.negSucc_eq]; omega
  | negSucc m =>
    cases b with
    | ofNat n =>
      show true = _
      symm; rw [decide_eq_true_eq]
      simp only [Int.ofNat_eq_natCast, Int.negSucc_eq]; omega
    | negSucc n =>
      show Nat.blt n m = _
      rw [Bool.eq_iff_iff, Nat.blt_eq, decide_eq_true_eq]
      simp only [Int.negSucc_eq]; omega
theorem eqq_eq (a b : Int) : eqq a b = decide (a = b) := by
  cases a with
  | ofNat m =>
    cases b with
    | ofNat n =>
      show Nat.beq m n = _
      rw [Bool.eq_iff_iff, Nat.beq_eq, decide_eq_true_eq]
      simp only [Int.ofNat_eq_natCast]; omega
    | negSucc n =>
      show false = _
      symm; rw [decide_eq_false_iff_not]
      simp only [Int.ofNat_eq_natCast, Int.negSucc_eq]; omega
  | negSucc m =>
    cases b with
    | ofNat n =>
      show false = _
      symm; rw [decide_eq_false_iff_not]
      simp only [Int.ofNat_eq_natCast, Int.negSucc_eq]; omega
    | negSucc n =>
      show Nat.beq m n = _
      rw [Bool.eq_iff_iff, Nat.beq_eq, decide_eq_true_eq]
      simp only [Int.negSucc_eq]; omega
theorem notq_eq (b : Bool) : notq b = !b := by cases b <;> rfl
theorem wrapq_eq (k : IntKind) (x : Int) : wrapq k x = k.wrap x := by
  have pick : ∀ {b : Bool} {u v : Int}, (b = true → v = u) → (Bool.rec u v b : Int) = u := fun {b u v} h => by
    cases b with
    | false => rfl
    | true => exact h rfl
  cases k <;> try rfl
  case i64 =>
    cases x with
    | ofNat m =>
      refine pick fun h => ?_
      rw [Nat.blt_eq] at h
      rw [IntKind.wrap_i64]; simp only [Int.ofNat_eq_natCast]; omega
    | negSucc m =>
      refine pick fun h => ?_
      rw [Nat.blt_eq] at h
      rw [IntKind.wrap_i64]; simp only [Int.negSucc_eq]; omega
  case u8 =>
    cases x with
    | ofNat m =>
      refine pick fun h => ?_
      rw [Nat.blt_eq] at h
      rw [IntKind.wrap_u8]; simp only [Int.ofNat_eq_natCast]; omega
    | negSucc m => rfl
  case u64 =>
    cases x with
    | ofNat m =>
      refine pick fun h => ?_
      rw [Nat.blt_eq] at h
      rw [IntKind.wrap_u64]; simp only [Int.ofNat_eq_natCast]; omega
    | negSucc m => rfl
theorem bifq_inv {b : Bool} {t : AR} (h : bifq b t none = some r) : b = true := by
  cases b with
  | true => rfl
  | false => cases h
theorem intopq_spec {op : BinOp} {k j : IntKind} {a b : Int} {κ : AV → AR} (h : intopq op k j a b κ = some r) : ∃ v, eint op k j a b = some v ∧ ∀ κ', intopq op k j a b κ' = κ' v := by
  have slow : ∀ {op}, slowI op k j a b κ = some r → ∃ v, eint op k j a b = some v ∧ ∀ κ', slowI op k j a b κ' = κ' v := fun {op} h => by
    obtain ⟨v, hv⟩ := optq_inv h
    exact ⟨v, hv, fun κ' => by unfold slowI; rw [hv]; rfl⟩
  have cmp : ∀ {f : Int → Int → Bool}, cmpq f k j a b κ = some r → k = j ∧ ∀ κ', cmpq f k j a b κ' = κ' (.bool (f a b)) := fun {f} h => by
    have hb := bifq_inv h
    refine ⟨by rw [kindq_eq] at hb; simpa using hb, fun κ' => ?_⟩
    unfold cmpq; rw [hb]; rfl
  cases op <;> first | exact slow h | skip
  case add =>
    have hb := bifq_inv h
    have hk : k = j := by rw [kindq_eq] at hb; simpa using hb
    refine ⟨.int k (wrapq k (Int.add a b)), ?_, fun κ' => ?_⟩
    · simp only [eint, if_pos hk, wrapq_eq]; rfl
    · show addq k j a b κ' = _
      unfold addq; rw [hb]; rfl
  case sub =>
    have hb := bifq_inv h
    have hk : k = j := by rw [kindq_eq] at hb; simpa using hb
    refine ⟨.int k (wrapq k (Int.sub a b)), ?_, fun κ' => ?_⟩
    · simp only [eint, if_pos hk, wrapq_eq]; rfl
    · show subq k j a b κ' = _
      unfold subq; rw [hb]; rfl
  case eql =>
    obtain ⟨hk, h2⟩ := cmp (f := eqq) h
    exact ⟨_, by simp only [eint, if_pos hk, eqq_eq], h2⟩
  case neq =>
    obtain ⟨hk, h2⟩ := cmp (f := fun a b => notq (eqq a b)) h
    exact ⟨_, by simp only [eint, if_pos hk, eqq_eq, notq_eq], h2⟩
  case lss =>
    obtain ⟨hk, h2⟩ := cmp (f := ltq) h
    exact ⟨_, by simp only [eint, if_pos hk, ltq_eq], h2⟩
  case leq =>
    obtain ⟨hk, h2⟩ := cmp (f := fun a b => notq (ltq b a)) h
    refine ⟨_, ?_, h2⟩
    simp only [eint, if_pos hk, ltq_eq, notq_eq]
    congr 2; rw [Bool.eq_iff_iff]; simp
  case gtr =>
    obtain ⟨hk, h2⟩ := cmp (f := fun a b => ltq b a) h
    exact ⟨_, by simp only [eint, if_pos hk, ltq_eq], h2⟩
  case geq =>
    obtain ⟨hk, h2⟩ := cmp (f := fun a b => notq (ltq a b)) h
    refine ⟨_, ?_, h2⟩
    simp only [eint, if_pos hk, ltq_eq, notq_eq]
    congr 2; rw [Bool.eq_iff_iff]; simp

/-! ### operations -/
/-- What a call yields does not hang on what follows. -/
def CQN (call : CQ) : Prop := ∀ f args H n κ r, call f args H n κ = some r → ∃ v H' n', ∀ κ', call f args H n κ' = κ' v H' n'
theorem estep_noCall {P : Program} {c : AC} {o : Op} {y : AV × AH × Nat} (h : estep P noCall o σ H n = some y) : estep P c o σ H n = some y := by
  cases o <;> try exact h
  case makeMap t x => cases x <;> exact h
  case call cl =>
    obtain ⟨callee, args, ats⟩ := cl
    cases callee with
    | value f =>
      simp only [estep] at h
      split at h <;> cases h
    | invoke _ _ => exact h
    | builtin b => cases b <;> exact h
theorem slowS_spec {o : Op} {κ : KA} (h : slowS o call σ H n κ = some r) : ∃ v H' n', estep Try.prog (callA call) o σ H n = some (v, H', n') ∧ ∀ κ', slowS o call σ H n κ' = κ' v H' n' := by
  obtain ⟨⟨v, H', n'⟩, hy⟩ := optq_inv h
  refine ⟨v, H', n', estep_noCall hy, fun κ' => ?_⟩
  unfold slowS; rw [hy]; rfl
theorem pure_spec {o : Op} {v : AV} (hs : loudOp o = false) (h : epure Try.prog o σ H = some v) : estep Try.prog (callA call) o σ H n = some (v, H, n) := estep_pure hs h
theorem loadL_spec {t : TypeId} {l : List AV} {o : Nat} {κ : AV → AR} (h : loadL l o (loadKind t) κ = some r) : ∃ v, (match tyAgg Try.prog t with
      | some false => nth l o
      | some true => (match tySize Try.prog t with
        | some n => (subL l o n).map .agg
        | none => none)
      | none => none) = some v ∧ ∀ κ', loadL l o (loadKind t) κ' = κ' v := by
  unfold loadKind at h ⊢
  cases hg : tyAgg Try.prog t with
  | none => rw [hg] at h; cases h
  | some q =>
    rw [hg] at h
    cases q with
    | false =>
      have h : nthq l o κ = some r := h
      obtain ⟨v, h1, h2⟩ := nthq_inv h
      exact ⟨v, h1, h2⟩
    | true =>
      dsimp only at h ⊢
      cases hz : tySize Try.prog t with
      | none => rw [hz] at h; cases h
      | some m =>
        rw [hz] at h
        have h : optq (subL l o m) (fun x => κ (.agg x)) = some r := h
        obtain ⟨x, hx⟩ := optq_inv h
        refine ⟨.agg x, by dsimp only; rw [hx]; rfl, fun κ' => ?_⟩
        show optq (subL l o m) (fun x => κ' (.agg x)) = _
        rw [hx]; rfl
theorem set1q_spec {v : AV} : ∀ {l : List AV} {o : Nat} {k : List AV → AR}, set1q l o v k = some r → ∃ l', setL l o [v] = some l' ∧ ∀ k', set1q l o v k' = k' l'
  | [], o, k, h => by cases h
  | y :: t, 0, k, h => ⟨v :: t, by simp only [setL]; cases t <;> rfl, fun _ => rfl⟩
  | y :: t, o + 1, k, h => by
    have h : set1q t o v (fun x => k (y :: x)) = some r := h
    obtain ⟨l', h1, h2⟩ := set1q_spec h
    refine ⟨y :: l', by simp only [setL, h1]; rfl, fun k' => ?_⟩
    show set1q t o v (fun x => k' (y :: x)) = _
    rw [h2]
theorem cellOneq_spec {v : AV} (h : cellOneq v = true) : v.cells = [v] ∧ okC v = true ∧ one1 v = true := by
  cases v <;> first | exact ⟨rfl, rfl, rfl⟩ | cases h
set_option maxRecDepth 20000 in
theorem storeS_spec {t : TypeId} {a x : Operand} {κ : KA} (h : storeS t a x call σ H n κ = some r) : ∃ v H' n', estep Try.prog (callA call) (.store t a x) σ H n = some (v, H', n') ∧ ∀ κ', storeS t a x call σ H n κ' = κ' v H' n' := by
  show ∃ v H' n', estore Try.prog t (eev σ a) (eev σ x) H n = some (v, H', n') ∧ _
  unfold storeS at h ⊢
  cases hc : (Bool.rec false (cellOneq (evq x σ)) (sizeOne t) : Bool) with
  | false =>
    rw [hc] at h
    obtain ⟨⟨v, H', n'⟩, hy⟩ := optq_inv h
    refine ⟨v, H', n', by rw [← evq_eq, ← evq_eq]; exact hy, fun κ' => ?_⟩
    show optq _ (pairK κ') = _
    rw [hy]; rfl
  | true =>
    rw [hc] at h
    have hs : sizeOne t = true := by cases hz : sizeOne t with
      | true => rfl
      | false => rw [hz] at hc; cases hc
    rw [hs] at hc
    have hc : cellOneq (evq x σ) = true := hc
    obtain ⟨c1, c2, c3⟩ := cellOneq_spec hc
    have hsz : tySize Try.prog t = some 1 := by
      unfold sizeOne at hs
      split at hs
      · assumption
      · cases hs
    have h : ptrq (evq a σ) (fun b o => cellsq (H.get b) fun l z => set1q l o (evq x σ) fun x => κ undefA (H.set (some (.cells x z)) depthH b) n) = some r := h
    obtain ⟨b, o, hp⟩ := ptrq_inv h
    rw [hp] at h
    have h : cellsq (H.get b) (fun l z => set1q l o (evq x σ) fun x => κ undefA (H.set (some (.cells x z)) depthH b) n) = some r := h
    obtain ⟨l, z, hl⟩ := cellsq_inv h
    rw [hl] at h
    have h : set1q l o (evq x σ) (fun x => κ undefA (H.set (some (.cells x z)) depthH b) n) = some r := h
    obtain ⟨l', s1, s2⟩ := set1q_spec h
    refine ⟨undefA, H.set (some (.cells l' z)) depthH b, n, ?_, fun κ' => ?_⟩
    · rw [← evq_eq, ← evq_eq, hp]
      simp only [estore, hl, hsz, c1, c2, s1]
      simp [c3]
    · show ptrq (evq a σ) _ = _
      rw [hp]
      show cellsq (H.get b) _ = _
      rw [hl]
      exact s2 _
theorem nilQ_inv {a : AV} {k : AV → AR} (h : nilQ a k = some r) : (∃ b o, a = .ptr b o) ∨ ∃ f b c, a = .fn f b c := by
  cases a <;> first | exact .inl ⟨_, _, rfl⟩ | exact .inr ⟨_, _, _, rfl⟩ | cases h
set_option maxRecDepth 20000 in
theorem stepq_spec (hc : CQN call) {o : Op} {κ : KA} (h : stepq o call σ H n κ = some r) : ∃ v H' n', estep Try.prog (callA call) o σ H n = some (v, H', n') ∧ ∀ κ', stepq o call σ H n κ' = κ' v H' n' := by
  cases o <;> first | exact slowS_spec h | skip
  case move x => exact ⟨eev σ x, H, n, rfl, fun κ' => by rw [← evq_eq]; rfl⟩
  case assign x => exact ⟨eev σ x, H, n, rfl, fun κ' => by rw [← evq_eq]; rfl⟩
  case pick c a b =>
    have h : pickS c a b call σ H n κ = some r := h
    unfold pickS at h
    obtain ⟨q, hq⟩ := boolq_inv h
    have key : ∀ κ', stepq (.pick c a b) call σ H n κ' = (Bool.rec (κ' (evq b σ) H n) (κ' (evq a σ) H n) q : AR) := fun κ' => by
      show pickS c a b call σ H n κ' = _
      unfold pickS; rw [hq]; rfl
    cases q with
    | true => exact ⟨eev σ a, H, n, pure_spec rfl (by simp only [epure, ← evq_eq c, hq]), fun κ' => by rw [key, ← evq_eq]⟩
    | false => exact ⟨eev σ b, H, n, pure_spec rfl (by simp only [epure, ← evq_eq c, hq]), fun κ' => by rw [key, ← evq_eq]⟩
  case load t a =>
    have h : ptrq (evq a σ) (fun b o => cellsq (H.get b) fun l _ => loadL l o (loadKind t) fun v => κ v H n) = some r := h
    obtain ⟨b, o, hp⟩ := ptrq_inv h
    rw [hp] at h
    have h : cellsq (H.get b) (fun l _ => loadL l o (loadKind t) fun v => κ v H n) = some r := h
    obtain ⟨l, z, hl⟩ := cellsq_inv h
    rw [hl] at h
    have h : loadL l o (loadKind t) (fun v => κ v H n) = some r := h
    obtain ⟨v, h1, h2⟩ := loadL_spec h
    refine ⟨v, H, n, pure_spec rfl ?_, fun κ' => ?_⟩
    · simp only [epure, ← evq_eq, hp, eload, hl]; exact h1
    · show ptrq (evq a σ) _ = _
      rw [hp]
      show cellsq (H.get b) _ = _
      rw [hl]
      exact h2 _
  case store t a x => exact storeS_spec h
  case nilCheck x =>
    have h : nilQ (evq x σ) (fun v => κ v H n) = some r := h
    rcases nilQ_inv h with ⟨b, o, hp⟩ | ⟨f, b, c, hp⟩
    · exact ⟨.ptr b o, H, n, pure_spec rfl (by simp only [epure, ← evq_eq, hp]), fun κ' => by
        show nilQ (evq x σ) _ = _
        rw [hp]; rfl⟩
    · exact ⟨.fn f b c, H, n, pure_spec rfl (by simp only [epure, ← evq_eq, hp]), fun κ' => by
        show nilQ (evq x σ) _ = _
        rw [hp]; rfl⟩
  case binOp op t x y t' =>
    have h : intq (evq x σ) (fun k a => intq (evq y σ) (fun j b => intopq op k j a b fun v => κ v H n) none) (optq (ebin Try.prog op t (evq x σ) (evq y σ) H) fun v => κ v H n) = some r := h
    have e0 : ∀ v, ebin Try.prog op t (evq x σ) (evq y σ) H = some v → estep Try.prog (callA call) (.binOp op t x y t') σ H n = some (v, H, n) := fun v hv => pure_spec rfl (by simp only [epure, ← evq_eq]; exact hv)
    rcases intq_cases (evq x σ) with ⟨k, i, hx⟩ | hx
    · rw [hx] at h
      have h : intq (evq y σ) (fun j b => intopq op k j i b fun v => κ v H n) none = some r := h
      rcases intq_cases (evq y σ) with ⟨j, i2, hy⟩ | hy
      · rw [hy] at h
        have h : intopq op k j i i2 (fun v => κ v H n) = some r := h
        obtain ⟨v, h1, h2⟩ := intopq_spec h
        refine ⟨v, H, n, e0 v (by rw [hx, hy]; exact h1), fun κ' => ?_⟩
        show intq (evq x σ) _ _ = _
        rw [hx]
        show intq (evq y σ) _ _ = _
        rw [hy]
        exact h2 _
      · rw [hy] at h; cases h
    · rw [hx] at h
      obtain ⟨v, hv⟩ := optq_inv h
      refine ⟨v, H, n, e0 v hv, fun κ' => ?_⟩
      show intq (evq x σ) _ _ = _
      rw [hx, hv]; rfl
  case unOp op t x =>
    have h : optq (eun op (evq x σ)) (fun v => κ v H n) = some r := h
    obtain ⟨v, hv⟩ := optq_inv h
    refine ⟨v, H, n, pure_spec rfl (by simp only [epure, ← evq_eq]; exact hv), fun κ' => ?_⟩
    show optq (eun op (evq x σ)) _ = _
    rw [hv]; rfl
  case fieldAddr s x i =>
    have h : ptrq (evq x σ) (fun b o => optq (tyField Try.prog s i) fun p => κ (.ptr b (Nat.add o p.2)) H n) = some r := h
    obtain ⟨b, o, hp⟩ := ptrq_inv h
    rw [hp] at h
    have h : optq (tyField Try.prog s i) (fun p => κ (.ptr b (Nat.add o p.2)) H n) = some r := h
    obtain ⟨⟨t, off⟩, ht⟩ := optq_inv h
    refine ⟨.ptr b (o + off), H, n, pure_spec rfl (by simp only [epure, ← evq_eq, hp, efieldAddr, ht]), fun κ' => ?_⟩
    show ptrq (evq x σ) _ = _
    rw [hp]
    show optq (tyField Try.prog s i) _ = _
    rw [ht]; rfl
  case indexAddr t x ix =>
    have h : optq (eindexAddr Try.prog t (evq x σ) (evq ix σ)) (fun v => κ v H n) = some r := h
    obtain ⟨v, hv⟩ := optq_inv h
    refine ⟨v, H, n, pure_spec rfl (by simp only [epure, ← evq_eq]; exact hv), fun κ' => ?_⟩
    show optq (eindexAddr Try.prog t (evq x σ) (evq ix σ)) _ = _
    rw [hv]; rfl
  case extract x i =>
    have h : tupq (evq x σ) (fun l => nthq l i fun v => κ v H n) = some r := h
    obtain ⟨l, hl⟩ := tupq_inv h
    rw [hl] at h
    have h : nthq l i (fun v => κ v H n) = some r := h
    obtain ⟨v, h1, h2⟩ := nthq_inv h
    refine ⟨v, H, n, pure_spec rfl (by simp only [epure, ← evq_eq, hl, eextract]; exact h1), fun κ' => ?_⟩
    show tupq (evq x σ) _ = _
    rw [hl]
    exact h2 _
  case call c =>
    obtain ⟨callee, args, ats⟩ := c
    cases callee with
    | invoke _ _ => cases h
    | builtin b => exact slowS_spec (o := .call ⟨.builtin b, args, ats⟩) h
    | value f =>
      have h : fnq (evq f σ) (fun g a cs => call g (a ++ (evsq args.toList σ ++ cs)) H n κ) = some r := h
      obtain ⟨g, a, cs, hf⟩ := fnq_inv h
      rw [hf] at h
      have h : call g (a ++ (evsq args.toList σ ++ cs)) H n κ = some r := h
      obtain ⟨v, H', n', hv⟩ := hc _ _ _ _ _ _ h
      refine ⟨v, H', n', ?_, fun κ' => ?_⟩
      · simp only [estep, ← evq_eq, hf, callA]
        rw [List.append_assoc]
        have e : args.toList.map (fun x => evq x σ) = evsq args.toList σ := by
          rw [evsq_eq]; exact List.map_congr_left fun x _ => evq_eq x σ
        first
          | (rw [e, hv]; rfl)
          | (rw [← evsq_eq, hv]; rfl)
      · show fnq (evq f σ) _ = _
        rw [hf]
        exact hv κ'
theorem doq_spec (hc : CQN call) {o : Op} {d : Option Nat} {k : KS} (h : doq o d call σ H n k = some r) : ∃ v H' n', estep Try.prog (callA call) o σ H n = some (v, H', n') ∧ ∀ k', doq o d call σ H n k' = k' (putq d v σ) H' n' := by
  have h : stepq o call σ H n (fun v H n => k (putq d v σ) H n) = some r := h
  obtain ⟨v, H', n', h1, h2⟩ := stepq_spec hc h
  exact ⟨v, H', n', h1, fun k' => h2 _⟩
theorem gvalq_inv {a : AV} {want : Bool} {d s : AR} (h : gvalq a want d s = some r) : (∃ q, a = .bool q) ∨ ∃ l, a = .tup l := by
  cases a <;> first | exact .inl ⟨_, rfl⟩ | exact .inr ⟨_, rfl⟩ | cases h
theorem oneq_spec (hc : CQN call) {ops : Array Oper} {o : Oper} {k : KS} (h : oneq ops o call σ H n k = some r) : ∃ σ1 H1 n1, (∀ k', oneq ops o call σ H n k' = k' σ1 H1 n1) ∧ ∀ kk : AE → AH → Nat → AS, eop Try.prog (callA call) ops o kk σ H n = kk σ1 H1 n1 := by
  unfold oneq at h ⊢
  unfold eop
  cases hg : o.guard with
  | none =>
    rw [hg] at h
    obtain ⟨v, H', n', h1, h2⟩ := doq_spec hc h
    exact ⟨_, _, _, h2, fun kk => by simp only [h1, eput]⟩
  | some g =>
    obtain ⟨j, want⟩ := g
    rw [hg] at h
    have h : optq (gslot ops j) (fun t => gvalq (getq (pa t) σ) want (doq o.op o.dst call σ H n k) (k (putq o.dst undefA σ) H n)) = some r := h
    obtain ⟨t, ht⟩ := optq_inv h
    rw [ht] at h
    have h : gvalq (getq (pa t) σ) want (doq o.op o.dst call σ H n k) (k (putq o.dst undefA σ) H n) = some r := h
    simp only [ht]
    rcases gvalq_inv h with ⟨q, hq⟩ | ⟨l, hq⟩
    · rw [hq] at h
      by_cases hw : q = want
      · subst hw
        have h : doq o.op o.dst call σ H n k = some r := by cases q <;> exact h
        obtain ⟨v, H', n', h1, h2⟩ := doq_spec hc h
        refine ⟨putq o.dst v σ, H', n', fun k' => ?_, fun kk => ?_⟩
        · show gvalq (getq (pa t) σ) _ _ _ = _
          rw [hq]; refine Eq.trans ?_ (h2 k'); cases q <;> rfl
        · simp only [hq, beq_self_eq_true, h1, eput]
      · refine ⟨putq o.dst undefA σ, H, n, fun k' => ?_, fun kk => ?_⟩
        · show gvalq (getq (pa t) σ) _ _ _ = _
          rw [hq]; cases q <;> cases want <;> first | rfl | exact absurd rfl hw
        · have : (q == want) = false := by simpa using hw
          simp only [hq, this, eput]
    · refine ⟨putq o.dst undefA σ, H, n, fun k' => ?_, fun kk => ?_⟩
      · show gvalq (getq (pa t) σ) _ _ _ = _
        rw [hq]; rfl
      · simp only [hq, eput]
theorem opsq_spec (hc : CQN call) {ops : Array Oper} : ∀ {l : List Oper} {σ : AE} {H : AH} {n : Nat} {k : KS}, opsq ops l call σ H n k = some r → ∃ σ' H' n', eops Try.prog (callA call) ops l σ H n = some (.norm, σ', H', n') ∧ ∀ k', opsq ops l call σ H n k' = k' σ' H' n'
  | [], σ, H, n, k, h => ⟨σ, H, n, rfl, fun _ => rfl⟩
  | o :: l, σ, H, n, k, h => by
    have h : oneq ops o call σ H n (fun σ H n => opsq ops l call σ H n k) = some r := h
    obtain ⟨σ1, H1, n1, h1, h2⟩ := oneq_spec hc h
    rw [h1] at h
    obtain ⟨σ', H', n', h3, h4⟩ := opsq_spec hc h
    refine ⟨σ', H', n', ?_, fun k' => ?_⟩
    · show eop Try.prog (callA call) ops o (eops Try.prog (callA call) ops l) σ H n = _
      rw [h2]; exact h3
    · show oneq ops o call σ H n (fun σ H n => opsq ops l call σ H n k') = _
      rw [h1, h4]

/-! ### code -/
theorem execB_mono {P : Program} {c : AC} {ih ih' : Code → AE → AH → Nat → AS} (hi : ∀ c σ H n y, ih c σ H n = some y → ih' c σ H n = some y) (cd : Code) (σ : AE) (H : AH) (n : Nat) (y : EX × AE × AH × Nat) (h : execB P c ih cd σ H n = some y) : execB P c ih' cd σ H n = some y := by
  cases cd <;> simp only [execB] at h ⊢ <;> try exact h
  case seq a b =>
    split at h
    · rename_i σ1 H1 n1 e1
      rw [hi _ _ _ _ _ e1]
      exact hi _ _ _ _ _ h
    · rename_i hne
      rw [hi _ _ _ _ _ h]
      obtain ⟨e, σ1, H1, n1⟩ := y
      cases e with
      | norm => exact (hne _ _ _ h).elim
      | ret => rfl
      | exit i => rfl
  case cond cd a b =>
    split at h
    · exact hi _ _ _ _ _ h
    · exact hi _ _ _ _ _ h
    · cases h
  case block id b =>
    split at h
    · rename_i i σ1 H1 n1 e1
      rw [hi _ _ _ _ _ e1]
      exact h
    · rename_i hne
      rw [hi _ _ _ _ _ h]
      obtain ⟨e, σ1, H1, n1⟩ := y
      cases e with
      | norm => rfl
      | ret => rfl
      | exit i => exact (hne _ _ _ _ h).elim
  case loop b =>
    split at h
    · rename_i σ1 H1 n1 e1
      rw [hi _ _ _ _ _ e1]
      exact hi _ _ _ _ _ h
    · rename_i hne
      rw [hi _ _ _ _ _ h]
      obtain ⟨e, σ1, H1, n1⟩ := y
      cases e with
      | norm => exact (hne _ _ _ h).elim
      | ret => rfl
      | exit i => rfl
theorem exec_succ {P : Program} {c : AC} : ∀ (f : Nat) (cd : Code) (σ : AE) (H : AH) (n : Nat) (y : EX × AE × AH × Nat), exec P c f cd σ H n = some y → exec P c (f + 1) cd σ H n = some y
  | 0, _, _, _, _, _, h => by cases h
  | f + 1, cd, σ, H, n, y, h => by
    have h : execB P c (exec P c f) cd σ H n = some y := h
    exact execB_mono (exec_succ f) cd σ H n y h
theorem exec_le {P : Program} {c : AC} {f g : Nat} (hle : f ≤ g) {cd : Code} {y : EX × AE × AH × Nat} (h : exec P c f cd σ H n = some y) : exec P c g cd σ H n = some y := by
  induction hle with
  | refl => exact h
  | step _ ih => exact exec_succ _ _ _ _ _ _ ih
def contE (kn : KS) (kx : Nat → KS) (kr : KS) : EX → KS
  | .norm => kn
  | .exit i => kx i
  | .ret => kr
def XSpec (b : XQ) (c : Code) (call : CQ) : Prop := ∀ (σ : AE) (H : AH) (n : Nat) (kn : KS) (kx : Nat → KS) (kr : KS) (r : AV × AH × Nat), b call σ H n kn kx kr = some r →
  ∃ e σ' H' n', (∃ f, exec Try.prog (callA call) f c σ H n = some (e, σ', H', n')) ∧ ∀ kn kx kr, b call σ H n kn kx kr = contE kn kx kr e σ' H' n'
theorem execq_spec (hc : CQN call) (c : Code) : XSpec (execq c) c call := by
  induction c with
  | skip => exact fun σ H n kn kx kr r h => ⟨.norm, σ, H, n, ⟨1, rfl⟩, fun _ _ _ => rfl⟩
  | region id ops draw =>
    intro σ H n kn kx kr r h
    cases hd : draw with
    | false =>
      subst hd
      have h : opsq ops ops.toList call σ H n kn = some r := h
      obtain ⟨σ', H', n', h1, h2⟩ := opsq_spec hc h
      exact ⟨.norm, σ', H', n', ⟨1, h1⟩, fun kn kx kr => h2 kn⟩
    | true =>
      subst hd
      have red : ∀ kn kx kr, execq (.region id ops true) call σ H n kn kx kr = (Bool.rec (dynq ops) (fun call σ H n kn _ _ => opsq ops ops.toList call σ H n kn) (swapB Try.prog ops) : XQ) call σ H n kn kx kr := fun _ _ _ => rfl
      cases hs : swapB Try.prog ops with
      | true =>
        rw [red, hs] at h
        have h : opsq ops ops.toList call σ H n kn = some r := h
        obtain ⟨σ', H', n', h1, h2⟩ := opsq_spec hc h
        refine ⟨.norm, σ', H', n', ⟨1, ?_⟩, fun kn kx kr => ?_⟩
        · show execB Try.prog (callA call) (exec Try.prog (callA call) 0) (.region id ops true) σ H n = _
          simp only [execB, hs, Bool.not_true, Bool.and_false]; exact h1
        · rw [red, hs]; exact h2 kn
      | false =>
        rw [red, hs] at h
        have h : optq (edyn Try.prog (callA call) ops σ H n) (fun y => kn y.2.1 y.2.2.1 y.2.2.2) = some r := h
        obtain ⟨⟨e, σ', H', n'⟩, hy⟩ := optq_inv h
        have he : e = .norm := by
          unfold edyn at hy
          split at hy
          · split at hy
            · injection hy with hy; injection hy with hy; exact hy.symm
            · cases hy
          · cases hy
        subst he
        refine ⟨.norm, σ', H', n', ⟨1, ?_⟩, fun kn kx kr => ?_⟩
        · show execB Try.prog (callA call) (exec Try.prog (callA call) 0) (.region id ops true) σ H n = _
          simp only [execB, hs, Bool.not_false, Bool.and_true]; exact hy
        · rw [red, hs]
          show optq (edyn Try.prog (callA call) ops σ H n) _ = _
          rw [hy]; rfl
  | seq a b iha ihb =>
    intro σ H n kn kx kr r h
    have h : execq a call σ H n (fun σ H n => execq b call σ H n kn kx kr) kx kr = some r := h
    obtain ⟨e, σ1, H1, n1, ⟨f1, h1⟩, h2⟩ := iha _ _ _ _ _ _ _ h
    have red : ∀ kn kx kr, execq (.seq a b) call σ H n kn kx kr = contE (fun σ H n => execq b call σ H n kn kx kr) kx kr e σ1 H1 n1 := fun kn kx kr => h2 _ _ _
    rw [h2] at h
    cases e with
    | norm =>
      have h : execq b call σ1 H1 n1 kn kx kr = some r := h
      obtain ⟨e', σ', H', n', ⟨f2, h3⟩, h4⟩ := ihb _ _ _ _ _ _ _ h
      refine ⟨e', σ', H', n', ⟨max f1 f2 + 1, ?_⟩, fun kn kx kr => (red kn kx kr).trans (h4 kn kx kr)⟩
      show execB Try.prog (callA call) (exec Try.prog (callA call) (max f1 f2)) (.seq a b) σ H n = _
      simp only [execB, exec_le (Nat.le_max_left f1 f2) h1, exec_le (Nat.le_max_right f1 f2) h3]
    | ret =>
      refine ⟨.ret, σ1, H1, n1, ⟨f1 + 1, ?_⟩, fun kn kx kr => red kn kx kr⟩
      show execB Try.prog (callA call) (exec Try.prog (callA call) f1) (.seq a b) σ H n = _
      simp only [execB, h1]
    | exit i =>
      refine ⟨.exit i, σ1, H1, n1, ⟨f1 + 1, ?_⟩, fun kn kx kr => red kn kx kr⟩
      show execB Try.prog (callA call) (exec Try.prog (callA call) f1) (.seq a b) σ H n = _
      simp only [execB, h1]
  | cond cd a b iha ihb =>
    intro σ H n kn kx kr r h
    have h : boolq (evq cd σ) (fun q => (Bool.rec (execq b call σ H n kn kx kr) (execq a call σ H n kn kx kr) q : AR)) = some r := h
    obtain ⟨q, hq⟩ := boolq_inv h
    rw [hq] at h
    have red : ∀ kn kx kr, execq (.cond cd a b) call σ H n kn kx kr = (Bool.rec (execq b call σ H n kn kx kr) (execq a call σ H n kn kx kr) q : AR) := fun kn kx kr => by
      show boolq (evq cd σ) _ = _
      rw [hq]; rfl
    cases q with
    | true =>
      obtain ⟨e, σ1, H1, n1, ⟨f1, h1⟩, h2⟩ := iha _ _ _ _ _ _ _ h
      refine ⟨e, σ1, H1, n1, ⟨f1 + 1, ?_⟩, fun kn kx kr => (red kn kx kr).trans (h2 kn kx kr)⟩
      show execB Try.prog (callA call) (exec Try.prog (callA call) f1) (.cond cd a b) σ H n = _
      simp only [execB, ← evq_eq, hq, h1]
    | false =>
      obtain ⟨e, σ1, H1, n1, ⟨f1, h1⟩, h2⟩ := ihb _ _ _ _ _ _ _ h
      refine ⟨e, σ1, H1, n1, ⟨f1 + 1, ?_⟩, fun kn kx kr => (red kn kx kr).trans (h2 kn kx kr)⟩
      show execB Try.prog (callA call) (exec Try.prog (callA call) f1) (.cond cd a b) σ H n = _
      simp only [execB, ← evq_eq, hq, h1]
  | block id b ih =>
    intro σ H n kn kx kr r h
    have h : execq b call σ H n kn (fun i σ H n => (Bool.rec (kx i σ H n) (kn σ H n) (Nat.beq i id) : AR)) kr = some r := h
    obtain ⟨e, σ1, H1, n1, ⟨f1, h1⟩, h2⟩ := ih _ _ _ _ _ _ _ h
    have red : ∀ kn kx kr, execq (.block id b) call σ H n kn kx kr = contE kn (fun i σ H n => (Bool.rec (kx i σ H n) (kn σ H n) (Nat.beq i id) : AR)) kr e σ1 H1 n1 := fun kn kx kr => h2 _ _ _
    cases e with
    | norm =>
      refine ⟨.norm, σ1, H1, n1, ⟨f1 + 1, ?_⟩, fun kn kx kr => red kn kx kr⟩
      show execB Try.prog (callA call) (exec Try.prog (callA call) f1) (.block id b) σ H n = _
      simp only [execB, h1]
    | ret =>
      refine ⟨.ret, σ1, H1, n1, ⟨f1 + 1, ?_⟩, fun kn kx kr => red kn kx kr⟩
      show execB Try.prog (callA call) (exec Try.prog (callA call) f1) (.block id b) σ H n = _
      simp only [execB, h1]
    | exit i =>
      cases hb : Nat.beq i id with
      | true =>
        refine ⟨.norm, σ1, H1, n1, ⟨f1 + 1, ?_⟩, fun kn kx kr => (red kn kx kr).trans (by simp only [contE, hb])⟩
        show execB Try.prog (callA call) (exec Try.prog (callA call) f1) (.block id b) σ H n = _
        simp only [execB, h1, hb]
      | false =>
        refine ⟨.exit i, σ1, H1, n1, ⟨f1 + 1, ?_⟩, fun kn kx kr => (red kn kx kr).trans (by simp only [contE, hb])⟩
        show execB Try.prog (callA call) (exec Try.prog (callA call) f1) (.block id b) σ H n = _
        simp only [execB, h1, hb]
  | loop b ih =>
    have key : ∀ F, XSpec (loopq (execq b) F) (.loop b) call := by
      intro F
      induction F with
      | zero => intro σ H n kn kx kr r h; cases h
      | succ F ihF =>
        intro σ H n kn kx kr r h
        have h : execq b call σ H n (fun σ H n => loopq (execq b) F call σ H n kn kx kr) kx kr = some r := h
        obtain ⟨e, σ1, H1, n1, ⟨f1, h1⟩, h2⟩ := ih _ _ _ _ _ _ _ h
        have red : ∀ kn kx kr, loopq (execq b) (F + 1) call σ H n kn kx kr = contE (fun σ H n => loopq (execq b) F call σ H n kn kx kr) kx kr e σ1 H1 n1 := fun kn kx kr => h2 _ _ _
        rw [h2] at h
        cases e with
        | norm =>
          have h : loopq (execq b) F call σ1 H1 n1 kn kx kr = some r := h
          obtain ⟨e', σ', H', n', ⟨f2, h3⟩, h4⟩ := ihF _ _ _ _ _ _ _ h
          refine ⟨e', σ', H', n', ⟨max f1 f2 + 1, ?_⟩, fun kn kx kr => (red kn kx kr).trans (h4 kn kx kr)⟩
          show execB Try.prog (callA call) (exec Try.prog (callA call) (max f1 f2)) (.loop b) σ H n = _
          simp only [execB, exec_le (Nat.le_max_left f1 f2) h1, exec_le (Nat.le_max_right f1 f2) h3]
        | ret =>
          refine ⟨.ret, σ1, H1, n1, ⟨f1 + 1, ?_⟩, fun kn kx kr => red kn kx kr⟩
          show execB Try.prog (callA call) (exec Try.prog (callA call) f1) (.loop b) σ H n = _
          simp only [execB, h1]
        | exit i =>
          refine ⟨.exit i, σ1, H1, n1, ⟨f1 + 1, ?_⟩, fun kn kx kr => red kn kx kr⟩
          show execB Try.prog (callA call) (exec Try.prog (callA call) f1) (.loop b) σ H n = _
          simp only [execB, h1]
    exact fun σ H n kn kx kr r h => key fuelE σ H n kn kx kr r h
  | exit i => exact fun σ H n kn kx kr r h => ⟨.exit i, σ, H, n, ⟨1, rfl⟩, fun _ _ _ => rfl⟩
  | ret => exact fun σ H n kn kx kr r h => ⟨.ret, σ, H, n, ⟨1, rfl⟩, fun _ _ _ => rfl⟩
  | _ => intro σ H n kn kx kr r h; cases h

/-! ### functions -/
theorem resq_spec : ∀ {rs : List ResultVar} {σ : AE} {H : AH} {k : List AV → AR}, resq rs σ H k = some r → ∃ vs, eres Try.prog σ H rs = some vs ∧ ∀ k', resq rs σ H k' = k' vs
  | [], σ, H, k, h => ⟨[], rfl, fun _ => rfl⟩
  | .tmp t :: rs, σ, H, k, h => by
    have h : resq rs σ H (fun vs => k (getq (pa t) σ :: vs)) = some r := h
    obtain ⟨vs, h1, h2⟩ := resq_spec h
    refine ⟨getq (pa t) σ :: vs, by simp only [eres, h1]; rfl, fun k' => ?_⟩
    show resq rs σ H (fun vs => k' (getq (pa t) σ :: vs)) = _
    rw [h2]
  | .cell a t :: rs, σ, H, k, h => by
    have h : optq (eload Try.prog t (getq (pa a) σ) H) (fun v => resq rs σ H fun vs => k (v :: vs)) = some r := h
    obtain ⟨v, hv⟩ := optq_inv h
    rw [hv] at h
    have h : resq rs σ H (fun vs => k (v :: vs)) = some r := h
    obtain ⟨vs, h1, h2⟩ := resq_spec h
    refine ⟨v :: vs, by simp only [eres, show eev σ (.tmp a) = getq (pa a) σ from rfl, hv, h1]; rfl, fun k' => ?_⟩
    show optq (eload Try.prog t (getq (pa a) σ) H) (fun v => resq rs σ H fun vs => k' (v :: vs)) = _
    rw [hv]
    exact h2 _
set_option maxRecDepth 20000 in
theorem runq_spec (hc : CQN call) {c : Code} {rs : List ResultVar} {m : Nat} {args : List AV} {κ : KA} (h : runq call c rs m args H n κ = some r) :
    args.length ≤ m ∧ ∃ f e σ' H' n' vs, exec Try.prog (callA call) f c (eentry args 0 .nil) H n = some (e, σ', H', n') ∧ (∀ i, e ≠ .exit i) ∧ eres Try.prog σ' H' rs = some vs ∧ ∀ κ', runq call c rs m args H n κ' = κ' (epack vs) H' n' := by
  cases hb : Nat.ble args.length m with
  | false =>
    unfold runq at h
    rw [hb] at h; cases h
  | true =>
    have red : ∀ κ', runq call c rs m args H n κ' = execq c call (eentry args 0 .nil) H n (fun σ H n => resq rs σ H fun vs => κ' (epack vs) H n) (fun _ _ _ _ => none) (fun σ H n => resq rs σ H fun vs => κ' (epack vs) H n) := fun κ' => by
      unfold runq; rw [hb]
    rw [red] at h
    obtain ⟨e, σ', H', n', ⟨f, h1⟩, h2⟩ := execq_spec hc c _ _ _ _ _ _ _ h
    rw [h2] at h
    have hne : ∀ i, e ≠ .exit i := fun i q => by subst q; cases h
    have h : resq rs σ' H' (fun vs => κ (epack vs) H' n') = some r := by
      cases e with
      | norm => exact h
      | ret => exact h
      | exit i => exact (hne i rfl).elim
    obtain ⟨vs, h3, h4⟩ := resq_spec h
    refine ⟨Nat.le_of_ble_eq_true hb, f, e, σ', H', n', vs, h1, hne, h3, fun κ' => ?_⟩
    rw [red, h2]
    cases e with
    | norm => exact h4 _
    | ret => exact h4 _
    | exit i => exact (hne i rfl).elim
/-- A known function hands on one result. -/
def NatN (g : List AV → AH → Nat → KA → AR) : Prop := ∀ args H n κ r, g args H n κ = some r → ∃ v H' n', ∀ κ', g args H n κ' = κ' v H' n'
def TabQ (F : FuncId → EQ) : Prop := ∀ f, match F f with
  | .no => True
  | .run c rs m => fnOk Try.prog f = true ∧ ∃ fn, Try.prog.funcs[f]? = some fn ∧ fn.body = some c ∧ fn.results.toList = rs ∧ fn.ntmps = m
  | .nat g => NatN g ∧ COk Try.prog f fun args H n => g args H n topq
theorem callq_succ {F : FuncId → EQ} (d : Nat) {f : FuncId} {args : List AV} {κ : KA} : callq F (d + 1) f args H n κ = (EQ.rec (fun _ _ _ _ => none) (fun c rs k => runq (callq F d) c rs k) (fun g => g) (F f) : List AV → AH → Nat → KA → AR) args H n κ := rfl
set_option maxRecDepth 20000 in
theorem callq_CQN {F : FuncId → EQ} (hF : TabQ F) : ∀ d, CQN (callq F d)
  | 0 => fun f args H n κ r h => by cases h
  | d + 1 => fun f args H n κ r h => by
    have hf := hF f
    rw [callq_succ] at h
    simp only [callq_succ]
    cases hFf : F f with
    | no => rw [hFf] at h; cases h
    | run c rs m =>
      rw [hFf] at h
      have h : runq (callq F d) c rs m args H n κ = some r := h
      obtain ⟨_, fu, e, σ', H', n', vs, _, _, _, h4⟩ := runq_spec (callq_CQN hF d) h
      exact ⟨_, _, _, h4⟩
    | nat g =>
      rw [hFf] at h hf
      exact hf.1 args H n κ r h
set_option maxRecDepth 20000 in
theorem callq_sound {F : FuncId → EQ} (hm : Try.prog.follows .mixedOrders = true) (hF : TabQ F) : ∀ d f, COk Try.prog f (callA (callq F d) f)
  | 0, f => fun args H n v H' n' e => by cases e
  | d + 1, f => fun args H n v H' n' e φ h0 h vs K hr hargs hk => by
    have hf := hF f
    have e : callq F (d + 1) f args H n topq = some (v, H', n') := e
    rw [callq_succ] at e
    cases hFf : F f with
    | no => rw [hFf] at e; cases e
    | nat g =>
      rw [hFf] at e hf
      exact hf.2 args H n v H' n' e φ h0 h vs K hr hargs hk
    | run c rs m =>
      rw [hFf] at e hf
      have e : runq (callq F d) c rs m args H n topq = some (v, H', n') := e
      obtain ⟨hle, fu, x, σ', G, p, us, h1, h2, h3, h4⟩ := runq_spec (callq_CQN hF d) e
      rw [h4] at e
      have e : some (epack us, G, p) = some (v, H', n') := e
      injection e with e; injection e with e1 e2; injection e2 with e2 e3
      subst e1 e2 e3
      obtain ⟨hok, fn, hfn, hb, hrs, hnt⟩ := hf
      subst hrs hnt
      simp only [fnOk, hfn, hb, Bool.and_eq_true] at hok
      obtain ⟨hic, hds⟩ := hok
      have hal := hargs.length
      refine ⟨hic, callG_of hm hfn hb rfl rfl hds (by simpa [hal] using hle) fun _ => ?_⟩
      refine exec_sound (callq_sound hm hF d) h0 fu c φ _ σ' H G n p _ h x _ _ _ hr (entry_FR hargs) h1 fun ψ ρ' h' hp hr' hf' => ?_
      have fin : resK Try.prog fn.results.toList [] ρ' h' K := eres_sound hr' hf' fn.results.toList us [] h3 fun ws hws => .here (hk ψ _ h' hp hr' (by simpa using epack_VR hws))
      cases x with
      | norm => exact fin
      | ret => exact fin
      | exit i => exact (h2 i rfl).elim
set_option maxRecDepth 20000 in
theorem evQ_ok : TabQ evQ := fun f => by
  unfold evQ
  cases h : fnOkq f with
  | false => trivial
  | true =>
    show match bodyq f with
      | .no => True
      | .run c rs m => fnOk Try.prog f = true ∧ ∃ fn, Try.prog.funcs[f]? = some fn ∧ fn.body = some c ∧ fn.results.toList = rs ∧ fn.ntmps = m
      | .nat g => NatN g ∧ COk Try.prog f fun args H n => g args H n topq
    unfold bodyq
    split
    · trivial
    · rename_i c rs m hb
      split at hb
      · rename_i fn hfn
        split at hb
        · rename_i c' hc'
          injection hb with q1 q2 q3
          subst q1 q2 q3
          exact ⟨h, fn, hfn, hc', rfl, rfl⟩
        · cases hb
      · cases hb
    · rename_i g hb
      split at hb
      · split at hb <;> cases hb
      · cases hb
set_option maxRecDepth 20000 in
/-- A law that the quick machine finds true. -/
theorem evQ_calls {F : FuncId → EQ} (hF : TabQ F) {d : Nat} {f : FuncId} {args : List AV} {vs : Array Value} (hargs : VRs (fun _ => none) args vs.toList)
    (he : isTrue (callq F d f args .nil 0 topq) = true) (w : World) : Calls Try.prog f vs w fun e w' => e = .returned (.bool true) ∧ Below w.heap.size w w' := by
  unfold isTrue at he
  split at he
  · rename_i H' n' e
    have hs := callq_sound (by kernel_rfl) hF d f args .nil 0 _ H' n' e _ (wholeHp w) (wholeHp w) vs (fun v g => v = .bool true ∧ (wholeHp w).n ≤ g.n ∧ ∀ b o, (wholeHp w).f b = some o → g.f b = some o) (wholeHp_start w) hargs
      (fun ψ u g _ hg hu => ⟨hu.bool_inv, hg.size, fun b o hb => (hg.base b o hb).2⟩)
    refine (hs.2 w (wholeHp_is w)).mono fun e' w' ⟨v, g, h1, h2, h3, h4, h5, h6⟩ => ?_
    subst h1 h4
    refine ⟨rfl, h3.1, h3.2.1, h3.2.2, ?_, fun b hb => ?_⟩
    · rw [h2.1]; exact h5
    · have := h6 b _ (show (wholeHp w).f b = some w.heap[b] from Array.getElem?_eq_getElem hb)
      rw [h2.2 b _ this, Array.getElem?_eq_getElem hb]
  · cases he
end
end Go.Proofs.Ytaejmcgcfopmkaa
