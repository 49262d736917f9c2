/- Texts of our own, joined: the engine, the machine that runs code, and what is known of the functions. -/
import Derived.Test.YtdfeigkooeeeaaaJf
import Derived.ChangeMaps5
import Derived.Deep.Slices
import Derived.Deep.SlicePairs
import Derived.SizedLaws
set_option linter.unusedSimpArgs false
set_option linter.unusedVariables false
namespace Go.Proofs.Ytdfeigkooeeeaaa
open Go Go.RowKit
set_option maxRecDepth 20000
section
variable {φ : Ph} {H : AH} {n : Nat} {h0 h : Hp} {σ : AE} {ρ : Env} {call : CP}
/-- What follows, from a state on. -/
def GoP (φ0 : Ph) (h0 : Hp) (k : KP) (N : Env → Hp → Prop) : Prop := ∀ (ψ : Ph) (σ : AE) (H : AH) (n : Nat) (ρ : Env) (h : Hp), PLe φ0 ψ → HR ψ H n h0 h → FR ψ σ ρ → k σ H n → N ρ h
theorem opsP_sound (hcall : CPok call) {φ0 : Ph} {ops : Array Oper} {N : Env → Hp → Prop} : ∀ (l : List Oper) (φ : Ph) (σ : AE) (H : AH) (n : Nat) (k : KP) (ρ : Env) (h : Hp), PLe φ0 φ → HR φ H n h0 h → FR φ σ ρ →
    opsP ops l call σ H n k → GoP φ0 h0 k N → aops Try.prog ops l ρ h N
  | [], φ, σ, H, n, k, ρ, h, hp, hr, hf, hs, hN => hN φ σ H n ρ h hp hr hf hs
  | o :: l, φ, σ, H, n, k, ρ, h, hp, hr, hf, hs, hN => by
    have hs : opP ops o call σ H n (fun σ H n => opsP ops l call σ H n k) := hs
    have did : ∀ (σ : AE) (ρ : Env), FR φ σ ρ → (stepP o.op call σ H n fun v H n => opsP ops l call (eput σ o.dst v) H n k) → astep Try.prog o.op ρ h fun v h' => aops Try.prog ops l (ρ.put o.dst v) h' N := fun σ ρ hf hs =>
      stepP_sound hcall hr hf hs fun ψ v H' n' u g h1 h2 h3 h4 => opsP_sound hcall l ψ _ H' n' k _ g (hp.trans h1) h2 ((hf.mono h1).put o.dst h3) h4 hN
    have skip : ∀ (σ : AE) (ρ : Env), FR φ σ ρ → opsP ops l call (eput σ o.dst undefA) H n k → aops Try.prog ops l (ρ.put o.dst undef) h N := fun σ ρ hf hs =>
      opsP_sound hcall l φ _ H n k _ h hp hr (hf.put o.dst .undef) hs hN
    unfold opP at hs
    unfold aops
    split at hs
    · rename_i hg
      simp only [hg]
      exact did σ ρ hf hs
    · rename_i j want hg
      simp only [hg]
      split at hs
      · exact hs.elim
      · rename_i t ht
        simp only [ht]
        have rput : ∀ q : Bool, ρ t = .bool q → FR φ (eput σ (some t) (.bool q)) (ρ.upd t (.bool q)) := fun q hq => hf.put (some t) (.bool q)
        split at hs
        · rename_i q hq
          have hv := (hq ▸ hf.at t).bool_inv
          simp only [hv]
          split at hs
          · rename_i hqw
            have hqw2 : q = want := by simpa using hqw
            subst hqw2
            refine ⟨fun _ => ?_, (fun k => by rw [hqw] at k; cases k)⟩
            rw [upd_eta hv]
            exact did σ ρ hf hs
          · rename_i hqw
            have hqw2 : (!want) = q := by cases q <;> cases want <;> simp_all
            refine ⟨(fun k => by rw [hqw] at k; cases k), fun _ => ?_⟩
            rw [upd_eta (by rw [hv, hqw2])]
            exact skip σ ρ hf hs
        · rename_i q hq
          have hv := (hq ▸ hf.at t).sb_inv
          simp only [hv]
          split at hs
          · cases q with
            | true => exact ⟨fun _ => did _ _ (rput true hv) (hs.t rfl), fun k => by cases k⟩
            | false => exact ⟨(fun k => by cases k), fun _ => skip _ _ (rput false hv) (hs.f rfl)⟩
          · cases q with
            | true => exact ⟨(fun k => by cases k), fun _ => skip _ _ (rput true hv) (hs.t rfl)⟩
            | false => exact ⟨fun _ => did _ _ (rput false hv) (hs.f rfl), fun k => by cases k⟩
        · rename_i us hq
          obtain ⟨cs, hv, _⟩ := (hq ▸ hf.at t).tup_inv
          simp only [hv]
          exact skip σ ρ hf hs
        · exact hs.elim
/-! ### regions in several orders -/
theorem mem_allB : ∀ l : List Bool, l ∈ allB l.length
  | [] => by simp [allB]
  | b :: l => by
    simp only [List.length_cons, allB, List.mem_flatMap]
    exact ⟨l, mem_allB l, by cases b <;> simp⟩
theorem firstL_no {π : List Nat} (hn : π.Nodup) (u : Nat → Bool) {i j : Nat} : ∀ {r r2 : List Nat}, π.filter u = r ++ i :: r2 → j ∈ r → firstL π i j = false ∧ firstL π j i = true := by
  induction π with
  | nil => intro r r2 h _; simp at h
  | cons x π ih =>
    intro r r2 h hj
    obtain ⟨hx, hn'⟩ := List.nodup_cons.1 hn
    have hnf : (π.filter u).Nodup := hn'.filter _
    cases hu : u x with
    | false =>
      rw [List.filter_cons_of_neg (by simp [hu])] at h
      obtain ⟨h1, h2⟩ := ih hn' h hj
      have hi : i ∈ π := (List.mem_filter.1 (show _ ∈ π.filter u by rw [h]; simp)).1
      have hj' : j ∈ π := (List.mem_filter.1 (show _ ∈ π.filter u by rw [h]; simp [hj])).1
      have b1 : Nat.beq x i = false := by
        cases q : Nat.beq x i with
        | false => rfl
        | true => exact absurd (Nat.eq_of_beq_eq_true q ▸ hi) hx
      have b2 : Nat.beq x j = false := by
        cases q : Nat.beq x j with
        | false => rfl
        | true => exact absurd (Nat.eq_of_beq_eq_true q ▸ hj') hx
      simp only [firstL, b1, b2, h1, h2]; exact ⟨rfl, rfl⟩
    | true =>
      rw [List.filter_cons_of_pos hu] at h
      cases r with
      | nil => cases hj
      | cons y r =>
        simp only [List.cons_append, List.cons.injEq] at h
        obtain ⟨rfl, h⟩ := h
        have hi : i ∈ π := (List.mem_filter.1 (show _ ∈ π.filter u by rw [h]; simp)).1
        have b1 : Nat.beq x i = false := by
          cases q : Nat.beq x i with
          | false => rfl
          | true => exact absurd (Nat.eq_of_beq_eq_true q ▸ hi) hx
        by_cases hjx : j = x
        · subst hjx
          simp only [firstL, b1, Nat.beq_refl]; exact ⟨rfl, rfl⟩
        · have hj : j ∈ r := by
            rcases List.mem_cons.1 hj with q | q
            · exact absurd q hjx
            · exact q
          obtain ⟨h1, h2⟩ := ih hn' h hj
          have b2 : Nat.beq x j = false := by
            cases q : Nat.beq x j with
            | false => rfl
            | true => exact absurd (Nat.eq_of_beq_eq_true q).symm hjx
          simp only [firstL, b1, b2, h1, h2]; exact ⟨rfl, rfl⟩
theorem okL_spec {P : Program} {ops : Array Oper} {R : List (Nat × Nat)} : ∀ {l acc : List Nat}, okL P ops R acc l = true → ∀ {r r2 : List Nat} {i : Nat}, l = r ++ i :: r2 → ∀ j, (j ∈ acc ∨ j ∈ r) → commB P ops j i = true ∨ befB ops 4 j i = true ∨ (j, i) ∈ R ∨ (i, j) ∈ R := by
  intro l
  induction l with
  | nil => intro acc h r r2 i e; simp at e
  | cons x l ih =>
    intro acc h r r2 i e j hj
    simp only [okL, Bool.and_eq_true] at h
    cases r with
    | nil =>
      simp only [List.nil_append, List.cons.injEq] at e
      obtain ⟨rfl, rfl⟩ := e
      have := List.all_eq_true.1 h.1 j (hj.elim id (fun q => by cases q))
      simpa using this
    | cons y r =>
      simp only [List.cons_append, List.cons.injEq] at e
      obtain ⟨rfl, rfl⟩ := e
      refine ih h.2 rfl j ?_
      rcases hj with hj | hj
      · exact .inl (List.mem_cons_of_mem _ hj)
      · rcases List.mem_cons.1 hj with rfl | hj
        · exact .inl List.mem_cons_self
        · exact .inr hj
theorem filter_split {u : Nat → Bool} {i : Nat} : ∀ {π r r2 : List Nat}, π.filter u = r ++ i :: r2 → ∃ p p2, π = p ++ i :: p2 ∧ ∀ j ∈ r, j ∈ p := by
  intro π
  induction π with
  | nil => intro r r2 h; simp at h
  | cons x π ih =>
    intro r r2 h
    cases hu : u x with
    | false =>
      rw [List.filter_cons_of_neg (by simp [hu])] at h
      obtain ⟨p, p2, rfl, h2⟩ := ih h
      exact ⟨x :: p, p2, rfl, fun j hj => List.mem_cons_of_mem _ (h2 j hj)⟩
    | true =>
      rw [List.filter_cons_of_pos hu] at h
      cases r with
      | nil =>
        simp only [List.nil_append, List.cons.injEq] at h
        obtain ⟨rfl, _⟩ := h
        exact ⟨[], π, rfl, fun j hj => by cases hj⟩
      | cons y r =>
        simp only [List.cons_append, List.cons.injEq] at h
        obtain ⟨rfl, h⟩ := h
        obtain ⟨p, p2, rfl, h2⟩ := ih h
        refine ⟨x :: p, p2, rfl, fun j hj => ?_⟩
        rcases List.mem_cons.1 hj with rfl | hj
        · exact List.mem_cons_self
        · exact List.mem_cons_of_mem _ (h2 j hj)
theorem filter_one {u : Nat → Bool} {i : Nat} : ∀ {π r r2 : List Nat}, π.Nodup → π.filter u = r ++ i :: r2 → π.filter (fun k => u k && !(k == i)) = r ++ r2 := by
  intro π r r2 hn h
  have e : π.filter (fun k => u k && !(k == i)) = (π.filter u).filter fun k => !(k == i) := by
    rw [List.filter_filter]
    exact List.filter_congr fun k _ => by rw [Bool.and_comm]
  have hnf : (r ++ i :: r2).Nodup := h ▸ hn.filter _
  rw [List.nodup_append, List.nodup_cons] at hnf
  obtain ⟨_, ⟨h1, _⟩, h2⟩ := hnf
  rw [e, h, List.filter_append, List.filter_cons_of_neg (by simp)]
  congr 1
  · refine List.filter_eq_self.2 fun k hk => ?_
    have := h2 k hk i (by simp)
    simpa using this
  · refine List.filter_eq_self.2 fun k hk => ?_
    have : k ≠ i := fun q => h1 (q ▸ hk)
    simpa using this
theorem aopsI_pick {P : Program} {ops : Array Oper} {N : Env → Hp → Prop} : ∀ (π : List Nat) (ρ : Env) (h : Hp), aops P ops (pickL ops.toList π) ρ h N → aopsI P ops π ρ h N
  | [], _, _, hk => hk
  | i :: π, ρ, h, hk => by
    have e : nth ops.toList i = ops[i]? := by rw [nth_eq]; simp
    have hk : aops P ops (match nth ops.toList i with
      | some o => o :: pickL ops.toList π
      | none => pickL ops.toList π) ρ h N := hk
    rw [e] at hk
    unfold aopsI
    cases ho : ops[i]? with
    | none =>
      simp only [ho] at hk ⊢
      exact aopsI_pick π ρ h hk
    | some o =>
      simp only [ho] at hk ⊢
      exact gstep_mono (fun v h' hn => aopsI_pick π _ _ hn) (aops_gstep hk)
theorem befB_lt {ops : Array Oper} (hed : edgesOk ops = true) {j : Nat} : ∀ (f i : Nat), befB ops f j i = true → j < i
  | 0, _, hb => by simp [befB] at hb
  | f + 1, i, hb => by
    unfold befB at hb
    split at hb
    · rename_i o ho
      obtain ⟨e, he, h1⟩ := Array.any_eq_true'.1 hb
      simp only [Bool.and_eq_true, Bool.or_eq_true, beq_iff_eq] at h1
      have hilt : i < ops.size := (Array.getElem?_eq_some_iff.1 ho).1
      have h2 := List.all_eq_true.1 hed i (by simpa using hilt)
      simp only [ho] at h2
      have h3 := Array.all_eq_true'.1 h2 e he
      have hlt : e.on < i := by simpa [h1.1] using h3
      rcases h1.2 with h4 | h4
      · omega
      · have := befB_lt hed f e.on h4; omega
    · cases hb
/-- An order of operations, as ranks. -/
def Lin (ops : Array Oper) (rk : Nat → Nat) : Prop := (∀ j i, befB ops 4 j i = true → rk j < rk i) ∧ ∀ j i, rk j = rk i → j = i
def osR (rk : Nat → Nat) (p : Nat × Nat) : Bool := decide (rk p.1 < rk p.2)
theorem zip_map_mem {α β : Type} {f : α → β} : ∀ {R : List α} {x : α × β}, x ∈ R.zip (R.map f) → x.2 = f x.1 ∧ x.1 ∈ R
  | [], x, h => by simp at h
  | a :: R, x, h => by
    simp only [List.map_cons, List.zip_cons_cons, List.mem_cons] at h
    rcases h with rfl | h
    · exact ⟨rfl, List.mem_cons_self⟩
    · obtain ⟨h1, h2⟩ := zip_map_mem h
      exact ⟨h1, List.mem_cons_of_mem _ h2⟩
theorem lin_cons {ops : Array Oper} {rk : Nat → Nat} (hl : Lin ops rk) {R : List (Nat × Nat)} (hR : R.all (fun p => !Nat.beq p.1 p.2) = true) : consB ops R (R.map (osR rk)) = true := by
  have hmem : ∀ x ∈ (R.zip (R.map (osR rk))).map (fun x => wayB x.1 x.2), rk x.1 < rk x.2 := fun x hx => by
    obtain ⟨⟨p, b⟩, hp, rfl⟩ := List.mem_map.1 hx
    obtain ⟨hb, hq1⟩ := zip_map_mem hp
    dsimp only at hb hq1
    subst hb
    obtain ⟨q1, rfl⟩ : ∃ q1, q1 = p := ⟨p, rfl⟩
    have hne := List.all_eq_true.1 hR q1 hq1
    dsimp only
    unfold osR wayB
    by_cases h : rk q1.1 < rk q1.2
    · rw [decide_eq_true h]; exact h
    · rw [decide_eq_false h]
      have : rk q1.1 ≠ rk q1.2 := fun e => by
        have := hl.2 _ _ e
        rw [this] at hne
        simp at hne
      show rk q1.2 < rk q1.1
      omega
  have hle : ∀ j i, leB ops j i = true → rk j ≤ rk i := fun j i h => by
    unfold leB at h
    simp only [Bool.or_eq_true, Nat.beq_eq_true_eq] at h
    rcases h with h | h
    · have := Nat.eq_of_beq_eq_true h; subst this; exact Nat.le_refl _
    · exact Nat.le_of_lt (hl.1 _ _ h)
  unfold consB
  rw [List.all_eq_true]
  intro x hx
  rw [List.all_eq_true]
  intro y hy
  have h1 := hmem x hx
  have h2 := hmem y hy
  cases hb : leB ops x.2 y.1 && leB ops y.2 x.1 with
  | false => rfl
  | true =>
    simp only [Bool.and_eq_true] at hb
    have h3 := hle _ _ hb.1
    have h4 := hle _ _ hb.2
    omega
theorem above (rk : Nat → Nat) : ∀ m : Nat, ∃ M, ∀ k, k < m → rk k < M
  | 0 => ⟨0, fun k h => by omega⟩
  | m + 1 => by
    obtain ⟨M, hM⟩ := above rk m
    exact ⟨M + rk m + 1, fun k h => by
      rcases Nat.lt_or_ge k m with q | q
      · have := hM k q; omega
      · rw [show k = m by omega]; omega⟩
theorem ord_any {P : Program} {ops : Array Oper} {bs : List DB} {N : Env → Hp → Prop} (hok : ordOk P ops bs = true) (hk : ∀ π ∈ bs.tail, aopsI P ops π.2 ρ h N) : AnyI P ops ρ h N := by
  simp only [ordOk, Bool.and_eq_true] at hok
  obtain ⟨hed, hok⟩ := hok
  cases bs with
  | nil => cases hok
  | cons hd πs =>
    dsimp only at hok
    simp only [Bool.and_eq_true] at hok
    obtain ⟨hlo, hne, hall, hπ⟩ := hok
    simp only [List.tail_cons] at hk
    generalize pairsOf hd.2 = R at hne hall hπ hlo
    have hper : ∀ π ∈ πs, π.2.Nodup ∧ π.2.length = ops.size ∧ (∀ i ∈ π.2, i < ops.size) ∧ okL P ops R [] π.2 = true := fun π hm => by
      have := List.all_eq_true.1 hπ π hm
      simp only [Bool.and_eq_true, decide_eq_true_eq, beq_iff_eq, List.all_eq_true] at this
      exact ⟨this.1, this.2.1, this.2.2.1, this.2.2.2⟩
    have hmem : ∀ π ∈ πs, ∀ i, i < ops.size → i ∈ π.2 := fun π hm i hi => by
      obtain ⟨h1, h2, h3, _⟩ := hper π hm
      have hsub : π.2 ⊆ List.range ops.size := fun x hx => List.mem_range.2 (h3 x hx)
      have hperm : (List.range ops.size) ⊆ π.2 := by
        intro x hx
        by_cases hxm : x ∈ π.2
        · exact hxm
        · exfalso
          have := List.Nodup.length_le_of_subset (l₁ := x :: π.2) (l₂ := List.range ops.size) (List.nodup_cons.2 ⟨hxm, h1⟩) (fun y hy => by
            rcases List.mem_cons.1 hy with rfl | hy
            · exact hx
            · exact hsub hy)
          simp at this; omega
      exact hperm (List.mem_range.2 hi)
    let dec : Array Bool → Nat × Nat → Prop := fun l p => l.getD p.1 false = true ∨ l.getD p.2 false = true
    have hex : ∀ rk : Nat → Nat, Lin ops rk → ∃ π ∈ πs, ∀ p ∈ R, firstL π.2 p.1 p.2 = osR rk p := fun rk hrk => by
      have h1 := List.all_eq_true.1 hall (R.map (osR rk)) (by have := mem_allB (R.map (osR rk)); rwa [List.length_map] at this)
      rw [lin_cons hrk hne, Bool.not_true, Bool.false_or] at h1
      obtain ⟨π, hm, hπe⟩ := List.any_eq_true.1 h1
      have hπe : R.map (fun p => firstL π.2 p.1 p.2) = R.map (osR rk) := by simpa using hπe
      exact ⟨π, hm, fun p hp => List.map_inj_left.1 hπe p hp⟩
    refine ⟨hed, fun listed ρ h => ∃ (o : Nat × Nat → Bool) (S : DB → Prop), (∀ p ∈ R, (listed.getD p.1 false = true → listed.getD p.2 false = false → o p = true) ∧ (listed.getD p.2 false = true → listed.getD p.1 false = false → o p = false)) ∧
      (∀ rk : Nat → Nat, Lin ops rk → (∀ p ∈ R, dec listed p → osR rk p = o p) → ∃ π, S π ∧ ∀ p ∈ R, firstL π.2 p.1 p.2 = osR rk p) ∧ (∃ rk : Nat → Nat, Lin ops rk ∧ (∀ p ∈ R, dec listed p → osR rk p = o p) ∧ ∀ a b, listed.getD a false = true → listed.getD b false = false → rk a < rk b) ∧ ∀ π, S π → π ∈ πs ∧ aopsI P ops (π.2.filter fun k => !listed.getD k false) ρ h N, ?_, ?_, ?_⟩
    · have e0 : ∀ k, (Array.replicate ops.size false).getD k false = false := fun k => by simp [Array.getD]
      refine ⟨fun _ => true, fun π => π ∈ πs, fun p _ => ⟨fun q => (by rw [e0] at q; cases q), fun q => (by rw [e0] at q; cases q)⟩, fun rk hrk _ => hex rk hrk, ⟨fun k => k, ⟨fun j i hb => befB_lt hed 4 i hb, fun _ _ e => e⟩, fun p _ hd => (by rcases hd with hd | hd <;> (rw [e0] at hd; cases hd)), fun a b ha _ => (by rw [e0] at ha; cases ha)⟩, fun π hm => ⟨hm, ?_⟩⟩
      have : π.2.filter (fun k => !(Array.replicate ops.size false).getD k false) = π.2 := List.filter_eq_self.2 fun k _ => by rw [e0]; rfl
      rw [this]; exact hk π hm
    · rintro listed i o ρ1 h1 hsz hdn ho hun hedge ⟨or, S, hor, hS, ⟨rk, hrk, hro, hrl⟩, hπs⟩ ⟨w, hi⟩
      have hilt : i < ops.size := (Array.getElem?_eq_some_iff.1 ho).1
      have hset : ∀ k, (listed.setIfInBounds i true).getD k false = if k = i then true else listed.getD k false := fun k => getD_set (by rw [hsz]; exact hilt)
      -- the way that is taken now
      let or' : Nat × Nat → Bool := fun p => if listed.getD p.1 false = true ∨ listed.getD p.2 false = true then or p else decide (p.1 = i)
      have hcmp : ∀ p ∈ R, ((listed.setIfInBounds i true).getD p.1 false = true → (listed.setIfInBounds i true).getD p.2 false = false → or' p = true) ∧ ((listed.setIfInBounds i true).getD p.2 false = true → (listed.setIfInBounds i true).getD p.1 false = false → or' p = false) := fun p hp => by
        obtain ⟨g1, g2⟩ := hor p hp
        rw [hset, hset]
        refine ⟨fun q1 q2 => ?_, fun q1 q2 => ?_⟩
        · split at q2
          · cases q2
          · rename_i n2
            by_cases d1 : listed.getD p.1 false = true
            · simp only [or', d1, true_or, if_true]; exact g1 d1 q2
            · have d1' : listed.getD p.1 false = false := by simpa using d1
              simp only [or', d1', q2, Bool.false_eq_true, or_self, if_false]
              split at q1
              · rename_i q; simp [q]
              · exact absurd q1 d1
        · split at q2
          · cases q2
          · rename_i n2
            by_cases d1 : listed.getD p.2 false = true
            · simp only [or', d1, or_true, if_true]; exact g2 d1 q2
            · have d1' : listed.getD p.2 false = false := by simpa using d1
              simp only [or', d1', q2, Bool.false_eq_true, or_self, if_false]
              simp [n2]
      have hdec : ∀ p, dec listed p → dec (listed.setIfInBounds i true) p ∧ or' p = or p := fun p hd => by
        refine ⟨?_, if_pos hd⟩
        rcases hd with hd | hd
        · exact .inl (by rw [hset]; split <;> first | rfl | exact hd)
        · exact .inr (by rw [hset]; split <;> first | rfl | exact hd)
      have hS' : ∀ rk : Nat → Nat, Lin ops rk → (∀ p ∈ R, dec (listed.setIfInBounds i true) p → osR rk p = or' p) → ∃ π, S π ∧ ∀ p ∈ R, firstL π.2 p.1 p.2 = osR rk p := fun rk hrk ho' => hS rk hrk fun p hp hd => by
        rw [ho' p hp (hdec p hd).1, (hdec p hd).2]
      obtain ⟨M, hM⟩ := above rk ops.size
      have hsize : ∀ k, listed.getD k false = true → k < ops.size := fun k hk => by
        rcases Nat.lt_or_ge k ops.size with q | q
        · exact q
        · rw [← hsz] at q; simp [Array.getD, Nat.not_lt.2 q] at hk
      let rk' : Nat → Nat := fun k => if listed.getD k false = true then rk k else if k = i then M else M + 1 + k
      have hk1 : ∀ k, listed.getD k false = true → rk' k = rk k := fun k h => if_pos h
      have hk2 : rk' i = M := (if_neg (by rw [hun]; decide)).trans (if_pos rfl)
      have hk3 : ∀ k, listed.getD k false = false → k ≠ i → rk' k = M + 1 + k := fun k h1 h2 => by simp only [rk']; rw [if_neg (by rw [h1]; decide), if_neg h2]
      have hk4 : ∀ k, listed.getD k false = false → M ≤ rk' k := fun k h => by
        by_cases e : k = i
        · subst e; omega
        · rw [hk3 k h e]; omega
      have hk5 : ∀ k, listed.getD k false = true → rk' k < M := fun k h => by rw [hk1 k h]; exact hM k (hsize k h)
      have befl : ∀ j k, befB ops 4 j k = true → listed.getD k false = true → listed.getD j false = true := fun j k hb hk => befB_listed hdn 4 k (fun o' ho' e he hb' => hdn k o' ho' hk e he hb') hb
      have befi : ∀ j, befB ops 4 j i = true → listed.getD j false = true := fun j hb => befB_listed hdn 4 i (fun o' ho' e he hb' => by
        rw [ho] at ho'; cases ho'
        exact hedge e he hb') hb
      have hrk' : Lin ops rk' := by
        refine ⟨fun j k hb => ?_, fun j k e => ?_⟩
        · cases hlk : listed.getD k false with
          | true => rw [hk1 k hlk, hk1 j (befl j k hb hlk)]; exact hrk.1 j k hb
          | false =>
            by_cases ek : k = i
            · subst ek; have := hk5 j (befi j hb); rw [hk2]; exact this
            · cases hlj : listed.getD j false with
              | true => have := hk5 j hlj; have := hk4 k hlk; omega
              | false =>
                by_cases ej : j = i
                · subst ej; rw [hk2, hk3 k hlk ek]; omega
                · rw [hk3 j hlj ej, hk3 k hlk ek]; have := befB_lt hed 4 k hb; omega
        · cases hlj : listed.getD j false with
          | true =>
            cases hlk : listed.getD k false with
            | true => rw [hk1 j hlj, hk1 k hlk] at e; exact hrk.2 j k e
            | false => have := hk5 j hlj; have := hk4 k hlk; omega
          | false =>
            cases hlk : listed.getD k false with
            | true => have := hk5 k hlk; have := hk4 j hlj; omega
            | false =>
              by_cases ej : j = i
              · by_cases ek : k = i
                · rw [ej, ek]
                · subst ej; rw [hk2, hk3 k hlk ek] at e; omega
              · by_cases ek : k = i
                · subst ek; rw [hk2, hk3 j hlj ej] at e; omega
                · rw [hk3 j hlj ej, hk3 k hlk ek] at e; omega
      have hrl' : ∀ a b, (listed.setIfInBounds i true).getD a false = true → (listed.setIfInBounds i true).getD b false = false → rk' a < rk' b := fun a b ha hb => by
        rw [hset] at ha hb
        split at hb
        · cases hb
        · rename_i nb
          have h3 := hk3 b hb nb
          split at ha
          · rename_i ea; subst ea; omega
          · have := hk5 a ha; omega
      have hro' : ∀ p ∈ R, dec (listed.setIfInBounds i true) p → osR rk' p = or' p := fun p hp hd => by
        obtain ⟨g1, g2⟩ := hor p hp
        have hnp : p.1 ≠ p.2 := fun e => by
          have := List.all_eq_true.1 hne p hp
          rw [e] at this
          simp at this
        unfold osR
        cases l1 : listed.getD p.1 false with
        | true =>
          have e1 : or' p = or p := if_pos (.inl l1)
          rw [e1]
          cases l2 : listed.getD p.2 false with
          | true => rw [hk1 _ l1, hk1 _ l2]; exact hro p hp (.inl l1)
          | false => rw [g1 l1 l2]; have := hk5 _ l1; have := hk4 _ l2; exact decide_eq_true (by omega)
        | false =>
          cases l2 : listed.getD p.2 false with
          | true =>
            have e1 : or' p = or p := if_pos (.inr l2)
            rw [e1, g2 l2 l1]; have := hk5 _ l2; have := hk4 _ l1; exact decide_eq_false (by omega)
          | false =>
            have e1 : or' p = decide (p.1 = i) := if_neg (by rw [l1, l2]; simp)
            rw [e1]
            by_cases h1 : p.1 = i
            · have h2 : p.2 ≠ i := fun e => hnp (h1.trans e.symm)
              rw [decide_eq_true h1, h1, hk2, hk3 _ l2 h2]; exact decide_eq_true (by omega)
            · have h2 : p.2 = i := by
                rcases hd with hd | hd
                · rw [hset, if_neg h1, l1] at hd; cases hd
                · rw [hset] at hd
                  split at hd
                  · assumption
                  · rw [l2] at hd; cases hd
              rw [decide_eq_false h1, h2, hk2, hk3 _ l1 h1]; exact decide_eq_false (by omega)
      -- each of them
      have step : ∀ π, S π → (∀ p ∈ R, dec (listed.setIfInBounds i true) p → firstL π.2 p.1 p.2 = or' p) → gstep P ops o ρ1 h1 fun ρ' h' => aopsI P ops (π.2.filter fun k => !(listed.setIfInBounds i true).getD k false) ρ' h' N := fun π hSπ ha => by
        obtain ⟨hm, hrun⟩ := hπs π hSπ
        obtain ⟨p1, p2, p3, p4⟩ := hper π hm
        have him : i ∈ π.2.filter fun k => !listed.getD k false := List.mem_filter.2 ⟨hmem π hm i hilt, by rw [hun]; rfl⟩
        obtain ⟨r, r2, hr⟩ := List.append_of_mem him
        have hcm : ∀ j ∈ r, commB P ops j i = true := fun j hj => by
          obtain ⟨q, q2, hq, hq2⟩ := filter_split hr
          have hjl : listed.getD j false = false := by
            have := (List.mem_filter.1 (show j ∈ π.2.filter fun k => !listed.getD k false by rw [hr]; simp [hj])).2
            simpa using this
          obtain ⟨f1, f2⟩ := firstL_no p1 _ hr hj
          have hne : j ≠ i := fun e => by
            subst e
            have hnd : (π.2.filter fun k => !listed.getD k false).Nodup := p1.filter fun k => !listed.getD k false
            rw [hr, List.nodup_append] at hnd
            exact hnd.2.2 j hj j (by simp) rfl
          rcases okL_spec p4 hq j (.inr (hq2 j hj)) with c | c | c | c
          · exact c
          · have := befB_listed hdn 4 i (fun o' ho' e he hb' => by
              rw [ho] at ho'; cases ho'
              exact hedge e he hb') c
            rw [hjl] at this; cases this
          · have := ha (j, i) c (.inr (by rw [hset, if_pos rfl]))
            rw [f2] at this
            simp only [or', hjl, hun, Bool.false_eq_true, or_self, if_false] at this
            simp [hne] at this
          · have := ha (i, j) c (.inl (by rw [hset, if_pos rfl]))
            rw [f1] at this
            simp only [or', hjl, hun, Bool.false_eq_true, or_self, if_false] at this
            simp at this
        rw [hr] at hrun
        have hb := bring ho r r2 hcm hi hrun
        have e : (π.2.filter fun k => !(listed.setIfInBounds i true).getD k false) = r ++ r2 := by
          rw [← filter_one p1 hr]
          refine List.filter_congr fun k _ => ?_
          rw [hset]
          by_cases hki : k = i <;> simp [hki]
        rw [e]; exact hb
      cases hld : loudOp o.op with
      | true =>
        have hl2 := List.all_eq_true.1 hlo i (by simpa using hilt)
        simp only [loudAt2, ho, hld, Bool.not_true, Bool.false_or] at hl2
        have hall' : ∀ p ∈ R, dec (listed.setIfInBounds i true) p := fun p hp => by
          have h2 := List.all_eq_true.1 hl2 p hp
          simp only [Bool.or_eq_true, Nat.beq_eq_true_eq] at h2
          have bef : ∀ j, befB ops 4 j i = true → (listed.setIfInBounds i true).getD j false = true := fun j hb => by
            rw [hset]
            split
            · rfl
            · exact befB_listed hdn 4 i (fun o' ho' e he hb' => by
                rw [ho] at ho'; cases ho'
                exact hedge e he hb') hb
          rcases h2 with h2 | h2 | h2 | h2
          · exact .inl (by rw [hset, if_pos (Nat.eq_of_beq_eq_true h2)])
          · exact .inr (by rw [hset, if_pos (Nat.eq_of_beq_eq_true h2)])
          · exact .inl (bef _ h2)
          · exact .inr (bef _ h2)
        obtain ⟨π, hSπ, hπo⟩ := hS' rk' hrk' hro'
        refine gstep_mono (fun v h' hn => ?_) (step π hSπ fun p hp hd => (hπo p hp).trans (hro' p hp hd))
        exact ⟨or', fun q => q = π, hcmp, fun rk2 _ hos => ⟨π, rfl, fun p hp => by rw [hπo p hp, hro' p hp (hall' p hp), hos p hp (hall' p hp)]⟩, ⟨rk', hrk', hro', hrl'⟩, fun q hq => by subst hq; exact ⟨(hπs q hSπ).1, hn⟩⟩
      | false =>
        have hst : stillOp o.op = true := by simp [stillOp, hld]
        obtain ⟨π0, hS0, hπ0⟩ := hS' rk' hrk' hro'
        have k0 := step π0 hS0 fun p hp hd => (hπ0 p hp).trans (hro' p hp hd)
        obtain ⟨u, _, _, hu⟩ := gstep_still hst k0 k0
        refine hu _ ⟨or', fun π => S π ∧ ∀ p ∈ R, dec (listed.setIfInBounds i true) p → firstL π.2 p.1 p.2 = or' p, hcmp, fun rk2 hr2 hos => ?_, ⟨rk', hrk', hro', hrl'⟩, fun π ⟨hSπ, ha⟩ => ⟨(hπs π hSπ).1, ?_⟩⟩
        · obtain ⟨π, h1, h2⟩ := hS' rk2 hr2 hos
          exact ⟨π, ⟨h1, fun p hp hd => by rw [h2 p hp, hos p hp hd]⟩, h2⟩
        · have ku := hu (fun ρ' h' => ρ' = ρ1.put o.dst u) rfl
          obtain ⟨u2, g1, g2, _⟩ := gstep_still hst ku (step π hSπ ha)
          rw [← g1]; exact g2
    · rintro listed ρ1 h1 hsz hl ⟨or, S, _, hS, ⟨rk, hrk, hro, _⟩, hπs⟩
      obtain ⟨π, hSπ, _⟩ := hS rk hrk hro
      obtain ⟨hm, hrun⟩ := hπs π hSπ
      have : (π.2.filter fun k => !listed.getD k false) = [] := List.filter_eq_nil_iff.2 fun k hk => by
        rw [hl k ((hper π hm).2.2.1 k hk)]; simp
      rw [this] at hrun
      exact hrun
theorem ordL_all {ops : Array Oper} {call : CP} {σ : AE} {H : AH} {n : Nat} {k : KP} : ∀ {πs : List DB}, ordL ops πs call σ H n k → ∀ π ∈ πs, opsP ops (pickL ops.toList π.2) call σ H n k
  | [], _, π, hm => by cases hm
  | q :: πs, h, π, hm => by
    have h : opsP ops (pickL ops.toList q.2) call σ H n k ∧ ordL ops πs call σ H n k := h
    rcases List.mem_cons.1 hm with rfl | hm
    · exact h.1
    · exact ordL_all h.2 π hm
theorem refP_FR (hf : FR φ σ ρ) {c : Operand} {q : Bool} (hv : ρ.ev c = .bool q) : FR φ (refP c q σ) ρ := by
  cases c with
  | tmp t =>
    have := hf.put (some t) (VR.bool q)
    have e : ρ.put (some t) (.bool q) = ρ := upd_eta hv
    rw [e] at this
    exact this
  | _ => exact hf
theorem and_of {a b : Bool} (h : (Bool.rec false b a : Bool) = true) : a = true ∧ b = true := by
  cases a with
  | true => exact ⟨rfl, h⟩
  | false => cases h
theorem execP_sound (hcall : CPok call) {cd : CP} (hcd : CPok cd) (hcs : CSing cd) {D : DT} {p : Nat} {φ0 : Ph} (hφ : ∀ b q, φ0 b = some q → b < p) (c : Code) : drawOk D c = true → ∀ (φ : Ph) (σ : AE) (H : AH) (n : Nat) (kn : KP) (kx : Nat → KP) (kr : KP) (ρ : Env) (h : Hp) (N R : EH) (X : Nat → EH), PLe φ0 φ → HR φ H n h0 h → FR φ σ ρ →
    execP p cd D c call σ H n kn kx kr → GoP φ0 h0 kn N → GoP φ0 h0 kr R → (∀ i, GoP φ0 h0 (kx i) (X i)) → avc Try.prog c N R X ρ h := by
  induction c with
  | skip => exact fun _ φ σ H n kn kx kr ρ h N R X hp hr hf hs hN _ _ => hN φ σ H n ρ h hp hr hf hs
  | region id ops draw =>
    intro hdr φ σ H n kn kx kr ρ h N R X hp hr hf hs hN _ _
    have key : opsP ops ops.toList call σ H n kn → aops Try.prog ops ops.toList ρ h N := fun hs => opsP_sound hcall _ φ σ H n kn ρ h hp hr hf hs hN
    unfold avc
    cases draw with
    | false => exact key hs
    | true =>
      have hs : (Option.rec (fun call σ H n kn _ _ => opsP ops ops.toList call σ H n kn) (fun bs call σ H n kn _ _ => regP ops bs call cd σ H n kn) (findD D id) : XP) call σ H n kn kx kr := hs
      have hdr : (Option.rec (swapB Try.prog ops) (fun bs => regOk Try.prog ops bs) (findD D id) : Bool) = true := hdr
      rw [if_pos rfl]
      cases hd : findD D id with
      | none =>
        rw [hd] at hs hdr
        exact .inr (.inl ⟨hdr, key hs⟩)
      | some bs =>
        rw [hd] at hs hdr
        have hs : regP ops bs call cd σ H n kn := hs
        have hdr : regOk Try.prog ops bs = true := hdr
        unfold regP at hs
        unfold regOk at hdr
        cases hio : isOrd bs with
        | true =>
          rw [hio] at hs hdr
          exact .inr (.inr (ord_any hdr fun π hm => aopsI_pick _ _ _ (opsP_sound hcall _ φ σ H n kn ρ h hp hr hf (ordL_all hs π hm) hN)))
        | false =>
          rw [hio] at hs hdr
          exact .inr (.inr (dynL_sound hcd hcs hdr hs hr hf fun ψ σ' H' n' ρ' h' hp' hr' hf' hk' => hN ψ σ' H' n' ρ' h' (hp.trans hp') hr' hf' hk'))
  | seq a b iha ihb =>
    intro hdr φ σ H n kn kx kr ρ h N R X hp hr hf hs hN hR hX
    obtain ⟨hda, hdb⟩ := and_of hdr
    exact iha hda φ σ H n _ kx kr ρ h _ R X hp hr hf hs (fun ψ σ H n ρ h hp hr hf hs => ihb hdb ψ σ H n kn kx kr ρ h N R X hp hr hf hs hN hR hX) hR hX
  | cond x a b iha ihb =>
    intro hdr φ σ H n kn kx kr ρ h N R X hp hr hf hs hN hR hX
    obtain ⟨hda, hdb⟩ := and_of hdr
    have hs : condP x σ (fun σ => execP p cd D a call σ H n kn kx kr) (fun σ => execP p cd D b call σ H n kn kx kr) := hs
    have hc := hf.ev x
    unfold condP at hs
    unfold avc
    split at hs
    · rename_i q
      rw [q] at hc
      rw [hc.bool_inv]
      exact ⟨fun _ => iha hda φ σ H n kn kx kr ρ h N R X hp hr hf hs hN hR hX, (fun k => by cases k)⟩
    · rename_i q
      rw [q] at hc
      rw [hc.bool_inv]
      exact ⟨(fun k => by cases k), fun _ => ihb hdb φ σ H n kn kx kr ρ h N R X hp hr hf hs hN hR hX⟩
    · rename_i q e
      rw [e] at hc
      have hv := hc.sb_inv
      cases q with
      | true => rw [hv]; exact ⟨fun _ => iha hda φ _ H n kn kx kr ρ h N R X hp hr (refP_FR hf hv) (hs.t rfl) hN hR hX, (fun k => by cases k)⟩
      | false => rw [hv]; exact ⟨(fun k => by cases k), fun _ => ihb hdb φ _ H n kn kx kr ρ h N R X hp hr (refP_FR hf hv) (hs.f rfl) hN hR hX⟩
    · exact hs.elim
  | block id b ih =>
    intro hdr φ σ H n kn kx kr ρ h N R X hp hr hf hs0 hN hR hX
    unfold avc
    refine ih hdr φ σ H n kn _ kr ρ h N R _ hp hr hf hs0 hN hR fun i ψ σ H n ρ h hp hr hf hs => ?_
    cases hb : Nat.beq i id with
    | true =>
      rw [hb] at hs
      have hii := Nat.eq_of_beq_eq_true hb
      rw [if_pos hii]
      exact hN ψ σ H n ρ h hp hr hf hs
    | false =>
      rw [hb] at hs
      have hne : ¬ i = id := fun q => by subst q; simp at hb
      simp only [if_neg hne]
      exact hX i ψ σ H n ρ h hp hr hf hs
  | loop b ih =>
    intro hdr φ σ H n kn kx kr ρ h N R X hp hr hf hs hN hR hX
    have hs : LoopP p (fun σ H n k => execP p cd D b call σ H n k kx kr) σ H n := hs
    unfold avc
    rcases hs with ⟨α, nn, st, μ, a0, c0, hstep⟩ | ⟨k0, hroll⟩
    · skip
      let Q : Env → Hp → Nat → Prop := fun ρ1 h1 m => ∃ ψ a, μ a = m ∧ PLe φ0 ψ ∧ HR ψ (st a).2 nn h0 h1 ∧ FR ψ (st a).1 ρ1
      have cov : ∀ {ψ : Ph} {σ : AE} {H : AH} {n : Nat} {ρ : Env} {h : Hp} {a : α}, Cov p σ H n ((st a).1, (st a).2, nn) → PLe φ0 ψ → HR ψ H n h0 h → FR ψ σ ρ → Q ρ h (μ a) := fun {ψ σ H n ρ h a} hc hp hr hf => by
        obtain ⟨χ, h1, h2, h3⟩ := hc ψ h0 h ρ hr hf
        exact ⟨χ, a, rfl, ⟨fun b q e => h1.1 b q (hφ b q e) (hp b q e), fun q hq => h1.2.1 q (hp.z q hq), fun q hq => hp.y q (h1.2.2 q hq)⟩, h2, h3⟩
      have hμ : ∀ ρ1 h1 g, Q ρ1 h1 g → ∃ m, Q ρ1 h1 m ∧ ∀ k, Q ρ1 h1 k → m ≤ k := fun ρ1 h1 g hg => least g hg
      refine ⟨fun ρ1 h1 => ∃ g, Q ρ1 h1 g, fun ρ1 h1 => Classical.epsilon fun m => Q ρ1 h1 m ∧ ∀ k, Q ρ1 h1 k → m ≤ k, ⟨_, cov c0 hp hr hf⟩, fun ρ1 h1 ⟨g, hg⟩ _ _ => ?_⟩
      have hsp := Classical.epsilon_spec (hμ ρ1 h1 g hg)
      obtain ⟨m, hm⟩ : ∃ m, (Classical.epsilon fun m => Q ρ1 h1 m ∧ ∀ k, Q ρ1 h1 k → m ≤ k) = m := ⟨_, rfl⟩
      rw [hm] at hsp
      obtain ⟨⟨ψ, a, ha, hp1, hr1, hf1⟩, _⟩ := hsp
      refine ih hdr ψ _ _ _ _ kx kr ρ1 h1 _ R X hp1 hr1 hf1 (hstep a) (fun χ σ2 H2 n2 ρ2 h2 hp2 hr2 hf2 ⟨a', hlt, hc⟩ => ?_) hR hX
      have hQ2 := cov hc hp2 hr2 hf2
      refine ⟨h2, Sub.refl _, ⟨_, hQ2⟩, ?_⟩
      have hsp2 := Classical.epsilon_spec (hμ ρ2 h2 _ hQ2)
      have := hsp2.2 _ hQ2
      simp only [hm]
      omega
    · let Q : Env → Hp → Nat → Prop := fun ρ1 h1 m => ∃ ψ σ H n, rollP m (fun σ H n k => execP p cd D b call σ H n k kx kr) σ H n ∧ PLe φ0 ψ ∧ HR ψ H n h0 h1 ∧ FR ψ σ ρ1
      have hμ : ∀ ρ1 h1 g, Q ρ1 h1 g → ∃ m, Q ρ1 h1 m ∧ ∀ k, Q ρ1 h1 k → m ≤ k := fun ρ1 h1 g hg => least g hg
      refine ⟨fun ρ1 h1 => ∃ g, Q ρ1 h1 g, fun ρ1 h1 => Classical.epsilon fun m => Q ρ1 h1 m ∧ ∀ k, Q ρ1 h1 k → m ≤ k, ⟨k0, φ, σ, H, n, hroll, hp, hr, hf⟩, fun ρ1 h1 ⟨g, hg⟩ _ _ => ?_⟩
      have hsp := Classical.epsilon_spec (hμ ρ1 h1 g hg)
      obtain ⟨m, hm⟩ : ∃ m, (Classical.epsilon fun m => Q ρ1 h1 m ∧ ∀ k, Q ρ1 h1 k → m ≤ k) = m := ⟨_, rfl⟩
      rw [hm] at hsp
      obtain ⟨⟨ψ, σ1, H1, n1, hr0, hp1, hr1, hf1⟩, _⟩ := hsp
      cases m with
      | zero => exact hr0.elim
      | succ m =>
        refine ih hdr ψ _ _ _ _ kx kr ρ1 h1 _ R X hp1 hr1 hf1 hr0 (fun χ σ2 H2 n2 ρ2 h2 hp2 hr2 hf2 h3 => ?_) hR hX
        have hQ2 : Q ρ2 h2 m := ⟨χ, σ2, H2, n2, h3, hp2, hr2, hf2⟩
        refine ⟨h2, Sub.refl _, ⟨_, hQ2⟩, ?_⟩
        have hsp2 := Classical.epsilon_spec (hμ ρ2 h2 _ hQ2)
        have := hsp2.2 _ hQ2
        simp only [hm]
        omega
  | exit i => exact fun _ φ σ H n kn kx kr ρ h N R X hp hr hf hs _ _ hX => hX i φ σ H n ρ h hp hr hf hs
  | scope b ih => exact fun hdr φ σ H n kn kx kr ρ h N R X hp hr hf hs hN hR hX => ih hdr φ σ H n kn kx kr ρ h N R X hp hr hf hs hN hR hX
  | label l => exact fun _ φ σ H n kn kx kr ρ h N R X hp hr hf hs hN _ _ => hN φ σ H n ρ h hp hr hf hs
  | ret => exact fun _ φ σ H n kn kx kr ρ h N R X hp hr hf hs _ hR _ => hR φ σ H n ρ h hp hr hf hs
  | _ => intro _ φ σ H n kn kx kr ρ h N R X hp hr hf hs; exact hs.elim

/-! ### functions -/
theorem resP_sound (hr : HR φ H n h0 h) (hf : FR φ σ ρ) {K : KH} : ∀ (rs : List ResultVar) (acc : List Value) (k : List AV → Prop), resP rs σ H k → (∀ vs us, k vs → VRs φ vs us → Fin K (packV (acc.reverse ++ us)) h) → resK Try.prog rs acc ρ h K
  | [], acc, k, hs, hk => by
    have := hk [] [] hs .nil
    simpa [resK] using this
  | .tmp t :: rs, acc, k, hs, hk => by
    have hs : resP rs σ H (fun vs => k (getq (pa t) σ :: vs)) := hs
    refine resP_sound hr hf rs (ρ t :: acc) _ hs fun vs us h1 hus => ?_
    have := hk _ (ρ t :: us) h1 (.cons (hf.at t) hus)
    simpa using this
  | .cell a t :: rs, acc, k, hs, hk => by
    have hs : loadP t (getq (pa a) σ) H (fun v => resP rs σ H fun vs => k (v :: vs)) := hs
    refine loadP_sound hr (hf.at a) hs fun r u h1 hu => ?_
    refine resP_sound hr hf rs (u :: acc) _ h1 fun vs us h2 hus => ?_
    have := hk _ (u :: us) h2 (.cons hu hus)
    simpa using this
set_option maxRecDepth 20000 in
theorem runP_sound (hm : Try.prog.follows .mixedOrders = true) (hcall : CPok call) {cd : CP} (hcd : CPok cd) (hcs : CSing cd) {D : DT} {f : FuncId} {fn : Func} {c : Code} (hok : fnOk Try.prog f = true) (hdr : drawOk D c = true) (hfn : Try.prog.funcs[f]? = some fn) (hb : fn.body = some c) {args : List AV} {κ : PK} {vs : Array Value} {K : KH}
    (hs : runP call cd D c fn.results.toList fn.ntmps args H n κ) (hr : HR φ H n h0 h) (hargs : VRs φ args vs.toList) (hk : ThenP φ h0 κ K) : CallF Try.prog f vs h K := by
  obtain ⟨h1, hs⟩ := bifP_inv hs
  simp only [fnOk, hfn, hb, Bool.and_eq_true] at hok
  obtain ⟨hic, hds⟩ := hok
  have hal := hargs.length
  have hle := Nat.le_of_ble_eq_true h1
  refine ⟨hic, callG_of hm hfn hb rfl rfl hds (by simpa [hal] using hle) fun _ => ?_⟩
  have fin : GoP φ h0 (fun σ H n => resP fn.results.toList σ H fun vs => κ (epack vs) H n) (resK Try.prog fn.results.toList [] · · K) := fun ψ σ' H' n' ρ' h' hp' hr' hf' hs' =>
    resP_sound hr' hf' _ [] _ hs' fun ws us h2 hus => .here (hk ψ _ H' n' _ h' hp' hr' (by simpa using epack_VR hus) h2)
  exact execP_sound hcall hcd hcs (fun b q e => (hr.dom b q e).1) c hdr φ _ H n _ _ _ _ h _ _ _ (PLe.refl _) hr (entry_FR hargs) hs fin fin fun i ψ σ' H' n' ρ' h' _ _ _ q => q.elim
/-- A function known by a proof. -/
def NatP (f : FuncId) (g : List AV → AH → Nat → PK → Prop) : Prop := ∀ (args : List AV) (H : AH) (n : Nat) (κ : PK), g args H n κ → ∀ (φ : Ph) (h0 h : Hp) (vs : Array Value) (K : KH), HR φ H n h0 h → VRs φ args vs.toList → ThenP φ h0 κ K → CallF Try.prog f vs h K
/-- It has one outcome, and leaves what there was. -/
def SingG (g : List AV → AH → Nat → PK → Prop) : Prop := ∀ args H n κ, g args H n κ → ∃ v H' n', κ v H' n' ∧ GrowsA H H' ∧ n ≤ n' ∧ ∀ κ' : PK, κ' v H' n' → g args H n κ'
def FunOk (f : FuncId) (e : EP) : Prop := match e with
  | .no => True
  | .run D c rs m => fnOk Try.prog f = true ∧ drawOk D c = true ∧ ∃ fn, Try.prog.funcs[f]? = some fn ∧ fn.body = some c ∧ fn.results.toList = rs ∧ fn.ntmps = m
  | .nat g => NatP f g
  | .det g => NatP f g ∧ SingG g
def TabP (F : FuncId → EP) : Prop := ∀ f, FunOk f (F f)
theorem callD_ok {F : FuncId → EP} (hF : TabP F) : CPok (callD F) := fun f args H n κ hs φ h0 h vs K hr hargs hk => by
  have hs : (EP.rec (fun _ _ _ _ => False) (fun _ _ _ _ _ _ _ _ => False) (fun _ _ _ _ _ => False) (fun g => g) (F f) : List AV → AH → Nat → PK → Prop) args H n κ := hs
  have hf := hF f
  cases hFf : F f with
  | no => rw [hFf] at hs; exact hs.elim
  | nat g => rw [hFf] at hs; exact hs.elim
  | run _ _ _ _ => rw [hFf] at hs; exact hs.elim
  | det g => rw [hFf] at hs hf; exact hf.1 args H n κ hs φ h0 h vs K hr hargs hk
theorem callD_sing {F : FuncId → EP} (hF : TabP F) : CSing (callD F) := fun f args H n κ hs => by
  unfold callD at *
  have hf := hF f
  cases hFf : F f with
  | no => rw [hFf] at hs; exact hs.elim
  | nat g => rw [hFf] at hs; exact hs.elim
  | run _ _ _ _ => rw [hFf] at hs; exact hs.elim
  | det g => rw [hFf] at hs hf; exact hf.2 args H n κ hs
set_option maxRecDepth 20000 in
theorem callT_sound (hm : Try.prog.follows .mixedOrders = true) {F : FuncId → EP} (hF : TabP F) : ∀ d, CPok (callT F d)
  | 0 => fun f args H n κ hs => hs.elim
  | d + 1 => fun f args H n κ hs φ h0 h vs K hr hargs hk => by
    have hs : (EP.rec (fun _ _ _ _ => False) (fun D c rs m => runP (callT F d) (callD F) D c rs m) (fun g => g) (fun g => g) (F f) : List AV → AH → Nat → PK → Prop) args H n κ := hs
    have hf := hF f
    cases hFf : F f with
    | no => rw [hFf] at hs; exact hs.elim
    | nat g => rw [hFf] at hs hf; exact hf args H n κ hs φ h0 h vs K hr hargs hk
    | det g => rw [hFf] at hs hf; exact hf.1 args H n κ hs φ h0 h vs K hr hargs hk
    | run D c rs m =>
      rw [hFf] at hs hf
      obtain ⟨hok, hdr, fn, hfn, hb, hrs, hnt⟩ := hf
      subst hrs hnt
      exact runP_sound hm (callT_sound hm hF d) (callD_ok hF) (callD_sing hF) hok hdr hfn hb hs hr hargs hk
theorem bodyP_ok {D : DT} {f : FuncId} (hok : fnOk Try.prog f = true) (hdr : drawF D f = true) : FunOk f (bodyP D f) := by
  unfold drawF at hdr
  unfold bodyP
  cases hfn : Try.prog.funcs[f]? with
  | none => rw [hfn] at hdr; cases hdr
  | some fn =>
    rw [hfn] at hdr
    dsimp only at hdr ⊢
    cases hb : fn.body with
    | none => rw [hb] at hdr; cases hdr
    | some c =>
      rw [hb] at hdr
      exact ⟨hok, hdr, fn, hfn, hb, rfl, rfl⟩
theorem evP_ok : TabP evP := fun f => by
  unfold evP
  cases h : fnOkq f with
  | false => trivial
  | true =>
    cases hd : drawF [] f with
    | false => trivial
    | true => exact bodyP_ok h hd
/-- The table, with what is told of a function's regions that draw their order. -/
noncomputable def withD (k : FuncId) (D : DT) (F : FuncId → EP) (f : FuncId) : EP := Bool.rec (F f) (bodyP D k) (Nat.beq f k)
theorem withD_ok {F : FuncId → EP} (hF : TabP F) {k : FuncId} {D : DT} (hok : fnOk Try.prog k = true) (hdr : drawF D k = true) : TabP (withD k D F) := fun f => by
  unfold withD
  cases hb : Nat.beq f k with
  | false => exact hF f
  | true =>
    have := Nat.eq_of_beq_eq_true hb
    subst this
    exact bodyP_ok hok hdr
/-- The table, one function more known, that may be called in a region that draws its order. -/
noncomputable def withS (k : FuncId) (g : List AV → AH → Nat → PK → Prop) (F : FuncId → EP) (f : FuncId) : EP := Bool.rec (F f) (.det g) (Nat.beq f k)
theorem withS_ok {F : FuncId → EP} (hF : TabP F) {k : FuncId} {g : List AV → AH → Nat → PK → Prop} (hg : NatP k g) (hs : SingG g) : TabP (withS k g F) := fun f => by
  unfold withS
  cases hb : Nat.beq f k with
  | false => exact hF f
  | true =>
    have := Nat.eq_of_beq_eq_true hb
    subst this
    exact ⟨hg, hs⟩
/-- The table, one function more known. -/
noncomputable def withN (k : FuncId) (g : List AV → AH → Nat → PK → Prop) (F : FuncId → EP) (f : FuncId) : EP := Bool.rec (F f) (.nat g) (Nat.beq f k)
theorem withN_ok {F : FuncId → EP} (hF : TabP F) {k : FuncId} {g : List AV → AH → Nat → PK → Prop} (hg : NatP k g) : TabP (withN k g F) := fun f => by
  unfold withN
  cases hb : Nat.beq f k with
  | false => exact hF f
  | true =>
    have := Nat.eq_of_beq_eq_true hb
    subst this
    exact hg
/-- A function's run by a table makes it known. -/
theorem NatP.of {F : FuncId → EP} (hF : TabP F) {f : FuncId} {g : List AV → AH → Nat → PK → Prop} (d : Nat) (h : ∀ args H n κ, g args H n κ → callT F d f args H n κ) : NatP f g := fun args H n κ hs => callT_sound (by kernel_rfl) hF d f args H n κ (h args H n κ hs)
/-- A value that points nowhere. -/
def flat : AV → Bool
  | .int _ _ => true
  | .str _ => true
  | .bool _ => true
  | .si _ _ => true
  | .sb _ => true
  | .ss _ => true
  | .nil => true
  | .nsl => true
  | .tup l => l.all flat1
  | .agg l => l.all flat1
  | _ => false
where flat1 : AV → Bool
  | .int _ _ => true
  | .str _ => true
  | .bool _ => true
  | .si _ _ => true
  | .sb _ => true
  | .ss _ => true
  | .nil => true
  | .nsl => true
  | _ => false
theorem flat1_VR {φ ψ : Ph} {a : AV} {v : Value} (hf : flat.flat1 a = true) (h : VR φ a v) : VR ψ a v := by
  cases a <;> first | (cases hf; done) | exact h
theorem flat1_VRs {φ ψ : Ph} : ∀ {l : List AV} {vs : List Value}, l.all flat.flat1 = true → VRs φ l vs → VRs ψ l vs
  | [], vs, _, h => by rw [h.nil_inv]; exact .nil
  | a :: l, vs, hf, h => by
    obtain ⟨v, us, rfl, h1, h2⟩ := h.cons_inv
    simp only [List.all_cons, Bool.and_eq_true] at hf
    exact .cons (flat1_VR hf.1 h1) (flat1_VRs hf.2 h2)
theorem flat_VR {φ ψ : Ph} {a : AV} {v : Value} (hf : flat a = true) (h : VR φ a v) : VR ψ a v := by
  cases a <;> first | (cases hf; done) | exact h | skip
  case agg l => obtain ⟨cs, rfl, h1⟩ := h.agg_inv; exact .agg (flat1_VRs hf h1)
  case tup l => obtain ⟨cs, rfl, h1⟩ := h.tup_inv; exact .tup (flat1_VRs hf h1)
/-- A value, or a row of such, as ones that are not known. -/
def mkT : AV → AV
  | .tup l => .tup (l.map mk)
  | v => mk v
theorem VRs.mk {φ : Ph} : ∀ {l : List AV} {vs : List Value}, VRs φ l vs → VRs φ (l.map Go.Proofs.Ytdfeigkooeeeaaa.mk) vs
  | [], vs, h => by rw [h.nil_inv]; exact .nil
  | a :: l, vs, h => by
    obtain ⟨v, us, rfl, h1, h2⟩ := h.cons_inv
    exact .cons h1.mk (VRs.mk h2)
theorem VR.mkT {φ : Ph} {a : AV} {v : Value} (h : VR φ a v) : VR φ (mkT a) v := by
  cases a <;> first | exact h.mk | skip
  case tup l => obtain ⟨cs, rfl, h1⟩ := h.tup_inv; exact .tup h1.mk
theorem flat_mkT {a : AV} (h : flat a = true) : flat (mkT a) = true := by
  cases a <;> first | exact h | skip
  case tup l =>
    have : ∀ {l : List AV}, l.all flat.flat1 = true → (l.map mk).all flat.flat1 = true := by
      intro l
      induction l with
      | nil => intro _; rfl
      | cons a l ih =>
        intro hf
        simp only [List.all_cons, List.map_cons, Bool.and_eq_true] at hf ⊢
        refine ⟨?_, ih hf.2⟩
        cases a <;> exact hf.1
    exact this h
/-- A function of values that point nowhere, run on no memory: what it makes on the way is forgotten. -/
theorem pureN {F : FuncId → EP} (hF : TabP F) {d : Nat} {f : FuncId} {args : List AV} {v : AV} (ha : args.all flat = true) (hv : flat v = true) (h : callT F d f args .nil 0 fun u _ _ => mkT u = mkT v)
    {φ : Ph} {H : AH} {n : Nat} {h0 hp : Hp} {vs : Array Value} {κ : PK} {K : KH} (hs : κ (mkT v) H n) (hr : HR φ H n h0 hp) (hargs : VRs φ args vs.toList) (hk : ThenP φ h0 κ K) : CallF Try.prog f vs hp K := by
  have hargs' : VRs Ph.no args vs.toList := by
    have : ∀ {l : List AV} {us : List Value}, l.all flat = true → VRs φ l us → VRs Ph.no l us := by
      intro l
      induction l with
      | nil => intro us _ h; rw [h.nil_inv]; exact .nil
      | cons a l ih =>
        intro us hf h
        obtain ⟨w, ws, rfl, h1, h2⟩ := h.cons_inv
        simp only [List.all_cons, Bool.and_eq_true] at hf
        exact .cons (flat_VR hf.1 h1) (ih hf.2 h2)
    exact this ha hargs
  have key : Wf hp → CallF Try.prog f vs hp K := fun hw => callT_sound (by kernel_rfl) hF d f args .nil 0 _ h Ph.no hp hp vs K (start_none hw) hargs' fun ψ u H' n' w g _ hg hu he => by
    have hg2 : HR φ H n h0 g := hr.grow (fun b o hb => (hg.base b o hb).2) hg.size
    have h3 : VR φ (mkT v) w := (flat_VR (φ := ψ) (flat_mkT hv) (he ▸ hu.mkT))
    exact hk φ _ H n w g (PLe.refl _) hg2 h3 hs
  have hic : isCall Try.prog f = true := (callT_sound (by kernel_rfl) hF d f args .nil 0 _ h Ph.no ⟨fun _ => none, 0⟩ ⟨fun _ => none, 0⟩ vs (fun _ _ => True) (start_none fun _ _ q => by cases q) hargs' fun _ _ _ _ _ _ _ _ _ _ => trivial).1
  exact ⟨hic, fun w hi => (key hi.wf).2 w hi⟩
/-- What the quick machine found. -/
noncomputable def natQ (g : List AV → AH → Nat → KA → AR) (args : List AV) (H : AH) (n : Nat) (κ : PK) : Prop := optP (g args H n topq) (un3 κ)
theorem natQ_ok {f : FuncId} {g : List AV → AH → Nat → KA → AR} (hg : COk Try.prog f fun args H n => g args H n topq) : NatP f (natQ g) := fun args H n κ hs φ h0 h vs K hr hargs hk => by
  obtain ⟨⟨v, H', n'⟩, h1, h2⟩ := optP_inv hs
  exact hg args H n v H' n' h1 φ h0 h vs K hr hargs (hk.then h2)
theorem natQ_sing {g : List AV → AH → Nat → KA → AR} (hg : ∀ args H n r, g args H n topq = some r → GrowsA H r.2.1 ∧ n ≤ r.2.2) : SingG (natQ g) := fun args H n κ hs => by
  obtain ⟨⟨v, H', n'⟩, h1, h2⟩ := optP_inv hs
  obtain ⟨h3, h4⟩ := hg _ _ _ _ h1
  exact ⟨v, H', n', h2, h3, h4, fun κ' k' => optP_of h1 k'⟩
theorem natTrue {d : Nat} {k : FuncId} (he : isTrue (callq evQ d k [] .nil 0 topq) = true) : NatP k (natQ trueN) := natQ_ok (trueN_ok evQ_ok he)
/-- A law that the machine finds true. -/
theorem evP_calls {F : FuncId → EP} (hF : TabP F) {d : Nat} {f : FuncId} {args : List AV} {vs : Array Value} (hargs : VRs Ph.no args vs.toList)
    (he : callT F d f args .nil 0 fun v _ _ => v = .bool true ∨ v = .sb true) (w : World) : Calls Try.prog f vs w fun e w' => e = .returned (.bool true) ∧ Below w.heap.size w w' := by
  have hs := callT_sound (by kernel_rfl) hF d f args .nil 0 _ he _ (wholeHp w) (wholeHp w) vs (fun v g => v = .bool true ∧ (wholeHp w).n ≤ g.n ∧ ∀ b o, (wholeHp w).f b = some o → g.f b = some o) (wholeHp_start w) hargs
    (fun ψ v H n u g _ hg hu hv => ⟨by rcases hv with rfl | rfl; exact hu.bool_inv; exact hu.sb_inv, hg.size, fun b o hb => (hg.base b o hb).2⟩)
  refine (hs.2 w (wholeHp_is w)).mono fun e' w' ⟨v, g, h1, h2, h3, h4, h5, h6⟩ => ?_
  subst h1 h4
  refine ⟨rfl, h3.1, h3.2.1, h3.2.2, ?_, fun b hb => ?_⟩
  · rw [h2.1]; exact h5
  · have := h6 b _ (show (wholeHp w).f b = some w.heap[b] from Array.getElem?_eq_getElem hb)
    rw [h2.2 b _ this, Array.getElem?_eq_getElem hb]
end
end Go.Proofs.Ytdfeigkooeeeaaa
namespace Go.Proofs.Ytdfeigkooeeeaaa
open Go Go.RowKit
set_option maxRecDepth 20000
noncomputable def mkE : List (Nat × AV) → AE
  | [] => .nil
  | x :: l => (mkE l).set (some x.2) depthE x.1
noncomputable def mkH : List (Nat × AO) → AH
  | [] => .nil
  | x :: l => (mkH l).set (some x.2) depthH x.1
theorem mkE_get : ∀ {l : List (Nat × AV)} {t : Nat} {a : AV}, (mkE l).get t = some a → (t, a) ∈ l
  | [], t, a, h => by cases h
  | x :: l, t, a, h => by
    rcases PM.get_set depthE _ x.1 t a h with ⟨rfl, h2⟩ | ⟨_, h2⟩
    · injection h2 with h2; subst h2; exact List.mem_cons_self
    · exact List.mem_cons_of_mem _ (mkE_get h2)
theorem mkH_get : ∀ {l : List (Nat × AO)} {t : Nat} {a : AO}, (mkH l).get t = some a → (t, a) ∈ l
  | [], t, a, h => by cases h
  | x :: l, t, a, h => by
    rcases PM.get_set depthH _ x.1 t a h with ⟨rfl, h2⟩ | ⟨_, h2⟩
    · injection h2 with h2; subst h2; exact List.mem_cons_self
    · exact List.mem_cons_of_mem _ (mkH_get h2)
/-- Places by new names: 'r' tells the old one. -/
def Ren (m : Nat) (r : Nat → Nat) (φ ψ : Ph) : Prop := (∀ b, b < m → ψ b = φ (r b)) ∧ ∀ q, φ.z q → ψ.z q
def AO.size : AO → Nat
  | .cells l _ => l.length
  | .ro l => l.length
  | .map _ => 0
  | .iter _ _ _ => 0
/-- What is known of a block finds room at its place. -/
def Room (φ : Ph) (H : AH) : Prop := ∀ b o p, H.get b = some o → φ b = some p → o.size ≤ p.T
theorem HR.room {φ : Ph} {H : AH} {n : Nat} {h0 h : Hp} (hr : HR φ H n h0 h) : Room φ H := fun b o p hb hp => by
  obtain ⟨ob, _, _, h4⟩ := hr.of hb hp
  cases o with
  | cells l z => obtain ⟨c, t, fz, _, h1, _⟩ := h4; exact h1
  | ro l => obtain ⟨c, t, fz, _, h1, _⟩ := h4; exact h1
  | map es => exact Nat.zero_le _
  | iter _ _ _ => exact Nat.zero_le _
def SubV (H : AH) (m : Nat) (r : Nat → Nat) (a a' : AV) : Prop := ∀ φ ψ v, Ren m r φ ψ → Room φ H → VR φ a v → VR ψ a' v
def SubO (H : AH) (m : Nat) (r : Nat → Nat) (o o' : AO) : Prop := o.own = o'.own ∧ ∀ φ ψ p ob, Ren m r φ ψ → Room φ H → OR φ p o ob → OR ψ p o' ob
section
variable {H : AH} {m : Nat} {r : Nat → Nat}
theorem SubV.bad (a : AV) : SubV H m r a .bad := fun _ _ _ _ _ _ => .bad _
theorem SubV.flat {a a' : AV} (h : Go.Proofs.Ytdfeigkooeeeaaa.flat a' = true) (e : mk a = mk a') : SubV H m r a a' := fun φ ψ v _ _ hv => by
  have h1 : VR φ (mk a') v := e ▸ hv.mk
  have h2 : VR φ a' v := by cases a' <;> exact h1
  exact flat_VR h h2
theorem SubV.int {k : IntKind} {a : AV} {x : Int} (e : mk a = .si k x) : SubV H m r a (.si k x) := SubV.flat rfl e
theorem SubV.bool {a : AV} {x : Bool} (e : mk a = .sb x) : SubV H m r a (.sb x) := SubV.flat rfl e
theorem SubV.str {a : AV} {x : List Nat} (e : mk a = .ss x) : SubV H m r a (.ss x) := SubV.flat rfl e
theorem SubV.ptr {a : AV} {b o : Nat} (hb : b < m) (e : a = .ptr (r b) o) : SubV H m r a (.ptr b o) := fun φ ψ v hr _ hv => by
  subst e
  obtain ⟨p, h1, rfl⟩ := hv.ptr_inv
  exact .ptr (by rw [hr.1 b hb]; exact h1)
theorem SubV.stab {a : AV} (h : Go.Proofs.Ytdfeigkooeeeaaa.stab a = true) : SubV H m r a a := fun φ ψ v hr _ hv => stab_VR hr.2 h hv
theorem SubV.map {a : AV} {b : Nat} (hb : b < m) (e : a = .map (r b)) : SubV H m r a (.map b) := fun φ ψ v hr _ hv => by
  subst e
  obtain ⟨p, h1, rfl⟩ := hv.map_inv
  exact .map (by rw [hr.1 b hb]; exact h1)
theorem SubV.sy {a : AV} {b o n c k : Nat} (hb : b < m) (e : mk a = .sy (r b) o n c k) : SubV H m r a (.sy b o n c k) := fun φ ψ v hr _ hv => by
  have h1 : VR φ (.sy (r b) o n c k) v := e ▸ hv.mk
  obtain ⟨p, C, h4, rfl, h2, h3⟩ := h1.sy_inv
  exact .sy (by rw [hr.1 b hb]; exact h4) h2 h3
theorem SubV.sl {a : AV} {b o n c k : Nat} (hb : b < m) (e : mk a = .sy (r b) o n c k) : SubV H m r a (.sl b o n c k) := fun φ ψ v hr hR hv => (SubV.sy hb e φ ψ v hr hR hv).hd
theorem SubV.rw {a : AV} {b o n n' k x x' : Nat} (hb : b < m) (e : a = .rw (r b) o n' k x') (hn : n' = n := by first | rfl | simp) (hx : (x < 2 → x' < 2) ∧ (x = 1 → x' = 1) ∧ (x ≠ 4 → x' ≠ 4) := by decide) : SubV H m r a (.rw b o n k x) := fun φ ψ v hr _ hv => by
  subst e hn
  rcases hv.rw_inv with ⟨rfl, hem⟩ | ⟨p, y, C, h1, rfl, h2, h3, h4, h5, h6, h7⟩
  · refine .rwe rfl (hem.imp id fun ⟨h1, h2⟩ => ⟨?_, h2⟩)
    by_cases hx4 : x = 4
    · exact hx4
    · exact absurd h1 (hx.2.2 hx4)
  · exact .rwx (by rw [hr.1 b hb]; exact h1) h2 h3 h4 h5 (fun q => h6 (hx.1 q)) (fun q => h7 (hx.2.1 q))
theorem SubV.nslRw {a : AV} {b o n k x : Nat} (e : a = .nsl) (hn : n = 0 := by first | rfl | simp) : SubV H m r a (.rw b o n k x) := fun φ ψ v hr _ hv => by
  subst e hn
  rw [hv.nsl_inv]; exact .rwn
theorem SubV.slRw {a : AV} {b o n n' c k k' : Nat} (hb : b < m) (e : mk a = .sy (r b) o n' c k') (hk : k' = k ∨ (k' = 0 ∧ ∃ q, H.get (r b) = some q ∧ o + c * k ≤ q.size)) (hc : n' ≤ c) (hn : n' = n := by first | rfl | simp) (hk0 : k ≠ 0 := by decide) : SubV H m r a (.rw b o n k 0) := fun φ ψ v hr hR hv => by
  subst hn
  have h1 : VR φ (.sy (r b) o n' c k') v := e ▸ hv.mk
  obtain ⟨p, C, h4, rfl, h2, h3⟩ := h1.sy_inv
  have hT : n' ≤ C ∧ o + C * k ≤ p.T := by
    rcases hk with rfl | ⟨rfl, q, hq, hqs⟩
    · obtain ⟨h5, h6⟩ := h3 hk0
      exact ⟨by omega, by omega⟩
    · have := h2 rfl
      subst this
      have := hR _ _ _ hq h4
      exact ⟨hc, by omega⟩
  exact .rw (by rw [hr.1 b hb]; exact h4) (fun _ => rfl) (Nat.le_add_right _ _) hT.1 (by omega)
theorem SubV.same {a : AV} (h : Go.Proofs.Ytdfeigkooeeeaaa.flat a = true) : SubV H m r a a := SubV.flat h rfl
theorem SubO.cells {l l' : List AV} {z z' : Bool} (hl : l'.length ≤ l.length) (hz : z' = true → z = true) (h : ∀ (i : Nat) (a' : AV), l'[i]? = some a' → ∃ a, l[i]? = some a ∧ SubV H m r a a') : SubO H m r (.cells l z) (.cells l' z') :=
  ⟨rfl, fun φ ψ p ob hr hR ⟨c, t, fz, h1, h2, h3, h4, h5, h6⟩ => ⟨c, t, fz, h1, Nat.le_trans hl h2, h3, h4, fun q => h5 (hz q), fun i a' hi => by
    obtain ⟨a, h7, h8⟩ := h i a' hi
    obtain ⟨v, h9, h10⟩ := h6 i a h7
    exact ⟨v, h9, h8 φ ψ v hr hR h10⟩⟩⟩
theorem SubO.ro {l l' : List AV} (hl : l'.length ≤ l.length) (h : ∀ (i : Nat) (a' : AV), l'[i]? = some a' → ∃ a, l[i]? = some a ∧ SubV H m r a a') : SubO H m r (.ro l) (.ro l') :=
  ⟨rfl, fun φ ψ p ob hr hR ⟨c, t, fz, h1, h2, h3, h6⟩ => ⟨c, t, fz, h1, Nat.le_trans hl h2, h3, fun i a' hi => by
    obtain ⟨a, h7, h8⟩ := h i a' hi
    obtain ⟨v, h9, h10⟩ := h6 i a h7
    exact ⟨v, h9, h8 φ ψ v hr hR h10⟩⟩⟩
theorem SubO.maps {β : Type} {f g : β → AV} {l : List β} {z : Bool} (h : ∀ x, SubV H m r (f x) (g x)) : SubO H m r (.cells (l.map f) z) (.cells (l.map g) z) :=
  SubO.cells (by simp) (fun q => q) fun i a' hi => by
    rw [List.getElem?_map, Option.map_eq_some_iff] at hi
    obtain ⟨x, hx, rfl⟩ := hi
    exact ⟨f x, by rw [List.getElem?_map, hx]; rfl, h x⟩
theorem flat_of1 {a : AV} (h : Go.Proofs.Ytdfeigkooeeeaaa.flat.flat1 a = true) : Go.Proofs.Ytdfeigkooeeeaaa.flat a = true := by cases a <;> first | exact h | cases h
theorem SubV.mk1 {a a' : AV} (hf : Go.Proofs.Ytdfeigkooeeeaaa.flat.flat1 a' = true) (e : mk a = mk a') : SubV H m r a a' := SubV.flat (flat_of1 hf) e
theorem map_mk_at {l l' : List AV} (hf : l'.all Go.Proofs.Ytdfeigkooeeeaaa.flat.flat1 = true) (h : l.map mk = l'.map mk) (i : Nat) (a' : AV) (hi : l'[i]? = some a') : ∃ a, l[i]? = some a ∧ SubV H m r a a' := by
  have e := congrArg (fun x : List AV => x[i]?) h
  simp only [List.getElem?_map, hi, Option.map_some] at e
  rw [Option.map_eq_some_iff] at e
  obtain ⟨a, h1, h2⟩ := e
  exact ⟨a, h1, .mk1 (List.all_eq_true.1 hf a' (List.mem_of_getElem? hi)) h2⟩
theorem SubO.cells_mk {l l' : List AV} {z z' : Bool} (hf : l'.all Go.Proofs.Ytdfeigkooeeeaaa.flat.flat1 = true) (h : l.map mk = l'.map mk) (hz : z' = true → z = true) : SubO H m r (.cells l z) (.cells l' z') :=
  SubO.cells (by have := congrArg List.length h; simp only [List.length_map] at this; omega) hz (map_mk_at hf h)
theorem SubO.ro_mk {l l' : List AV} (hf : l'.all Go.Proofs.Ytdfeigkooeeeaaa.flat.flat1 = true) (h : l.map mk = l'.map mk) : SubO H m r (.ro l) (.ro l') :=
  SubO.ro (by have := congrArg List.length h; simp only [List.length_map] at this; omega) (map_mk_at hf h)
theorem ebytes_map : ∀ {s : List Nat}, (∀ x ∈ s, x < 256) → ebytes (s.map fun c : Nat => .si .u8 (Int.ofNat c)) = some s
  | [], _ => rfl
  | c :: s, h => by
    have hc : Nat.blt c 256 = true := by rw [Nat.blt_eq]; exact h c List.mem_cons_self
    simp only [List.map_cons, ebytes, hc, ebytes_map (s := s) fun x hx => h x (List.mem_cons_of_mem _ hx), Option.map_some]
theorem conv_str {P : Program} {src dst e : TypeId} {x : AV} {H : AH} {n b o len c k : Nat} {l l2 : List AV} {z : Bool} {s : List Nat} (hx : x = .sl b o len c k) (hb : H.get b = some (.cells l z)) (hu : P.underlying src = some (.slice e)) (hd : P.underlying dst = some .string) (he : P.underlying e = some (.int .u8))
    (hl : subL l o len = some l2) (hs : ebytes l2 = some s) : econv P src dst x H n = some (.str s, H, n) := by
  subst hx
  simp only [econv, hu, hd, he, hb, hl, Option.bind_some, hs, Option.map_some]
theorem app_grow {P : Program} {t u e e2 : TypeId} {s x : AV} {H : AH} {n k by' m b o sn c : Nat} {z : Value} {l new old : List AV} {z' : Bool} (hs : s = .sl b o sn c (k + 1)) (hb : H.get b = some (.cells l z')) (hu : P.underlying t = some (.slice e)) (hu2 : P.underlying u = some (.slice e2))
    (hk : tySize P e = some (k + 1)) (hby : tyBytes P e = some by') (hz : tyZero P e = some z) (hzc : z.cells.size = k + 1) (hb0 : 0 < by') (hsrc : esrc H (k + 1) x = some (m, new)) (hnew : new.length = m * (k + 1)) (hone : new.all one1 = true) (hgt : c < sn + m) (hbig : (sn + m) * by' ≤ 140737488355328) (hold : subL l o (sn * (k + 1)) = some old) :
    eappend P t u s x H n = some (.sl n 0 (sn + m) (sn + m) (k + 1), (H.set none depthH b).set (some (.cells (old ++ new) z')) depthH n, n + 1) := by
  subst hs
  simp only [eappend, hu, hu2, hk, hby, hz, hsrc, hb, hold]
  rw [if_pos ⟨hzc, hb0, Nat.succ_pos k, hnew, hone⟩, if_neg (by omega), if_pos hbig]
  simp
theorem subL_all {α : Type} {l : List α} {n : Nat} (h : l.length = n) : subL l 0 n = some l := by
  subst h
  unfold subL
  rw [Nat.zero_add, Nat.ble_eq_true_of_le (Nat.le_refl _)]
  simp
theorem Cov.ofR {p n : Nat} {σ : AE} {H : AH} {le : List (Nat × AV)} {lh : List (Nat × AO)} (r : Nat → Nat) (hp : p ≤ m) (hr : ∀ b, b < p → r b = b) (he : ∀ x ∈ le, SubV H m r (getq (pa x.1) σ) x.2)
    (hh : ∀ x ∈ lh, x.1 < m ∧ ((∃ o, H.get (r x.1) = some o ∧ SubO H m r o x.2) ∨ (x.2.void = true ∧ n ≤ r x.1))) (hi : ∀ x ∈ lh, ∀ y ∈ lh, r x.1 = r y.1 → x.1 = y.1) : Cov p σ H n (mkE le, mkH lh, m) := fun φ h0 h ρ hR hF => by
  let ψ : Ph := ⟨fun b => if b < m then φ (r b) else none, φ.z, φ.y⟩
  have hren : Ren m r φ ψ := ⟨fun b hb => by simp only [ψ, if_pos hb], fun _ h => h⟩
  have hroom := hR.room
  have hvoid : ∀ b, n ≤ b → φ b = none := fun b hb => by
    cases hq : φ b with
    | none => rfl
    | some p => exact absurd (hR.dom b p hq).1 (by omega)
  refine ⟨ψ, ⟨fun b q hb hq => ?_, fun _ h => h, fun _ h => h⟩, ⟨fun b q hq => ?_, fun b o hb => ?_, fun b b' o o' q q' hb hb' hw hw' hq hq' e => ?_, hR.base, hR.size, fun q hq => ?_⟩, fun t a ht => ?_⟩
  · simp only [ψ, if_pos (Nat.lt_of_lt_of_le hb hp), hr b hb]; exact hq
  · simp only [ψ] at hq
    split at hq
    · rename_i hb; exact ⟨hb, (hR.dom _ _ hq).2⟩
    · cases hq
  · obtain ⟨h1, ⟨o2, h2, h3, h4⟩ | ⟨h2, h3⟩⟩ := hh _ (mkH_get hb)
    · rcases hR.live _ _ h2 with ⟨g1, g2⟩ | ⟨q, ob, g1, g2, g3, g4⟩
      · refine .inl ⟨by simp only [ψ, if_pos h1]; exact g1, ?_⟩
        -- what has no place knows nothing
        obtain ⟨q, hq⟩ : ∃ q : Pl, q = ⟨0, 0, 0⟩ := ⟨_, rfl⟩
        have key : OR φ q o2 (.cells #[] default (0, 0)) := by
          cases o2 with
          | cells l z =>
            cases l with
            | nil => exact ⟨#[], default, _, rfl, by simp, by subst hq; simp, free_zero _ _, fun _ => rfl, fun i a h => by simp at h⟩
            | cons _ _ => cases g2
          | ro l =>
            cases l with
            | nil => exact ⟨#[], default, _, rfl, by simp, by subst hq; simp, fun i a h => by simp at h⟩
            | cons _ _ => cases g2
          | map _ => cases g2
          | iter _ _ _ => cases g2
        have k2 := h4 φ ψ q _ hren hroom key
        cases o with
        | cells l z =>
          obtain ⟨c, t, fz, e, k3, _⟩ := k2
          subst hq
          cases l with
          | nil => rfl
          | cons _ _ => simp at k3
        | ro l =>
          obtain ⟨c, t, fz, e, k3, _⟩ := k2
          subst hq
          cases l with
          | nil => rfl
          | cons _ _ => simp at k3
        | map _ => obtain ⟨ms, cl, e, _⟩ := k2; cases e
        | iter _ _ _ => obtain ⟨_, q', _, e⟩ := k2; cases e
      · refine .inr ⟨q, ob, by simp only [ψ, if_pos h1]; exact g1, ?_, g3, h4 φ ψ q ob hren hroom g4⟩
        rw [g2]
        cases o2 <;> cases o <;> first | rfl | cases h3
    · exact .inl ⟨by simp only [ψ, if_pos h1]; exact hvoid _ h3, h2⟩
  · obtain ⟨h1, h2'⟩ := hh _ (mkH_get hb)
    obtain ⟨h1', h3'⟩ := hh _ (mkH_get hb')
    simp only [ψ, if_pos h1] at hq
    simp only [ψ, if_pos h1'] at hq'
    rcases h2' with ⟨o2, h2, h3, h4⟩ | ⟨_, h3⟩
    · rcases h3' with ⟨o2', h2', h3', h4'⟩ | ⟨_, h3'⟩
      · exact hi _ (mkH_get hb) _ (mkH_get hb') (hR.inj _ _ _ _ _ _ h2 h2' (h3.trans hw) (h3'.trans hw') hq hq' e)
      · rw [hvoid _ h3'] at hq'; cases hq'
    · rw [hvoid _ h3] at hq; cases hq
  · obtain ⟨⟨g1, g9⟩, g2⟩ := hR.frz q hq
    refine ⟨⟨FzR.mono hren.2 g1, g9⟩, fun b o q' hb hw hq' => ?_⟩
    obtain ⟨h1, h2'⟩ := hh _ (mkH_get hb)
    simp only [ψ, if_pos h1] at hq'
    rcases h2' with ⟨o2, h2, h3, h4⟩ | ⟨_, h3⟩
    · exact g2 _ _ _ h2 (h3.trans hw) hq'
    · rw [hvoid _ h3] at hq'; cases hq'
  · exact he _ (mkE_get ht) φ ψ _ hren hroom (hF.at t)
theorem Cov.of {p n : Nat} {σ : AE} {H : AH} {le : List (Nat × AV)} {lh : List (Nat × AO)} (r : Nat → Nat) (hp : p ≤ m) (hr : ∀ b, b < p → r b = b) (he : ∀ x ∈ le, SubV H m r (getq (pa x.1) σ) x.2)
    (hh : ∀ x ∈ lh, x.1 < m ∧ ∃ o, H.get (r x.1) = some o ∧ SubO H m r o x.2) (hi : ∀ x ∈ lh, ∀ y ∈ lh, r x.1 = r y.1 → x.1 = y.1) : Cov p σ H n (mkE le, mkH lh, m) := Cov.ofR r hp hr he (fun x hx => ⟨(hh x hx).1, .inl (hh x hx).2⟩) hi
end
end Go.Proofs.Ytdfeigkooeeeaaa
namespace Go.Proofs.Ytdfeigkooeeeaaa
open Go Go.RowKit
set_option maxRecDepth 20000
/-- A number, known or not. -/
def asI (a : AV) (κ : Int → Prop) : Prop := match a with
  | .int .i64 n => κ n
  | .si .i64 n => κ n
  | _ => False
theorem asI_inv {φ : Ph} {a : AV} {v : Value} {κ : Int → Prop} (h : VR φ a v) (k : asI a κ) : ∃ n, v = .int .i64 n ∧ κ n := by
  unfold asI at k
  split at k
  · exact ⟨_, h.int_inv, k⟩
  · exact ⟨_, h.si_inv, k⟩
  · exact k.elim
theorem vs3 {φ : Ph} {a b c : AV} {vs : Array Value} (h : VRs φ [a, b, c] vs.toList) : ∃ x y z, vs = #[x, y, z] ∧ VR φ a x ∧ VR φ b y ∧ VR φ c z := by
  obtain ⟨x, l1, e1, h1, h2⟩ := h.cons_inv
  obtain ⟨y, l2, e2, h3, h4⟩ := h2.cons_inv
  obtain ⟨z, l3, e3, h5, h6⟩ := h4.cons_inv
  have := h6.nil_inv
  subst this e3 e2
  exact ⟨x, y, z, by cases vs; simp_all, h1, h3, h5⟩
theorem vs2 {φ : Ph} {a b : AV} {vs : Array Value} (h : VRs φ [a, b] vs.toList) : ∃ x y, vs = #[x, y] ∧ VR φ a x ∧ VR φ b y := by
  obtain ⟨x, l1, e1, h1, h2⟩ := h.cons_inv
  obtain ⟨y, l2, e2, h3, h4⟩ := h2.cons_inv
  have := h4.nil_inv
  subst this e2
  exact ⟨x, y, by cases vs; simp_all, h1, h3⟩
theorem vs1 {φ : Ph} {a : AV} {vs : Array Value} (h : VRs φ [a] vs.toList) : ∃ x, vs = #[x] ∧ VR φ a x := by
  obtain ⟨x, l1, e1, h1, h2⟩ := h.cons_inv
  have := h2.nil_inv
  subst this
  exact ⟨x, by cases vs; simp_all, h1⟩
def nat3 (f : Int → Int → Int → Int) (args : List AV) (H : AH) (n : Nat) (κ : PK) : Prop := match args with
  | [x, y, z] => asI x fun t => asI y fun s => asI z fun a => κ (.si .i64 (f t s a)) H n
  | _ => False

theorem Then.sb {φ : Ph} {H : AH} {n : Nat} {h0 h : Hp} {κ : PK} {K : KH} {b : Bool} (hr : HR φ H n h0 h) (hk : ThenP φ h0 κ K) (h1 : κ (.sb b) H n) : K (.bool b) h := hk φ _ H n _ h (PLe.refl _) hr (.sb b) h1
def mkK (κ : PK) : PK := fun v H n => κ (mk v) H n
theorem ThenP.mkK {φ : Ph} {h0 : Hp} {κ : PK} {K : KH} (hk : ThenP φ h0 κ K) : ThenP φ h0 (mkK κ) K := fun ψ v H n u g h1 h2 h3 h4 => hk ψ _ H n u g h1 h2 h3.mk h4
theorem leafB {κ : PK} {H : AH} {n : Nat} {b c : Bool} (hk : κ (.sb b) H n) (h : b = c) : κ (.sb c) H n := by subst h; exact hk
theorem leafI {κ : PK} {H : AH} {n : Nat} {k : IntKind} {b c : Int} (hk : κ (.si k b) H n) (h : b = c) : κ (.si k c) H n := by subst h; exact hk
def nat1b (f : Int → Bool) (args : List AV) (H : AH) (n : Nat) (κ : PK) : Prop := match args with
  | [x] => asI x fun t => κ (.sb (f t)) H n
  | _ => False
def nat2b (f : Int → Int → Bool) (args : List AV) (H : AH) (n : Nat) (κ : PK) : Prop := match args with
  | [x, y] => asI x fun t => asI y fun s => κ (.sb (f t s)) H n
  | _ => False
/-- Numbers as unknown ones. -/
theorem asI_si {φ : Ph} {a : AV} {v : Value} {κ : Int → Prop} (h : VR φ a v) (k : asI a κ) : ∃ n, VR φ (.si .i64 n) v ∧ κ n := by
  obtain ⟨n, rfl, k⟩ := asI_inv h k
  exact ⟨n, .si _ _, k⟩
theorem nat1b_ok {F : FuncId → EP} (hF : TabP F) {d : Nat} {f : FuncId} {g : Int → Bool} (h : ∀ (t : Int) (H : AH) (n : Nat) (κ : PK), κ (.sb (g t)) H n → callT F d f [.si .i64 t] H n (mkK κ)) : NatP f (nat1b g) := fun args H n κ hs φ h0 hp vs K hr hargs hk => by
  unfold nat1b at hs
  split at hs
  · obtain ⟨x, rfl, h1⟩ := vs1 hargs
    obtain ⟨t, h1, hs⟩ := asI_si h1 hs
    exact callT_sound (by kernel_rfl) hF d f _ H n (mkK κ) (h t H n κ hs) φ h0 hp _ K hr (.cons h1 .nil) hk.mkK
  · exact hs.elim
theorem nat2b_ok {F : FuncId → EP} (hF : TabP F) {d : Nat} {f : FuncId} {g : Int → Int → Bool} (h : ∀ (t s : Int) (H : AH) (n : Nat) (κ : PK), κ (.sb (g t s)) H n → callT F d f [.si .i64 t, .si .i64 s] H n (mkK κ)) : NatP f (nat2b g) := fun args H n κ hs φ h0 hp vs K hr hargs hk => by
  unfold nat2b at hs
  split at hs
  · obtain ⟨x, y, rfl, h1, h2⟩ := vs2 hargs
    obtain ⟨t, h1, hs⟩ := asI_si h1 hs
    obtain ⟨s, h2, hs⟩ := asI_si h2 hs
    exact callT_sound (by kernel_rfl) hF d f _ H n (mkK κ) (h t s H n κ hs) φ h0 hp _ K hr (.cons h1 (.cons h2 .nil)) hk.mkK
  · exact hs.elim
theorem nat3_ok {F : FuncId → EP} (hF : TabP F) {d : Nat} {f : FuncId} {g : Int → Int → Int → Int} (h : ∀ (t s a : Int) (H : AH) (n : Nat) (κ : PK), κ (.si .i64 (g t s a)) H n → callT F d f [.si .i64 t, .si .i64 s, .si .i64 a] H n (mkK κ)) : NatP f (nat3 g) := fun args H n κ hs φ h0 hp vs K hr hargs hk => by
  unfold nat3 at hs
  split at hs
  · obtain ⟨x, y, z, rfl, h1, h2, h3⟩ := vs3 hargs
    obtain ⟨t, h1, hs⟩ := asI_si h1 hs
    obtain ⟨s, h2, hs⟩ := asI_si h2 hs
    obtain ⟨a, h3, hs⟩ := asI_si h3 hs
    exact callT_sound (by kernel_rfl) hF d f _ H n (mkK κ) (h t s a H n κ hs) φ h0 hp _ K hr (.cons h1 (.cons h2 (.cons h3 .nil))) hk.mkK
  · exact hs.elim
def nat1s (f : Int → List Nat) (args : List AV) (H : AH) (n : Nat) (κ : PK) : Prop := match args with
  | [x] => asI x fun t => κ (.ss (f t)) H n
  | _ => False
theorem nat1s_ok {F : FuncId → EP} (hF : TabP F) {d : Nat} {f : FuncId} {g : Int → List Nat} (h : ∀ t : Int, callT F d f [.si .i64 t] .nil 0 fun u _ _ => mkT u = .ss (g t)) : NatP f (nat1s g) := fun args H n κ hs φ h0 hp vs K hr hargs hk => by
  unfold nat1s at hs
  split at hs
  · obtain ⟨x, rfl, h1⟩ := vs1 hargs
    obtain ⟨t, h1, hs⟩ := asI_si h1 hs
    exact pureN (v := .ss (g t)) hF rfl rfl (h t) hs hr (.cons h1 .nil) hk
  · exact hs.elim
/-- A text, known or not. -/
def asS (a : AV) (κ : List Nat → Prop) : Prop := match a with
  | .str s => κ s
  | .ss s => κ s
  | _ => False
theorem asS_inv {φ : Ph} {a : AV} {v : Value} {κ : List Nat → Prop} (h : VR φ a v) (k : asS a κ) : ∃ s, VR φ (.ss s) v ∧ (∀ x ∈ s, x < 256) ∧ κ s := by
  unfold asS at k
  split at k
  · exact ⟨_, h.mk, h.str_inv.2, k⟩
  · exact ⟨_, h, h.ss_inv.2, k⟩
  · exact k.elim
def natS (f : List Nat → AV) (args : List AV) (H : AH) (n : Nat) (κ : PK) : Prop := match args with
  | [x] => asS x fun s => s.length ≤ 1000000 ∧ κ (mkT (f s)) H n
  | _ => False
theorem natS_ok {F : FuncId → EP} (hF : TabP F) {d : Nat} {f : FuncId} {g : List Nat → AV} (hg : ∀ s, flat (g s) = true) (h : ∀ s : List Nat, (∀ x ∈ s, x < 256) → s.length ≤ 1000000 → callT F d f [.ss s] .nil 0 fun u _ _ => mkT u = mkT (g s)) : NatP f (natS g) := fun args H n κ hs φ h0 hp vs K hr hargs hk => by
  unfold natS at hs
  split at hs
  · obtain ⟨x, rfl, h1⟩ := vs1 hargs
    obtain ⟨s, h1, h2, h3, hs⟩ := asS_inv h1 hs
    exact pureN (v := g s) hF rfl (hg s) (h s h2 h3) hs hr (.cons h1 .nil) hk
  · exact hs.elim
def nat2i (f : Int → Int → Int) (args : List AV) (H : AH) (n : Nat) (κ : PK) : Prop := match args with
  | [x, y] => asI x fun t => asI y fun s => κ (.si .i64 (f t s)) H n
  | _ => False
theorem nat2i_ok {F : FuncId → EP} (hF : TabP F) {d : Nat} {f : FuncId} {g : Int → Int → Int} (h : ∀ (t s : Int) (H : AH) (n : Nat) (κ : PK), κ (.si .i64 (g t s)) H n → callT F d f [.si .i64 t, .si .i64 s] H n (mkK κ)) : NatP f (nat2i g) := fun args H n κ hs φ h0 hp vs K hr hargs hk => by
  unfold nat2i at hs
  split at hs
  · obtain ⟨x, y, rfl, h1, h2⟩ := vs2 hargs
    obtain ⟨t, h1, hs⟩ := asI_si h1 hs
    obtain ⟨s, h2, hs⟩ := asI_si h2 hs
    exact callT_sound (by kernel_rfl) hF d f _ H n (mkK κ) (h t s H n κ hs) φ h0 hp _ K hr (.cons h1 (.cons h2 .nil)) hk.mkK
  · exact hs.elim
/-! ### one outcome -/
theorem SingG.pure {g : List AV → AH → Nat → PK → Prop} (h : ∀ args H n κ, g args H n κ → ∃ v, κ v H n ∧ ∀ κ' : PK, κ' v H n → g args H n κ') : SingG g := fun args H n κ hs => by
  obtain ⟨v, h1, h2⟩ := h args H n κ hs
  exact ⟨v, H, n, h1, .refl _, Nat.le_refl _, h2⟩
theorem asI_sing {a : AV} {κ : Int → Prop} (h : asI a κ) : ∃ n, κ n ∧ ∀ κ' : Int → Prop, κ' n → asI a κ' := by
  unfold asI at *
  split at h
  · exact ⟨_, h, fun _ k => k⟩
  · exact ⟨_, h, fun _ k => k⟩
  · exact h.elim
theorem asS_sing {a : AV} {κ : List Nat → Prop} (h : asS a κ) : ∃ n, κ n ∧ ∀ κ' : List Nat → Prop, κ' n → asS a κ' := by
  unfold asS at *
  split at h
  · exact ⟨_, h, fun _ k => k⟩
  · exact ⟨_, h, fun _ k => k⟩
  · exact h.elim
theorem sing1b {f : Int → Bool} : SingG (nat1b f) := .pure fun args H n κ hs => by
  unfold nat1b at *
  split at hs
  · obtain ⟨x, h1, k1⟩ := asI_sing hs
    exact ⟨_, h1, fun κ' h => k1 _ h⟩
  · exact hs.elim
theorem sing1s {f : Int → List Nat} : SingG (nat1s f) := .pure fun args H n κ hs => by
  unfold nat1s at *
  split at hs
  · obtain ⟨x, h1, k1⟩ := asI_sing hs
    exact ⟨_, h1, fun κ' h => k1 _ h⟩
  · exact hs.elim
theorem sing2b {f : Int → Int → Bool} : SingG (nat2b f) := .pure fun args H n κ hs => by
  unfold nat2b at *
  split at hs
  · obtain ⟨x, h1, k1⟩ := asI_sing hs
    obtain ⟨y, h2, k2⟩ := asI_sing h1
    exact ⟨_, h2, fun κ' h => k1 _ (k2 _ h)⟩
  · exact hs.elim
theorem sing2i {f : Int → Int → Int} : SingG (nat2i f) := .pure fun args H n κ hs => by
  unfold nat2i at *
  split at hs
  · obtain ⟨x, h1, k1⟩ := asI_sing hs
    obtain ⟨y, h2, k2⟩ := asI_sing h1
    exact ⟨_, h2, fun κ' h => k1 _ (k2 _ h)⟩
  · exact hs.elim
theorem sing3 {f : Int → Int → Int → Int} : SingG (nat3 f) := .pure fun args H n κ hs => by
  unfold nat3 at *
  split at hs
  · obtain ⟨x, h1, k1⟩ := asI_sing hs
    obtain ⟨y, h2, k2⟩ := asI_sing h1
    obtain ⟨z, h3, k3⟩ := asI_sing h2
    exact ⟨_, h3, fun κ' h => k1 _ (k2 _ (k3 _ h))⟩
  · exact hs.elim
theorem singS {f : List Nat → AV} : SingG (natS f) := .pure fun args H n κ hs => by
  unfold natS at *
  split at hs
  · obtain ⟨s, ⟨h0, h1⟩, k1⟩ := asS_sing hs
    exact ⟨_, h1, fun κ' h => k1 _ ⟨h0, h⟩⟩
  · exact hs.elim
theorem singTrue : SingG (natQ trueN) := natQ_sing fun args H n r h => by
  cases args with
  | nil =>
    injection h with h
    subst h
    exact ⟨.refl _, Nat.le_refl _⟩
  | cons _ _ => cases h
end Go.Proofs.Ytdfeigkooeeeaaa
namespace Go.Proofs.Ytdfeigkooeeeaaa
open Go Go.RowKit
set_option maxRecDepth 20000
section
variable {φ : Ph} {H : AH} {n : Nat} {h0 hp : Hp}
/-- What lies at a place, seen from anywhere. -/
def RoAt (hp : Hp) (p : Pl) (l : List AV) : Prop := ∃ c t fz, hp.f p.B = some (.cells c t fz) ∧ l.length ≤ p.T ∧ p.s + p.T ≤ c.size ∧ ∀ ψ, CR ψ c p.s l
def ph1 (p : Pl) : Ph := ⟨fun b => if b = 0 then some p else none, fun _ => False, fun _ => False⟩
def ph2 (p q : Pl) : Ph := ⟨fun b => if b = 0 then some p else if b = 1 then some q else none, fun _ => False, fun _ => False⟩
theorem HR.ro1 (hw : Wf hp) {p : Pl} {l : List AV} (h : RoAt hp p l) : HR (ph1 p) (mkH [(0, .ro l)]) 1 hp hp := by
  obtain ⟨c, t, fz, h1, h2, h3, h4⟩ := h
  refine ⟨fun b q e => ?_, fun b o e => ?_, fun b b' o o' q q' e _ hw' => ?_, fun b o e => ⟨hw b o e, e⟩, Nat.le_refl _, fun _ k => k.elim⟩
  · simp only [ph1] at e
    split at e
    · injection e with e; subst e; exact ⟨by omega, hw _ _ h1⟩
    · cases e
  · have hm := mkH_get e
    simp only [List.mem_cons, List.not_mem_nil, or_false] at hm
    injection hm with e1 e2
    subst e1 e2
    exact .inr ⟨p, _, rfl, h1, h1, c, t, fz, rfl, h2, h3, h4 _⟩
  · have hm := mkH_get e
    simp only [List.mem_cons, List.not_mem_nil, or_false] at hm
    injection hm with e1 e2
    subst e2
    cases hw'
theorem HR.ro2 (hw : Wf hp) {p q : Pl} {l m : List AV} (h : RoAt hp p l) (k : RoAt hp q m) : HR (ph2 p q) (mkH [(0, .ro l), (1, .ro m)]) 2 hp hp := by
  obtain ⟨c, t, fz, h1, h2, h3, h4⟩ := h
  obtain ⟨c', t', fz', k1, k2, k3, k4⟩ := k
  have mem : ∀ b o, (mkH [(0, AO.ro l), (1, AO.ro m)]).get b = some o → (b = 0 ∧ o = .ro l) ∨ (b = 1 ∧ o = .ro m) := fun b o e => by
    have hm := mkH_get e
    simp only [List.mem_cons, List.not_mem_nil, or_false] at hm
    rcases hm with hm | hm
    · injection hm with e1 e2; exact .inl ⟨e1, e2⟩
    · injection hm with e1 e2; exact .inr ⟨e1, e2⟩
  refine ⟨fun b r e => ?_, fun b o e => ?_, fun b b' o o' r r' e _ hw' => ?_, fun b o e => ⟨hw b o e, e⟩, Nat.le_refl _, fun _ k => k.elim⟩
  · simp only [ph2] at e
    split at e
    · injection e with e; subst e; exact ⟨by omega, hw _ _ h1⟩
    · split at e
      · injection e with e; subst e; exact ⟨by omega, hw _ _ k1⟩
      · cases e
  · rcases mem b o e with ⟨rfl, rfl⟩ | ⟨rfl, rfl⟩
    · exact .inr ⟨p, _, rfl, h1, h1, c, t, fz, rfl, h2, h3, h4 _⟩
    · exact .inr ⟨q, _, rfl, k1, k1, c', t', fz', rfl, k2, k3, k4 _⟩
  · rcases mem b o e with ⟨_, rfl⟩ | ⟨_, rfl⟩ <;> cases hw'
theorem HR.ro0 (hw : Wf hp) : HR Ph.no .nil 0 hp hp := start_none hw
/-- A run on a small memory, all other memory being its base: only its value is kept. -/
theorem smallN {F : FuncId → EP} (hF : TabP F) {d : Nat} {f : FuncId} {args0 : List AV} {H0 : AH} {n0 : Nat} {v : AV} (hv : flat v = true) (h : callT F d f args0 H0 n0 fun u _ _ => mkT u = mkT v)
    {vs : Array Value} {κ : PK} {K : KH} (hs : κ (mkT v) H n) (hr : HR φ H n h0 hp) (hk : ThenP φ h0 κ K) (hic : isCall Try.prog f = true) {φ0 : Ph} (hr0 : Wf hp → HR φ0 H0 n0 hp hp) (hargs : VRs φ0 args0 vs.toList) : CallF Try.prog f vs hp K := by
  have key : Wf hp → CallF Try.prog f vs hp K := fun hw => callT_sound (by kernel_rfl) hF d f args0 H0 n0 _ h φ0 hp hp vs K (hr0 hw) hargs fun ψ u H' n' w g _ hg hu he => by
    have hg2 : HR φ H n h0 g := hr.grow (fun b o hb => (hg.base b o hb).2) hg.size
    have h3 : VR φ (mkT v) w := (flat_VR (φ := ψ) (flat_mkT hv) (he ▸ hu.mkT))
    exact hk φ _ H n w g (PLe.refl _) hg2 h3 hs
  exact ⟨hic, fun w hi => (key hi.wf).2 w hi⟩
/-- Cells that are known, looked at from a place of their own. -/
theorem RoAt.of (hr : HR φ H n h0 hp) {b o m : Nat} {l r s : List AV} {p : Pl} (hb : H.get b = some (.ro l) ∨ ∃ z, H.get b = some (.cells l z)) (hpb : φ b = some p) (hs : subL l o m = some r) (hm : r.map mk = s.map mk) (hf : s.all flat.flat1 = true) : RoAt hp ⟨p.B, p.s + o, m⟩ s := by
  have key : ∃ c t fz, hp.f p.B = some (.cells c t fz) ∧ l.length ≤ p.T ∧ p.s + p.T ≤ c.size ∧ CR φ c p.s l := by
    rcases hb with hb | ⟨z, hb⟩
    · obtain ⟨ob, _, h2, c, t, fz, rfl, h3, h4, h5⟩ := hr.of hb hpb
      exact ⟨c, t, fz, h2, h3, h4, h5⟩
    · obtain ⟨ob, _, h2, c, t, fz, rfl, h3, h4, _, _, h5⟩ := hr.of hb hpb
      exact ⟨c, t, fz, h2, h3, h4, h5⟩
  obtain ⟨c, t, fz, h1, h2, h3, h4⟩ := key
  obtain ⟨h5, h6⟩ := subL_spec hs
  have hlen : s.length = m := by
    have := congrArg List.length hm
    simp only [List.length_map] at this
    rw [← this, h6]
    simp; omega
  refine ⟨c, t, fz, h1, by simp only; omega, by simp only; omega, fun ψ i a hi => ?_⟩
  have hi2 := (List.getElem?_eq_some_iff.1 hi).1
  have h7 : ∃ a', r[i]? = some a' ∧ mk a' = mk a := by
    have e := congrArg (fun x : List AV => x[i]?) hm
    simp only [List.getElem?_map, hi, Option.map_some] at e
    rw [Option.map_eq_some_iff] at e
    exact e
  obtain ⟨a', h8, h9⟩ := h7
  have h10 : l[o + i]? = some a' := by
    rw [h6] at h8
    rw [List.getElem?_take, if_pos (by omega), List.getElem?_drop] at h8
    exact h8
  obtain ⟨v, h11, h12⟩ := h4 (o + i) a' h10
  refine ⟨v, by simp only; rw [Nat.add_assoc]; exact h11, ?_⟩
  have h13 : VR φ (mk a) v := h9 ▸ h12.mk
  have h14 : flat.flat1 a = true := List.all_eq_true.1 hf a (List.mem_of_getElem? hi)
  exact flat1_VR h14 (by cases a <;> first | exact h13 | cases h14)
end
end Go.Proofs.Ytdfeigkooeeeaaa
namespace Go.Proofs.Ytdfeigkooeeeaaa
open Go Go.RowKit Go.ChangeShapes Go.WideShapes
set_option maxRecDepth 20000
section
variable {H : Type} {enc : TypeId × Value → H} {P : Program} {w : World} {base : Nat} {sp : Nat → Bool} {held : Bool}
theorem mapM_ints {e : TypeId} {k : IntKind} (he : P.underlying e = some (.int k)) {m c : Nat} {cs : List Value} : ∀ (L : List Nat) (xs : List (DataW H × List MemPlace)), L.mapM (fun i => DataW.trod enc P w base sp held m e ((cs.drop (i * c)).take c)) = some xs →
    (∀ i ∈ L, ∃ n, (cs.drop (i * c)).take c = [.int k n] ∧ (Lit.int k n).wf = true) ∧ ∀ x ∈ xs, x.2 = []
  | [], xs, h => by
    simp at h
    subst h
    simp
  | i :: L, xs, h => by
    rw [List.mapM_cons] at h
    simp only [bind, Option.bind_eq_some_iff, pure, Option.some.injEq] at h
    obtain ⟨y, hy, ys, hys, rfl⟩ := h
    obtain ⟨h1, h2⟩ := mapM_ints he L ys hys
    obtain ⟨a, ea, rfl, wa⟩ := DataW.trod_int he hy
    refine ⟨fun j hj => ?_, fun x hx => ?_⟩
    · rcases List.mem_cons.1 hj with rfl | hj
      · exact ⟨a, ea, wa⟩
      · exact h1 j hj
    · rcases List.mem_cons.1 hx with rfl | hx
      · rfl
      · exact h2 x hx
def intOf : Value → Int
  | .int _ n => n
  | _ => 0
/-- An array of numbers. -/
theorem open_intarr {r : Reach} {b0 n : Nat} {t e : TypeId} {k : IntKind} {v : Value} {d : DataW H} {ps : List MemPlace} (hu : P.underlying t = some (.array n e)) (he : P.underlying e = some (.int k)) (h1 : P.cellsOf e = 1) (hs : P.cellsOf t = n)
    (hval : Value.okWide P w r b0 t v) (hd : DataW.Trod enc P w base sp held t v d ps) : ∃ zs : List Int, zs.length = n ∧ v = .agg (zs.map (Value.int k)).toArray ∧ ps = [] ∧ ∀ z ∈ zs, (Lit.int k z).wf = true := by
  simp only [Value.okWide, hu] at hval
  obtain ⟨cs, rfl, hsz, _⟩ := hval
  rw [hs] at hsz
  obtain ⟨fuel, hf⟩ := hd
  cases fuel with
  | zero => simp [DataW.trod] at hf
  | succ m =>
    rw [DataW.trod_step] at hf
    unfold DataW.trodStep at hf
    simp only [hu, Value.cells] at hf
    rw [if_pos (by rw [hs]; simpa using hsz)] at hf
    simp only [Option.map_eq_some_iff] at hf
    obtain ⟨ys, hy, e1⟩ := hf
    obtain ⟨q1, q2⟩ := mapM_ints he _ ys hy
    simp only [Prod.mk.injEq] at e1
    have hcell : ∀ i (hi : i < cs.size), ∃ z, cs[i] = .int k z ∧ (Lit.int k z).wf = true := fun i hi => by
      obtain ⟨z, hz, hwf⟩ := q1 i (by simp; omega)
      rw [h1, Nat.mul_one] at hz
      have : cs.toList[i]? = some (.int k z) := by
        have h3 : ((cs.toList.drop i).take 1)[0]? = some (.int k z) := by rw [hz]; rfl
        simpa [List.getElem?_take, List.getElem?_drop] using h3
      refine ⟨z, ?_, hwf⟩
      rw [Array.getElem?_toList, Array.getElem?_eq_getElem hi] at this
      injection this
    refine ⟨cs.toList.map intOf, by simpa using hsz, ?_, ?_, fun z hz => ?_⟩
    · congr 1
      apply Array.ext
      · simp
      · intro i hi hi2
        obtain ⟨z, h4, _⟩ := hcell i hi
        simp [h4, intOf]
    · rw [← e1.2]
      simp only [List.flatMap_eq_nil_iff]
      exact q2
    · simp only [List.mem_map, Array.mem_toList_iff] at hz
      obtain ⟨v, hv, rfl⟩ := hz
      obtain ⟨i, hi, e⟩ := Array.mem_iff_getElem.1 hv
      obtain ⟨z, h4, h5⟩ := hcell i hi
      rw [← e, h4]
      exact h5
theorem u8_rng {z : Int} (h : (Lit.int .u8 z).wf = true) : 0 ≤ z ∧ z ≤ 255 := by
  simp [Lit.wf, IntKind.min, IntKind.max, IntKind.signed, IntKind.bits] at h
  omega
theorem len2 {zs : List Int} (h : zs.length = 2) : ∃ a b, zs = [a, b] := by
  match zs, h with
  | [a, b], _ => exact ⟨a, b, rfl⟩
theorem len3 {zs : List Int} (h : zs.length = 3) : ∃ a b c, zs = [a, b, c] := by
  match zs, h with
  | [a, b, c], _ => exact ⟨a, b, c, rfl⟩
theorem vr_ints {φ : Ph} {k : IntKind} (zs : List Int) : VR φ (.agg (zs.map (AV.si k))) (.agg (zs.map (Value.int k)).toArray) := .agg (by simpa using VRs.map (fun z => VR.si k z) zs)
theorem vr_string {φ : Ph} (s : ByteArray) : VR φ (.ss (s.data.toList.map UInt8.toNat)) (.string s) := by
  have h : VR φ (.ss (s.data.toList.map UInt8.toNat)) (.string (vstr (s.data.toList.map UInt8.toNat))) := .ss fun x hx => by
    simp only [List.mem_map] at hx
    obtain ⟨c, _, rfl⟩ := hx
    exact UInt8.toNat_lt c
  rwa [vstr_data] at h
end
end Go.Proofs.Ytdfeigkooeeeaaa
namespace Go.Proofs.Ytdfeigkooeeeaaa
open Go Go.RowKit
set_option maxRecDepth 20000
/-! ### samples -/
abbrev Smp := List (Int × Int)
def smp (L : Smp) : List AV := L.flatMap fun x => [.si .i64 x.1, .si .i64 x.2]
theorem smp_length (L : Smp) : (smp L).length = L.length * 2 := by
  induction L with
  | nil => rfl
  | cons x L ih => simp only [smp, List.flatMap_cons, List.length_append, List.length_cons, List.length_nil] at ih ⊢; omega
theorem smp_flat (L : Smp) : (smp L).all flat.flat1 = true := by
  induction L with
  | nil => rfl
  | cons x L ih => exact ih
theorem smp_map (L : Smp) : (smp L).map mk = smp L := by
  induction L with
  | nil => rfl
  | cons x L ih =>
    show mk (.si .i64 x.1) :: mk (.si .i64 x.2) :: (smp L).map mk = _
    rw [ih]; rfl
theorem smp_drop : ∀ (L : Smp) (i : Nat), (smp L).drop (i * 2) = smp (L.drop i)
  | L, 0 => by simp
  | [], i + 1 => by simp [smp]
  | x :: L, i + 1 => by
    rw [show (i + 1) * 2 = i * 2 + 2 from by omega]
    exact smp_drop L i
theorem smp_at {L : Smp} {i : Nat} (h : i < L.length) : (smp L).drop (i * 2) = .si .i64 L[i].1 :: .si .i64 L[i].2 :: smp (L.drop (i + 1)) := by
  rw [smp_drop, List.drop_eq_getElem_cons h]; rfl
theorem smp_sub {L : Smp} {i o : Nat} (h : i < L.length) (ho : o = i * 2) : subL (smp L) o 2 = some [.si .i64 L[i].1, .si .i64 L[i].2] := by
  subst ho
  unfold subL
  rw [Nat.ble_eq_true_of_le (by rw [smp_length]; omega), smp_at h]; rfl
theorem smp_nth0 {L : Smp} {i o : Nat} (h : i < L.length) (ho : o = i * 2) : nth (smp L) o = some (.si .i64 L[i].1) := by
  subst ho
  have := congrArg (fun l => l[0]?) (smp_at h)
  simp only [List.getElem?_drop, Nat.add_zero, List.getElem?_cons_zero] at this
  rw [nth_eq, this]
theorem smp_nth1 {L : Smp} {i o : Nat} (h : i < L.length) (ho : o = i * 2 + 1) : nth (smp L) o = some (.si .i64 L[i].2) := by
  subst ho
  have := congrArg (fun l => l[1]?) (smp_at h)
  simp only [List.getElem?_drop, List.getElem?_cons_succ, List.getElem?_cons_zero] at this
  rw [nth_eq, this]
/-- A slice that holds these samples. -/
def SmpAt (H : AH) (a : AV) (L : Smp) : Prop := (hd a = .nsl ∧ L = []) ∨ ((∃ b o x l r, (a = .rw b o L.length 2 x ∧ x ≠ 4) ∧ (H.get b = some (.ro l) ∨ ∃ z, H.get b = some (.cells l z)) ∧ subL l o (L.length * 2) = some r ∧ r.map mk = smp L) ∨ ∃ l, a = .fr L.length 2 l ∧ l.map mk = smp L ∧ L.length ≠ 0) ∨ ∃ b o c k l r, hd a = .sl b o L.length c k ∧ (H.get b = some (.ro l) ∨ ∃ z, H.get b = some (.cells l z)) ∧ subL l o (L.length * 2) = some r ∧ r.map mk = smp L ∧ L.length ≤ c
/-! ### rows of numbers -/
def ints (V : List Int) : List AV := V.map fun v => .si .i64 v
theorem ints_flat (V : List Int) : (ints V).all flat.flat1 = true := by
  induction V with
  | nil => rfl
  | cons x L ih => exact ih
theorem ints_map (V : List Int) : (ints V).map mk = ints V := by simp [ints, mk, Function.comp_def]
theorem ints_length (V : List Int) : (ints V).length = V.length := by simp [ints]
theorem ints_nth {V : List Int} {i o : Nat} (h : i < V.length) (ho : o = i) : nth (ints V) o = some (.si .i64 V[i]) := by
  subst ho
  rw [nth_eq, ints, List.getElem?_map, List.getElem?_eq_getElem h]; rfl
def IntAt (H : AH) (a : AV) (V : List Int) : Prop := (hd a = .nsl ∧ V = []) ∨ ((∃ b o x l r, (a = .rw b o V.length 1 x ∧ x ≠ 4) ∧ (H.get b = some (.ro l) ∨ ∃ z, H.get b = some (.cells l z)) ∧ subL l o V.length = some r ∧ r.map mk = ints V) ∨ ∃ l, a = .fr V.length 1 l ∧ l.map mk = ints V ∧ V.length ≠ 0) ∨ ∃ b o c k l r, hd a = .sl b o V.length c k ∧ (H.get b = some (.ro l) ∨ ∃ z, H.get b = some (.cells l z)) ∧ subL l o V.length = some r ∧ r.map mk = ints V ∧ V.length ≤ c
section
variable {φ : Ph} {H : AH} {n : Nat} {h0 hp : Hp}
/-- An empty row's block, at any place in it. -/
theorem RoAt.emp (hr : HR φ H n h0 hp) {b a T : Nat} {l : List AV} {p : Pl} (hb : H.get b = some (.ro l) ∨ ∃ z, H.get b = some (.cells l z)) (hpb : φ b = some p) (ha : p.s ≤ a) (hT : a + T ≤ p.s + p.T) : RoAt hp ⟨p.B, a, 0⟩ [] := by
  rcases hb with hb | ⟨z, hb⟩
  · obtain ⟨ob, _, h2, c, t, fz, rfl, h3, h4, h5⟩ := hr.of hb hpb
    exact ⟨c, t, fz, h2, Nat.le_refl _, (show a + 0 ≤ c.size by omega), fun ψ i a h => by simp at h⟩
  · obtain ⟨ob, _, h2, c, t, fz, rfl, h3, h4, _, _, h5⟩ := hr.of hb hpb
    exact ⟨c, t, fz, h2, Nat.le_refl _, (show a + 0 ≤ c.size by omega), fun ψ i a h => by simp at h⟩
theorem CR.mk_flat {ψ χ : Ph} {c : Array Value} {s : Nat} {l m : List AV} (h : CR ψ c s l) (e : l.map mk = m.map mk) (hf : m.all flat.flat1 = true) : CR χ c s m := fun i a hi => by
  have e2 := congrArg (fun x : List AV => x[i]?) e
  simp only [List.getElem?_map, hi, Option.map_some] at e2
  rw [Option.map_eq_some_iff] at e2
  obtain ⟨a', h1, h2⟩ := e2
  obtain ⟨v, h3, h4⟩ := h i a' h1
  have h14 : flat.flat1 a = true := List.all_eq_true.1 hf a (List.mem_of_getElem? hi)
  have h13 : VR ψ (mk a) v := h2 ▸ h4.mk
  exact ⟨v, h3, flat1_VR h14 (by cases a <;> first | exact h13 | cases h14)⟩
/-- A frozen row, seen from anywhere. -/
theorem fz_open (hr : HR φ H n h0 hp) {m k : Nat} {l s : List AV} {v : Value} (hm : m ≠ 0) (hv : VR φ (.fr m k l) v) (e : l.map mk = s.map mk) (hf : s.all flat.flat1 = true) : ∃ p C, m ≤ C ∧ RoAt hp p s ∧ p.T = m * k ∧ v = .slice (some ⟨p.B, p.s + 0, none⟩) m C := by
  rcases hv.fr_inv with ⟨h0, _⟩ | ⟨q, o, C, hq, rfl, hC, hl⟩
  · exact absurd h0 hm
  · obtain ⟨⟨⟨_, c, t, fz, hc, hsz, hcr⟩, _⟩, _⟩ := hr.frz q hq
    obtain ⟨g1, g2⟩ := subL_spec hl
    have hlen : l.length = m * k := by rw [g2]; simp; omega
    have hsl : s.length = m * k := by have := congrArg List.length e; simp only [List.length_map] at this; omega
    have h6 : CR φ c (q.s + o) l := by rw [g2]; exact CR.drop hcr
    exact ⟨⟨q.B, q.s + o, m * k⟩, C, hC, ⟨c, t, fz, hc, (show s.length ≤ m * k by omega), (show q.s + o + m * k ≤ c.size by omega), fun ψ => CR.mk_flat h6 e hf⟩, rfl, rfl⟩
/-- Samples, seen from a memory of their own. -/
theorem SmpAt.open (hr : HR φ H n h0 hp) {a : AV} {L : Smp} {v : Value} (hS : SmpAt H a L) (hv : VR φ a v) : (L = [] ∧ ∀ χ, VR χ .nsl v) ∨ ∃ p C, L.length ≤ C ∧ RoAt hp p (smp L) ∧ ∀ χ b, χ b = some p → VR χ (.sy b 0 L.length C 0) v := by
  rcases hS with ⟨ey, rfl⟩ | (⟨b, o, x, l, r, ⟨rfl, hx4⟩, hb, hsub, hmk⟩ | ⟨l, rfl, hmk, hne⟩) | ⟨b, o, c, kk, l, r, ey, hb, hsub, hmk, hlc⟩
  · have e6 := hv.hd
    rw [ey] at e6
    exact .inl ⟨rfl, fun χ => by rw [e6.nsl_inv]; exact .nsl⟩
  · rcases hv.rw_inv with ⟨h1, hem⟩ | ⟨p, y, C, hp, rfl, h2, h3, h4, h5, _, _⟩
    · have := hem.nil hx4
      subst this
      exact .inl ⟨List.eq_nil_of_length_eq_zero h1, fun χ => .nsl⟩
    · by_cases hL : L = []
      · subst hL
        exact .inr ⟨⟨p.B, y, 0⟩, C, h4, RoAt.emp hr hb hp h3 h5, fun χ b hχ => .sy (p := ⟨p.B, y, 0⟩) (o := 0) hχ (fun _ => rfl) (fun q => absurd rfl q)⟩
      · have := h2 (fun q => hL (List.eq_nil_of_length_eq_zero q))
        subst this
        have hro := RoAt.of (s := smp L) hr hb hp hsub (by rw [hmk, smp_map]) (smp_flat L)
        exact .inr ⟨⟨p.B, p.s + o, L.length * 2⟩, C, h4, hro, fun χ b hχ => .sy (p := ⟨p.B, p.s + o, L.length * 2⟩) (o := 0) hχ (fun _ => rfl) (fun q => absurd rfl q)⟩
  · obtain ⟨p, C, hC, hro, _, rfl⟩ := fz_open hr hne hv (s := smp L) (by rw [hmk, smp_map]) (smp_flat L)
    exact .inr ⟨p, C, hC, hro, fun χ b hχ => .sy (p := p) (o := 0) hχ (fun _ => rfl) (fun q => absurd rfl q)⟩
  · have e6 := hv.hd
    rw [ey] at e6
    obtain ⟨p, C, hpb, rfl, hC0, hC1⟩ := e6.sl_inv
    have hlC : L.length ≤ C := by
      by_cases hk0 : kk = 0
      · rw [hC0 hk0]; exact hlc
      · exact Nat.le_trans hlc (hC1 hk0).1
    have hro := RoAt.of (s := smp L) hr hb hpb hsub (by rw [hmk, smp_map]) (smp_flat L)
    exact .inr ⟨⟨p.B, p.s + o, L.length * 2⟩, C, hlC, hro, fun χ b hχ => .sy (p := ⟨p.B, p.s + o, L.length * 2⟩) hχ (fun _ => rfl) (fun q => absurd rfl q)⟩
theorem IntAt.open (hr : HR φ H n h0 hp) {a : AV} {V : List Int} {v : Value} (hS : IntAt H a V) (hv : VR φ a v) : (V = [] ∧ ∀ χ, VR χ .nsl v) ∨ ∃ p C, RoAt hp p (ints V) ∧ ∀ χ b, χ b = some p → VR χ (.sy b 0 V.length C 0) v := by
  rcases hS with ⟨ey, rfl⟩ | (⟨b, o, x, l, r, ⟨rfl, hx4⟩, hb, hsub, hmk⟩ | ⟨l, rfl, hmk, hne⟩) | ⟨b, o, c, kk, l, r, ey, hb, hsub, hmk, _⟩
  · have e6 := hv.hd
    rw [ey] at e6
    exact .inl ⟨rfl, fun χ => by rw [e6.nsl_inv]; exact .nsl⟩
  · rcases hv.rw_inv with ⟨h1, hem⟩ | ⟨p, y, C, hp, rfl, h2, h3, h4, h5, _, _⟩
    · have := hem.nil hx4
      subst this
      exact .inl ⟨List.eq_nil_of_length_eq_zero h1, fun χ => .nsl⟩
    · by_cases hL : V = []
      · subst hL
        exact .inr ⟨⟨p.B, y, 0⟩, C, RoAt.emp hr hb hp h3 h5, fun χ b hχ => .sy (p := ⟨p.B, y, 0⟩) (o := 0) hχ (fun _ => rfl) (fun q => absurd rfl q)⟩
      · have := h2 (fun q => hL (List.eq_nil_of_length_eq_zero q))
        subst this
        have hro := RoAt.of (s := ints V) hr hb hp hsub (by rw [hmk, ints_map]) (ints_flat V)
        exact .inr ⟨⟨p.B, p.s + o, V.length⟩, C, hro, fun χ b hχ => .sy (p := ⟨p.B, p.s + o, V.length⟩) (o := 0) hχ (fun _ => rfl) (fun q => absurd rfl q)⟩
  · obtain ⟨p, C, hC, hro, _, rfl⟩ := fz_open hr hne hv (s := ints V) (by rw [hmk, ints_map]) (ints_flat V)
    exact .inr ⟨p, C, hro, fun χ b hχ => .sy (p := p) (o := 0) hχ (fun _ => rfl) (fun q => absurd rfl q)⟩
  · have e6 := hv.hd
    rw [ey] at e6
    obtain ⟨p, C, hpb, rfl, hC0, hC1⟩ := e6.sl_inv
    have hro := RoAt.of (s := ints V) hr hb hpb hsub (by rw [hmk, ints_map]) (ints_flat V)
    exact .inr ⟨⟨p.B, p.s + o, V.length⟩, C, hro, fun χ b hχ => .sy (p := ⟨p.B, p.s + o, V.length⟩) hχ (fun _ => rfl) (fun q => absurd rfl q)⟩
end
theorem eix_of {ix : AV} {k : IntKind} {i : Int} {j len : Nat} (h : ix = .int k i) (hi : i = (j : Int)) (lt : j < len) : eix ix len = some j := by
  subst h hi
  unfold eix
  have : Nat.blt j len = true := by rw [Nat.blt_eq]; exact lt
  simp only [Int.ofNat_eq_natCast, this]
theorem foldl_take {α β : Type} {f : β → α → β} {l : List α} {b : β} {i : Nat} (h : i < l.length) : (l.take (i + 1)).foldl f b = f ((l.take i).foldl f b) l[i] := by
  rw [List.take_succ_eq_append_getElem h, List.foldl_append]; rfl
def vals (L : Smp) : List Int := L.map (·.2)
theorem vals_take {L : Smp} {i : Nat} (h : i < L.length) : vals (L.take (i + 1)) = vals (L.take i) ++ [L[i].2] := by
  unfold vals
  rw [List.take_succ_eq_append_getElem h, List.map_append]; rfl
theorem vals_len {L : Smp} {i : Nat} (h : i ≤ L.length) : (vals (L.take i)).length = i := by simp [vals]; omega
theorem ints_snoc (W : List Int) (v : Int) : (ints W ++ [AV.si .i64 v]).map mk = ints (W ++ [v]) := by simp [ints, mk, Function.comp_def]
theorem eslice_to {P : Program} {t e : TypeId} {es b o n c j : Nat} {i : Int} {kk : IntKind} (hu : P.underlying t = some (.slice e)) (hs : tySize P e = some es) (hi : i = (j : Int)) (hj : j ≤ c) : eslice P t (.sl b o n c 0) none (some (.int kk i)) none = some (.sl b o j c 0) := by
  subst hi
  have e1 : ebnd (some (AV.int kk (j : Int))) n = some j := rfl
  simp only [eslice, hu, hs, e1]
  simp only [ebnd]
  rw [if_pos ⟨Nat.zero_le _, hj, Nat.le_refl _⟩]
  simp
theorem smp_take : ∀ (L : Smp) (i : Nat), (smp L).take (i * 2) = smp (L.take i)
  | L, 0 => by simp [smp]
  | [], i + 1 => by simp [smp]
  | x :: L, i + 1 => by
    rw [show (i + 1) * 2 = i * 2 + 2 from by omega]
    show AV.si .i64 x.1 :: AV.si .i64 x.2 :: (smp L).take (i * 2) = _
    rw [smp_take L i]; rfl
theorem smp_sub0 {L : Smp} {j : Nat} (h : j ≤ L.length) : subL (smp L) 0 ((L.take j).length * 2) = some (smp (L.take j)) := by
  have : (L.take j).length = j := by rw [List.length_take]; omega
  rw [this]
  unfold subL
  rw [Nat.ble_eq_true_of_le (by rw [smp_length]; omega)]
  simp [smp_take]
theorem smp_whole (L : Smp) : subL (smp L) 0 (L.length * 2) = some (smp L) := subL_all (smp_length L)
/-- A function of a number and samples. -/
def natKS (B : Nat) (f : Int → Smp → AV) (args : List AV) (H : AH) (n : Nat) (κ : PK) : Prop := match args with
  | [x, l] => asI x fun k => ∃ L, SmpAt H l L ∧ L.length ≤ B ∧ κ (mkT (f k L)) H n
  | _ => False
theorem singKS {B : Nat} {f : Int → Smp → AV} : SingG (natKS B f) := .pure fun args H n κ hs => by
  unfold natKS at *
  split at hs
  · obtain ⟨k, ⟨L, h1, h2, h3⟩, k1⟩ := asI_sing hs
    exact ⟨_, h3, fun κ' h => k1 _ ⟨L, h1, h2, h⟩⟩
  · exact hs.elim
theorem natKS_ok {B : Nat} {F : FuncId → EP} (hF : TabP F) {d : Nat} {f : FuncId} {g : Int → Smp → AV} (hic : isCall Try.prog f = true) (hg : ∀ k L, flat (g k L) = true) (h0 : ∀ k, callT F d f [.si .i64 k, .nsl] .nil 0 fun u _ _ => mkT u = mkT (g k []))
    (h1 : ∀ k L cap, L.length ≤ B → callT F d f [.si .i64 k, .sl 0 0 L.length cap 0] (mkH [(0, .ro (smp L))]) 1 fun u _ _ => mkT u = mkT (g k L)) : NatP f (natKS B g) := fun args H n κ hs φ h0' hp vs K hr hargs hk => by
  unfold natKS at hs
  split at hs
  · obtain ⟨x, y, rfl, e1, e2⟩ := vs2 hargs
    obtain ⟨k, e1, L, hS, hL, hs2⟩ := asI_si e1 hs
    rcases hS.open hr e2 with ⟨rfl, hv⟩ | ⟨p, C, _, hro, hv⟩
    · exact smallN hF (hg k []) (h0 k) hs2 hr hk hic HR.ro0 (.cons (e1 : VR _ (.si .i64 k) x) (.cons (hv _) .nil))
    · exact smallN hF (hg k L) (h1 k L C hL) hs2 hr hk hic (fun hw => HR.ro1 hw hro) (.cons (by rw [e1.si_inv]; exact .si _ _) (.cons (hv _ 0 rfl).hd .nil))
  · exact hs.elim
def natKI (f : Int → List Int → AV) (args : List AV) (H : AH) (n : Nat) (κ : PK) : Prop := match args with
  | [x, l] => asI x fun k => ∃ V, IntAt H l V ∧ V.length ≤ 9223372036854775807 ∧ κ (mkT (f k V)) H n
  | _ => False
theorem singKI {f : Int → List Int → AV} : SingG (natKI f) := .pure fun args H n κ hs => by
  unfold natKI at *
  split at hs
  · obtain ⟨k, ⟨L, h1, h2, h3⟩, k1⟩ := asI_sing hs
    exact ⟨_, h3, fun κ' h => k1 _ ⟨L, h1, h2, h⟩⟩
  · exact hs.elim
theorem natKI_ok {F : FuncId → EP} (hF : TabP F) {d : Nat} {f : FuncId} {g : Int → List Int → AV} (hic : isCall Try.prog f = true) (hg : ∀ k L, flat (g k L) = true) (h0 : ∀ k, callT F d f [.si .i64 k, .nsl] .nil 0 fun u _ _ => mkT u = mkT (g k []))
    (h1 : ∀ k V cap, V.length ≤ 9223372036854775807 → callT F d f [.si .i64 k, .sl 0 0 V.length cap 0] (mkH [(0, .ro (ints V))]) 1 fun u _ _ => mkT u = mkT (g k V)) : NatP f (natKI g) := fun args H n κ hs φ h0' hp vs K hr hargs hk => by
  unfold natKI at hs
  split at hs
  · obtain ⟨x, y, rfl, e1, e2⟩ := vs2 hargs
    obtain ⟨k, e1, V, hS, hL, hs2⟩ := asI_si e1 hs
    rcases hS.open hr e2 with ⟨rfl, hv⟩ | ⟨p, C, hro, hv⟩
    · exact smallN hF (hg k []) (h0 k) hs2 hr hk hic HR.ro0 (.cons (e1 : VR _ (.si .i64 k) x) (.cons (hv _) .nil))
    · exact smallN hF (hg k V) (h1 k V C hL) hs2 hr hk hic (fun hw => HR.ro1 hw hro) (.cons (by rw [e1.si_inv]; exact .si _ _) (.cons (hv _ 0 rfl).hd .nil))
  · exact hs.elim
end Go.Proofs.Ytdfeigkooeeeaaa
namespace Go.Proofs.Ytdfeigkooeeeaaa
open Go Go.RowKit Go.ChangeShapes Go.WideShapes
set_option maxRecDepth 20000
def In64 (x : Int) : Prop := -9223372036854775808 ≤ x ∧ x ≤ 9223372036854775807
theorem rowAt_le {P : Program} {fits : TypeId → Bool} : ∀ (d : Nat) (e : TypeId) (count off n : Nat), rowAt P fits d e count off n = true → off ≤ count * P.cellsOf e
  | 0, e, count, off, n, h => by simp [rowAt] at h
  | d + 1, e, count, off, n, h => by
    unfold rowAt at h
    simp only at h
    split at h
    · cases h
    · rename_i hs
      have h0 := Nat.div_add_mod off (P.cellsOf e)
      have h1 := Nat.mod_lt off (Nat.pos_of_ne_zero hs)
      generalize off / P.cellsOf e = q at *
      generalize off % P.cellsOf e = m at *
      simp only [Bool.or_eq_true, Bool.and_eq_true, beq_iff_eq, decide_eq_true_eq] at h
      rcases h with ⟨⟨h2, h3⟩, _⟩ | ⟨h2, _⟩
      · have : P.cellsOf e * q ≤ P.cellsOf e * count := Nat.mul_le_mul_left _ (by omega)
        rw [Nat.mul_comm count]; omega
      · have : P.cellsOf e * (q + 1) ≤ P.cellsOf e * count := Nat.mul_le_mul_left _ (by omega)
        rw [Nat.mul_add, Nat.mul_one] at this
        rw [Nat.mul_comm count]; omega
theorem liesAt_le {P : Program} : ∀ (d : Nat) (e : TypeId) (count off : Nat) (u : TypeId) (n : Nat), liesAt P d e count off u n = true → off ≤ count * P.cellsOf e
  | 0, e, count, off, u, n, h => by simp [liesAt] at h
  | d + 1, e, count, off, u, n, h => by
    unfold liesAt at h
    simp only [Bool.or_eq_true] at h
    rcases h with h | h
    · exact rowAt_le _ _ _ _ _ h
    · split at h
      · exact liesAt_le d _ _ _ _ _ h
      · cases h
section
variable {H : Type} {enc : TypeId × Value → H} {P : Program} {W : World} {sp : Nat → Bool} {held : Bool}
theorem okWide_slice_at {r : Reach} {b0 : Nat} {t e : TypeId} {v : Value} (ht : P.underlying t = some (.slice e)) (hval : Value.okWide P W r b0 t v) : v = .slice none 0 0 ∨ ∃ b off len cap c u fz, v = .slice (some ⟨b, off, none⟩) len cap ∧ W.heap[b]? = some (.cells c u fz) ∧ off ≤ c.size := by
  simp only [Value.okWide, ht, Cell.okWide, Cell.ok] at hval
  split at hval
  all_goals first | (rename_i h _; cases h; done) | (rename_i h; cases h; done) | skip
  · exact .inl rfl
  · rename_i a len cap _
    obtain ⟨b, off, spot⟩ := a
    obtain ⟨_, _, _, h2, row, cells, h3, h4⟩ := hval
    change spot = none at h2
    change W.shape? b = _ at h3
    change liesAt _ _ _ _ off _ _ = true at h4
    subst h2
    unfold World.shape? at h3
    split at h3
    · rename_i c u fz hb
      injection h3 with h3
      injection h3 with h5 h6
      subst h5 h6
      refine .inr ⟨b, off, len, cap, c, _, fz, rfl, hb, ?_⟩
      exact Nat.le_trans (liesAt_le _ _ _ _ _ _ h4) (Nat.div_mul_le_self _ _)
    · cases h3
  · exact hval.elim
theorem cell_at {b off : Nat} {c : Array Value} {u : TypeId} {fz : Nat × Nat} (hb : W.heap[b]? = some (.cells c u fz)) {i : Nat} {v : Value} (h : W.cell? ((⟨b, off, none⟩ : Addr).add i) = some v) : c[off + i]? = some v := by
  have e : (⟨b, off, none⟩ : Addr).add i = ⟨b, off + i, none⟩ := by
    unfold Addr.add
    split
    · rename_i h0; subst h0; rfl
    · rfl
  rw [e] at h
  unfold World.cell? at h
  simp only [hb] at h
  simpa using h
/-- A slice of samples: two numbers each. -/
theorem open_samples {b0 : Nat} {t e : TypeId} {f0 f1 : Field} {v : Value} {d : DataW H} {ps : List MemPlace} (ht : P.underlying t = some (.slice e)) (he : P.underlying e = some (.struct #[f0, f1]))
    (ce : P.cellsOf e = 2) (o0 : f0.offset = 0) (o1 : f1.offset = 1) (c0 : P.cellsOf f0.type = 1) (c1 : P.cellsOf f1.type = 1) (hf0 : P.underlying f0.type = some (.int .i64)) (hf1 : P.underlying f1.type = some (.int .i64))
    (hval : Value.okWide P W .any b0 t v) (hd : DataW.Trod enc P W 0 (fun _ => true) held t v d ps) :
    (v = .slice none 0 0) ∨ ∃ (b off cap : Nat) (L : Smp) (D0 D1 : Nat → DataW H) (E : List (DataW H)), v = .slice (some ⟨b, off, none⟩) L.length cap ∧ L.length ≤ cap ∧ cap ≤ 9223372036854775807 ∧ RoAt (wholeHp W) ⟨b, off, L.length * 2⟩ (smp L) ∧ (∀ x ∈ L, In64 x.1 ∧ In64 x.2) ∧
      d = .slice ((List.range L.length).map fun i => .agg [D0 i, D1 i]) E := by
  obtain ⟨fuel, hf⟩ := hd
  rcases okWide_slice_at ht hval with rfl | ⟨b, off, len, cap, c, u, fz, rfl, hb, hoff⟩
  · exact .inl rfl
  right
  rcases Go.Deep.open_slice_pairs ht he ce o0 o1 c0 c1 hf with ⟨h0, _⟩ | ⟨a, len', cap', m, n, V0, V1, D0, D1, P0, P1, h1, h2, h3, h4, h5, h6, h7⟩
  · simp [Value.cells] at h0
  simp only [Value.cells, List.cons.injEq, Value.slice.injEq, Option.some.injEq, and_true] at h1
  obtain ⟨rfl, rfl, rfl⟩ := h1
  have h5 : m = cap := by simpa using h5
  subst h5
  let L : Smp := (List.range len).map fun i => (intOf (V0 i), intOf (V1 i))
  have hlen : L.length = len := by simp [L]
  have hat : ∀ i (h : i < L.length), L[i] = (intOf (V0 i), intOf (V1 i)) := fun i h => by simp [L]
  have hint : ∀ i, i < len → ∃ x y, V0 i = .int .i64 x ∧ V1 i = .int .i64 y ∧ In64 x ∧ In64 y := fun i hi => by
    obtain ⟨_, _, g3, g4⟩ := h7 i (by omega)
    obtain ⟨x, hx, _, wx⟩ := DataW.trod_int hf0 g3
    obtain ⟨y, hy, _, wy⟩ := DataW.trod_int hf1 g4
    simp only [List.cons.injEq, and_true] at hx hy
    refine ⟨x, y, hx, hy, ?_, ?_⟩
    · simp [Lit.wf, IntKind.min, IntKind.max, IntKind.signed, IntKind.bits] at wx; unfold In64; omega
    · simp [Lit.wf, IntKind.min, IntKind.max, IntKind.signed, IntKind.bits] at wy; unfold In64; omega
  refine ⟨b, off, m, L, D0, D1, (List.range (m - len)).map fun j => .agg [D0 (len + j), D1 (len + j)], by rw [hlen], by omega, by unfold maxLen at h4; omega, ?_, ?_, ?_⟩
  · refine ⟨c, u, fz, hb, Nat.le_of_eq (smp_length L), ?_, ?_⟩
    · simp only [hlen]
      cases hl : len with
      | zero => omega
      | succ k =>
        obtain ⟨_, g2, _, _⟩ := h7 k (by omega)
        have := cell_at hb g2
        have := (Array.getElem?_eq_some_iff.1 this).1
        omega
    · intro ψ i a hi
      have hi2 := (List.getElem?_eq_some_iff.1 hi).1
      rw [smp_length, hlen] at hi2
      obtain ⟨j, q, hj, hq⟩ : ∃ j q, i = j * 2 + q ∧ q < 2 := ⟨i / 2, i % 2, by omega, by omega⟩
      have hjl : j < len := by omega
      have hjL : j < L.length := by omega
      obtain ⟨x, y, hx, hy, _, _⟩ := hint j hjl
      obtain ⟨g1, g2, _, _⟩ := h7 j (by omega)
      rcases (show q = 0 ∨ q = 1 by omega) with rfl | rfl
      · have e1 := smp_nth0 hjL (o := i) (by omega)
        rw [nth_eq, hi] at e1
        injection e1 with e1
        subst e1
        refine ⟨V0 j, ?_, ?_⟩
        · have := cell_at hb g1
          rw [hj]; exact this
        · rw [hat j hjL, hx]; exact .si _ _
      · have e1 := smp_nth1 hjL (o := i) (by omega)
        rw [nth_eq, hi] at e1
        injection e1 with e1
        subst e1
        refine ⟨V1 j, ?_, ?_⟩
        · have := cell_at hb g2
          rw [hj]; exact this
        · rw [hat j hjL, hy]; exact .si _ _
  · intro x hx
    simp only [L, List.mem_map, List.mem_range] at hx
    obtain ⟨i, hi, rfl⟩ := hx
    obtain ⟨x, y, hx, hy, g1, g2⟩ := hint i hi
    rw [hx, hy]
    exact ⟨g1, g2⟩
  · simp only [Prod.mk.injEq] at h6
    rw [h6.1, hlen]
end
theorem sized_len {H : Type} {P : Program} {ts : List TypeId} {ds : List (DataW H)} (h : (DataW.weightsEach P ts ds).all (· ≤ reachBytes) = true) {j n : Nat} {t e : TypeId} {F : Nat → DataW H} {E : List (DataW H)} (ht : ts[j]? = some t) (hd : ds[j]? = some (.slice ((List.range n).map F) E)) (hu : P.underlying t = some (.slice e)) (hb : P.bytesOf e = 16) : n ≤ 8796093022208 := by
  have := sized_slice h ht hd hu
  rw [hb, List.length_map, List.length_range] at this
  unfold reachBytes at this
  omega
/-- A law that the machine finds true, its arguments in memory. -/
theorem evP_callsM {F : FuncId → EP} (hF : TabP F) {d : Nat} {f : FuncId} {args : List AV} {H0 : AH} {n0 : Nat} {φ0 : Ph} {vs : Array Value} (he : callT F d f args H0 n0 fun v _ _ => v = .bool true ∨ v = .sb true) (w : World)
    (hr0 : HR φ0 H0 n0 (wholeHp w) (wholeHp w)) (hargs : VRs φ0 args vs.toList) : Calls Try.prog f vs w fun e w' => e = .returned (.bool true) ∧ Below w.heap.size w w' := by
  have hs := callT_sound (by kernel_rfl) hF d f args H0 n0 _ he _ (wholeHp w) (wholeHp w) vs (fun v g => v = .bool true ∧ (wholeHp w).n ≤ g.n ∧ ∀ b o, (wholeHp w).f b = some o → g.f b = some o) hr0 hargs
    (fun ψ v H n u g _ hg hu hv => ⟨by rcases hv with rfl | rfl; exact hu.bool_inv; exact hu.sb_inv, hg.size, fun b o hb => (hg.base b o hb).2⟩)
  refine (hs.2 w (wholeHp_is w)).mono fun e' w' ⟨v, g, h1, h2, h3, h4, h5, h6⟩ => ?_
  subst h1 h4
  refine ⟨rfl, h3.1, h3.2.1, h3.2.2, ?_, fun b hb => ?_⟩
  · rw [h2.1]; exact h5
  · have := h6 b _ (show (wholeHp w).f b = some w.heap[b] from Array.getElem?_eq_getElem hb)
    rw [h2.2 b _ this, Array.getElem?_eq_getElem hb]
end Go.Proofs.Ytdfeigkooeeeaaa
namespace Go.Proofs.Ytdfeigkooeeeaaa
open Go Go.RowKit
set_option maxRecDepth 20000
section
variable {φ ψ : Ph} {H : AH} {n : Nat} {h0 h hp : Hp}
/-- A block that another run made, under a name of ours. -/
theorem HR.add (hr : HR φ H n h0 h) {q : Pl} {o : AO} {ob : Obj} (hq0 : h0.f q.B = none) (hqn : q.B < h.n) (hq : h.f q.B = some ob) (ho : OR (PNew φ n q) q o ob) (hw : o.own = true) (hfr : ∀ b o p, H.get b = some o → φ b = some p → o.own = true → p.B ≠ q.B) (hfz : ∀ z, φ.z z → q.B ≠ z.B) (d : Nat) : HR (PNew φ n q) (H.set (some o) d n) (n + 1) h0 h := by
  refine ⟨fun x r hx => ?_, fun x r hx => ?_, fun x y r r' px py hx hy hwx hwy hpx hpy e => ?_, hr.base, hr.size, fun z hz => ⟨⟨FzR.mono (hr.ple _).z (hr.frz z hz).1.1, (hr.frz z hz).1.2⟩, fun y oy py hy hwy hpy => ?_⟩⟩
  · simp only [PNew] at hx
    split at hx
    · injection hx with hx; subst hx; exact ⟨by omega, hqn⟩
    · have := hr.dom x r hx; omega
  · rcases PM.get_set d _ n x r hx with ⟨rfl, h2⟩ | ⟨h1, h2⟩
    · injection h2 with h2
      subst h2
      exact .inr ⟨_, ob, PNew_same _ _ _, by rw [AO.under_own hw]; exact hq0, hq, ho⟩
    · rcases hr.live x r h2 with ⟨hv, hv2⟩ | ⟨px, obx, h5, h6, h7, h8⟩
      · exact .inl ⟨by simp only [PNew, if_neg h1]; exact hv, hv2⟩
      exact .inr ⟨px, obx, hr.ple _ _ _ h5, h6, h7, h8.mono (hr.ple _)⟩
  · have cs : ∀ z r pz, (H.set (some o) d n).get z = some r → PNew φ n q z = some pz → (z = n ∧ pz = q) ∨ (z ≠ n ∧ H.get z = some r ∧ φ z = some pz) := fun z r pz hz hpz => by
      rcases PM.get_set d _ n z r hz with ⟨rfl, _⟩ | ⟨h1, h2⟩
      · rw [PNew_same] at hpz; injection hpz with hpz; exact .inl ⟨rfl, hpz.symm⟩
      · simp only [PNew, if_neg h1] at hpz
        exact .inr ⟨h1, h2, hpz⟩
    rcases cs x r px hx hpx with ⟨a1, a2⟩ | ⟨a1, a2, a3⟩ <;> rcases cs y r' py hy hpy with ⟨b1, b2⟩ | ⟨b1, b2, b3⟩
    · omega
    · exact (hfr y r' py b2 b3 hwy (by rw [← e, a2])).elim
    · exact (hfr x r px a2 a3 hwx (by rw [e, b2])).elim
    · exact hr.inj x y r r' px py a2 b2 hwx hwy a3 b3 e
  · rcases PM.get_set d _ n y oy hy with ⟨rfl, h2⟩ | ⟨h1, h2⟩
    · rw [PNew_same] at hpy; injection hpy with hpy; subst hpy; exact hfz z hz
    · simp only [PNew, if_neg h1] at hpy
      exact (hr.frz z hz).2 y oy py h2 hwy hpy
/-- What a run on a small memory yields: no row, or a new one. -/
def NewRow (R : Smp) (u : AV) (H' : AH) : Prop := (R = [] ∧ u = .nsl) ∨ (R ≠ [] ∧ ∃ b c l, u = .sl b 0 R.length c 2 ∧ R.length ≤ c ∧ H'.get b = some (.cells l true) ∧ l.map mk = smp R)
theorem PM.get_set_ne {α : Type} {v : Option α} {x : α} : ∀ (f : Nat) (t : PM α) (n m : Nat), n + 1 < 2 ^ f → m ≠ n → t.get m = some x → (PM.set v f t n).get m = some x
  | 0, t, n, m, h, _, _ => by simp at h
  | f + 1, .nil, n, m, h, hm, e => by cases e
  | f + 1, .node l u r, 0, m, h, hm, e => by
    cases m with
    | zero => exact absurd rfl hm
    | succ m =>
      show (PM.node l v r).get (m + 1) = some x
      rw [PM.get_succ] at e ⊢
      exact e
  | f + 1, .node l u r, n + 1, m, h, hm, e => by
    have hp : (PM.node l u r).set v (f + 1) (n + 1) = (Nat.rec (.node (PM.set v f l (n / 2)) u r) (fun _ _ => .node l u (PM.set v f r (n / 2))) (n % 2) : PM α) := rfl
    have h2 : n / 2 + 1 < 2 ^ f := by rw [Nat.pow_succ] at h; omega
    rcases Nat.mod_two_eq_zero_or_one n with q | q <;> rw [q] at hp
    · have hp : (PM.node l u r).set v (f + 1) (n + 1) = .node (PM.set v f l (n / 2)) u r := hp
      rw [hp]
      cases m with
      | zero => exact e
      | succ m =>
        rw [PM.get_succ] at e ⊢
        split
        · rename_i hq
          rw [if_pos hq] at e
          exact PM.get_set_ne f l (n / 2) (m / 2) h2 (by omega) e
        · rename_i hq
          rw [if_neg hq] at e
          exact e
    · have hp : (PM.node l u r).set v (f + 1) (n + 1) = .node l u (PM.set v f r (n / 2)) := hp
      rw [hp]
      cases m with
      | zero => exact e
      | succ m =>
        rw [PM.get_succ] at e ⊢
        split
        · rename_i hq
          rw [if_pos hq] at e
          exact e
        · rename_i hq
          rw [if_neg hq] at e
          exact PM.get_set_ne f r (n / 2) (m / 2) h2 (by omega) e
/-! ### a new row, wherever it stands in what is yielded -/
def RowPW (W : AV → AV) (R : Smp) (H : AH) (n : Nat) (κ : PK) : Prop := (H.get n = none ∧ n < 1000000) ∧ κ (W (.rw n 0 R.length 2 0)) (H.set (some (.cells (smp R) true)) depthH n) (n + 1)
def NewRowG (R : Smp) (u : AV) (H' : AH) : Prop := (R = [] ∧ hd u = .nsl) ∨ (R ≠ [] ∧ ∃ b c k l, hd u = .sl b 0 R.length c k ∧ R.length ≤ c ∧ H'.get b = some (.cells l true) ∧ R.length * 2 ≤ l.length ∧ (l.take (R.length * 2)).map mk = smp R ∧ (k = 2 ∨ k = 0 ∧ c * 2 ≤ l.length)) ∨ ∃ b o x l r, u = .rw b o R.length 2 x ∧ x < 2 ∧ H'.get b = some (.cells l true) ∧ subL l o (R.length * 2) = some r ∧ r.map mk = smp R
/-- A block without a place. -/
theorem HR.phantom (hr : HR φ H n h0 hp) {o : AO} (ho : o.void = true) : HR φ (H.set (some o) depthH n) (n + 1) h0 hp := by
  have hno : φ n = none := by
    cases hq : φ n with
    | none => rfl
    | some p => exact absurd (hr.dom n p hq).1 (Nat.lt_irrefl _)
  refine ⟨fun b p hb => ⟨Nat.lt_succ_of_lt (hr.dom b p hb).1, (hr.dom b p hb).2⟩, fun b q hb => ?_, fun x y q q' px py hx hy hwx hwy hpx hpy ee => ?_, hr.base, hr.size, fun z hz => ⟨(hr.frz z hz).1, fun y oy py hy hwy hpy => ?_⟩⟩
  rotate_left 2
  · rcases PM.get_set _ _ n y oy hy with ⟨rfl, _⟩ | ⟨_, h2⟩
    · rw [hno] at hpy; cases hpy
    · exact (hr.frz z hz).2 y oy py h2 hwy hpy
  · rcases PM.get_set depthH _ n b q hb with ⟨rfl, h2⟩ | ⟨_, h2⟩
    · injection h2 with h2; subst h2; exact .inl ⟨hno, ho⟩
    · exact hr.live b q h2
  · have old : ∀ z r pz, (H.set (some o) depthH n).get z = some r → φ z = some pz → H.get z = some r := fun z r pz hz hpz => by
      rcases PM.get_set depthH _ n z r hz with ⟨rfl, _⟩ | ⟨_, h2⟩
      · rw [hno] at hpz; cases hpz
      · exact h2
    exact hr.inj x y q q' px py (old x q px hx hpx) (old y q' py hy hpy) hwx hwy hpx hpy ee
theorem newRow_use {H' : AH} {n' : Nat} {g : Hp} {R : Smp} {r : AV} {w : Value} (hr : HR φ H n h0 hp) (hg : HR ψ H' n' hp g) (hu : VR ψ r w) (he : NewRowG R r H') : ∃ χ, PLe φ χ ∧ HR χ (H.set (some (.cells (smp R) true)) depthH n) (n + 1) h0 g ∧ VR χ (.rw n 0 R.length 2 0) w := by
  have hg2 : HR φ H n h0 g := hr.grow (fun b o hb => (hg.base b o hb).2) hg.size
  -- a block of the run, at a place of its own
  have core : ∀ (q : Pl) (l r : List AV) (b o a C : Nat), H'.get b = some (.cells l true) → ψ b = some q → R.length ≤ C → q.s ≤ a → a + C * 2 ≤ q.s + q.T → (R ≠ [] → a = q.s + o ∧ subL l o (R.length * 2) = some r ∧ r.map mk = smp R) → w = .slice (some ⟨q.B, a, none⟩) R.length C → ∃ χ, PLe φ χ ∧ HR χ (H.set (some (.cells (smp R) true)) depthH n) (n + 1) h0 g ∧ VR χ (.rw n 0 R.length 2 0) w := by
    intro q l r b o a C hb hqb hRC ha1 ha2 hsub hw
    subst hw
    obtain ⟨ob, hq0, hq1, hor⟩ := hg.of hb hqb
    have hq0 : hp.f q.B = none := hq0
    have hh0 : h0.f q.B = none := by
      cases hx : h0.f q.B with
      | none => rfl
      | some o => have := (hr.base _ _ hx).2; rw [hq0] at this; cases this
    obtain ⟨cc, t, fz, rfl, o1, o2, o3, o4, o5⟩ := hor
    have hor' : OR (PNew φ n ⟨q.B, a, C * 2⟩) ⟨q.B, a, C * 2⟩ (.cells (smp R) true) (.cells cc t fz) := by
      have hfree : Free fz a (C * 2) := o3.sub (by omega)
      refine ⟨cc, t, fz, rfl, by rw [smp_length]; simp only; omega, (show a + C * 2 ≤ cc.size by omega), hfree, o4, ?_⟩
      by_cases hR : R = []
      · subst hR
        exact fun i a hi => by simp [smp] at hi
      · obtain ⟨rfl, h1, h2⟩ := hsub hR
        obtain ⟨h3, h4⟩ := subL_spec h1
        have o6 : CR ψ cc (q.s + o) r := by subst h4; exact CR.drop o5
        exact CR.mk_flat o6 (by rw [h2, smp_map]) (smp_flat R)
    have hnew := hg2.add (q := ⟨q.B, a, C * 2⟩) hh0 (hg.dom _ _ hqb).2 hq1 hor' rfl (fun b' o' p' e1 e2 _ e3 => by
      obtain ⟨ob2, _, f2, _⟩ := hr.of e1 e2
      rw [e3, hq0] at f2
      cases f2) (fun z hz e => by
      obtain ⟨_, c, t, fz, f2, _⟩ := (hr.frz z hz).1.1
      have e : q.B = z.B := e
      rw [← e, hq0] at f2
      cases f2) depthH
    exact ⟨_, hr.ple _, hnew, .rw (p := ⟨q.B, a, C * 2⟩) (PNew_same _ _ _) (fun _ => rfl) (Nat.le_refl _) hRC (Nat.le_refl _)⟩
  have none : R = [] → w = .slice none 0 0 → ∃ χ, PLe φ χ ∧ HR χ (H.set (some (.cells (smp R) true)) depthH n) (n + 1) h0 g ∧ VR χ (.rw n 0 R.length 2 0) w := fun h1 h2 => by
    subst h1 h2
    exact ⟨φ, .refl _, hg2.phantom rfl, .rwn⟩
  rcases he with ⟨h1, e1⟩ | ⟨h1, b, c, k, l, e1, hc, hb, hlen, hl, hk⟩ | ⟨b, o, x, l, r', e1, hx2, hb, hsub, hmk⟩
  · have := hu.hd
    rw [e1] at this
    exact none h1 this.nsl_inv
  · have hu := hu.hd
    rw [e1] at hu
    obtain ⟨q, C, hqb, rfl, hC0, hC⟩ := hu.sl_inv
    have hT : R.length ≤ C ∧ C * 2 ≤ q.T := by
      rcases hk with rfl | ⟨rfl, hk⟩
      · obtain ⟨hC1, hC2⟩ := hC (by decide)
        exact ⟨by omega, by omega⟩
      · have := hC0 rfl
        have := hg.room _ _ _ hb hqb
        simp only [AO.size] at this
        exact ⟨by omega, by omega⟩
    refine core q l (l.take (R.length * 2)) b 0 q.s C hb hqb hT.1 (Nat.le_refl _) (by omega) (fun _ => ⟨rfl, ?_, hl⟩) rfl
    unfold subL
    rw [Nat.zero_add, Nat.ble_eq_true_of_le hlen]
    rfl
  · rw [e1] at hu
    rcases hu.rw_inv with ⟨h1, h2⟩ | ⟨q, a, C, hqb, rfl, h2, h3, h4, _, h5, _⟩
    · exact none (List.eq_nil_of_length_eq_zero h1) (h2.nil (by omega))
    · exact core q l r' b o a C hb hqb h4 h3 (h5 hx2) (fun hR => ⟨h2 (fun q => hR (List.eq_nil_of_length_eq_zero q)), hsub, hmk⟩) rfl
theorem smallNew1 {F : FuncId → EP} (hF : TabP F) {d : Nat} {f : FuncId} {args0 : List AV} {H0 : AH} {n0 : Nat} {R : Smp} {P : AV → AH → Prop} (hP : ∀ u H', P u H' → NewRowG R u H') (hrun : callT F d f args0 H0 n0 fun u H' _ => P u H')
    {vs : Array Value} {κ : PK} {K : KH} (hs : RowPW (fun r => r) R H n κ) (hr : HR φ H n h0 hp) (hk : ThenP φ h0 κ K) (hic : isCall Try.prog f = true) {φ0 : Ph} (hr0 : Wf hp → HR φ0 H0 n0 hp hp) (hargs : VRs φ0 args0 vs.toList) : CallF Try.prog f vs hp K := by
  have key : Wf hp → CallF Try.prog f vs hp K := fun hw => callT_sound (by kernel_rfl) hF d f args0 H0 n0 _ hrun φ0 hp hp vs K (hr0 hw) hargs fun ψ u H' n' w g _ hg hu he => by
    have hg2 : HR φ H n h0 g := hr.grow (fun b o hb => (hg.base b o hb).2) hg.size
    obtain ⟨χ, h3, h4, h5⟩ := newRow_use hr hg hu (hP _ _ he)
    exact hk χ _ _ _ _ g h3 h4 h5 hs.2
  exact ⟨hic, fun w hi => (key hi.wf).2 w hi⟩
theorem RowPW.sing {W : AV → AV} {R : Smp} {κ : PK} (h : RowPW W R H n κ) : ∃ v H' n', κ v H' n' ∧ GrowsA H H' ∧ n ≤ n' ∧ ∀ κ' : PK, κ' v H' n' → RowPW W R H n κ' := by
  obtain ⟨⟨h1, h2⟩, h3⟩ := h
  refine ⟨_, _, _, h3, fun b o hb => ?_, Nat.le_succ _, fun κ' k => ⟨⟨h1, h2⟩, k⟩⟩
  refine PM.get_set_ne _ _ _ _ ?_ (fun q => by rw [q, h1] at hb; cases hb) hb
  have : (1000001 : Nat) < 2 ^ depthH := by show 1000001 < 2 ^ 40; decide
  omega
theorem NewRowG.full {R : Smp} {b c : Nat} {l : List AV} {H' : AH} {u : AV} (hR : R ≠ []) (h1 : hd u = .sl b 0 R.length c 2) (hc : R.length ≤ c) (h2 : H'.get b = some (.cells l true)) (h3 : l.map mk = smp R) : NewRowG R u H' := by
  have hl : l.length = R.length * 2 := by have := congrArg List.length h3; rw [List.length_map, smp_length] at this; exact this
  exact .inr (.inl ⟨hR, b, c, 2, l, h1, hc, h2, by omega, by rw [List.take_of_length_le (by omega)]; exact h3, .inl rfl⟩)
theorem NewRowG.rw {R : Smp} {b o x : Nat} {l r : List AV} {H' : AH} {u : AV} (h1 : u = .rw b o R.length 2 x) (h2 : H'.get b = some (.cells l true)) (h3 : subL l o (R.length * 2) = some r) (h4 : r.map mk = smp R) (hx : x < 2 := by decide) : NewRowG R u H' := .inr (.inr ⟨b, o, x, l, r, h1, hx, h2, h3, h4⟩)
theorem NewRow.g {R : Smp} {u : AV} {H' : AH} (h : NewRow R u H') : NewRowG R u H' := by
  rcases h with ⟨h1, rfl⟩ | ⟨h1, b, c, l, rfl, hc, hb, hl⟩
  · exact .inl ⟨h1, rfl⟩
  · exact NewRowG.full h1 rfl hc hb hl
end
def RowP (R : Smp) (H : AH) (n : Nat) (κ : PK) : Prop := RowPW (fun r => r) R H n κ
theorem RowP.sing {R : Smp} {H : AH} {n : Nat} {κ : PK} (h : RowP R H n κ) : ∃ v H' n', κ v H' n' ∧ GrowsA H H' ∧ n ≤ n' ∧ ∀ κ' : PK, κ' v H' n' → RowP R H n κ' := RowPW.sing h
/-- A function of three numbers and samples that yields samples. -/
def natB (B : Nat) (f : Int → Int → Int → Smp → Smp) (args : List AV) (H : AH) (n : Nat) (κ : PK) : Prop := match args with
  | [x, y, z, l] => asI x fun k => asI y fun s => asI z fun a => ∃ L, SmpAt H l L ∧ L.length ≤ B ∧ RowP (f k s a L) H n κ
  | _ => False
theorem singB {B : Nat} {f : Int → Int → Int → Smp → Smp} : SingG (natB B f) := fun args H n κ hs => by
  unfold natB at *
  split at hs
  · obtain ⟨x, h1, k1⟩ := asI_sing hs
    obtain ⟨y, h2, k2⟩ := asI_sing h1
    obtain ⟨z, ⟨L, h3, h4, h5⟩, k3⟩ := asI_sing h2
    obtain ⟨v, H', n', h6, h7, h8, h9⟩ := h5.sing
    exact ⟨v, H', n', h6, h7, h8, fun κ' k => k1 _ (k2 _ (k3 _ ⟨L, h3, h4, h9 κ' k⟩))⟩
  · exact hs.elim
theorem natB_ok {B : Nat} {F : FuncId → EP} (hF : TabP F) {d : Nat} {f : FuncId} {g : Int → Int → Int → Smp → Smp} (hic : isCall Try.prog f = true) (h0 : ∀ k s a, callT F d f [.si .i64 k, .si .i64 s, .si .i64 a, .nsl] .nil 0 fun u H' _ => NewRow (g k s a []) u H')
    (h1 : ∀ k s a L cap, L.length ≤ B → L.length ≤ cap → callT F d f [.si .i64 k, .si .i64 s, .si .i64 a, .sy 0 0 L.length cap 0] (mkH [(0, .ro (smp L))]) 1 fun u H' _ => NewRow (g k s a L) u H') : NatP f (natB B g) := fun args H n κ hs φ h0' hp vs K hr hargs hk => by
  unfold natB at hs
  split at hs
  · obtain ⟨v1, l1, e1, hv1, t1⟩ := hargs.cons_inv
    obtain ⟨v2, l2, e2, hv2, t2⟩ := t1.cons_inv
    obtain ⟨v3, l3, e3, hv3, t3⟩ := t2.cons_inv
    obtain ⟨v4, l4, e4, hv4, t4⟩ := t3.cons_inv
    have e5 := t4.nil_inv
    subst e5 e4 e3 e2
    obtain ⟨k, hv1, hs⟩ := asI_si hv1 hs
    obtain ⟨s, hv2, hs⟩ := asI_si hv2 hs
    obtain ⟨a, hv3, L, hS, hL, hs2⟩ := asI_si hv3 hs
    have t3 : ∀ (χ : Ph) (x : AV), VR χ x v4 → VRs χ [.si .i64 k, .si .i64 s, .si .i64 a, x] vs.toList := fun χ x hx => by
      rw [e1]
      exact .cons (by rw [hv1.si_inv]; exact .si _ _) (.cons (by rw [hv2.si_inv]; exact .si _ _) (.cons (by rw [hv3.si_inv]; exact .si _ _) (.cons hx .nil)))
    rcases hS.open hr hv4 with ⟨rfl, hv⟩ | ⟨p, C, hC, hro, hv⟩
    · exact smallNew1 hF (fun _ _ h => h.g) (h0 k s a) hs2 hr hk hic HR.ro0 (t3 _ _ (hv _))
    · exact smallNew1 hF (fun _ _ h => h.g) (h1 k s a L C hL hC) hs2 hr hk hic (fun hw => HR.ro1 hw hro) (t3 _ _ (hv _ 0 rfl))
  · exact hs.elim
end Go.Proofs.Ytdfeigkooeeeaaa
namespace Go.Proofs.Ytdfeigkooeeeaaa
open Go Go.RowKit
set_option maxRecDepth 20000
structure Qry where
  f : Int
  t : Int
  back : Bool
  count : Int
  kind : Int
  size : Int
  align : Int
  empty : Bool
  times : List Int
  vals : Bool
  low : Int
  high : Int
/-- A query whose times are the slice 'a'. -/
def qCells (Q : Qry) (a : AV) : List AV := [.si .i64 Q.f, .si .i64 Q.t, .sb Q.back, .si .i64 Q.count, .si .i64 Q.kind, .si .i64 Q.size, .si .i64 Q.align, .sb Q.empty, a, .sb Q.vals, .si .i64 Q.low, .si .i64 Q.high]
def qAV (b o cap k : Nat) (Q : Qry) : AV := .agg (qCells Q (.sy b o Q.times.length cap k))
def qNil (Q : Qry) : AV := .agg (qCells Q .nsl)
/-- Cells that hold a query. -/
def QryAt (H : AH) (a : AV) (Q : Qry) : Prop := ∃ x0 x1 x2 x3 x4 x5 x6 x7 x8 x9 x10 x11, a = .agg [x0, x1, x2, x3, x4, x5, x6, x7, x8, x9, x10, x11] ∧ IntAt H x8 Q.times ∧ [mk x0, mk x1, mk x2, mk x3, mk x4, mk x5, mk x6, mk x7, mk x9, mk x10, mk x11] = [.si .i64 Q.f, .si .i64 Q.t, .sb Q.back, .si .i64 Q.count, .si .i64 Q.kind, .si .i64 Q.size, .si .i64 Q.align, .sb Q.empty, .sb Q.vals, .si .i64 Q.low, .si .i64 Q.high]
section
variable {φ ψ : Ph} {H : AH} {n : Nat} {h0 hp : Hp}
theorem SubV.agg {m : Nat} {r : Nat → Nat} {l : List AV} (h : ∀ a ∈ l, SubV H m r a a) : SubV H m r (.agg l) (.agg l) := fun φ ψ v hren hroom hv => by
  obtain ⟨cs, rfl, h1⟩ := hv.agg_inv
  refine .agg ?_
  have key : ∀ (l : List AV) (vs : List Value), (∀ a ∈ l, SubV H m r a a) → VRs φ l vs → VRs ψ l vs := by
    intro l
    induction l with
    | nil => intro vs _ h; rw [h.nil_inv]; exact .nil
    | cons a l ih =>
      intro vs hl h
      obtain ⟨w, ws, rfl, h2, h3⟩ := h.cons_inv
      exact .cons (hl a List.mem_cons_self φ ψ w hren hroom h2) (ih ws (fun x hx => hl x (List.mem_cons_of_mem _ hx)) h3)
  exact key l _ h h1
theorem SubV.qry {m : Nat} {r : Nat → Nat} {b o cap k : Nat} {Q : Qry} (hb : b < m) (hr : r b = b) : SubV H m r (qAV b o cap k Q) (qAV b o cap k Q) := by
  refine SubV.agg fun a ha => ?_
  simp only [qCells, List.mem_cons, List.not_mem_nil, or_false] at ha
  rcases ha with rfl | rfl | rfl | rfl | rfl | rfl | rfl | rfl | rfl | rfl | rfl | rfl
  all_goals first | exact .same rfl | exact SubV.sy hb (by rw [hr]; rfl)
theorem SubV.qnil {m : Nat} {r : Nat → Nat} {Q : Qry} : SubV H m r (qNil Q) (qNil Q) := .same rfl
theorem SubV.qcell {m : Nat} {r : Nat → Nat} {b o cap k : Nat} {Q : Qry} (hb : b < m) (hr : r b = b) {a : AV} (ha : a ∈ qCells Q (.sy b o Q.times.length cap k)) : SubV H m r a a := by
  simp only [qCells, List.mem_cons, List.not_mem_nil, or_false] at ha
  rcases ha with rfl | rfl | rfl | rfl | rfl | rfl | rfl | rfl | rfl | rfl | rfl | rfl
  all_goals first | exact .same rfl | exact SubV.sy hb (by rw [hr]; rfl)
theorem SubO.qcells {m : Nat} {r : Nat → Nat} {b o cap k : Nat} {Q : Qry} {z : Bool} (hb : b < m) (hr : r b = b) : SubO H m r (.cells (qCells Q (.sy b o Q.times.length cap k)) z) (.cells (qCells Q (.sy b o Q.times.length cap k)) z) :=
  SubO.cells (Nat.le_refl _) (fun q => q) fun _ a' hi => ⟨a', hi, SubV.qcell hb hr (List.mem_of_getElem? hi)⟩
theorem SubO.qcellsn {m : Nat} {r : Nat → Nat} {Q : Qry} {z : Bool} : SubO H m r (.cells (qCells Q .nsl) z) (.cells (qCells Q .nsl) z) :=
  SubO.cells_mk rfl rfl (fun q => q)
theorem QryAt.core (_ : HR φ H n h0 hp) {a : AV} {Q : Qry} {v : Value} (hq : QryAt H a Q) (hv : VR φ a v) : ∃ a8 v8, IntAt H a8 Q.times ∧ VR φ a8 v8 ∧ ∀ (χ : Ph) (a : AV), VR χ a v8 → VR χ (.agg (qCells Q a)) v := by
  obtain ⟨x0, x1, x2, x3, x4, x5, x6, x7, x8, x9, x10, x11, rfl, hI, he⟩ := hq
  obtain ⟨cs, rfl, h1⟩ := hv.agg_inv
  obtain ⟨v0, l0, e0, a0, t0⟩ := h1.cons_inv
  obtain ⟨v1, l1, e1, a1, t1⟩ := t0.cons_inv
  obtain ⟨v2, l2, e2, a2, t2⟩ := t1.cons_inv
  obtain ⟨v3, l3, e3, a3, t3⟩ := t2.cons_inv
  obtain ⟨v4, l4, e4, a4, t4⟩ := t3.cons_inv
  obtain ⟨v5, l5, e5, a5, t5⟩ := t4.cons_inv
  obtain ⟨v6, l6, e6, a6, t6⟩ := t5.cons_inv
  obtain ⟨v7, l7, e7, a7, t7⟩ := t6.cons_inv
  obtain ⟨v8, l8, e8, a8, t8⟩ := t7.cons_inv
  obtain ⟨v9, l9, e9, a9, t9⟩ := t8.cons_inv
  obtain ⟨v10, l10, e10, a10, t10⟩ := t9.cons_inv
  obtain ⟨v11, l11, e11, a11, t11⟩ := t10.cons_inv
  have e12 := t11.nil_inv
  subst e12 e11 e10 e9 e8 e7 e6 e5 e4 e3 e2 e1
  simp only [List.cons.injEq, and_true] at he
  obtain ⟨m0, m1, m2, m3, m4, m5, m6, m7, m9, m10, m11⟩ := he
  have q0 := m0 ▸ a0.mk
  have q1 := m1 ▸ a1.mk
  have q2 := m2 ▸ a2.mk
  have q3 := m3 ▸ a3.mk
  have q4 := m4 ▸ a4.mk
  have q5 := m5 ▸ a5.mk
  have q6 := m6 ▸ a6.mk
  have q7 := m7 ▸ a7.mk
  have q9 := m9 ▸ a9.mk
  have q10 := m10 ▸ a10.mk
  have q11 := m11 ▸ a11.mk
  have key : ∀ (χ : Ph) (a : AV), VR χ a v8 → VR χ (.agg (qCells Q a)) (.agg cs) := fun χ a ha => by
    refine .agg ?_
    rw [e0]
    exact .cons (flat1_VR rfl q0) (.cons (flat1_VR rfl q1) (.cons (flat1_VR rfl q2) (.cons (flat1_VR rfl q3) (.cons (flat1_VR rfl q4) (.cons (flat1_VR rfl q5) (.cons (flat1_VR rfl q6) (.cons (flat1_VR rfl q7) (.cons ha (.cons (flat1_VR rfl q9) (.cons (flat1_VR rfl q10) (.cons (flat1_VR rfl q11) .nil)))))))))))
  exact ⟨x8, v8, hI, a8, key⟩
/-- A query's value, seen from a memory of its own. -/
theorem QryAt.open (hr : HR φ H n h0 hp) {a : AV} {Q : Qry} {v : Value} (hq : QryAt H a Q) (hv : VR φ a v) : (Q.times = [] ∧ ∀ χ, VR χ (qNil Q) v) ∨ ∃ p C, RoAt hp p (ints Q.times) ∧ ∀ χ b, χ b = some p → VR χ (qAV b 0 C 0 Q) v := by
  obtain ⟨a8, v8, hI, h8, key⟩ := hq.core hr hv
  rcases hI.open hr h8 with ⟨hn, hx⟩ | ⟨p, C, hro, hx⟩
  · exact .inl ⟨hn, fun χ => key χ .nsl (hx χ)⟩
  · exact .inr ⟨p, C, hro, fun χ b hχ => key χ _ (hx χ b hχ)⟩
def tupE (e : Int) (r : AV) : AV := .tup [r, .si .i64 e]
/-- What a run yields: a row and a number. -/
def RowNum (R : Smp) (e : Int) (u : AV) (H' : AH) : Prop := ∃ r w, u = .tup [r, w] ∧ mk w = .si .i64 e ∧ NewRowG R r H'
theorem tup2 {a b c d : AV} {v : Value} {χ : Ph} (h : VR ψ (.tup [a, b]) v) (hb : mk b = d) (hd : flat.flat1 d = true) : ∃ x y, v = .tuple #[x, y] ∧ VR ψ a x ∧ (VR χ c x → VR χ (.tup [c, d]) v) := by
  obtain ⟨cs, rfl, h1⟩ := h.tup_inv
  obtain ⟨x, y, rfl, h2, h3⟩ := vs2 h1
  exact ⟨x, y, rfl, h2, fun hc => .tup (.cons hc (.cons (flat1_VR hd (hb ▸ h3.mk)) .nil))⟩
theorem smallNewE {F : FuncId → EP} (hF : TabP F) {d : Nat} {f : FuncId} {args0 : List AV} {H0 : AH} {n0 : Nat} {R : Smp} {e : Int} {P : AV → AH → Prop} (hP : ∀ u H', P u H' → RowNum R e u H') (hrun : callT F d f args0 H0 n0 fun u H' _ => P u H')
    {vs : Array Value} {κ : PK} {K : KH} (hs : RowPW (tupE e) R H n κ) (hr : HR φ H n h0 hp) (hk : ThenP φ h0 κ K) (hic : isCall Try.prog f = true) {φ0 : Ph} (hr0 : Wf hp → HR φ0 H0 n0 hp hp) (hargs : VRs φ0 args0 vs.toList) : CallF Try.prog f vs hp K := by
  have key : Wf hp → CallF Try.prog f vs hp K := fun hw => callT_sound (by kernel_rfl) hF d f args0 H0 n0 _ hrun φ0 hp hp vs K (hr0 hw) hargs fun ψ u H' n' w g _ hg hu he => by
    have hg2 : HR φ H n h0 g := hr.grow (fun b o hb => (hg.base b o hb).2) hg.size
    obtain ⟨r, w2, rfl, hw2, hn⟩ := hP _ _ he
    obtain ⟨x, y, rfl, h1, _⟩ := tup2 (c := .nsl) (χ := φ) hu hw2 rfl
    obtain ⟨χ, h3, h4, h5⟩ := newRow_use hr hg h1 hn
    obtain ⟨x', y', e2, _, h7⟩ := tup2 (c := .rw n 0 R.length 2 0) (χ := χ) hu hw2 rfl
    injection e2 with e2
    have e3 : x = x' := by have := congrArg (fun z : Array Value => z[0]?) e2; simpa using this
    subst e3
    exact hk χ _ _ _ _ g h3 h4 (h7 h5) hs.2
  exact ⟨hic, fun w hi => (key hi.wf).2 w hi⟩
end
/-! ### functions -/
/-- Of a query: a number. -/
def natQI (f : Qry → Int) (args : List AV) (H : AH) (n : Nat) (κ : PK) : Prop := match args with
  | [q] => ∃ Q, QryAt H q Q ∧ κ (.si .i64 (f Q)) H n
  | _ => False
theorem singQI {f : Qry → Int} : SingG (natQI f) := .pure fun args H n κ hs => by
  unfold natQI at *
  split at hs
  · obtain ⟨Q, h1, h2⟩ := hs
    exact ⟨_, h2, fun κ' h => ⟨Q, h1, h⟩⟩
  · exact hs.elim
theorem natQI_ok {F : FuncId → EP} (hF : TabP F) {d : Nat} {f : FuncId} {g : Qry → Int} (hic : isCall Try.prog f = true) (h0 : ∀ Q : Qry, Q.times = [] → callT F d f [qNil Q] .nil 0 fun u _ _ => mkT u = mkT (.int .i64 (g Q)))
    (h1 : ∀ (Q : Qry) cap, callT F d f [qAV 0 0 cap 0 Q] (mkH [(0, .ro (ints Q.times))]) 1 fun u _ _ => mkT u = mkT (.int .i64 (g Q))) : NatP f (natQI g) := fun args H n κ hs φ h0' hp vs K hr hargs hk => by
  unfold natQI at hs
  split at hs
  · obtain ⟨x, rfl, e1⟩ := vs1 hargs
    obtain ⟨Q, hq, hs⟩ := hs
    rcases hq.open hr e1 with ⟨hn, hv⟩ | ⟨p, C, hro, hv⟩
    · exact smallN (v := .int .i64 (g Q)) hF rfl (h0 Q hn) hs hr hk hic HR.ro0 (.cons (hv _) .nil)
    · exact smallN (v := .int .i64 (g Q)) hF rfl (h1 Q C) hs hr hk hic (fun hw => HR.ro1 hw hro) (.cons (hv _ 0 rfl) .nil)
  · exact hs.elim
/-- A sample. -/
def PairAt (x : AV) (t v : Int) : Prop := ∃ a b, x = .agg [a, b] ∧ mk a = .si .i64 t ∧ mk b = .si .i64 v
theorem PairAt.open {φ : Ph} {x : AV} {t v : Int} {w : Value} (h : PairAt x t v) (hv : VR φ x w) (χ : Ph) : VR χ (.agg [.si .i64 t, .si .i64 v]) w := by
  obtain ⟨a, b, rfl, h1, h2⟩ := h
  obtain ⟨cs, rfl, h3⟩ := hv.agg_inv
  obtain ⟨y, z, rfl, h4, h5⟩ := vs2 h3
  exact .agg (.cons (flat1_VR rfl (h1 ▸ h4.mk)) (.cons (flat1_VR rfl (h2 ▸ h5.mk)) .nil))
/-- Of a query and a sample: a truth. -/
def natQX (f : Qry → Int × Int → Bool) (args : List AV) (H : AH) (n : Nat) (κ : PK) : Prop := match args with
  | [q, x] => ∃ Q t v, QryAt H q Q ∧ PairAt x t v ∧ Q.times.length ≤ 1000000 ∧ κ (.sb (f Q (t, v))) H n
  | _ => False
theorem singQX {f : Qry → Int × Int → Bool} : SingG (natQX f) := .pure fun args H n κ hs => by
  unfold natQX at *
  split at hs
  · obtain ⟨Q, t, v, h1, h2, h4, h3⟩ := hs
    exact ⟨_, h3, fun κ' h => ⟨Q, t, v, h1, h2, h4, h⟩⟩
  · exact hs.elim
theorem natQX_ok {F : FuncId → EP} (hF : TabP F) {d : Nat} {f : FuncId} {g : Qry → Int × Int → Bool} (hic : isCall Try.prog f = true) (h0 : ∀ (Q : Qry) t v, Q.times = [] → callT F d f [qNil Q, .agg [.si .i64 t, .si .i64 v]] .nil 0 fun u _ _ => mkT u = mkT (.bool (g Q (t, v))))
    (h1 : ∀ (Q : Qry) t v cap, Q.times.length ≤ 1000000 → callT F d f [qAV 0 0 cap 0 Q, .agg [.si .i64 t, .si .i64 v]] (mkH [(0, .ro (ints Q.times))]) 1 fun u _ _ => mkT u = mkT (.bool (g Q (t, v)))) : NatP f (natQX g) := fun args H n κ hs φ h0' hp vs K hr hargs hk => by
  unfold natQX at hs
  split at hs
  · obtain ⟨x, y, rfl, e1, e2⟩ := vs2 hargs
    obtain ⟨Q, t, v, hq, hx, hlen, hs⟩ := hs
    rcases hq.open hr e1 with ⟨hn, hv⟩ | ⟨p, C, hro, hv⟩
    · exact smallN (v := .bool (g Q (t, v))) hF rfl (h0 Q t v hn) hs hr hk hic HR.ro0 (.cons (hv _) (.cons (hx.open e2 _) .nil))
    · exact smallN (v := .bool (g Q (t, v))) hF rfl (h1 Q t v C hlen) hs hr hk hic (fun hw => HR.ro1 hw hro) (.cons (hv _ 0 rfl) (.cons (hx.open e2 _) .nil))
  · exact hs.elim
/-- Of two numbers and samples: a truth. -/
def natB2 (B : Nat) (f : Int → Int → Smp → Bool) (args : List AV) (H : AH) (n : Nat) (κ : PK) : Prop := match args with
  | [x, y, l] => asI x fun s => asI y fun a => ∃ L, SmpAt H l L ∧ L.length ≤ B ∧ κ (.sb (f s a L)) H n
  | _ => False
theorem singB2 {B : Nat} {f : Int → Int → Smp → Bool} : SingG (natB2 B f) := .pure fun args H n κ hs => by
  unfold natB2 at *
  split at hs
  · obtain ⟨x, h1, k1⟩ := asI_sing hs
    obtain ⟨y, ⟨L, h2, h3, h4⟩, k2⟩ := asI_sing h1
    exact ⟨_, h4, fun κ' h => k1 _ (k2 _ ⟨L, h2, h3, h⟩)⟩
  · exact hs.elim
theorem natB2_ok {B : Nat} {F : FuncId → EP} (hF : TabP F) {d : Nat} {f : FuncId} {g : Int → Int → Smp → Bool} (hic : isCall Try.prog f = true) (h0 : ∀ s a, callT F d f [.si .i64 s, .si .i64 a, .nsl] .nil 0 fun u _ _ => mkT u = mkT (.bool (g s a [])))
    (h1 : ∀ s a L cap, L.length ≤ B → callT F d f [.si .i64 s, .si .i64 a, .sy 0 0 L.length cap 0] (mkH [(0, .ro (smp L))]) 1 fun u _ _ => mkT u = mkT (.bool (g s a L))) : NatP f (natB2 B g) := fun args H n κ hs φ h0' hp vs K hr hargs hk => by
  unfold natB2 at hs
  split at hs
  · obtain ⟨v1, v2, v3, rfl, hv1, hv2, hv3⟩ := vs3 hargs
    obtain ⟨s, hv1, hs⟩ := asI_si hv1 hs
    obtain ⟨a, hv2, L, hS, hL, hs⟩ := asI_si hv2 hs
    rcases hS.open hr hv3 with ⟨rfl, hv⟩ | ⟨p, C, _, hro, hv⟩
    · exact smallN (v := .bool (g s a [])) hF rfl (h0 s a) hs hr hk hic HR.ro0 (.cons (by rw [hv1.si_inv]; exact .si _ _) (.cons (by rw [hv2.si_inv]; exact .si _ _) (.cons (hv _) .nil)))
    · exact smallN (v := .bool (g s a L)) hF rfl (h1 s a L C hL) hs hr hk hic (fun hw => HR.ro1 hw hro) (.cons (by rw [hv1.si_inv]; exact .si _ _) (.cons (by rw [hv2.si_inv]; exact .si _ _) (.cons (hv _ 0 rfl) .nil)))
  · exact hs.elim
/-- Of samples: samples. -/
def natS1 (B : Nat) (f : Smp → Smp) (args : List AV) (H : AH) (n : Nat) (κ : PK) : Prop := match args with
  | [l] => ∃ L, SmpAt H l L ∧ L.length ≤ B ∧ RowPW (fun r => r) (f L) H n κ
  | _ => False
theorem singS1 {B : Nat} {f : Smp → Smp} : SingG (natS1 B f) := fun args H n κ hs => by
  unfold natS1 at *
  split at hs
  · obtain ⟨L, h1, h2, h3⟩ := hs
    obtain ⟨v, H', n', h6, h7, h8, h9⟩ := h3.sing
    exact ⟨v, H', n', h6, h7, h8, fun κ' k => ⟨L, h1, h2, h9 κ' k⟩⟩
  · exact hs.elim
theorem natS1_ok {B : Nat} {F : FuncId → EP} (hF : TabP F) {d : Nat} {f : FuncId} {g : Smp → Smp} (hic : isCall Try.prog f = true) (h0 : callT F d f [.nsl] .nil 0 fun u H' _ => NewRowG (g []) u H')
    (h1 : ∀ L cap, L.length ≤ B → callT F d f [.sy 0 0 L.length cap 0] (mkH [(0, .ro (smp L))]) 1 fun u H' _ => NewRowG (g L) u H') : NatP f (natS1 B g) := fun args H n κ hs φ h0' hp vs K hr hargs hk => by
  unfold natS1 at hs
  split at hs
  · obtain ⟨x, rfl, e1⟩ := vs1 hargs
    obtain ⟨L, hS, hL, hs⟩ := hs
    rcases hS.open hr e1 with ⟨rfl, hv⟩ | ⟨p, C, _, hro, hv⟩
    · exact smallNew1 hF (fun _ _ h => h) h0 hs hr hk hic HR.ro0 (.cons (hv _) .nil)
    · exact smallNew1 hF (fun _ _ h => h) (h1 L C hL) hs hr hk hic (fun hw => HR.ro1 hw hro) (.cons (hv _ 0 rfl) .nil)
  · exact hs.elim
/-- Of three numbers and samples: samples and a number. -/
def natFl (B : Nat) (f : Int → Int → Int → Smp → Smp × Int) (args : List AV) (H : AH) (n : Nat) (κ : PK) : Prop := match args with
  | [x, y, z, l] => asI x fun k => asI y fun s => asI z fun a => ∃ L, SmpAt H l L ∧ L.length ≤ B ∧ RowPW (tupE (f k s a L).2) (f k s a L).1 H n κ
  | _ => False
theorem singFl {B : Nat} {f : Int → Int → Int → Smp → Smp × Int} : SingG (natFl B f) := fun args H n κ hs => by
  unfold natFl at *
  split at hs
  · obtain ⟨x, h1, k1⟩ := asI_sing hs
    obtain ⟨y, h2, k2⟩ := asI_sing h1
    obtain ⟨z, ⟨L, h3, h4, h5⟩, k3⟩ := asI_sing h2
    obtain ⟨v, H', n', h6, h7, h8, h9⟩ := h5.sing
    exact ⟨v, H', n', h6, h7, h8, fun κ' k => k1 _ (k2 _ (k3 _ ⟨L, h3, h4, h9 κ' k⟩))⟩
  · exact hs.elim
theorem vs4 {φ : Ph} {a b c d : AV} {vs : Array Value} (h : VRs φ [a, b, c, d] vs.toList) : ∃ x y z w, vs = #[x, y, z, w] ∧ VR φ a x ∧ VR φ b y ∧ VR φ c z ∧ VR φ d w := by
  obtain ⟨x, l1, e1, h1, h2⟩ := h.cons_inv
  obtain ⟨y, l2, e2, h3, h4⟩ := h2.cons_inv
  obtain ⟨z, l3, e3, h5, h6⟩ := h4.cons_inv
  obtain ⟨w, l4, e4, h7, h8⟩ := h6.cons_inv
  have := h8.nil_inv
  subst this e4 e3 e2
  exact ⟨x, y, z, w, by cases vs; simp_all, h1, h3, h5, h7⟩
theorem natFl_ok {B : Nat} {F : FuncId → EP} (hF : TabP F) {d : Nat} {f : FuncId} {g : Int → Int → Int → Smp → Smp × Int} (hic : isCall Try.prog f = true) (h0 : ∀ k s a, callT F d f [.si .i64 k, .si .i64 s, .si .i64 a, .nsl] .nil 0 fun u H' _ => RowNum (g k s a []).1 (g k s a []).2 u H')
    (h1 : ∀ k s a L cap, L.length ≤ B → L.length ≤ cap → callT F d f [.si .i64 k, .si .i64 s, .si .i64 a, .sy 0 0 L.length cap 0] (mkH [(0, .ro (smp L))]) 1 fun u H' _ => RowNum (g k s a L).1 (g k s a L).2 u H') : NatP f (natFl B g) := fun args H n κ hs φ h0' hp vs K hr hargs hk => by
  unfold natFl at hs
  split at hs
  · obtain ⟨v1, v2, v3, v4, rfl, hv1, hv2, hv3, hv4⟩ := vs4 hargs
    obtain ⟨k, hv1, hs⟩ := asI_si hv1 hs
    obtain ⟨s, hv2, hs⟩ := asI_si hv2 hs
    obtain ⟨a, hv3, L, hS, hL, hs⟩ := asI_si hv3 hs
    have t3 : ∀ (χ : Ph) (x : AV), VR χ x v4 → VRs χ [.si .i64 k, .si .i64 s, .si .i64 a, x] [v1, v2, v3, v4] := fun χ x hx => .cons (by rw [hv1.si_inv]; exact .si _ _) (.cons (by rw [hv2.si_inv]; exact .si _ _) (.cons (by rw [hv3.si_inv]; exact .si _ _) (.cons hx .nil)))
    rcases hS.open hr hv4 with ⟨rfl, hv⟩ | ⟨p, C, hC, hro, hv⟩
    · exact smallNewE hF (fun _ _ h => h) (h0 k s a) hs hr hk hic HR.ro0 (t3 _ _ (hv _))
    · exact smallNewE hF (fun _ _ h => h) (h1 k s a L C hL hC) hs hr hk hic (fun hw => HR.ro1 hw hro) (t3 _ _ (hv _ 0 rfl))
  · exact hs.elim
/-- .. which may yield its samples as they are. -/
def natFa (B : Nat) (al : Int → Int → Int → Smp → Bool) (f : Int → Int → Int → Smp → Smp × Int) (args : List AV) (H : AH) (n : Nat) (κ : PK) : Prop := match args with
  | [x, y, z, l] => asI x fun k => asI y fun s => asI z fun a => ∃ L, SmpAt H l L ∧ L.length ≤ B ∧ ((al k s a L = true → κ (tupE 0 l) H n) ∧ (al k s a L = false → RowPW (tupE (f k s a L).2) (f k s a L).1 H n κ))
  | _ => False
theorem singFa {B : Nat} {al : Int → Int → Int → Smp → Bool} {f : Int → Int → Int → Smp → Smp × Int} : SingG (natFa B al f) := fun args H n κ hs => by
  unfold natFa at *
  split at hs
  · obtain ⟨x, h1, k1⟩ := asI_sing hs
    obtain ⟨y, h2, k2⟩ := asI_sing h1
    obtain ⟨z, ⟨L, h3, h4, h5, h5'⟩, k3⟩ := asI_sing h2
    cases ha : al x y z L with
    | true => exact ⟨_, H, n, h5 ha, .refl _, Nat.le_refl _, fun κ' k => k1 _ (k2 _ (k3 _ ⟨L, h3, h4, ⟨fun _ => k, fun q => absurd (ha.symm.trans q) (by decide)⟩⟩))⟩
    | false =>
      obtain ⟨v, H', n', h6, h7, h8, h9⟩ := (h5' ha).sing
      exact ⟨v, H', n', h6, h7, h8, fun κ' k => k1 _ (k2 _ (k3 _ ⟨L, h3, h4, ⟨fun q => absurd (ha.symm.trans q) (by decide), fun _ => h9 κ' k⟩⟩))⟩
  · exact hs.elim
theorem natFa_ok {B : Nat} {F : FuncId → EP} (hF : TabP F) {d : Nat} {f : FuncId} {al : Int → Int → Int → Smp → Bool} {g : Int → Int → Int → Smp → Smp × Int} (hic : isCall Try.prog f = true)
    (h0 : ∀ k s a, callT F d f [.si .i64 k, .si .i64 s, .si .i64 a, .nsl] .nil 0 fun u H' _ => (al k s a [] = true ∧ ∃ r w, u = .tup [r, w] ∧ mk w = .si .i64 0 ∧ r = .nsl) ∨ (al k s a [] = false ∧ RowNum (g k s a []).1 (g k s a []).2 u H'))
    (h1 : ∀ k s a L cap, L.length ≤ B → L.length ≤ cap → callT F d f [.si .i64 k, .si .i64 s, .si .i64 a, .sy 0 0 L.length cap 0] (mkH [(0, .ro (smp L))]) 1 fun u H' _ => (al k s a L = true ∧ ∃ r w, u = .tup [r, w] ∧ mk w = .si .i64 0 ∧ r = .sy 0 0 L.length cap 0) ∨ (al k s a L = false ∧ RowNum (g k s a L).1 (g k s a L).2 u H')) : NatP f (natFa B al g) := fun args H n κ hs φ h0' hp vs K hr hargs hk => by
  unfold natFa at hs
  split at hs
  · obtain ⟨v1, v2, v3, v4, rfl, hv1, hv2, hv3, hv4⟩ := vs4 hargs
    rename_i xx yy zz ll
    obtain ⟨k, hv1, hs⟩ := asI_si hv1 hs
    obtain ⟨s, hv2, hs⟩ := asI_si hv2 hs
    obtain ⟨a, hv3, L, hS, hL, hs1, hs2⟩ := asI_si hv3 hs
    have t3 : ∀ (χ : Ph) (x : AV), VR χ x v4 → VRs χ [.si .i64 k, .si .i64 s, .si .i64 a, x] [v1, v2, v3, v4] := fun χ x hx => .cons (by rw [hv1.si_inv]; exact .si _ _) (.cons (by rw [hv2.si_inv]; exact .si _ _) (.cons (by rw [hv3.si_inv]; exact .si _ _) (.cons hx .nil)))
    have core : ∀ (args0 : List AV) (H0 : AH) (n0 : Nat) (φ0 : Ph) (r0 : AV) (hr0 : Wf hp → HR φ0 H0 n0 hp hp), VRs φ0 args0 [v1, v2, v3, v4] → (∀ (ψ : Ph) w, PLe φ0 ψ → VR ψ r0 w → w = v4) → (callT F d f args0 H0 n0 fun u H' _ => (al k s a L = true ∧ ∃ r w, u = .tup [r, w] ∧ mk w = .si .i64 0 ∧ r = r0) ∨ (al k s a L = false ∧ RowNum (g k s a L).1 (g k s a L).2 u H')) → CallF Try.prog f #[v1, v2, v3, v4] hp K := fun args0 H0 n0 φ0 r0 hr0 hargs hsame hrun => by
      cases ha : al k s a L with
      | true =>
        have key : Wf hp → CallF Try.prog f #[v1, v2, v3, v4] hp K := fun hw => callT_sound (by kernel_rfl) hF d f args0 H0 n0 _ hrun φ0 hp hp #[v1, v2, v3, v4] K (hr0 hw) hargs fun ψ u H' n' w g _ hg hu he => by
          have hg2 : HR φ H n h0' g := hr.grow (fun b o hb => (hg.base b o hb).2) hg.size
          rcases he with ⟨_, r, w2, rfl, hw2, rfl⟩ | ⟨h, _⟩
          · obtain ⟨x, y, rfl, h1, h2⟩ := tup2 (c := ll) (χ := φ) hu hw2 rfl
            have := hsame ψ x (by assumption) h1
            subst this
            exact hk φ _ H n _ g (PLe.refl _) hg2 (h2 hv4) (hs1 ha)
          · rw [ha] at h; cases h
        exact ⟨hic, fun w hi => (key hi.wf).2 w hi⟩
      | false =>
        refine smallNewE hF (fun u H' h => ?_) hrun (hs2 ha) hr hk hic hr0 hargs
        rcases h with ⟨h, _⟩ | ⟨_, h⟩
        · rw [ha] at h; cases h
        · exact h
    rcases hS.open hr hv4 with ⟨rfl, hv⟩ | ⟨p, C, hC, hro, hv⟩
    · exact core _ _ _ _ .nsl HR.ro0 (t3 _ _ (hv _)) (fun ψ w _ hw => by rw [hw.nsl_inv, (hv φ).nsl_inv]) (h0 k s a)
    · exact core _ _ _ _ (.sy 0 0 L.length C 0) (fun hw => HR.ro1 hw hro) (t3 _ _ (hv _ 0 rfl)) (fun ψ w hle hw => by
        obtain ⟨p1, C1, g1, g2, g3, _⟩ := (hv (ph1 p) 0 rfl).sy_inv
        obtain ⟨p2, C2, f1, f2, f3, _⟩ := hw.sy_inv
        rw [hle _ _ g1] at f1
        injection f1 with f1
        subst f1
        rw [f2, g2, f3 rfl, g3 rfl]) (h1 k s a L C hL hC)
  · exact hs.elim
/-- Of samples and a query: samples and a number. -/
def natTl (B : Nat) (f : Smp → Qry → Smp × Int) (args : List AV) (H : AH) (n : Nat) (κ : PK) : Prop := match args with
  | [l, q] => ∃ L Q, SmpAt H l L ∧ QryAt H q Q ∧ L.length ≤ B ∧ Q.times.length ≤ 1000000 ∧ RowPW (tupE (f L Q).2) (f L Q).1 H n κ
  | _ => False
theorem singTl {B : Nat} {f : Smp → Qry → Smp × Int} : SingG (natTl B f) := fun args H n κ hs => by
  unfold natTl at *
  split at hs
  · obtain ⟨L, Q, h1, h2, h3, h4, h5⟩ := hs
    obtain ⟨v, H', n', h6, h7, h8, h9⟩ := h5.sing
    exact ⟨v, H', n', h6, h7, h8, fun κ' k => ⟨L, Q, h1, h2, h3, h4, h9 κ' k⟩⟩
  · exact hs.elim
theorem natTl_ok {B : Nat} {F : FuncId → EP} (hF : TabP F) {d : Nat} {f : FuncId} {g : Smp → Qry → Smp × Int} (hic : isCall Try.prog f = true) (h00 : ∀ Q : Qry, Q.times = [] → callT F d f [.nsl, qNil Q] .nil 0 fun u H' _ => RowNum (g [] Q).1 (g [] Q).2 u H')
    (h01 : ∀ (Q : Qry) c2, Q.times.length ≤ 1000000 → callT F d f [.nsl, qAV 0 0 c2 0 Q] (mkH [(0, .ro (ints Q.times))]) 1 fun u H' _ => RowNum (g [] Q).1 (g [] Q).2 u H')
    (h10 : ∀ L (Q : Qry) c1, Q.times = [] → L.length ≤ B → L.length ≤ c1 → callT F d f [.sy 0 0 L.length c1 0, qNil Q] (mkH [(0, .ro (smp L))]) 1 fun u H' _ => RowNum (g L Q).1 (g L Q).2 u H')
    (h11 : ∀ L (Q : Qry) c1 c2, L.length ≤ B → L.length ≤ c1 → Q.times.length ≤ 1000000 → callT F d f [.sy 0 0 L.length c1 0, qAV 1 0 c2 0 Q] (mkH [(0, .ro (smp L)), (1, .ro (ints Q.times))]) 2 fun u H' _ => RowNum (g L Q).1 (g L Q).2 u H') : NatP f (natTl B g) := fun args H n κ hs φ h0' hp vs K hr hargs hk => by
  unfold natTl at hs
  split at hs
  · obtain ⟨x, y, rfl, e1, e2⟩ := vs2 hargs
    obtain ⟨L, Q, hS, hq, hL, hT, hs⟩ := hs
    rcases hS.open hr e1 with ⟨rfl, hv⟩ | ⟨p, C, hC, hro, hv⟩ <;> rcases hq.open hr e2 with ⟨hn, hw⟩ | ⟨p', C', hro', hw⟩
    · exact smallNewE hF (fun _ _ h => h) (h00 Q hn) hs hr hk hic HR.ro0 (.cons (hv _) (.cons (hw _) .nil))
    · exact smallNewE hF (fun _ _ h => h) (h01 Q C' hT) hs hr hk hic (fun hw => HR.ro1 hw hro') (.cons (hv _) (.cons (hw _ 0 rfl) .nil))
    · exact smallNewE hF (fun _ _ h => h) (h10 L Q C hn hL hC) hs hr hk hic (fun hw => HR.ro1 hw hro) (.cons (hv _ 0 rfl) (.cons (hw _) .nil))
    · exact smallNewE hF (fun _ _ h => h) (h11 L Q C C' hL hC hT) hs hr hk hic (fun hw => HR.ro2 hw hro hro') (.cons (hv _ 0 rfl) (.cons (hw _ 1 rfl) .nil))
  · exact hs.elim
end Go.Proofs.Ytdfeigkooeeeaaa
