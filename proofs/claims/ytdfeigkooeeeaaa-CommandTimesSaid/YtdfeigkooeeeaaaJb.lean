/- Texts of our own, joined: the engine, the machine that runs code, and what is known of the functions. -/
import Derived.Test.YtdfeigkooeeeaaaJa
import Derived.Scope
set_option linter.unusedSimpArgs false
set_option linter.unusedVariables false
namespace Go.Proofs.Ytdfeigkooeeeaaa
open Go Go.RowKit
/-- Operations that touch no memory; and those that look at it. -/
def isPtrB (P : Program) (t : TypeId) : Bool := match P.underlying t with
  | some (.pointer _) => true
  | _ => false
def eqOp : BinOp → Bool
  | .eql | .neq => true
  | _ => false
def calmOp (P : Program) : Op → Bool
  | .move _ | .assign _ | .pick .. | .build .. | .nilCheck _ | .unOp .. | .makeFunc .. | .slice .. | .fieldAddr .. | .field .. | .indexAddr .. | .index .. | .extract .. => true
  | .binOp op t _ _ _ => !(eqOp op && isPtrB P t)
  | .call c => (match c.callee with
    | .builtin .min | .builtin .max => true
    | _ => false)
  | _ => false
def stillOp (o : Op) : Bool := !loudOp o
section
variable {P : Program} {ops : Array Oper}
theorem abinH_calm {op : BinOp} {t : TypeId} {x y : Value} {h h' : Hp} {C : Value → Prop} (hn : eqOp op = true → isPtrB P t = true → False) (k : abinH P op t x y h C) : abinH P op t x y h' C := by
  unfold abinH at *
  split
  · rename_i a b
    dsimp only at k
    unfold aptr at k
    split at k
    · rename_i e k' hu
      exact (hn rfl (by unfold isPtrB; rw [hu])).elim
    · rename_i e k' hu
      exact (hn rfl (by unfold isPtrB; rw [hu])).elim
    · exact k.elim
  · rename_i hne
    split at k
    · rename_i a b
      exact (hne a b rfl rfl).elim
    · exact k
theorem calm_any {o : Op} (hc : calmOp P o = true) (ρ : Env) (h h' : Hp) (C : Value → Prop) : apure P o ρ h C → apure P o ρ h' C := by
  intro k
  cases o
  case call c =>
    obtain ⟨callee, args, ats⟩ := c
    cases callee with
    | builtin b =>
      cases b <;> first | (rcases args with ⟨_ | ⟨x, _ | ⟨y, _ | ⟨z, r⟩⟩⟩⟩ <;> exact k) | (exfalso; revert hc; simp [calmOp])
    | _ => cases hc
  case binOp op t x y t' =>
    have hn : eqOp op = true → isPtrB P t = true → False := fun h1 h2 => by
      simp only [calmOp, h1, h2, Bool.and_self, Bool.not_true] at hc; cases hc
    exact abinH_calm hn k
  all_goals first | exact k | cases hc
theorem calm_still {o : Op} (hc : calmOp P o = true) : stillOp o = true := by
  cases o
  case call c =>
    obtain ⟨callee, args, ats⟩ := c
    cases callee with
    | builtin b => cases b <;> first | rfl | cases hc
    | _ => cases hc
  all_goals first | rfl | cases hc
def gstep (P : Program) (ops : Array Oper) (o : Oper) (ρ : Env) (h : Hp) (K : Env → Hp → Prop) : Prop :=
  match o.guard with
  | none => astep P o.op ρ h fun v h' => K (ρ.put o.dst v) h'
  | some (j, want) => (match gslot ops j with
    | none => False
    | some t => (match ρ t with
      | .bool q => if q = want then astep P o.op ρ h (fun v h' => K (ρ.put o.dst v) h') else K (ρ.put o.dst undef) h
      | .tuple _ => K (ρ.put o.dst undef) h
      | _ => False))
theorem aops_gstep {o : Oper} {l : List Oper} {ρ : Env} {h : Hp} {N : Env → Hp → Prop} (hk : aops P ops (o :: l) ρ h N) : gstep P ops o ρ h fun ρ' h' => aops P ops l ρ' h' N := by
  unfold aops at hk
  unfold gstep
  split at hk
  · rename_i hg; simp only [hg]; exact hk
  · rename_i j want hg
    simp only [hg]
    split at hk
    · exact hk.elim
    · rename_i t ht
      simp only [ht]
      split at hk
      · rename_i q hq
        simp only [hq]
        rcases Br_elim hk with ⟨hqw, hk2⟩ | ⟨hqw, hk2⟩
        · have e : q = want := by simpa using hqw
          rw [if_pos e]
          rw [upd_eta (by rw [hq, e])] at hk2
          exact hk2
        · have e : q = !want := by cases q <;> cases want <;> simp_all
          rw [if_neg (by rw [e]; cases want <;> simp)]
          rw [upd_eta (by rw [hq, e])] at hk2
          exact hk2
      · rename_i vs hq
        simp only [hq]; exact hk
      · exact hk.elim
theorem gstep_mono {o : Oper} {ρ : Env} {h : Hp} {K K' : Env → Hp → Prop} (m : ∀ v h', K (ρ.put o.dst v) h' → K' (ρ.put o.dst v) h') (hk : gstep P ops o ρ h K) : gstep P ops o ρ h K' := by
  unfold gstep at *
  split at hk
  · rename_i hg; exact (mono_step _ _ _).mono (fun v h' => m v h') hk
  · rename_i j want hg
    split at hk
    · exact hk.elim
    · rename_i t ht
      split at hk
      · split at hk
        · rename_i e; rw [if_pos e]; exact (mono_step _ _ _).mono (fun v h' => m v h') hk
        · rename_i e; rw [if_neg e]; exact m _ _ hk
      · exact m _ _ hk
      · exact hk.elim
/-- What an operation looks at. -/
def looks (ops : Array Oper) (o : Oper) : List Nat := o.looksAt ops
theorem put_agree {ρ : Env} {d : Option Nat} {v : Value} {t : Nat} (h : ∀ x, d = some x → x ≠ t) : (ρ.put d v) t = ρ t := by
  cases d with
  | none => rfl
  | some x => simp [Env.put, Env.upd, Ne.symm (h x rfl)]
theorem put_comm {ρ : Env} {d e : Option Nat} (hne : ∀ x, d = some x → e ≠ some x) (v u : Value) : (ρ.put d v).put e u = (ρ.put e u).put d v := by
  cases d with
  | none => rfl
  | some x =>
    cases e with
    | none => rfl
    | some y =>
      have : x ≠ y := fun q => hne x rfl (q ▸ rfl)
      funext t
      simp only [Env.put, Env.upd]
      by_cases h1 : t = y
      · subst h1; simp [Ne.symm this]
      · simp [h1]
theorem ev_agree {ρ ρ' : Env} {x : Operand} (h : ∀ t, x = .tmp t → ρ' t = ρ t) : ρ'.ev x = ρ.ev x := by
  cases x with
  | tmp t => exact h t rfl
  | _ => rfl
theorem astep_congr {o : Op} {ρ ρ' : Env} (hs : ∀ x ∈ o.operands, ρ'.ev x = ρ.ev x) (h : Hp) (K : KH) : astep P o ρ' h K = astep P o ρ h K := by
  have pairs : ∀ ps : Array (Nat × Operand), (∀ x ∈ (ps.toList.map (·.2)), ρ'.ev x = ρ.ev x) → (ps.toList.map fun x => (x.1, ρ'.ev x.2)) = (ps.toList.map fun x => (x.1, ρ.ev x.2)) := fun ps hp =>
    List.map_congr_left fun p hm => by
      rw [hp p.2 (List.mem_map.2 ⟨p, hm, rfl⟩)]
  have opt : ∀ x : Option Operand, (∀ y, x = some y → ρ'.ev y = ρ.ev y) → x.map ρ'.ev = x.map ρ.ev := fun x hx => by
    cases x with
    | none => rfl
    | some y => simp [hx y rfl]
  have arr : ∀ xs : Array Operand, (∀ y ∈ xs, ρ'.ev y = ρ.ev y) → xs.map ρ'.ev = xs.map ρ.ev := fun xs hx => Array.map_congr_left hx
  have arrL : ∀ xs : Array Operand, (∀ y ∈ xs, ρ'.ev y = ρ.ev y) → xs.toList.map ρ'.ev = xs.toList.map ρ.ev := fun xs hx => List.map_congr_left fun y hy => hx y (by simpa using hy)
  unfold astep
  cases o <;> simp only [Op.operands] at hs <;> simp only [loudOp, aloud, apure, if_true, if_false, Bool.false_eq_true]
  case move x => rw [hs x (by simp)]
  case assign x => rw [hs x (by simp)]
  case pick c a b => rw [hs c (by simp), hs a (by simp), hs b (by simp)]
  case box e x => rw [hs x (by simp)]
  case build t ps => rw [pairs ps fun x hx => hs x (by simpa using hx)]
  case buildSlice t n ps => rw [pairs ps fun x hx => hs x (by simpa using hx)]
  case insert t m k x => rw [hs m (by simp), hs k (by simp), hs x (by simp)]
  case load t a => rw [hs a (by simp)]
  case store t a x => rw [hs a (by simp), hs x (by simp)]
  case nilCheck x => rw [hs x (by simp)]
  case binOp op t x y t' => rw [hs x (by simp), hs y (by simp)]
  case unOp op t x => rw [hs x (by simp)]
  case convert s d x => rw [hs x (by simp)]
  case makeFunc fn first captured => rw [arr first fun x hx => hs x (by simp [hx]), arr captured fun x hx => hs x (by simp [hx])]
  case makeSlice t l c => rw [hs l (by simp), hs c (by simp)]
  case makeMap t r => cases r <;> simp only [aloud]
  case slice t x lo hi mx =>
    rw [hs x (by simp), opt lo fun y hy => hs y (by subst hy; simp), opt hi fun y hy => hs y (by subst hy; simp), opt mx fun y hy => hs y (by subst hy; simp)]
  case fieldAddr s x i => rw [hs x (by simp)]
  case field s x i => rw [hs x (by simp)]
  case indexAddr t x i => rw [hs x (by simp), hs i (by simp)]
  case index t x i => rw [hs x (by simp), hs i (by simp)]
  case lookup t x i ok => rw [hs x (by simp), hs i (by simp)]
  case mapUpdate t m k x => rw [hs m (by simp), hs k (by simp), hs x (by simp)]
  case extract x i => rw [hs x (by simp)]
  case range t x => rw [hs x (by simp)]
  case next x q => rw [hs x (by simp)]
  case entry x => rw [hs x (by simp)]
  case call c =>
    obtain ⟨callee, args, ats⟩ := c
    have ha : ∀ y ∈ args, ρ'.ev y = ρ.ev y := fun y hy => hs y (by simp [Call.operands, hy])
    cases callee with
    | value f =>
      simp only [loudCallee, if_true, aloud]
      rw [arr args ha, hs f (by simp [Call.operands])]
    | invoke r m => simp only [loudCallee, apure, Bool.false_eq_true, if_false]
    | builtin b =>
      simp only [aloud, apure]
      rw [arrL args ha]
/-- Two operations that do not touch one another's slots. -/
theorem gstep_local {o : Oper} {d : Option Nat} (hl : ∀ x, d = some x → x ∉ looks ops o) (hd : ∀ x, d = some x → o.dst ≠ some x) (ρ : Env) (u : Value) (h : Hp) (K : Env → Hp → Prop) :
    gstep P ops o (ρ.put d u) h K = gstep P ops o ρ h fun ρ' h' => K (ρ'.put d u) h' := by
  have hop : ∀ x ∈ o.op.operands, (ρ.put d u).ev x = ρ.ev x := fun x hx => ev_agree fun t ht => put_agree fun y hy e => hl y hy (by
    subst ht e
    exact List.mem_append_left _ (List.mem_filterMap.2 ⟨.tmp y, by simpa using hx, rfl⟩))
  have hc : ∀ v, (ρ.put d u).put o.dst v = (ρ.put o.dst v).put d u := fun v => put_comm hd u v
  unfold gstep
  cases hg : o.guard with
  | none =>
    dsimp only
    rw [astep_congr hop]
    simp only [hc]
  | some q =>
    obtain ⟨j, want⟩ := q
    dsimp only
    cases ht : gslot ops j with
    | none => rfl
    | some t =>
      dsimp only
      have hslot : (ρ.put d u) t = ρ t := put_agree fun y hy e => hl y hy (by
        subst e
        unfold gslot at ht
        simp [looks, Oper.looksAt, hg, ht])
      rw [hslot, astep_congr hop]
      simp only [hc]
/-- An operation that is no effect: it yields one value; a calm one whatever the memory. -/
theorem gstep_still {o : Oper} (hs : stillOp o.op = true) {ρ : Env} {h : Hp} {K K' : Env → Hp → Prop} (hk : gstep P ops o ρ h K) (hk' : gstep P ops o ρ h K') :
    ∃ u, K (ρ.put o.dst u) h ∧ K' (ρ.put o.dst u) h ∧ ∀ L : Env → Hp → Prop, L (ρ.put o.dst u) h → gstep P ops o ρ h L := by
  have hl : loudOp o.op = false := by simpa [stillOp] using hs
  have red : ∀ (F : KH), astep P o.op ρ h F = apure P o.op ρ h fun v => F v h := fun F => by unfold astep; rw [hl]; rfl
  unfold gstep at *
  split at hk
  · rename_i hg
    simp only [hg] at hk'
    rw [red] at hk hk'
    obtain ⟨u, h1, h2, h3⟩ := (one_pure _ _ _).both hk hk'
    refine ⟨u, h1, h2, fun L hL => ?_⟩
    rw [red]
    exact (one_pure _ _ _).mono (fun v (hv : v = u) => by rw [hv]; exact hL) h3
  · rename_i j want hg
    simp only [hg] at hk'
    split at hk
    · exact hk.elim
    · rename_i t ht
      simp only [ht] at hk'
      split at hk
      · rename_i q hq
        simp only [hq] at hk'
        split at hk
        · rename_i e
          rw [if_pos e] at hk'
          rw [red] at hk hk'
          obtain ⟨u, h1, h2, h3⟩ := (one_pure _ _ _).both hk hk'
          refine ⟨u, h1, h2, fun L hL => ?_⟩
          rw [if_pos e, red]
          exact (one_pure _ _ _).mono (fun v (hv : v = u) => by rw [hv]; exact hL) h3
        · rename_i e
          rw [if_neg e] at hk'
          exact ⟨undef, hk, hk', fun L hL => by rw [if_neg e]; exact hL⟩
      · rename_i vs hq
        simp only [hq] at hk'
        exact ⟨undef, hk, hk', fun L hL => hL⟩
      · exact hk.elim
theorem gstep_calm {o : Oper} (hc : calmOp P o.op = true) {ρ : Env} {h : Hp} (h' : Hp) {K : Env → Hp → Prop} (hk : gstep P ops o ρ h fun ρ' _ => K ρ' h') : gstep P ops o ρ h' K := by
  have hl : loudOp o.op = false := by simpa [stillOp] using calm_still hc
  have red : ∀ (g : Hp) (F : KH), astep P o.op ρ g F = apure P o.op ρ g fun v => F v g := fun g F => by unfold astep; rw [hl]; rfl
  unfold gstep at *
  split at hk
  · rw [red] at hk ⊢; exact calm_any hc ρ h h' _ hk
  · rename_i j want hg
    split at hk
    · exact hk.elim
    · rename_i t ht
      split at hk
      · split at hk
        · rename_i e; rw [if_pos e, red]; rw [red] at hk; exact calm_any hc ρ h h' _ hk
        · rename_i e; rw [if_neg e]; exact hk
      · exact hk
      · exact hk.elim

/-! ### the same, by the value alone -/
def gval (P : Program) (ops : Array Oper) (o : Oper) (ρ : Env) (h : Hp) (M : Value → Hp → Prop) : Prop :=
  match o.guard with
  | none => astep P o.op ρ h M
  | some (j, want) => (match gslot ops j with
    | none => False
    | some t => (match ρ t with
      | .bool q => if q = want then astep P o.op ρ h M else M undef h
      | .tuple _ => M undef h
      | _ => False))
theorem gstep_val (o : Oper) (ρ : Env) (h : Hp) (K : Env → Hp → Prop) : gstep P ops o ρ h K = gval P ops o ρ h fun v h' => K (ρ.put o.dst v) h' := rfl
theorem gval_congr {o : Oper} {ρ ρ' : Env} (ha : ∀ t ∈ looks ops o, ρ' t = ρ t) (h : Hp) (M : Value → Hp → Prop) : gval P ops o ρ' h M = gval P ops o ρ h M := by
  have hop : ∀ x ∈ o.op.operands, ρ'.ev x = ρ.ev x := fun x hx => ev_agree fun t ht => ha t (by
    subst ht
    exact List.mem_append_left _ (List.mem_filterMap.2 ⟨.tmp t, by simpa using hx, rfl⟩))
  unfold gval
  cases hg : o.guard with
  | none => dsimp only; rw [astep_congr hop]
  | some q =>
    obtain ⟨j, want⟩ := q
    dsimp only
    cases ht : gslot ops j with
    | none => rfl
    | some t =>
      dsimp only
      have hslot : ρ' t = ρ t := ha t (by
        unfold gslot at ht
        simp [looks, Oper.looksAt, hg, ht])
      rw [hslot, astep_congr hop]
theorem gval_still {o : Oper} (hs : stillOp o.op = true) {ρ : Env} {h : Hp} {M M' : Value → Hp → Prop} (hk : gval P ops o ρ h M) (hk' : gval P ops o ρ h M') :
    ∃ u, M u h ∧ M' u h ∧ ∀ L : Value → Hp → Prop, L u h → gval P ops o ρ h L := by
  have hl : loudOp o.op = false := by simpa [stillOp] using hs
  have red : ∀ (F : KH), astep P o.op ρ h F = apure P o.op ρ h fun v => F v h := fun F => by unfold astep; rw [hl]; rfl
  unfold gval at *
  split at hk
  · rename_i hg
    simp only [hg] at hk'
    rw [red] at hk hk'
    obtain ⟨u, h1, h2, h3⟩ := (one_pure _ _ _).both hk hk'
    refine ⟨u, h1, h2, fun L hL => ?_⟩
    rw [red]
    exact (one_pure _ _ _).mono (fun v (hv : v = u) => by rw [hv]; exact hL) h3
  · rename_i j want hg
    simp only [hg] at hk'
    split at hk
    · exact hk.elim
    · rename_i t ht
      simp only [ht] at hk'
      split at hk
      · rename_i q hq
        simp only [hq] at hk'
        split at hk
        · rename_i e
          rw [if_pos e] at hk'
          rw [red] at hk hk'
          obtain ⟨u, h1, h2, h3⟩ := (one_pure _ _ _).both hk hk'
          refine ⟨u, h1, h2, fun L hL => ?_⟩
          rw [if_pos e, red]
          exact (one_pure _ _ _).mono (fun v (hv : v = u) => by rw [hv]; exact hL) h3
        · rename_i e
          rw [if_neg e] at hk'
          exact ⟨undef, hk, hk', fun L hL => by rw [if_neg e]; exact hL⟩
      · rename_i vs hq
        simp only [hq] at hk'
        exact ⟨undef, hk, hk', fun L hL => hL⟩
      · exact hk.elim
theorem gval_calm {o : Oper} (hc : calmOp P o.op = true) {ρ : Env} {h : Hp} (h' : Hp) {M : Value → Hp → Prop} (hk : gval P ops o ρ h fun v _ => M v h') : gval P ops o ρ h' M := by
  have hl : loudOp o.op = false := by simpa [stillOp] using calm_still hc
  have red : ∀ (g : Hp) (F : KH), astep P o.op ρ g F = apure P o.op ρ g fun v => F v g := fun g F => by unfold astep; rw [hl]; rfl
  unfold gval at *
  split at hk
  · rw [red] at hk ⊢; exact calm_any hc ρ h h' _ hk
  · rename_i j want hg
    split at hk
    · exact hk.elim
    · rename_i t ht
      split at hk
      · split at hk
        · rename_i e; rw [if_pos e, red]; rw [red] at hk; exact calm_any hc ρ h h' _ hk
        · rename_i e; rw [if_neg e]; exact hk
      · exact hk
      · exact hk.elim
theorem gval_mono {o : Oper} {ρ : Env} {h : Hp} {M M' : Value → Hp → Prop} (m : ∀ v h', M v h' → M' v h') (hk : gval P ops o ρ h M) : gval P ops o ρ h M' := by
  unfold gval at *
  split at hk
  · rename_i hg; exact (mono_step _ _ _).mono (fun v h' => m v h') hk
  · rename_i j want hg
    split at hk
    · exact hk.elim
    · rename_i t ht
      split at hk
      · split at hk
        · rename_i e; rw [if_pos e]; exact (mono_step _ _ _).mono (fun v h' => m v h') hk
        · rename_i e; rw [if_neg e]; exact m _ _ hk
      · exact m _ _ hk
      · exact hk.elim
/-- In a world that fits there is a way through. -/
theorem gval_way {o : Oper} {ρ : Env} {h : Hp} {M : Value → Hp → Prop} (hk : gval P ops o ρ h M) {w : World} (hi : Is w h) : ∃ v h' w', Is w' h' ∧ M v h' := by
  have st : astep P o.op ρ h M → ∃ v h' w', Is w' h' ∧ M v h' := fun k => by
    have hr := astep_sound k hi
    generalize (execOp ρ.ev o).run P w = r at hr
    cases hr with
    | value v w' h' i s m => exact ⟨v, h', w', i, m⟩
    | skip w' h' i s m => exact ⟨undef, h', w', i, m⟩
    | enter f args w' h' i s m =>
      obtain ⟨e, w2, fr, ⟨v, g, _, i2, _, m2⟩, _⟩ := m w' i []
      exact ⟨v, g, w2, i2, m2⟩
  unfold gval at hk
  split at hk
  · exact st hk
  · split at hk
    · exact hk.elim
    · split at hk
      · split at hk
        · exact st hk
        · exact ⟨_, h, w, hi, hk⟩
      · exact ⟨_, h, w, hi, hk⟩
      · exact hk.elim

/-! ### the operations by their numbers -/
def aopsI (P : Program) (ops : Array Oper) : List Nat → Env → Hp → (Env → Hp → Prop) → Prop
  | [], ρ, h, N => N ρ h
  | i :: l, ρ, h, N => (match ops[i]? with
    | none => aopsI P ops l ρ h N
    | some o => gstep P ops o ρ h fun ρ' h' => aopsI P ops l ρ' h' N)
theorem aopsI_of (N : Env → Hp → Prop) : ∀ (l : List Oper) (k : Nat), (∀ j, l[j]? = ops[k + j]?) → ∀ ρ h, aops P ops l ρ h N → aopsI P ops (List.range' k l.length) ρ h N
  | [], _, _, _, _, hk => hk
  | o :: l, k, hl, ρ, h, hk => by
    have h0 : ops[k]? = some o := by simpa using (hl 0).symm
    simp only [List.length_cons, List.range'_succ, aopsI, h0]
    exact gstep_mono (fun v h' hn => aopsI_of N l (k + 1) (fun j => by have := hl (j + 1); simpa [Nat.add_assoc, Nat.add_comm 1 j] using this) _ _ hn) (aops_gstep hk)
def isLoad : Op → Bool
  | .load .. => true
  | _ => false
def isMk : Op → Bool
  | .buildSlice .. => true
  | _ => false
/-- Two operations of which the second may be done ahead of the first. -/
def commB (P : Program) (ops : Array Oper) (j i : Nat) : Bool := match ops[j]?, ops[i]? with
  | some a, some b => a.apart ops b && (calmOp P a.op || calmOp P b.op || (stillOp a.op && stillOp b.op) || (isLoad a.op && isMk b.op))
  | _, _ => true
def Ext (h h' : Hp) : Prop := ∀ b o, h.f b = some o → h'.f b = some o
theorem aload_up {t : TypeId} {a : Value} {h h' : Hp} {K : Value → Prop} (he : Ext h h') (hk : aload P t a h K) : aload P t a h' K := by
  unfold aload at *
  split at hk
  · rename_i b o
    cases hb : h.f b with
    | none => simp only [hb] at hk
    | some x =>
      simp only [hb] at hk
      simp only [he b x hb]
      exact hk
  · exact hk.elim
theorem load_up {o : Oper} (hl : isLoad o.op = true) {ρ : Env} {h h' : Hp} {u : Value} (he : Ext h h') (hu : ∀ L : Env → Hp → Prop, L (ρ.put o.dst u) h → gstep P ops o ρ h L) (L : Env → Hp → Prop) (hL : L (ρ.put o.dst u) h') : gstep P ops o ρ h' L := by
  have hk := hu (fun ρ' _ => ρ' = ρ.put o.dst u) rfl
  cases hop : o.op with
  | load t a =>
    have red : ∀ (g : Hp) (F : KH), astep P o.op ρ g F = aload P t (ρ.ev a) g fun v => F v g := fun g F => by rw [hop]; rfl
    have up : aload P t (ρ.ev a) h (fun v => ρ.put o.dst v = ρ.put o.dst u) → aload P t (ρ.ev a) h' fun v => L (ρ.put o.dst v) h' := fun k => by
      have k2 : apure P (.load t a) ρ h' fun v => ρ.put o.dst v = ρ.put o.dst u := aload_up he k
      have k3 : apure P (.load t a) ρ h' fun v => L (ρ.put o.dst v) h' := (one_pure _ _ _).mono (fun v e => by rw [e]; exact hL) k2
      exact k3
    unfold gstep at *
    split at hk
    · rw [red] at hk ⊢; exact up hk
    · split at hk
      · exact hk.elim
      · split at hk
        · split at hk
          · rename_i e; rw [if_pos e, red]; rw [red] at hk; exact up hk
          · rename_i e; rw [if_neg e, hk]; exact hL
        · rw [hk]; exact hL
        · exact hk.elim
  | _ => rw [hop] at hl; cases hl
theorem gstep_mk {o : Oper} (hm : isMk o.op = true) {ρ : Env} {h : Hp} {K : Env → Hp → Prop} (hw : ∀ b x, h.f b = some x → b < h.n) (hk : gstep P ops o ρ h K) : gstep P ops o ρ h fun ρ' h' => K ρ' h' ∧ Ext h h' := by
  have rfl' : Ext h h := fun _ _ e => e
  cases hop : o.op with
  | buildSlice t len parts =>
    have st : astep P o.op ρ h (fun v h' => K (ρ.put o.dst v) h') → astep P o.op ρ h fun v h' => K (ρ.put o.dst v) h' ∧ Ext h h' := fun k => by
      rw [hop] at k ⊢
      unfold astep at *
      simp only [loudOp, if_true, aloud] at *
      split at k
      · rename_i e r hr
        refine ⟨k, fun b x hb => ?_⟩
        have := hw b x hb
        show (if b = h.n then _ else h.f b) = some x
        rw [if_neg (by omega)]; exact hb
      · exact k.elim
    unfold gstep at *
    split at hk
    · exact st hk
    · split at hk
      · exact hk.elim
      · split at hk
        · split at hk
          · rename_i e; rw [if_pos e]; exact st hk
          · rename_i e; rw [if_neg e]; exact ⟨hk, rfl'⟩
        · exact ⟨hk, rfl'⟩
        · exact hk.elim
  | _ => rw [hop] at hm; cases hm
theorem way_to {N : Env → Hp → Prop} (l : List Nat) : ∀ (r : List Nat) (ρ : Env) (h : Hp) (w : World), aopsI P ops (r ++ l) ρ h N → Is w h →
    ∃ ρ' h', aopsI P ops l ρ' h' N ∧ ∀ t, (∀ j ∈ r, ∀ a, ops[j]? = some a → a.dst ≠ some t) → ρ' t = ρ t
  | [], ρ, h, w, hk, _ => ⟨ρ, h, hk, fun _ _ => rfl⟩
  | j :: r, ρ, h, w, hk, hi => by
    simp only [List.cons_append, aopsI] at hk
    split at hk
    · obtain ⟨ρ', h', h1, h2⟩ := way_to l r ρ h w hk hi
      exact ⟨ρ', h', h1, fun t ht => h2 t fun i hi => ht i (by simp [hi])⟩
    · rename_i a ha
      rw [gstep_val] at hk
      obtain ⟨v, h1, w1, hi1, hk1⟩ := gval_way hk hi
      obtain ⟨ρ', h', h2, h3⟩ := way_to l r _ h1 w1 hk1 hi1
      refine ⟨ρ', h', h2, fun t ht => (h3 t fun i hi => ht i (by simp [hi])).trans (put_agree fun x hx e => ht j (by simp) a ha (by rw [hx, e]))⟩
theorem push_calm {N : Env → Hp → Prop} {i : Nat} {o : Oper} (ho : ops[i]? = some o) (hc : calmOp P o.op = true) {ρ0 : Env} {u : Value} (hu : ∀ h (L : Value → Hp → Prop), L u h → gval P ops o ρ0 h L) (r2 : List Nat) :
    ∀ (r : List Nat), (∀ j ∈ r, commB P ops j i = true) → ∀ (ρ : Env) (h : Hp), (∀ t ∈ looks ops o, ρ t = ρ0 t) → aopsI P ops (r ++ i :: r2) ρ h N → aopsI P ops (r ++ r2) (ρ.put o.dst u) h N
  | [], _, ρ, h, ha, hk => by
    simp only [List.nil_append, aopsI, ho] at hk ⊢
    rw [gstep_val, gval_congr ha] at hk
    obtain ⟨v, h1, h2, _⟩ := gval_still (calm_still hc) hk (hu h (fun v _ => v = u) rfl)
    rw [h2] at h1
    exact h1
  | j :: r, hr, ρ, h, ha, hk => by
    simp only [List.cons_append, aopsI] at hk ⊢
    have ih := push_calm (N := N) ho hc hu r2 r fun k hk => hr k (by simp [hk])
    split at hk
    · exact ih ρ h ha hk
    · rename_i a hj
      have hcm := hr j (by simp)
      simp only [commB, hj, ho, Bool.and_eq_true] at hcm
      obtain ⟨h1, h2, h3⟩ := Oper.apart_spec hcm.1
      have hk2 : gstep P ops a ρ h fun ρ' h' => aopsI P ops (r ++ r2) (ρ'.put o.dst u) h' N :=
        gstep_mono (fun v h' hn => ih _ h' (fun t ht => (put_agree fun x hx e => h1 x hx (by rw [e]; exact ht)).trans (ha t ht)) hn) hk
      rw [gstep_local (o := a) (d := o.dst) (fun x hx => h3 x hx) (fun x hx e => h2 x e hx)]
      exact hk2
theorem bring_loud {N : Env → Hp → Prop} {i : Nat} {o : Oper} (ho : ops[i]? = some o) (r2 : List Nat) : ∀ (r : List Nat), (∀ j ∈ r, commB P ops j i = true) → calmOp P o.op = false → ∀ (ρ : Env) (h : Hp), (∀ b x, h.f b = some x → b < h.n) →
    aopsI P ops (r ++ i :: r2) ρ h N → gstep P ops o ρ h fun ρ' h' => aopsI P ops (r ++ r2) ρ' h' N
  | [], _, _, ρ, h, _, hk => by simpa [aopsI, ho] using hk
  | j :: r, hr, hnc, ρ, h, hw, hk => by
    have ih := bring_loud (N := N) ho r2 r (fun k hk => hr k (by simp [hk])) hnc
    simp only [List.cons_append, aopsI] at hk ⊢
    cases hj : ops[j]? with
    | none =>
      simp only [hj] at hk ⊢
      exact ih ρ h hw hk
    | some a =>
      simp only [hj] at hk ⊢
      have hcm := hr j (by simp)
      simp only [commB, hj, ho, Bool.and_eq_true, hnc, Bool.or_false, Bool.or_eq_true] at hcm
      obtain ⟨h1, h2, h3⟩ := Oper.apart_spec hcm.1
      have hst : stillOp a.op = true := by
        rcases hcm.2 with (hca | hso) | hld
        · exact calm_still hca
        · exact hso.1
        · cases hop : a.op <;> first | rfl | (rw [hop] at hld; cases hld.1)
      obtain ⟨u, hk1, _, hu2⟩ := gstep_still hst hk hk
      have hu1 := ih _ h hw hk1
      have hloc := gstep_local (P := P) (ops := ops) (o := o) (d := a.dst) (fun x hx => h1 x hx) (fun x hx => h2 x hx) ρ u h fun ρ2 g2 => aopsI P ops (r ++ r2) ρ2 g2 N
      rw [hloc] at hu1
      have back : ∀ v (h' : Hp) (L : Env → Hp → Prop), gstep P ops a ρ h' (fun ρ' h' => L (ρ'.put o.dst v) h') → gstep P ops a (ρ.put o.dst v) h' L := fun v h' L k => by
        rw [gstep_local (o := a) (d := o.dst) (fun x hx => h3 x hx) (fun x hx e => h2 x e hx)]
        exact k
      rcases hcm.2 with (hca | ⟨_, hso⟩) | ⟨hld, hmk⟩
      · refine gstep_mono (fun v h' hn => back v h' _ ?_) hu1
        refine gstep_calm hca h' (h := h) (hu2 _ ?_)
        rw [put_comm (fun x hx => h2 x hx)]
        exact hn
      · obtain ⟨v, hv1, _, hv2⟩ := gstep_still hso hu1 hu1
        refine hv2 _ (back v h _ (hu2 _ ?_))
        rw [put_comm (fun x hx => h2 x hx)]
        exact hv1
      · refine gstep_mono (fun v h' hn => back v h' _ (load_up hld hn.2 hu2 _ ?_)) (gstep_mk hmk hw hu1)
        rw [put_comm (fun x hx => h2 x hx)]
        exact hn.1
/-- An operation that may come up may be taken first. -/
theorem bring {N : Env → Hp → Prop} {i : Nat} {o : Oper} (ho : ops[i]? = some o) (r r2 : List Nat) (hr : ∀ j ∈ r, commB P ops j i = true) {ρ : Env} {h : Hp} {w : World} (hi : Is w h)
    (hk : aopsI P ops (r ++ i :: r2) ρ h N) : gstep P ops o ρ h fun ρ' h' => aopsI P ops (r ++ r2) ρ' h' N := by
  cases hc : calmOp P o.op with
  | false => exact bring_loud ho r2 r hr hc ρ h (fun b x e => by rw [← hi.1]; exact (Array.getElem?_eq_some_iff.1 (hi.2 b x e)).1) hk
  | true =>
    obtain ⟨ρ', h', h1, h2⟩ := way_to (i :: r2) r ρ h w hk hi
    simp only [aopsI, ho] at h1
    have ha : ∀ t ∈ looks ops o, ρ' t = ρ t := fun t ht => h2 t fun j hj a haj e => by
      have hcm := hr j hj
      simp only [commB, haj, ho, Bool.and_eq_true] at hcm
      exact (Oper.apart_spec hcm.1).1 t e ht
    rw [gstep_val, gval_congr ha] at h1
    obtain ⟨u, _, _, hu⟩ := gval_still (calm_still hc) h1 h1
    have hu' : ∀ g (L : Value → Hp → Prop), L u g → gval P ops o ρ g L := fun g L hL => gval_calm hc g (hu (fun v _ => L v g) hL)
    rw [gstep_val]
    exact hu' h _ (push_calm ho hc hu' r2 r hr ρ h (fun _ _ => rfl) hk)
/-- Listed before: 'j' comes ahead of 'i' by the edges that bind. -/
def befB (ops : Array Oper) : Nat → Nat → Nat → Bool
  | 0, _, _ => false
  | f + 1, j, i => (match ops[i]? with
    | some o => o.after.any fun e => Region.binds .any e && (e.on == j || befB ops f j e.on)
    | none => false)
def swapB (P : Program) (ops : Array Oper) : Bool :=
  (List.range ops.size).all fun i => (match ops[i]? with
    | some o => o.after.all fun e => !Region.binds .any e || decide (e.on < i)
    | none => true) && (List.range i).all fun j => commB P ops j i || befB ops 4 j i
def Down (ops : Array Oper) (listed : Array Bool) : Prop := ∀ i o, ops[i]? = some o → listed.getD i false = true → ∀ e ∈ o.after, Region.binds .any e = true → listed.getD e.on false = true
theorem befB_listed {listed : Array Bool} (hd : Down ops listed) {j : Nat} : ∀ (f i : Nat), (∀ o, ops[i]? = some o → ∀ e ∈ o.after, Region.binds .any e = true → listed.getD e.on false = true) → befB ops f j i = true → listed.getD j false = true
  | 0, _, _, hb => by simp [befB] at hb
  | f + 1, i, hi, hb => by
    unfold befB at hb
    split at hb
    · rename_i o ho
      obtain ⟨e, he, h1⟩ := Array.any_eq_true'.1 hb
      simp only [Bool.and_eq_true, Bool.or_eq_true, beq_iff_eq] at h1
      have hl := hi o ho e he h1.1
      rcases h1.2 with h2 | h2
      · exact h2 ▸ hl
      · exact befB_listed hd f e.on (fun o' ho' e' he' hb' => hd e.on o' ho' hl e' he' hb') h2
    · cases hb
theorem gstep_wpOp {n : Nat} {ds : List Nat} {ρ0 ρ : Env} {w0 w : World} {h : Hp} {a : Act} {i : Nat} {o : Oper} {K : Act → World → Prop} {N : Env → Hp → Prop} {Q : Exit → Act → World → Prop} (ho : ops[i]? = some o)
    (hd : ∀ t, o.dst = some t → t < n ∧ ds.contains t = true) (hk : gstep P ops o ρ h N) (hr : Rel n a ρ) (hp : Keep ds ρ0 ρ) (hi : Is w h) (hs : Same w0 w)
    (hn : ∀ a w ρ h, Rel n a ρ → Keep ds ρ0 ρ → Is w h → Same w0 w → N ρ h → K a w) : wpOp P ops Q i K a w := by
  have hd1 : ∀ t, o.dst = some t → t < n := fun t e => (hd t e).1
  have hdd : ∀ t, o.dst = some t → ds.contains t = true := fun t e => (hd t e).2
  unfold wpOp
  simp only [ho]
  unfold gstep at hk
  split at hk
  · rename_i hg
    rw [if_pos (by simp [Region.wanted, hg])]
    exact .inl (Ran.wp (w0 := w0) (hr.eval ▸ astep_sound hk hi) hs fun v h' w' hi' hs' hk' => hn _ _ _ _ (hr.put hd1 v) (hp.put hdd v) hi' hs' hk')
  · rename_i j want hg
    split at hk
    · exact hk.elim
    · rename_i t ht
      have hy := yielded_eq hr ops ht
      split at hk
      · rename_i q hq
        rw [hq] at hy
        split at hk
        · rename_i e
          subst e
          rw [if_pos (by simp [Region.wanted, hg, hy])]
          exact .inl (Ran.wp (w0 := w0) (hr.eval ▸ astep_sound hk hi) hs fun v h' w' hi' hs' hk' => hn _ _ _ _ (hr.put hd1 v) (hp.put hdd v) hi' hs' hk')
        · rename_i e
          have : q = !want := by cases q <;> cases want <;> simp_all
          subst this
          rw [if_neg (by simp [Region.wanted, hg, hy])]
          exact hn _ _ _ _ (hr.put hd1 undef) (hp.put hdd undef) hi hs hk
      · rename_i vs hq
        rw [hq] at hy
        rw [if_neg (by simp [Region.wanted, hg, hy])]
        exact hn _ _ _ _ (hr.put hd1 undef) (hp.put hdd undef) hi hs hk
      · exact hk.elim
theorem mem_ready {listed : Array Bool} {i : Nat} : i ∈ Region.ready .any ops listed ↔ i < ops.size ∧ listed.getD i true = false ∧ ∃ o, ops[i]? = some o ∧ ∀ e ∈ o.after, Region.binds .any e = true → listed.getD e.on false = true := by
  unfold Region.ready
  rw [List.mem_filter, List.mem_range]
  cases h : ops[i]? with
  | none => simp
  | some o =>
    simp only [Option.map_some, Option.getD_some, Bool.and_eq_true, Bool.not_eq_true', Option.some.injEq, exists_eq_left', Array.all_eq_true', Bool.or_eq_true, and_congr_right_iff]
    intro _ _
    exact ⟨fun k e he hb => (k e he).resolve_left (by simp [hb]), fun k e he => by
      cases hb : Region.binds .any e with
      | false => exact .inl rfl
      | true => exact .inr (k e he hb)⟩
theorem getD_set {listed : Array Bool} {i j : Nat} {d : Bool} (hi : i < listed.size) : (listed.setIfInBounds i true).getD j d = if j = i then true else listed.getD j d := by
  simp only [Array.getD_eq_getD_getElem?, Array.getElem?_setIfInBounds]
  by_cases h : i = j
  · subst h; simp [hi]
  · simp [h, Ne.symm h]
theorem swap_any {n : Nat} {ds : List Nat} {ρ0 : Env} {w0 : World} {N : Env → Hp → Prop} {Q : Exit → Act → World → Prop} (hsw : swapB P ops = true) (hd : ∀ o ∈ ops.toList, ∀ t, o.dst = some t → t < n ∧ ds.contains t = true)
    (hQ : ∀ a w ρ h, Rel n a ρ → Keep ds ρ0 ρ → Is w h → Same w0 w → N ρ h → Q .normal a w) :
    ∀ (fuel : Nat) (l : List Nat) (listed : Array Bool) (ρ : Env) (h : Hp) (a : Act) (w : World), l.length = fuel → listed.size = ops.size → l.Pairwise (· < ·) → (∀ i, i ∈ l ↔ i < ops.size ∧ listed.getD i false = false) → Down ops listed →
      aopsI P ops l ρ h N → Rel n a ρ → Keep ds ρ0 ρ → Is w h → Same w0 w → wpAny P .any ops Q fuel listed a w := by
  have hsw' : ∀ i o, ops[i]? = some o → (∀ e ∈ o.after, Region.binds .any e = true → e.on < i) ∧ ∀ j, j < i → commB P ops j i = true ∨ befB ops 4 j i = true := fun i o ho => by
    have hlt : i < ops.size := (Array.getElem?_eq_some_iff.1 ho).1
    have := List.all_eq_true.1 hsw i (by simpa using hlt)
    rw [Bool.and_eq_true] at this
    obtain ⟨h1, h2⟩ := this
    simp only [ho] at h1
    refine ⟨fun e he hb => ?_, fun j hj => ?_⟩
    · have := Array.all_eq_true'.1 h1 e he
      simpa [hb] using this
    · simpa using List.all_eq_true.1 h2 j (by simpa using hj)
  have dflt : ∀ {listed : Array Bool}, listed.size = ops.size → ∀ i, i < ops.size → listed.getD i true = listed.getD i false := fun hsz i hi => by
    simp [Array.getD, hsz, hi]
  have empty : ∀ (l : List Nat) (listed : Array Bool), listed.size = ops.size → l.Pairwise (· < ·) → (∀ i, i ∈ l ↔ i < ops.size ∧ listed.getD i false = false) → Region.ready .any ops listed = [] → l = [] := fun l listed hsz hpw hm hr => by
    cases l with
    | nil => rfl
    | cons i l =>
      exfalso
      have hi := (hm i).1 (by simp)
      have : i ∈ Region.ready .any ops listed := mem_ready.2 ⟨hi.1, (dflt hsz i hi.1).trans hi.2, ops[i]'hi.1, Array.getElem?_eq_getElem hi.1, fun e he hb => by
        have hlt := (hsw' i _ (Array.getElem?_eq_getElem hi.1)).1 e he hb
        cases hl : listed.getD e.on false with
        | true => rfl
        | false =>
          have hmem := (hm e.on).2 ⟨by have := hi.1; omega, hl⟩
          rcases List.mem_cons.1 hmem with h1 | h1
          · omega
          · have := (List.pairwise_cons.1 hpw).1 _ h1
            omega⟩
      rw [hr] at this
      cases this
  intro fuel
  induction fuel with
  | zero =>
    intro l listed ρ h a w hl hsz hpw hm hdn hk hr hp hi hs
    have hl : l = [] := by simpa using hl
    subst hl
    refine ⟨?_, hQ a w ρ h hr hp hi hs hk⟩
    cases hre : Region.ready .any ops listed with
    | nil => rfl
    | cons i r =>
      exfalso
      have := mem_ready.1 (hre ▸ List.mem_cons_self : i ∈ Region.ready .any ops listed)
      exact absurd ((hm i).2 ⟨this.1, (dflt hsz i this.1) ▸ this.2.1⟩) (by simp)
  | succ fuel ih =>
    intro l listed ρ h a w hl hsz hpw hm hdn hk hr hp hi hs
    refine ⟨fun h0 => ?_, fun i hir => ?_⟩
    · have := empty l listed hsz hpw hm h0
      subst this
      cases hl
    · obtain ⟨hlt, hun, o, ho, hedge⟩ := mem_ready.1 hir
      have hil : i ∈ l := (hm i).2 ⟨hlt, (dflt hsz i hlt) ▸ hun⟩
      obtain ⟨r, r2, rfl⟩ := List.append_of_mem hil
      have hpw' := List.pairwise_append.1 hpw
      have hrlt : ∀ j ∈ r, j < i := fun j hj => hpw'.2.2 j hj i (by simp)
      have hr2lt : ∀ j ∈ r2, i < j := fun j hj => (List.pairwise_cons.1 hpw'.2.1).1 j hj
      have hcm : ∀ j ∈ r, commB P ops j i = true := fun j hj => ((hsw' i o ho).2 j (hrlt j hj)).resolve_right fun hb => by
        have h1 := befB_listed hdn 4 i (fun o' ho' e he hb' => by
          rw [ho] at ho'; cases ho'
          exact hedge e he hb') hb
        have h2 := ((hm j).1 (by simp [hj])).2
        rw [h1] at h2; cases h2
      have hg := bring ho r r2 hcm hi hk
      refine gstep_wpOp ho (hd o (by simpa using Array.mem_of_getElem? ho)) hg hr hp hi hs fun a' w' ρ' h' hr' hp' hi' hs' hk' => ?_
      refine ih (r ++ r2) _ ρ' h' a' w' (by simp at hl ⊢; omega) (by simpa using hsz) ?_ (fun j => ?_) ?_ hk' hr' hp' hi' hs'
      · exact hpw.sublist (List.Sublist.append (List.Sublist.refl r) (List.sublist_cons_self i r2))
      · rw [getD_set (by omega)]
        have hm' := hm j
        by_cases hj : j = i
        · subst hj
          simp only [if_pos, Bool.true_eq_false, and_false, iff_false]
          intro hmem
          rcases List.mem_append.1 hmem with h1 | h1
          · have := hrlt j h1; omega
          · have := hr2lt j h1; omega
        · rw [if_neg hj, ← hm']
          simp [hj]
      · intro k o' ho' hk' e he hb
        rw [getD_set (by omega)] at hk' ⊢
        by_cases hki : k = i
        · subst hki
          rw [ho] at ho'; cases ho'
          split
          · rfl
          · exact hedge e he hb
        · rw [if_neg hki] at hk'
          split
          · rfl
          · exact hdn k o' ho' hk' e he hb
/-! ### any order, by what holds behind each set of operations -/
def edgesOk (ops : Array Oper) : Bool := (List.range ops.size).all fun i => match ops[i]? with
  | some o => o.after.all fun e => !Region.binds .any e || decide (e.on < i)
  | none => true
def AnyI (P : Program) (ops : Array Oper) (ρ : Env) (h : Hp) (N : Env → Hp → Prop) : Prop := edgesOk ops = true ∧ ∃ I : Array Bool → Env → Hp → Prop, I (Array.replicate ops.size false) ρ h ∧
  (∀ listed i o ρ h, listed.size = ops.size → Down ops listed → ops[i]? = some o → listed.getD i false = false → (∀ e ∈ o.after, Region.binds .any e = true → listed.getD e.on false = true) → I listed ρ h → (∃ w, Is w h) →
    gstep P ops o ρ h (I (listed.setIfInBounds i true))) ∧
  (∀ listed ρ h, listed.size = ops.size → (∀ i, i < ops.size → listed.getD i false = true) → I listed ρ h → N ρ h)
theorem inv_any {n : Nat} {ds : List Nat} {ρ0 : Env} {w0 : World} {N : Env → Hp → Prop} {Q : Exit → Act → World → Prop} {I : Array Bool → Env → Hp → Prop} (hed : edgesOk ops = true) (hd : ∀ o ∈ ops.toList, ∀ t, o.dst = some t → t < n ∧ ds.contains t = true)
    (hstep : ∀ listed i o ρ h, listed.size = ops.size → Down ops listed → ops[i]? = some o → listed.getD i false = false → (∀ e ∈ o.after, Region.binds .any e = true → listed.getD e.on false = true) → I listed ρ h → (∃ w, Is w h) →
      gstep P ops o ρ h (I (listed.setIfInBounds i true)))
    (hfin : ∀ listed ρ h, listed.size = ops.size → (∀ i, i < ops.size → listed.getD i false = true) → I listed ρ h → N ρ h)
    (hQ : ∀ a w ρ h, Rel n a ρ → Keep ds ρ0 ρ → Is w h → Same w0 w → N ρ h → Q .normal a w) :
    ∀ (fuel : Nat) (l : List Nat) (listed : Array Bool) (ρ : Env) (h : Hp) (a : Act) (w : World), l.length = fuel → listed.size = ops.size → l.Pairwise (· < ·) → (∀ i, i ∈ l ↔ i < ops.size ∧ listed.getD i false = false) → Down ops listed →
      I listed ρ h → Rel n a ρ → Keep ds ρ0 ρ → Is w h → Same w0 w → wpAny P .any ops Q fuel listed a w := by
  have hed' : ∀ i o, ops[i]? = some o → ∀ e ∈ o.after, Region.binds .any e = true → e.on < i := fun i o ho e he hb => by
    have hlt : i < ops.size := (Array.getElem?_eq_some_iff.1 ho).1
    have h1 := List.all_eq_true.1 hed i (by simpa using hlt)
    simp only [ho] at h1
    have := Array.all_eq_true'.1 h1 e he
    simpa [hb] using this
  have dflt : ∀ {listed : Array Bool}, listed.size = ops.size → ∀ i, i < ops.size → listed.getD i true = listed.getD i false := fun hsz i hi => by
    simp [Array.getD, hsz, hi]
  have empty : ∀ (l : List Nat) (listed : Array Bool), listed.size = ops.size → l.Pairwise (· < ·) → (∀ i, i ∈ l ↔ i < ops.size ∧ listed.getD i false = false) → Region.ready .any ops listed = [] → l = [] := fun l listed hsz hpw hm hr => by
    cases l with
    | nil => rfl
    | cons i l =>
      exfalso
      have hi := (hm i).1 (by simp)
      have : i ∈ Region.ready .any ops listed := mem_ready.2 ⟨hi.1, (dflt hsz i hi.1).trans hi.2, ops[i]'hi.1, Array.getElem?_eq_getElem hi.1, fun e he hb => by
        have hlt := hed' i _ (Array.getElem?_eq_getElem hi.1) e he hb
        cases hl : listed.getD e.on false with
        | true => rfl
        | false =>
          have hmem := (hm e.on).2 ⟨by have := hi.1; omega, hl⟩
          rcases List.mem_cons.1 hmem with h1 | h1
          · omega
          · have := (List.pairwise_cons.1 hpw).1 _ h1
            omega⟩
      rw [hr] at this
      cases this
  intro fuel
  induction fuel with
  | zero =>
    intro l listed ρ h a w hl hsz hpw hm hdn hk hr hp hi hs
    have hl : l = [] := by simpa using hl
    subst hl
    refine ⟨?_, hQ a w ρ h hr hp hi hs (hfin listed ρ h hsz (fun i hlt => ?_) hk)⟩
    · cases hre : Region.ready .any ops listed with
      | nil => rfl
      | cons i r =>
        exfalso
        have := mem_ready.1 (hre ▸ List.mem_cons_self : i ∈ Region.ready .any ops listed)
        exact absurd ((hm i).2 ⟨this.1, (dflt hsz i this.1) ▸ this.2.1⟩) (by simp)
    · cases hb : listed.getD i false with
      | true => rfl
      | false => exact absurd ((hm i).2 ⟨hlt, hb⟩) (by simp)
  | succ fuel ih =>
    intro l listed ρ h a w hl hsz hpw hm hdn hk hr hp hi hs
    refine ⟨fun h0 => ?_, fun i hir => ?_⟩
    · have := empty l listed hsz hpw hm h0
      subst this
      cases hl
    · obtain ⟨hlt, hun, o, ho, hedge⟩ := mem_ready.1 hir
      have hunf : listed.getD i false = false := (dflt hsz i hlt) ▸ hun
      have hil : i ∈ l := (hm i).2 ⟨hlt, hunf⟩
      obtain ⟨r, r2, rfl⟩ := List.append_of_mem hil
      have hpw' := List.pairwise_append.1 hpw
      have hrlt : ∀ j ∈ r, j < i := fun j hj => hpw'.2.2 j hj i (by simp)
      have hr2lt : ∀ j ∈ r2, i < j := fun j hj => (List.pairwise_cons.1 hpw'.2.1).1 j hj
      have hg := hstep listed i o ρ h hsz hdn ho hunf hedge hk ⟨w, hi⟩
      refine gstep_wpOp ho (hd o (by simpa using Array.mem_of_getElem? ho)) hg hr hp hi hs fun a' w' ρ' h' hr' hp' hi' hs' hk' => ?_
      refine ih (r ++ r2) _ ρ' h' a' w' (by simp at hl ⊢; omega) (by simpa using hsz) ?_ (fun j => ?_) ?_ hk' hr' hp' hi' hs'
      · exact hpw.sublist (List.Sublist.append (List.Sublist.refl r) (List.sublist_cons_self i r2))
      · rw [getD_set (by omega)]
        have hm' := hm j
        by_cases hj : j = i
        · subst hj
          simp only [if_pos, Bool.true_eq_false, and_false, iff_false]
          intro hmem
          rcases List.mem_append.1 hmem with h1 | h1
          · have := hrlt j h1; omega
          · have := hr2lt j h1; omega
        · rw [if_neg hj, ← hm']
          simp [hj]
      · intro k o' ho' hk' e he hb
        rw [getD_set (by omega)] at hk' ⊢
        by_cases hki : k = i
        · subst hki
          rw [ho] at ho'; cases ho'
          split
          · rfl
          · exact hedge e he hb
        · rw [if_neg hki] at hk'
          split
          · rfl
          · exact hdn k o' ho' hk' e he hb
theorem wp_region_inv {n id : Nat} {ds : List Nat} {ρ0 ρ : Env} {w0 w : World} {h : Hp} {a : Act} {N : Env → Hp → Prop} {Q : Exit → Act → World → Prop} (hm : P.follows .mixedOrders = true) (hd : ∀ o ∈ ops.toList, ∀ t, o.dst = some t → t < n ∧ ds.contains t = true)
    (hQ : ∀ a w ρ h, Rel n a ρ → Keep ds ρ0 ρ → Is w h → Same w0 w → N ρ h → Q .normal a w) (hk : AnyI P ops ρ h N) (hr : Rel n a ρ) (hp : Keep ds ρ0 ρ) (hi : Is w h) (hs : Same w0 w) : (Code.region id ops true).wp P Q a w := by
  obtain ⟨hed, I, h0, hstep, hfin⟩ := hk
  refine wp_region_any hm (inv_any hed hd hstep hfin hQ ops.size (List.range' 0 ops.size) _ ρ h a _ (by simp) (by simp) List.pairwise_lt_range' (fun i => ?_) (fun i o ho hl => ?_) h0 hr hp hi hs)
  · simp only [List.mem_range'_1, Nat.zero_le, true_and, Nat.zero_add]
    refine ⟨fun hlt => ⟨hlt, ?_⟩, fun k => k.1⟩
    simp [Array.getD, hlt]
  · simp [Array.getD] at hl
theorem wp_region_swap {n id : Nat} {ds : List Nat} {ρ0 ρ : Env} {w0 w : World} {h : Hp} {a : Act} {N : Env → Hp → Prop} {Q : Exit → Act → World → Prop} (hm : P.follows .mixedOrders = true) (hsw : swapB P ops = true) (hd : ∀ o ∈ ops.toList, ∀ t, o.dst = some t → t < n ∧ ds.contains t = true)
    (hQ : ∀ a w ρ h, Rel n a ρ → Keep ds ρ0 ρ → Is w h → Same w0 w → N ρ h → Q .normal a w) (hk : aops P ops ops.toList ρ h N) (hr : Rel n a ρ) (hp : Keep ds ρ0 ρ) (hi : Is w h) (hs : Same w0 w) : (Code.region id ops true).wp P Q a w := by
  refine wp_region_any hm (swap_any hsw hd hQ ops.size (List.range' 0 ops.size) _ ρ h a _ (by simp) (by simp) List.pairwise_lt_range' (fun i => ?_) (fun i o ho hl => ?_) ?_ hr hp hi hs)
  · simp only [List.mem_range'_1, Nat.zero_le, true_and, Nat.zero_add]
    refine ⟨fun hlt => ⟨hlt, ?_⟩, fun k => k.1⟩
    simp [Array.getD, hlt]
  · simp [Array.getD] at hl
  · have := aopsI_of (P := P) (ops := ops) N ops.toList 0 (fun j => by simp) ρ h hk
    simpa using this
end
end Go.Proofs.Ytdfeigkooeeeaaa
namespace Go.Proofs.Ytdfeigkooeeeaaa
open Go Go.RowKit

/-! ### a region that draws its order, all of it quiet -/
def qconv (P : Program) (src dst : TypeId) (x : Value) (h : Hp) (K : Value → Prop) : Prop :=
  match x with
  | .int _ n => (match P.underlying src, P.underlying dst with
    | some (.int _), some (.int k) => K (.int k (k.wrap n))
    | _, _ => False)
  | .slice base len _ => (match P.underlying src, P.underlying dst with
    | some (.slice e), some .string => P.underlying e = some (.int .u8) ∧ (match base with
      | none => K (.string ByteArray.empty)
      | some ⟨b, o, none⟩ => (match h.f b with
        | some (.cells c _ _) => (match (cellsL c o len).bind bytesOf with
          | some bs => K (.string ⟨bs.toArray⟩)
          | none => False)
        | _ => False)
      | _ => False)
    | _, _ => False)
  | _ => False
theorem qconv_sound {P : Program} {src dst : TypeId} {x : Value} {h : Hp} {K : Value → Prop} (hk : qconv P src dst x h K) : PG P (convert src dst x) h K := by
  unfold qconv at hk
  split at hk
  · rename_i k n
    split at hk
    · rename_i k1 k2 h1 h2
      exact .here (fun w _ => by simp [convert, run_underlying h1, run_underlying h2, Conv.intToInt]) hk
    · exact hk.elim
  · rename_i base len cap
    split at hk
    · rename_i e h1 h2
      obtain ⟨he, hk⟩ := hk
      split at hk
      · refine .here (fun w _ => ?_) hk
        exact run_convert_bytes_nil w src e h1 he _ _ dst h2
      · rename_i b o
        split at hk
        · rename_i c t fz hc
          split at hk
          · rename_i bs hb
            refine .here (fun w hi => ?_) hk
            cases hl : cellsL c o len with
            | none => rw [hl] at hb; cases hb
            | some l =>
              rw [hl] at hb
              obtain ⟨ns, rfl, rfl⟩ := bytesOf_spec l bs hb
              have hload := run_loadCells (P := P) (w := w) (fun i => hi.cell (i := i) hc) hl
              rw [run_convert_bytes_string w src dst e _ _ _ h1 he h2, run_bytesToString w _ _ _ ns hload, foldl_push_bytes]
              simp [ByteArray.empty, ByteArray.emptyWithCapacity]
              rfl
          · exact hk.elim
        · exact hk.elim
      · exact hk.elim
    · exact hk.elim
  · exact hk.elim
def aqstep (P : Program) (o : Op) (ρ : Env) (h : Hp) (K : Value → Prop) : Prop :=
  match o with
  | .call c => (match c.callee with
    | .value f => qcall P (ρ.ev f) (c.args.map ρ.ev) h K
    | .builtin b => qbuiltin P b c.argTypes.toList (c.args.toList.map ρ.ev) h K
    | _ => False)
  | .convert src dst x => qconv P src dst (ρ.ev x) h K
  | o => apure P o ρ h K
/-- The worlds of the class: the view, however many blocks there are. -/
def Cls (h : Hp) (w0 w : World) : Prop := ∃ n, h.n ≤ n ∧ Is w (h.to n) ∧ Same w0 w
theorem aqstep_sound {P : Program} {o : Oper} {a : Act} {ρ : Env} {h : Hp} {w0 : World} {K : Value → Prop} (he : a.eval = ρ.ev) (hk : aqstep P o.op ρ h K) : ∃ v, K v ∧ ∀ w, Cls h w0 w → o.quietAt P a (Cls h w0) w v := by
  have pure_ : ∀ {v : Value}, (∀ w, Fits w h → (execOp ρ.ev o).run P w = .ok (.value v) w) → ∀ w, Cls h w0 w → o.quietAt P a (Cls h w0) w v := fun hr w ⟨n, _, hi, _⟩ => by
    unfold Oper.quietAt
    rw [he, hr w hi.2]
    exact ⟨rfl, rfl⟩
  unfold aqstep at hk
  split at hk
  · rename_i c hc
    split at hk
    · rename_i f hf
      unfold qcall at hk
      split at hk
      · rename_i g first captured hg
        obtain ⟨v, ⟨hcall, hq⟩, hv⟩ := hk
        refine ⟨v, hv, fun w ⟨n, hn, hi, hs⟩ => ?_⟩
        obtain ⟨dst, op, ty, pos, after, guard⟩ := o
        obtain ⟨callee, args, ats⟩ := c
        dsimp only at hc hf hg hq
        subst hc hf
        have hrun : (execOp ρ.ev ⟨dst, .call { callee := .value f, args := args, argTypes := ats }, ty, pos, after, guard⟩).run P w = .ok (.enter g (first ++ args.map ρ.ev ++ captured)) w := by
          simp only [execOp, resolve, hg, Deferred.ofValue, invoke, Sem.run_bind, Sem.run_pure, Result.andThen_ok, run_callFunc hcall]
        unfold Oper.quietAt
        rw [he, hrun]
        refine ⟨rfl, (hq n hn w hi).mono fun e w' ⟨u, g', h1, h2, h3, h4, k, h5, h6⟩ => ?_⟩
        subst h1 h4 h6
        exact ⟨rfl, k, by omega, h2, hs.trans h3⟩
      · exact hk.elim
    · rename_i b hb
      have : apure P o.op ρ h K := by
        rw [hc]; unfold apure; simp only [hb]; exact hk
      obtain ⟨v, hv, hr⟩ := apure_sound this
      exact ⟨v, hv, pure_ hr⟩
    · exact hk.elim
  · rename_i src dst x hc
    obtain ⟨v, hv, hr⟩ := qconv_sound hk
    refine ⟨v, hv, pure_ fun w hw => ?_⟩
    obtain ⟨dst', op, ty, pos, after, guard⟩ := o
    dsimp only at hc
    subst hc
    simp only [execOp, Sem.run_bind, hr w hw, Result.andThen_ok]
    rfl
  · obtain ⟨v, hv, hr⟩ := apure_sound hk
    exact ⟨v, hv, pure_ hr⟩
def aopsQ (P : Program) (ops : Array Oper) (h : Hp) : List Oper → Env → (Env → Prop) → Prop
  | [], ρ, N => N ρ
  | o :: l, ρ, N => (match o.guard with
    | none => aqstep P o.op ρ h fun v => aopsQ P ops h l (ρ.put o.dst v) N
    | some (j, want) => (match gslot ops j with
      | none => False
      | some t => (match ρ t with
        | .bool q => Br (q == want) (aqstep P o.op (ρ.upd t (.bool want)) h fun v => aopsQ P ops h l ((ρ.upd t (.bool want)).put o.dst v) N)
          (aopsQ P ops h l ((ρ.upd t (.bool (!want))).put o.dst undef) N)
        | .tuple _ => aopsQ P ops h l (ρ.put o.dst undef) N
        | _ => False)))
theorem aopsQ_sound {P : Program} {ops : Array Oper} {n : Nat} {ds : List Nat} {ρ0 : Env} {h : Hp} {w0 : World} {N : Env → Prop} {Q : Act → Prop} (hQ : ∀ a ρ, Rel n a ρ → Keep ds ρ0 ρ → N ρ → Q a) :
    ∀ (l : List Oper), (∀ o ∈ l, ∀ t, o.dst = some t → t < n ∧ ds.contains t = true) → ∀ (ρ : Env) (a : Act), aopsQ P ops h l ρ N → Rel n a ρ → Keep ds ρ0 ρ → wpQuiet P ops (Cls h w0) Q l a
  | [], _, ρ, a, hk, hr, hp => hQ a ρ hr hp hk
  | o :: l, hd, ρ, a, hk, hr, hp => by
    have hd1 := hd o (by simp)
    have hdn : ∀ t, o.dst = some t → t < n := fun t e => (hd1 t e).1
    have hdd : ∀ t, o.dst = some t → ds.contains t = true := fun t e => (hd1 t e).2
    have ih := aopsQ_sound (P := P) (ops := ops) (h := h) (w0 := w0) hQ l (fun o' ho => hd o' (by simp [ho]))
    unfold aopsQ at hk
    unfold wpQuiet
    split at hk
    · rename_i hg
      rw [if_pos (by simp [Region.wanted, hg])]
      obtain ⟨v, hv, hq⟩ := aqstep_sound (w0 := w0) hr.eval hk
      exact ⟨v, hq, ih _ _ hv (hr.put hdn v) (hp.put hdd v)⟩
    · rename_i j want hg
      split at hk
      · exact hk.elim
      · rename_i t ht
        have hy := yielded_eq hr ops ht
        split at hk
        · rename_i q hq
          rw [hq] at hy
          rcases Br_elim hk with ⟨hqw, hk2⟩ | ⟨hqw, hk2⟩
          · have hqw : q = want := by simpa using hqw
            subst hqw
            rw [upd_eta hq] at hk2
            rw [if_pos (by simp [Region.wanted, hg, hy])]
            obtain ⟨v, hv, hq⟩ := aqstep_sound (w0 := w0) hr.eval hk2
            exact ⟨v, hq, ih _ _ hv (hr.put hdn v) (hp.put hdd v)⟩
          · have hqw : q = !want := by cases q <;> cases want <;> simp_all
            subst hqw
            rw [upd_eta hq] at hk2
            rw [if_neg (by simp [Region.wanted, hg, hy])]
            exact ih _ _ hk2 (hr.put hdn undef) (hp.put hdd undef)
        · rename_i vs hq
          rw [hq] at hy
          rw [if_neg (by simp [Region.wanted, hg, hy])]
          exact ih _ _ hk (hr.put hdn undef) (hp.put hdd undef)
        · exact hk.elim

/-! ### code -/
def opDsts (l : List Oper) : List Nat := l.filterMap (·.dst)
def codeDsts : Code → List Nat
  | .region _ ops _ => opDsts ops.toList
  | .seq a b => codeDsts a ++ codeDsts b
  | .cond _ a b => codeDsts a ++ codeDsts b
  | .block _ c => codeDsts c
  | .loop c => codeDsts c
  | .scope c => codeDsts c
  | _ => []
abbrev EH := Env → Hp → Prop
def Wf (h : Hp) : Prop := ∀ b o, h.f b = some o → b < h.n
theorem Is.wf {w : World} {h : Hp} (hi : Is w h) : Wf h := fun _ _ e => hi.lt e
/-- A loop, its body a transformer. -/
def LoopG (B : EH → EH) (cd : List Nat) (ρ : Env) (h : Hp) : Prop :=
  ∃ (I : EH) (μ : Env → Hp → Nat), I ρ h ∧ ∀ ρ' h', I ρ' h' → Wf h' → Keep cd ρ ρ' → B (fun ρ2 h2 => ∃ g, Sub g h2 ∧ I ρ2 g ∧ μ ρ2 g < μ ρ' h') ρ' h'
def avc (P : Program) : Code → EH → EH → (Nat → EH) → EH
  | .skip, N, _, _, ρ, h => N ρ h
  | .region _ ops draw, N, _, _, ρ, h => if draw = true then (Region.lexB .any ops = true ∧ aopsQ P ops h ops.toList ρ fun ρ' => ∀ n, h.n ≤ n → N ρ' (h.to n)) ∨ (swapB P ops = true ∧ aops P ops ops.toList ρ h N) ∨ AnyI P ops ρ h N else aops P ops ops.toList ρ h N
  | .seq a b, N, R, X, ρ, h => avc P a (fun ρ' h' => avc P b N R X ρ' h') R X ρ h
  | .cond c a b, N, R, X, ρ, h => (match ρ.ev c with
    | .bool q => Br q (avc P a N R X ρ h) (avc P b N R X ρ h)
    | _ => False)
  | .block id c, N, R, X, ρ, h => avc P c N R (fun i ρ' h' => if i = id then N ρ' h' else X i ρ' h') ρ h
  | .loop c, _, R, X, ρ, h => LoopG (fun N' ρ' h' => avc P c N' R X ρ' h') (codeDsts c) ρ h
  | .exit i, _, _, X, ρ, h => X i ρ h
  | .scope c, N, R, X, ρ, h => avc P c N R X ρ h
  | .label _, N, _, _, ρ, h => N ρ h
  | .ret, _, R, _, ρ, h => R ρ h
  | _, _, _, _, _, _ => False
def Post (n : Nat) (ds : List Nat) (ρ0 : Env) (w0 : World) (N R : EH) (X : Nat → EH) : Exit → Act → World → Prop
  | .normal, a, w => ∃ ρ h, Rel n a ρ ∧ Is w h ∧ Same w0 w ∧ Keep ds ρ0 ρ ∧ N ρ h
  | .ret, a, w => ∃ ρ h, Rel n a ρ ∧ Is w h ∧ Same w0 w ∧ Keep ds ρ0 ρ ∧ R ρ h
  | .exit i, a, w => ∃ ρ h, Rel n a ρ ∧ Is w h ∧ Same w0 w ∧ Keep ds ρ0 ρ ∧ X i ρ h
  | _, _, _ => False
theorem Keep.mono {ds es : List Nat} {ρ0 ρ : Env} (hk : Keep ds ρ0 ρ) (hs : ∀ t, ds.contains t = true → es.contains t = true) : Keep es ρ0 ρ := fun t ht => hk t (by
  cases h : ds.contains t with
  | false => rfl
  | true => rw [hs t h] at ht; cases ht)
theorem Keep.trans {ds : List Nat} {a b c : Env} (h : Keep ds a b) (k : Keep ds b c) : Keep ds a c := fun t ht => (k t ht).trans (h t ht)
theorem wp_loop_ghost {P : Program} {c : Code} {Q : Exit → Act → World → Prop} {γ : Type} (I : γ → Act → World → Prop) (μ : γ → Nat)
    (round : ∀ g a w, I g a w → c.wp P (Exit.then (fun a' w' => ∃ g', I g' a' w' ∧ μ g' < μ g) Q) a w) {g : γ} {a : Act} {w : World} (h0 : I g a w) : (Code.loop c).wp P Q a w := by
  intro b k cs
  have key : ∀ n g a w, μ g = n → I g a w → ∃ e a' w', Q e a' w' ∧ Arrives P (lone (b.at a (.code c :: .inLoop c :: k)) cs w) b k cs e a' w' := by
    intro n
    induction n using Nat.strongRecOn with
    | _ n ih =>
      intro g a w hn hI
      obtain ⟨e, a₁, w₁, hq, harr⟩ := round g a w hI b (.inLoop c :: k) cs
      cases e with
      | normal =>
        obtain ⟨g', hI₁, hlt⟩ := hq
        obtain ⟨e₂, a₂, w₂, hq₂, harr₂⟩ := ih (μ g') (hn ▸ hlt) g' a₁ w₁ rfl hI₁
        exact ⟨e₂, a₂, w₂, hq₂, .of_steps (Steps.trans harr (.one step_inLoop)) harr₂⟩
      | exit id => exact ⟨_, a₁, w₁, hq, .pass (x := .inLoop c) rfl (fun _ _ => .inl (by simp)) harr⟩
      | goto l => exact ⟨_, a₁, w₁, hq, .pass (x := .inLoop c) rfl (fun _ _ => .inl (by simp)) harr⟩
      | ret => exact ⟨_, a₁, w₁, hq, .pass (x := .inLoop c) rfl (fun _ _ => .inl (by simp)) harr⟩
      | panic ch => exact ⟨_, a₁, w₁, hq, .pass (x := .inLoop c) rfl (fun _ _ => .inl (by simp)) harr⟩
      | outgrown => exact ⟨_, a₁, w₁, hq, .pass (x := .inLoop c) rfl (fun _ _ => .inl (by simp)) harr⟩
  obtain ⟨e, a', w', hq, harr⟩ := key _ g a w rfl h0
  exact ⟨e, a', w', hq, .of_steps (.one step_loop) harr⟩
theorem opDsts_spec {l : List Oper} {n : Nat} {ds : List Nat} (hd : ∀ t ∈ opDsts l, t < n ∧ ds.contains t = true) : ∀ o ∈ l, ∀ t, o.dst = some t → t < n ∧ ds.contains t = true :=
  fun o ho t e => hd t (List.mem_filterMap.2 ⟨o, ho, e⟩)
theorem avc_sound {P : Program} (hm : P.follows .mixedOrders = true) {n : Nat} {w0 : World} : ∀ (c : Code) (ds : List Nat), (∀ t ∈ codeDsts c, t < n ∧ ds.contains t = true) → ∀ (N R : EH) (X : Nat → EH) (ρ0 ρ : Env) (h : Hp) (a : Act) (w : World),
    avc P c N R X ρ h → Rel n a ρ → Is w h → Same w0 w → Keep ds ρ0 ρ → c.wp P (Post n ds ρ0 w0 N R X) a w := by
  intro c
  induction c with
  | skip => intro ds _ N R X ρ0 ρ h a w hk hr hi hs hp; exact wp_skip ⟨ρ, h, hr, hi, hs, hp, hk⟩
  | region id ops draw =>
    intro ds hd N R X ρ0 ρ h a w hk hr hi hs hp
    have hd' := opDsts_spec (l := ops.toList) hd
    unfold avc at hk
    split at hk
    · rename_i hdr
      subst hdr
      rcases hk with hk | hk | hk
      case inr.inr => exact wp_region_inv (n := n) (ds := ds) (ρ0 := ρ0) (w0 := w0) hm hd' (fun a' w' ρ' h' hr' hp' hi' hs' hN => ⟨ρ', h', hr', hi', hs', hp', hN⟩) hk hr hp hi hs
      case inr.inl => exact wp_region_swap (n := n) (ds := ds) (ρ0 := ρ0) (w0 := w0) hm hk.1 hd' (fun a' w' ρ' h' hr' hp' hi' hs' hN => ⟨ρ', h', hr', hi', hs', hp', hN⟩) hk.2 hr hp hi hs
      refine wp_region_quiet (C := Cls h w0) hm hk.1 ⟨h.n, Nat.le_refl _, hi, hs⟩ ?_
      exact aopsQ_sound (fun a' ρ' hr' hp' hN w' ⟨k, hkn, hi', hs'⟩ => ⟨ρ', h.to k, hr', hi', hs', hp', hN k hkn⟩) ops.toList hd' ρ a hk.2 hr hp
    · rename_i hdr
      have hdr : draw = false := by simpa using hdr
      subst hdr
      refine wp_region_list ?_
      exact aops_sound (n := n) (ds := ds) (ρ0 := ρ0) (w0 := w0) (fun a' w' ρ' h' hr' hp' hi' hs' hN => ⟨ρ', h', hr', hi', hs', hp', hN⟩) ops.toList hd' ρ h a w hk hr hp hi hs
  | seq x y ihx ihy =>
    intro ds hd N R X ρ0 ρ h a w hk hr hi hs hp
    refine wp_seq (Code.wp_mono (fun e a' w' hq => ?_) (ihx ds (fun t ht => hd t (by simp [codeDsts, ht])) (fun ρ' h' => avc P y N R X ρ' h') R X ρ0 ρ h a w hk hr hi hs hp))
    cases e with
    | normal =>
      obtain ⟨ρ', h', hr', hi', hs', hp', hN⟩ := hq
      exact ihy ds (fun t ht => hd t (by simp [codeDsts, ht])) N R X ρ0 ρ' h' a' w' hN hr' hi' hs' hp'
    | _ => exact hq
  | cond t x y ihx ihy =>
    intro ds hd N R X ρ0 ρ h a w hk hr hi hs hp
    unfold avc at hk
    split at hk
    · rename_i q hq
      refine wp_cond_split (t := q) (by rw [hr.eval, hq]) (fun e => ?_) (fun e => ?_)
      · exact ihx ds (fun t ht => hd t (by simp [codeDsts, ht])) N R X ρ0 ρ h a w (hk.1 e) hr hi hs hp
      · exact ihy ds (fun t ht => hd t (by simp [codeDsts, ht])) N R X ρ0 ρ h a w (hk.2 e) hr hi hs hp
    · exact hk.elim
  | block id x ih =>
    intro ds hd N R X ρ0 ρ h a w hk hr hi hs hp
    refine wp_block (Code.wp_mono (fun e a' w' hq => ?_) (ih ds hd N R (fun i ρ' h' => if i = id then N ρ' h' else X i ρ' h') ρ0 ρ h a w hk hr hi hs hp))
    cases e with
    | exit i =>
      obtain ⟨ρ', h', hr', hi', hs', hp', hX⟩ := hq
      simp only [Exit.inBlock]
      split
      · rename_i e; rw [if_pos e] at hX; exact ⟨ρ', h', hr', hi', hs', hp', hX⟩
      · rename_i e; rw [if_neg e] at hX; exact ⟨ρ', h', hr', hi', hs', hp', hX⟩
    | _ => exact hq
  | loop x ih =>
    intro ds hd N R X ρ0 ρ h a w hk hr hi hs hp
    obtain ⟨I, μ, h0, hstep⟩ := hk
    have hsub : ∀ t, (codeDsts x).contains t = true → ds.contains t = true := fun t ht => (hd t (show t ∈ codeDsts x from by simpa using ht)).2
    refine wp_loop_ghost (γ := Env × Hp) (fun g a' w' => Rel n a' g.1 ∧ Is w' g.2 ∧ Same w0 w' ∧ Keep (codeDsts x) ρ g.1 ∧ I g.1 g.2) (fun g => μ g.1 g.2) (fun g a' w' ⟨hr', hi', hs', hp', hI⟩ => ?_) (g := (ρ, h)) ⟨hr, hi, hs, fun _ _ => rfl, h0⟩
    have hb := hstep g.1 g.2 hI hi'.wf hp'
    refine Code.wp_mono (fun e a2 w2 hq => ?_) (ih (codeDsts x) (fun t ht => ⟨(hd t ht).1, by simpa using (show t ∈ codeDsts x from ht)⟩) _ R X ρ g.1 g.2 a' w' hb hr' hi' hs' hp')
    cases e with
    | normal =>
      obtain ⟨ρ2, h2, hr2, hi2, hs2, hp2, g2, hsub2, hI2, hlt⟩ := hq
      exact ⟨(ρ2, g2), ⟨hr2, hi2.sub hsub2, hs2, hp2, hI2⟩, hlt⟩
    | ret =>
      obtain ⟨ρ2, h2, hr2, hi2, hs2, hp2, hR⟩ := hq
      exact ⟨ρ2, h2, hr2, hi2, hs2, hp.trans (hp2.mono hsub), hR⟩
    | exit i =>
      obtain ⟨ρ2, h2, hr2, hi2, hs2, hp2, hR⟩ := hq
      exact ⟨ρ2, h2, hr2, hi2, hs2, hp.trans (hp2.mono hsub), hR⟩
    | _ => exact hq
  | exit i => intro ds _ N R X ρ0 ρ h a w hk hr hi hs hp; exact wp_exit ⟨ρ, h, hr, hi, hs, hp, hk⟩
  | scope x ih =>
    intro ds hd N R X ρ0 ρ h a w hk hr hi hs hp
    refine wp_scope_straight (Code.wp_mono (fun e a' w' hq => ?_) (ih ds hd N R X ρ0 ρ h a w hk hr hi hs hp))
    cases e <;> exact hq
  | label l => intro ds _ N R X ρ0 ρ h a w hk hr hi hs hp; exact wp_label ⟨ρ, h, hr, hi, hs, hp, hk⟩
  | ret => intro ds _ N R X ρ0 ρ h a w hk hr hi hs hp; exact wp_ret ⟨ρ, h, hr, hi, hs, hp, hk⟩
  | _ => intro ds _ N R X ρ0 ρ h a w hk; exact hk.elim
end Go.Proofs.Ytdfeigkooeeeaaa
namespace Go.Proofs.Ytdfeigkooeeeaaa
open Go Go.RowKit

def packV : List Value → Value
  | [v] => v
  | l => .tuple l.toArray
def resK (P : Program) : List ResultVar → List Value → Env → Hp → KH → Prop
  | [], acc, _, g, K => Fin K (packV acc.reverse) g
  | .tmp t :: rs, acc, ρ, g, K => resK P rs (ρ t :: acc) ρ g K
  | .cell a t :: rs, acc, ρ, g, K => aload P t (ρ a) g fun v => resK P rs (v :: acc) ρ g K
def resSem (tmps : Array Value) (x : ResultVar) : Sem Value := match x with
  | .tmp t => pure (tmps.getD t undef)
  | .cell a t => do
    loadVar t (← asAddr (tmps.getD a undef))
theorem resK_sound {P : Program} {n : Nat} {a : Act} {ρ : Env} (hr : Rel n a ρ) {g : Hp} {K : KH} {w : World} (hw : Fits w g) : ∀ (rs : List ResultVar) (acc : List Value), resK P rs acc ρ g K →
    ∃ vs, (rs.mapM (resSem a.tmps)).run P w = .ok vs w ∧ Fin K (packV (acc.reverse ++ vs)) g
  | [], acc, h => ⟨[], by simp, by simpa [resK] using h⟩
  | .tmp t :: rs, acc, h => by
    obtain ⟨vs, h1, h2⟩ := resK_sound hr hw rs (ρ t :: acc) h
    refine ⟨ρ t :: vs, ?_, by simpa using h2⟩
    rw [List.mapM_cons]
    simp only [Sem.run_bind, resSem, Sem.run_pure, Result.andThen_ok, h1, hr.2.2 t]
  | .cell x t :: rs, acc, h => by
    simp only [resK] at h
    obtain ⟨v, hv, hrun⟩ := aload_sound h
    obtain ⟨vs, h1, h2⟩ := resK_sound hr hw rs (v :: acc) hv
    refine ⟨v :: vs, ?_, by simpa using h2⟩
    rw [List.mapM_cons]
    have h3 := hrun w hw
    have hp : ∃ ad, ρ x = .pointer (some ad) := by
      unfold aload at h
      split at h
      · rename_i b o e; exact ⟨_, e⟩
      · exact h.elim
    obtain ⟨ad, hp⟩ := hp
    have h4 : (resSem a.tmps (.cell x t)).run P w = .ok v w := by
      simp only [resSem, hr.2.2 x]
      rw [hp] at h3 ⊢
      simpa [Instr.loadAt, Instr.sureAddr, asAddr] using h3
    simp only [Sem.run_bind, h4, Result.andThen_ok, h1, Sem.run_pure]
theorem results_pack {P : Program} {fn : Func} {tmps : Array Value} {w : World} {vs : List Value} (h : (fn.results.toList.mapM (resSem tmps)).run P w = .ok vs w) : (results fn tmps).run P w = .ok (packV vs) w := by
  have e : (results fn tmps) = (do
      let vs ← fn.results.mapM (resSem tmps)
      pure (if h : vs.size = 1 then vs[0] else .tuple vs)) := rfl
  rw [e, Array.mapM_eq_mapM_toList]
  simp only [Sem.run_bind, Sem.run_map, h, Result.andThen_ok, Sem.run_pure]
  congr 1
  match vs with
  | [] => rfl
  | [v] => rfl
  | v :: u :: l => rfl
def entryEnv : List Value → Nat → Env
  | [], _ => fun _ => undef
  | v :: l, k => (entryEnv l (k + 1)).upd k v
theorem entryEnv_eq : ∀ (l : List Value) (k t : Nat), entryEnv l k t = if k ≤ t then (l[t - k]?).getD undef else undef
  | [], k, t => by simp [entryEnv]
  | v :: l, k, t => by
    simp only [entryEnv, Env.upd]
    rw [entryEnv_eq l (k + 1) t]
    by_cases e : t = k
    · subst e; simp
    · rw [if_neg e]
      by_cases h1 : k ≤ t
      · have h2 : k + 1 ≤ t := by omega
        rw [if_pos h1, if_pos h2]
        obtain ⟨d, rfl⟩ : ∃ d, t = k + 1 + d := ⟨t - (k + 1), by omega⟩
        rw [show k + 1 + d - (k + 1) = d from by omega, show k + 1 + d - k = d + 1 from by omega]
        simp
      · rw [if_neg h1, if_neg (by omega)]
theorem entry_rel {args : Array Value} {n : Nat} (hl : args.size ≤ n) : Rel n ⟨args ++ Array.replicate (n - args.size) undef, []⟩ (entryEnv args.toList 0) := by
  refine ⟨rfl, by simp; omega, fun t => ?_⟩
  rw [entryEnv_eq]
  simp only [Nat.zero_le, if_true, Nat.sub_zero, Array.getElem?_toList]
  simp only [Array.getD_eq_getD_getElem?]
  by_cases ht : t < args.size
  · rw [Array.getElem?_append_left ht]
  · have h2 : args[t]? = none := Array.getElem?_eq_none (by omega)
    rw [Array.getElem?_append_right (by omega), h2]
    simp [Array.getElem?_replicate]
    split <;> rfl
theorem callG_of {P : Program} (hm : P.follows .mixedOrders = true) {f : FuncId} {fn : Func} {c : Code} (hf : P.funcs[f]? = some fn) (hb : fn.body = some c) {n : Nat} (hn : fn.ntmps = n) {rs : Array ResultVar} (hr : fn.results = rs)
    (hok : ((codeDsts c).all fun t => decide (t < n)) = true) {args : Array Value} (hl : args.size ≤ n) {h : Hp} {K : KH}
    (hk : Wf h → avc P c (fun ρ g => resK P rs.toList [] ρ g K) (fun ρ g => resK P rs.toList [] ρ g K) (fun _ _ _ => False) (entryEnv args.toList 0) h) : CallG P f args h K := by
  intro w hi
  refine calls_of_wp hf hb ?_
  rw [hn]
  have hd : ∀ t ∈ codeDsts c, t < n ∧ (codeDsts c).contains t = true := fun t ht => ⟨by simpa using List.all_eq_true.1 hok t ht, by simpa using ht⟩
  have hs := avc_sound hm (w0 := w) c (codeDsts c) hd _ _ _ _ _ h _ w (hk hi.wf) (entry_rel hl) hi (Same.refl w) (fun _ _ => rfl)
  refine Code.wp_mono (fun e a w' hq => ?_) hs
  have fin : ∀ ρ g, Rel n a ρ → Is w' g → Same w w' → resK P rs.toList [] ρ g K → a.defers = [] ∧ ∃ v, (results fn a.tmps).run P w' = .ok v w' ∧ ∃ v' h', Ending.returned v = .returned v' ∧ Is w' h' ∧ Same w w' ∧ K v' h' := by
    intro ρ g hr' hi' hs' hK
    obtain ⟨vs, h1, g', hsub, hK'⟩ := resK_sound hr' hi'.2 rs.toList [] hK
    rw [← hr] at h1
    exact ⟨hr'.1, _, results_pack h1, _, g', rfl, hi'.sub hsub, hs', hK'⟩
  cases e with
  | normal => obtain ⟨ρ, g, hr', hi', hs', _, hK⟩ := hq; exact fin ρ g hr' hi' hs' hK
  | ret => obtain ⟨ρ, g, hr', hi', hs', _, hK⟩ := hq; exact fin ρ g hr' hi' hs' hK
  | exit i => obtain ⟨ρ, g, hr', hi', hs', _, hK⟩ := hq; exact hK.elim
  | _ => exact hq.elim
/-- A contract whose value does not hang on how many blocks there are serves in a region that draws. -/
theorem QCall.of {P : Program} {f : FuncId} {args : Array Value} {h : Hp} {v : Value} (hi : isCall P f = true) (hc : ∀ (n : Nat), h.n ≤ n → ∀ K : KH, (∀ k, n ≤ k → K v (h.to k)) → CallG P f args (h.to n) K) : QCall P f args h v :=
  ⟨hi, fun n hn => hc n hn _ fun k hk => ⟨rfl, k, hk, rfl⟩⟩

end Go.Proofs.Ytdfeigkooeeeaaa
namespace Go.Proofs.Ytdfeigkooeeeaaa
open Go Go.RowKit

/-! ### tries -/
inductive PM (α : Type) where
  | nil
  | node (l : PM α) (v : Option α) (r : PM α)
noncomputable def PM.get {α : Type} (t : PM α) : Nat → Option α :=
  PM.rec (fun _ => none) (fun _ v _ gl gr n => Nat.rec v (fun m _ => Nat.rec (gl (Nat.div m 2)) (fun _ _ => gr (Nat.div m 2)) (Nat.mod m 2)) n) t
noncomputable def PM.set {α : Type} (v : Option α) (f : Nat) : PM α → Nat → PM α :=
  Nat.rec (fun _ _ => .nil) (fun _ ih t n => PM.rec
    (Nat.rec (.node .nil v .nil) (fun m _ => Nat.rec (.node (ih .nil (Nat.div m 2)) none .nil) (fun _ _ => .node .nil none (ih .nil (Nat.div m 2))) (Nat.mod m 2)) n)
    (fun l u r _ _ => Nat.rec (.node l v r) (fun m _ => Nat.rec (.node (ih l (Nat.div m 2)) u r) (fun _ _ => .node l u (ih r (Nat.div m 2))) (Nat.mod m 2)) n) t) f

/-! ### values -/
inductive AV where
  | int (k : IntKind) (n : Int)
  | str (s : List Nat)
  | bool (b : Bool)
  | nil
  | ptr (b o : Nat)
  | nsl
  | sl (b o n c k : Nat)
  | esl (b : Nat)
  | agg (l : List AV)
  | tup (l : List AV)
  | fn (f : Nat) (a c : List AV)
  | map (b : Nat)
  | any (v : Value)
  | bad
  | si (k : IntKind) (n : Int)
  | sb (b : Bool)
  | ss (s : List Nat)
  | sy (b o n c k : Nat)
  | rw (b o n k x : Nat)
  | fr (n k : Nat) (l : List AV)
  | fa (l : List AV) (o : Nat)
inductive AO where
  | cells (l : List AV) (z : Bool)
  | map (es : List (AV × AV))
  | ro (l : List AV)
  | iter (b m : Nat) (seen : List Nat)
abbrev AE := PM AV
abbrev AH := PM AO
def undefA : AV := .tup []
noncomputable def ofV1 : Value → AV
  | .int k n => .int k n
  | .string s => .str (s.data.toList.map UInt8.toNat)
  | .bool b => .bool b
  | .pointer none => .nil
  | .slice none 0 0 => .nsl
  | v => .any v
noncomputable def ofV : Value → AV
  | .agg cs => .agg (cs.toList.map ofV1)
  | .tuple cs => .tup (cs.toList.map ofV1)
  | v => ofV1 v
noncomputable def AV.cells : AV → List AV
  | .agg l => l
  | v => [v]
noncomputable def one1 : AV → Bool
  | .agg _ | .tup _ => false
  | .any v => v.oneCell'
  | .bad => false
  | _ => true
/-- May it be laid into cells? -/
noncomputable def okC : AV → Bool
  | .bad => false
  | .any u => u.oneCell'
  | _ => true
noncomputable def depthE : Nat := 30
noncomputable def depthH : Nat := 40
/-! ### slots by their ways through the trie -/
inductive Pa where
  | stop
  | here
  | lo (p : Pa)
  | hi (p : Pa)
noncomputable def pathOf (f : Nat) : Nat → Pa :=
  Nat.rec (fun _ => .stop) (fun _ ih n => Nat.rec .here (fun m _ => Nat.rec (.lo (ih (Nat.div m 2))) (fun _ _ => .hi (ih (Nat.div m 2))) (Nat.mod m 2)) n) f
noncomputable def pa (t : Nat) : Pa := pathOf depthE t
noncomputable def getO (v : Option AV) : AV := Option.rec .bad (fun a => a) v
noncomputable def getq (p : Pa) : AE → AV :=
  Pa.rec (fun _ => .bad) (fun t => PM.rec .bad (fun _ v _ _ _ => getO v) t) (fun _ ih t => PM.rec .bad (fun l _ _ _ _ => ih l) t) (fun _ ih t => PM.rec .bad (fun _ _ r _ _ => ih r) t) p
noncomputable def setq (v : AV) (p : Pa) : AE → AE :=
  Pa.rec (fun _ => .nil) (fun t => PM.rec (.node .nil (some v) .nil) (fun l _ r _ _ => .node l (some v) r) t)
    (fun _ ih t => PM.rec (.node (ih .nil) none .nil) (fun l u r _ _ => .node (ih l) u r) t) (fun _ ih t => PM.rec (.node .nil none (ih .nil)) (fun l u r _ _ => .node l u (ih r)) t) p
noncomputable def putq (d : Option Nat) (v : AV) (σ : AE) : AE := Option.rec σ (fun t => setq v (pa t) σ) d
noncomputable def eev (σ : AE) : Operand → AV
  | .tmp t => getq (pa t) σ
  | .const v => ofV v
  | .func f => .fn f [] []
  | .global g => .any (.pointer (some ⟨g, 0, none⟩))
noncomputable def eput (σ : AE) (d : Option Nat) (v : AV) : AE := putq d v σ
noncomputable def nth {α : Type} : List α → Nat → Option α
  | [], _ => none
  | x :: _, 0 => some x
  | _ :: l, n + 1 => nth l n
noncomputable def beqL : List Nat → List Nat → Bool
  | [], [] => true
  | a :: x, b :: y => (match Nat.beq a b with
    | true => beqL x y
    | false => false)
  | _, _ => false
noncomputable def ltL : List Nat → List Nat → Bool
  | _, [] => false
  | [], _ :: _ => true
  | a :: x, b :: y => (match Nat.beq a b with
    | true => ltL x y
    | false => Nat.blt a b)
/-- The cells from o on, n of them. -/
noncomputable def subL {α : Type} (l : List α) (o n : Nat) : Option (List α) := (match Nat.ble (o + n) l.length with
  | true => some ((l.drop o).take n)
  | false => none)
noncomputable def setL {α : Type} : List α → Nat → List α → Option (List α)
  | l, 0, [] => some l
  | [], 0, _ :: _ => none
  | [], _ + 1, _ => none
  | _ :: l, 0, x :: xs => (setL l 0 xs).map (x :: ·)
  | y :: l, o + 1, xs => (setL l o xs).map (y :: ·)

/-! ### operations that look at most -/
noncomputable def eload (P : Program) (t : TypeId) (a : AV) (H : AH) : Option AV := match a with
  | .ptr b o => (match H.get b with
    | some (.cells l _) => (match tyAgg P t with
      | some false => nth l o
      | some true => (match tySize P t with
        | some n => (subL l o n).map .agg
        | none => none)
      | none => none)
    | some (.ro l) => (match tyAgg P t with
      | some false => nth l o
      | some true => (match tySize P t with
        | some n => (subL l o n).map .agg
        | none => none)
      | none => none)
    | _ => none)
  | _ => none
noncomputable def eint (op : BinOp) (k k' : IntKind) (a b : Int) : Option AV := match op with
  | .shl => if 0 ≤ b then some (.int k (k.wrap (a * 2 ^ min b.toNat k.bits))) else none
  | .shr => if 0 ≤ b then some (.int k (a.fdiv (2 ^ min b.toNat k.bits))) else none
  | op => if k = k' then (match op with
    | .add => some (.int k (k.wrap (a + b)))
    | .sub => some (.int k (k.wrap (a - b)))
    | .mul => some (.int k (k.wrap (a * b)))
    | .quo => if b = 0 then none else some (.int k (k.wrap (a.tdiv b)))
    | .rem => if b = 0 then none else some (.int k (a.tmod b))
    | .and => some (.int k (bitsV .and k a b))
    | .or => some (.int k (bitsV .or k a b))
    | .xor => some (.int k (bitsV .xor k a b))
    | .andNot => some (.int k (bitsV .andNot k a b))
    | .eql => some (.bool (decide (a = b)))
    | .neq => some (.bool (!decide (a = b)))
    | .lss => some (.bool (decide (a < b)))
    | .leq => some (.bool (decide (a ≤ b)))
    | .gtr => some (.bool (decide (b < a)))
    | .geq => some (.bool (decide (b ≤ a)))
    | _ => none) else none
noncomputable def estr (op : BinOp) (a b : List Nat) : Option AV := match op with
  | .add => if a.length + b.length ≤ 9223372036854775807 then some (.str (a ++ b)) else none
  | .eql => some (.bool (beqL a b))
  | .neq => some (.bool (!beqL a b))
  | .lss => some (.bool (ltL a b))
  | .leq => some (.bool (ltL a b || beqL a b))
  | .gtr => some (.bool (!(ltL a b || beqL a b)))
  | .geq => some (.bool (!ltL a b))
  | _ => none
noncomputable def eisnil : AV → Option Bool
  | .nil => some true
  | .ptr _ _ => some false
  | _ => none
noncomputable def eisnsl : AV → Option Bool
  | .nsl => some true
  | .sl .. => some false
  | .esl _ => some false
  | _ => none
noncomputable def qbool (op : BinOp) (q : Option Bool) : Option AV := match q with
  | none => none
  | some q => (match op with
    | .eql => some (.bool q)
    | .neq => some (.bool (!q))
    | _ => none)
noncomputable def eplan (xs ys : List AV) : List (Nat × Nat) → Option Bool
  | [] => some true
  | (k, o) :: l => (match nth xs o, nth ys o with
    | some (.int k1 a), some (.int k2 b) => if k = 0 ∧ k1 = k2 then (eplan xs ys l).map (decide (a = b) && ·) else none
    | some (.str a), some (.str b) => if k = 1 then (eplan xs ys l).map (beqL a b && ·) else none
    | some (.bool a), some (.bool b) => if k = 2 then (eplan xs ys l).map ((a == b) && ·) else none
    | _, _ => none)
noncomputable def isPtrT (P : Program) (t : TypeId) : Bool := match P.underlying t with
  | some (.pointer _) => true
  | _ => false
noncomputable def isSlT (P : Program) (t : TypeId) : Bool := match P.underlying t with
  | some (.slice _) => true
  | _ => false
noncomputable def isBoolT (P : Program) (t : TypeId) : Bool := match P.underlying t with
  | some .bool => true
  | _ => false
/-- Is there a block of cells that may all be written? -/
noncomputable def eplain (H : AH) (b : Nat) : Bool := match H.get b with
  | some (.cells _ true) => true
  | _ => false
noncomputable def eptr (P : Program) (t : TypeId) (H : AH) (b o b' o' : Nat) : Option Bool := match P.underlying t with
  | some (.pointer e) => (match tySize P e with
    | some (_ + 1) => (match Nat.beq b b' && Nat.beq o o' with
      | true => some true
      | false => if eplain H b && eplain H b' then some false else none)
    | _ => none)
  | _ => none
noncomputable def ebin (P : Program) (op : BinOp) (t : TypeId) (x y : AV) (H : AH) : Option AV := match x, y with
  | .int k a, .int k' b => eint op k k' a b
  | .str a, .str b => estr op a b
  | .bool a, .bool b => if isBoolT P t then qbool op (some (a == b)) else none
  | .ptr b o, .ptr b' o' => qbool op (eptr P t H b o b' o')
  | x, .nil => if isPtrT P t then qbool op (eisnil x) else none
  | x, .nsl => if isSlT P t then qbool op (eisnsl x) else none
  | .agg xs, .agg ys => qbool op ((eqPlan P t).bind (eplan xs ys))
  | _, _ => none
noncomputable def eun (op : UnOp) (x : AV) : Option AV := match op, x with
  | .not, .bool b => some (.bool (!b))
  | .neg, .int k n => some (.int k (k.wrap (0 - n)))
  | .xor, .int k n => some (.int k (bitsV .xor k (if k.signed then -1 else k.max) n))
  | _, _ => none
noncomputable def epart (P : Program) (t : TypeId) (l : List AV) (off : Nat) : Option AV := match tyAgg P t with
  | some false => nth l off
  | some true => (match tySize P t with
    | some n => (subL l off n).map .agg
    | none => none)
  | none => none
noncomputable def efield (P : Program) (s : TypeId) (x : AV) (i : Nat) : Option AV := match x, tyField P s i with
  | .agg l, some (t, off) => epart P t l off
  | _, _ => none
noncomputable def efieldAddr (P : Program) (s : TypeId) (x : AV) (i : Nat) : Option AV := match x, tyField P s i with
  | .ptr b o, some (_, off) => some (.ptr b (o + off))
  | .fa l o, some (_, off) => some (.fa l (o + off))
  | _, _ => none
/-- An index, if it is one. -/
noncomputable def eix (ix : AV) (len : Nat) : Option Nat := match ix with
  | .int _ (.ofNat i) => (match Nat.blt i len with
    | true => some i
    | false => none)
  | _ => none
noncomputable def eindexAddr (P : Program) (t : TypeId) (x ix : AV) : Option AV := match P.underlying t, x with
  | some (.slice e), .sl b o n _ _ => (match eix ix n, tySize P e with
    | some i, some k => some (.ptr b (o + i * k))
    | _, _ => none)
  | some (.array len e), .ptr b o => (match eix ix len, tySize P e with
    | some i, some k => some (.ptr b (o + i * k))
    | _, _ => none)
  | _, _ => none
noncomputable def eindex (P : Program) (t : TypeId) (x ix : AV) : Option AV := match P.underlying t, x with
  | some (.array len e), .agg l => (match eix ix len, tySize P e with
    | some i, some k => epart P e l (i * k)
    | _, _ => none)
  | some .string, .str s => (match eix ix s.length with
    | some i => (nth s i).map fun c => .int .u8 (Int.ofNat c)
    | none => none)
  | _, _ => none
noncomputable def eextract (x : AV) (i : Nat) : Option AV := match x with
  | .tup l => nth l i
  | _ => none
/-- A bound, or what stands for none. -/
noncomputable def ebnd (x : Option AV) (d : Nat) : Option Nat := match x with
  | none => some d
  | some (.int _ (.ofNat i)) => some i
  | _ => none
noncomputable def eslice (P : Program) (t : TypeId) (x : AV) (lo hi mx : Option AV) : Option AV := match x with
  | .str s => (match P.underlying t, mx, ebnd lo 0, ebnd hi s.length with
    | some .string, none, some l, some h => if l ≤ h ∧ h ≤ s.length then some (.str ((s.drop l).take (h - l))) else none
    | _, _, _, _ => none)
  | .nsl => (match P.underlying t, ebnd lo 0, ebnd hi 0, ebnd mx 0 with
    | some (.slice e), some l, some h, some m => if l = 0 ∧ h = 0 ∧ m = 0 ∧ (mx.isSome = true → hi.isSome = true) ∧ (tySize P e).isSome = true then some .nsl else none
    | _, _, _, _ => none)
  | .esl b => (match P.underlying t, mx, ebnd lo 0, ebnd hi 0 with
    | some (.slice e), none, some l, some h => if l = 0 ∧ h = 0 ∧ (tySize P e).isSome = true then some (.esl b) else none
    | _, _, _, _ => none)
  | .sl b o n c k => (match P.underlying t with
    | some (.slice e) => (match tySize P e, ebnd lo 0, ebnd hi n, ebnd mx c with
      | some es, some l, some h, some m => if l ≤ h ∧ h ≤ m ∧ m ≤ c then
          (match k, mx with
          | 0, none => some (.sl b (if m = l then o else o + l * es) (h - l) (m - l) 0)
          | 0, some _ => if hi.isSome = true then some (.sl b (if m = l then o else o + l * es) (h - l) (m - l) 0) else none
          | k' + 1, none => if es = k' + 1 then (if l = 0 ∨ l < c then some (.sl b (o + l * es) (h - l) (c - l) (k' + 1)) else some (.esl b)) else none
          | _ + 1, some _ => if hi.isSome = true then some (.sl b (if m = l then o else o + l * es) (h - l) (m - l) 0) else none)
        else none
      | _, _, _, _ => none)
    | _ => none)
  | _ => none
noncomputable def elen (P : Program) (t : TypeId) (x : AV) (H : AH) : Option AV := match P.underlying t, x with
  | some .string, .str s => some (.int .i64 s.length)
  | some (.slice _), .nsl => some (.int .i64 0)
  | some (.slice _), .esl _ => some (.int .i64 0)
  | some (.slice _), .sl _ _ n _ _ => some (.int .i64 n)
  | some (.array n _), _ => some (.int .i64 n)
  | some (.map _ _), .map b => (match H.get b with
    | some (.map es) => some (.int .i64 es.length)
    | _ => none)
  | _, _ => none
noncomputable def emm (mx : Bool) (x y : AV) : Option AV := match x, y with
  | .int k a, .int _ b => some (.int k (if mx then max a b else min a b))
  | _, _ => none
noncomputable def efill (place : Nat → Option (Nat × Nat)) (cells : List AV) : List (Nat × AV) → Option (List AV)
  | [] => some cells
  | (i, v) :: rest => (match place i with
    | none => none
    | some (off, size) => (match Nat.beq v.cells.length size && (okC v && Nat.ble (off + size) cells.length), setL cells off v.cells with
      | true, some c => efill place c rest
      | _, _ => none))
noncomputable def ebuild (P : Program) (t : TypeId) (parts : List (Nat × AV)) : Option (List AV) :=
  match tyZero P t with
  | some z => (match P.underlying t with
    | some (.struct fs) => if (fs.toList.all fun f => (tySize P f.type).isSome) = true then efill (structPlaces P fs) (ofV z).cells parts else none
    | some (.array _ e) => (match tySize P e with
      | some s => efill (fun i => some (i * s, s)) (ofV z).cells parts
      | none => none)
    | _ => none)
  | none => none
noncomputable def esame (kd : TypeDesc) (a b : AV) : Option Bool := match kd, a, b with
  | .int _, .int k n, .int k' m => if k = k' then some (decide (n = m)) else none
  | .string, .str s, .str r => some (beqL s r)
  | _, _, _ => none
noncomputable def efind (kd : TypeDesc) (k : AV) : List (AV × AV) → Nat → Option (Option (Nat × AV))
  | [], _ => some none
  | e :: es, i => (match esame kd k e.1 with
    | some true => some (some (i, e.2))
    | some false => efind kd k es (i + 1)
    | none => none)
noncomputable def elookup (P : Program) (t : TypeId) (m k : AV) (ok : Bool) (H : AH) : Option AV := match m, mapKind P t with
  | .map b, some (_, kd, et) => (match H.get b with
    | some (.map es) => (match efind kd k es 0 with
      | some (some (_, v)) => some (if ok then .tup [v, .bool true] else v)
      | some none => (match tyZero P et with
        | some z => some (if ok then .tup [ofV z, .bool false] else ofV z)
        | none => none)
      | none => none)
    | _ => none)
  | _, _ => none
noncomputable def epure (P : Program) (o : Op) (σ : AE) (H : AH) : Option AV :=
  match o with
  | .move x => some (eev σ x)
  | .assign x => some (eev σ x)
  | .pick c a b => (match eev σ c with
    | .bool true => some (eev σ a)
    | .bool false => some (eev σ b)
    | _ => none)
  | .build t parts => (ebuild P t (parts.toList.map fun x => (x.1, eev σ x.2))).map .agg
  | .load t a => eload P t (eev σ a) H
  | .nilCheck x => (match eev σ x with
    | .ptr b o => some (.ptr b o)
    | .fn f a c => some (.fn f a c)
    | _ => none)
  | .binOp op t x y _ => ebin P op t (eev σ x) (eev σ y) H
  | .unOp op _ x => eun op (eev σ x)
  | .makeFunc (.func f) first captured => some (.fn f (first.toList.map (eev σ)) (captured.toList.map (eev σ)))
  | .slice t x lo hi mx => eslice P t (eev σ x) (lo.map (eev σ)) (hi.map (eev σ)) (mx.map (eev σ))
  | .fieldAddr s x i => efieldAddr P s (eev σ x) i
  | .field t x i => efield P t (eev σ x) i
  | .indexAddr t x ix => eindexAddr P t (eev σ x) (eev σ ix)
  | .index t x ix => eindex P t (eev σ x) (eev σ ix)
  | .extract x i => eextract (eev σ x) i
  | .lookup t m k ok => elookup P t (eev σ m) (eev σ k) ok H
  | .call c => (match c.callee, c.argTypes.toList, c.args.toList.map (eev σ) with
    | .builtin .len, [t], [x] => elen P t x H
    | .builtin .min, _, [x, y] => emm false x y
    | .builtin .max, _, [x, y] => emm true x y
    | _, _, _ => none)
  | _ => none

/-! ### operations that do -/
abbrev AR := Option (AV × AH × Nat)
noncomputable def enew (l : List AV) (H : AH) (n : Nat) : AR := some (.ptr n 0, H.set (some (.cells l true)) depthH n, n + 1)
noncomputable def estore (P : Program) (t : TypeId) (a v : AV) (H : AH) (n : Nat) : AR := match a with
  | .ptr b o => (match H.get b, tySize P t with
    | some (.cells l z), some s => (match Nat.beq v.cells.length s && (okC v && v.cells.all one1), setL l o v.cells with
      | true, some l' => some (undefA, H.set (some (.cells l' z)) depthH b, n)
      | _, _ => none)
    | _, _ => none)
  | _ => none
noncomputable def repL (z : List AV) : Nat → List AV
  | 0 => []
  | n + 1 => z ++ repL z n
noncomputable def ebytes : List AV → Option (List Nat)
  | [] => some []
  | .int .u8 (.ofNat n) :: l => (match Nat.blt n 256 with
    | true => (ebytes l).map (n :: ·)
    | false => none)
  | .si .u8 (.ofNat n) :: l => (match Nat.blt n 256 with
    | true => (ebytes l).map (n :: ·)
    | false => none)
  | _ => none
noncomputable def econv (P : Program) (src dst : TypeId) (x : AV) (H : AH) (n : Nat) : AR := match P.underlying src, P.underlying dst, x with
  | some (.int _), some (.int k), .int _ a => some (.int k (k.wrap a), H, n)
  | some .string, some .string, .str s => some (.str s, H, n)
  | some .string, some (.slice e), .str s => (match P.underlying e with
    | some (.int .u8) => some (.sl n 0 s.length s.length 1, H.set (some (.cells (s.map fun c => .int .u8 (Int.ofNat c)) false)) depthH n, n + 1)
    | _ => none)
  | some (.slice e), some .string, .nsl => (match P.underlying e with
    | some (.int .u8) => some (.str [], H, n)
    | _ => none)
  | some (.slice e), some .string, .sl b o len _ _ => (match P.underlying e, H.get b with
    | some (.int .u8), some (.cells l _) => ((subL l o len).bind ebytes).map fun s => (.str s, H, n)
    | _, _ => none)
  | _, _, _ => none
noncomputable def emake (P : Program) (t : TypeId) (len cap : AV) (H : AH) (n : Nat) : AR := match P.underlying t, len, cap with
  | some (.slice e), .int _ (.ofNat l), .int _ (.ofNat c) => (match tySize P e, tyBytes P e, tyZero P e with
    | some k, some by', some z => if l ≤ c ∧ by' * c ≤ 281474976710656 ∧ c ≤ 9223372036854775807 ∧ z.cells.size = k then
        some (.sl n 0 l c 0, H.set (some (.cells (repL (ofV z).cells c) true)) depthH n, n + 1) else none
    | _, _, _ => none)
  | _, _, _ => none
/-- What a slice or a text holds: how many, and the cells. -/
noncomputable def esrc (H : AH) (k : Nat) (x : AV) : Option (Nat × List AV) := match x with
  | .nsl => some (0, [])
  | .sl b o n _ _ => (match H.get b with
    | some (.cells l _) => (subL l o (n * k)).map (n, ·)
    | some (.ro l) => (subL l o (n * k)).map (n, ·)
    | _ => none)
  | .esl b => (match H.get b with
    | some (.cells _ _) => some (0, [])
    | _ => none)
  | .str s => some (s.length, s.map fun c => .int .u8 (Int.ofNat c))
  | _ => none
noncomputable def eappend (P : Program) (t u : TypeId) (s x : AV) (H : AH) (n : Nat) : AR := match P.underlying t, P.underlying u with
  | some (.slice e), some ud => (match ud, tySize P e, tyBytes P e, tyZero P e with
    | .int _, _, _, _ => none
    | _, some k, some by', some z => (match esrc H k x with
      | some (m, new) => if z.cells.size = k ∧ 0 < by' ∧ 0 < k ∧ new.length = m * k ∧ new.all one1 = true then (match s with
        | .nsl => (match m with
          | 0 => some (.nsl, H, n)
          | _ => if m * by' ≤ 140737488355328 then some (.sl n 0 m m k, H.set (some (.cells new true)) depthH n, n + 1) else none)
        | .sl b o sn c sk => (match H.get b with
          | some (.cells l z') => if sn + m ≤ c then (match setL l (o + sn * k) new with
              | some l' => some (.sl b o (sn + m) c sk, H.set (some (.cells l' z')) depthH b, n)
              | none => none)
            else if (sn + m) * by' ≤ 140737488355328 then (match subL l o (sn * k), sk with
              | some old, 0 => some (.sl n 0 (sn + m) (sn + m) k, H.set (some (.cells (old ++ new) true)) depthH n, n + 1)
              | some old, _ + 1 => if sk = k then some (.sl n 0 (sn + m) (sn + m) k, (H.set none depthH b).set (some (.cells (old ++ new) z')) depthH n, n + 1) else none
              | none, _ => none)
            else none
          | _ => none)
        | _ => none) else none
      | none => none)
    | _, _, _, _ => none)
  | _, _ => none
noncomputable def elenV : AV → Option Nat
  | .nsl => some 0
  | .sl _ _ n _ _ => some n
  | .esl _ => some 0
  | .str s => some s.length
  | _ => none
noncomputable def efirst (H : AH) (k q : Nat) (x : AV) : Option (List AV) := match x with
  | .nsl => some []
  | .sl b o _ _ _ => (match H.get b with
    | some (.cells l _) => subL l o (q * k)
    | some (.ro l) => subL l o (q * k)
    | _ => none)
  | .esl b => (match H.get b, q with
    | some (.cells _ _), 0 => some []
    | some (.ro _), 0 => some []
    | _, _ => none)
  | .str s => some ((s.take q).map fun c => .int .u8 (Int.ofNat c))
  | _ => none
noncomputable def ecopy (P : Program) (t : TypeId) (d x : AV) (H : AH) (n : Nat) : AR := match P.underlying t, elenV x, elenV d with
  | some (.slice e), some m, some dn => (match tySize P e with
    | some k => (match efirst H k (min m dn) x with
      | some cells => (match d with
        | .nsl => some (.int .i64 (min m dn : Nat), H, n)
        | .esl b => (match H.get b, cells with
          | some (.cells l z), [] => some (.int .i64 (min m dn : Nat), H.set (some (.cells l z)) depthH b, n)
          | _, _ => none)
        | .sl b o _ _ _ => (match H.get b with
          | some (.cells l z) => (match setL l o cells, cells.all one1 with
            | some l', true => some (.int .i64 (min m dn : Nat), H.set (some (.cells l' z)) depthH b, n)
            | _, _ => none)
          | _ => none)
        | _ => none)
      | none => none)
    | none => none)
  | _, _, _ => none
noncomputable def eplaces (P : Program) (t : TypeId) (len : Nat) (parts : List (Nat × AV)) : Option (List AV) := match P.underlying t with
  | some (.slice e) => (match tySize P e, tyZero P e with
    | some s, some z => if len * s ≤ 16777216 ∧ z.cells.size = s then efill (fun i => some (i * s, s)) (repL (ofV z).cells len) parts else none
    | _, _ => none)
  | _ => none
noncomputable def eputE (k v : AV) : List (AV × AV) → Option (Nat × AV) → List (AV × AV)
  | es, none => es ++ [(k, v)]
  | [], some _ => []
  | _ :: es, some (0, _) => (k, v) :: es
  | e :: es, some (i + 1, u) => e :: eputE k v es (some (i, u))
noncomputable def emapUpd (P : Program) (t : TypeId) (m k v : AV) (H : AH) (n : Nat) : AR := match m, mapKind P t with
  | .map b, some (_, kd, _) => (match H.get b with
    | some (.map es) => (match efind kd k es 0 with
      | some r => some (undefA, H.set (some (.map (eputE k v es r))) depthH b, n)
      | none => none)
    | _ => none)
  | _, _ => none
abbrev AC := FuncId → List AV → AH → Nat → AR
noncomputable def erange (P : Program) (t : TypeId) (x : AV) (H : AH) (n : Nat) : AR := match x with
  | .map b => (match H.get b, isMapT P t with
    | some (.map es), true => some (.ptr n 0, H.set (some (.iter b es.length [])) depthH n, n + 1)
    | _, _ => none)
  | _ => none
noncomputable def estep (P : Program) (call : AC) (o : Op) (σ : AE) (H : AH) (n : Nat) : AR :=
  match o with
  | .alloc e => (match tyZero P e with
    | some z => enew (ofV z).cells H n
    | none => none)
  | .box _ x => (match okC (eev σ x) with
    | true => enew (eev σ x).cells H n
    | false => none)
  | .buildSlice t len parts => (match eplaces P t len (parts.toList.map fun x => (x.1, eev σ x.2)) with
    | some l => some (.sl n 0 len len 0, H.set (some (.cells l true)) depthH n, n + 1)
    | none => none)
  | .store t a x => estore P t (eev σ a) (eev σ x) H n
  | .convert src dst x => econv P src dst (eev σ x) H n
  | .makeSlice t l c => emake P t (eev σ l) (eev σ c) H n
  | .makeMap _ none => some (.map n, H.set (some (.map [])) depthH n, n + 1)
  | .mapUpdate t m k x => emapUpd P t (eev σ m) (eev σ k) (eev σ x) H n
  | .insert t m k x => emapUpd P t (eev σ m) (eev σ k) (eev σ x) H n
  | .range t x => erange P t (eev σ x) H n
  | .call c => (match c.callee with
    | .value f => (match eev σ f with
      | .fn g a cs => call g (a ++ c.args.toList.map (eev σ) ++ cs) H n
      | _ => none)
    | .builtin .append => (match c.argTypes.toList, c.args.toList.map (eev σ) with
      | [t, u], [s, x] => eappend P t u s x H n
      | _, _ => none)
    | .builtin .copy => (match c.argTypes.toList, c.args.toList.map (eev σ) with
      | [t, _], [s, x] => ecopy P t s x H n
      | _, _ => none)
    | _ => (match epure P (.call c) σ H with
      | some v => some (v, H, n)
      | none => none))
  | o => (match epure P o σ H with
    | some v => some (v, H, n)
    | none => none)

/-! ### code -/
inductive EX where
  | norm
  | ret
  | exit (i : Nat)
abbrev AS := Option (EX × AE × AH × Nat)
noncomputable def eop (P : Program) (call : AC) (ops : Array Oper) (o : Oper) (k : AE → AH → Nat → AS) (σ : AE) (H : AH) (n : Nat) : AS :=
  match o.guard with
    | none => (match estep P call o.op σ H n with
      | some (v, H', n') => k (eput σ o.dst v) H' n'
      | none => none)
    | some (j, want) => (match gslot ops j with
      | none => none
      | some t => (match getq (pa t) σ with
        | .bool q => (match q == want with
          | true => (match estep P call o.op σ H n with
            | some (v, H', n') => k (eput σ o.dst v) H' n'
            | none => none)
          | false => k (eput σ o.dst undefA) H n)
        | .tup _ => k (eput σ o.dst undefA) H n
        | _ => none))
noncomputable def eops (P : Program) (call : AC) (ops : Array Oper) (l : List Oper) : AE → AH → Nat → AS :=
  List.rec (fun σ H n => some (.norm, σ, H, n)) (fun o _ ih => eop P call ops o ih) l
/-! ### a region that draws its order: done in the text's order, and looked at whether any other order is the same -/
structure TE where
  v : AV
  did : Bool
  σ : AE
  H : AH
  n : Nat
noncomputable def filt (σ : AE) : List Nat → AE
  | [] => .nil
  | t :: ts => (match σ.get t with
    | some a => (filt σ ts).set (some a) depthE t
    | none => filt σ ts)
noncomputable def edo (P : Program) (call : AC) (ops : Array Oper) (o : Oper) (σ : AE) (H : AH) (n : Nat) : Option (AV × Bool × AH × Nat) :=
  match o.guard with
  | none => (estep P call o.op σ H n).map fun r => (r.1, true, r.2)
  | some (j, want) => (match gslot ops j with
    | none => none
    | some t => (match getq (pa t) σ with
      | .bool q => (match q == want with
        | true => (estep P call o.op σ H n).map fun r => (r.1, true, r.2)
        | false => some (undefA, false, H, n))
      | .tup _ => some (undefA, false, H, n)
      | _ => none))
noncomputable def etr (P : Program) (call : AC) (ops : Array Oper) : List Oper → AE → AH → Nat → Option (List TE × AE × AH × Nat)
  | [], σ, H, n => some ([], σ, H, n)
  | o :: l, σ, H, n => (match edo P call ops o (filt σ (looks ops o)) H n with
    | some (v, did, H', n') => (etr P call ops l (eput σ o.dst v) H' n').map fun r => (⟨v, did, filt σ (looks ops o), H, n⟩ :: r.1, r.2)
    | none => none)
noncomputable def eqV : AV → AV → Bool
  | .int k a, .int j b => decide (k = j) && decide (a = b)
  | .str s, .str r => beqL s r
  | .bool a, .bool b => a == b
  | .nil, .nil => true
  | .ptr b o, .ptr b' o' => decide (b = b') && decide (o = o')
  | .nsl, .nsl => true
  | .sl b o n c k, .sl b' o' n' c' k' => decide (b = b') && (decide (o = o') && (decide (n = n') && (decide (c = c') && decide (k = k'))))
  | .esl b, .esl b' => decide (b = b')
  | .map b, .map b' => decide (b = b')
  | _, _ => false
noncomputable def eqVs : List AV → List AV → Bool
  | [], [] => true
  | a :: l, b :: m => eqV a b && eqVs l m
  | _, _ => false
noncomputable def eqVV : AV → AV → Bool
  | .agg l, .agg m => eqVs l m
  | a, b => eqV a b
/-- The operations come in one order, or do not touch one another's slots, and one of them is no deed. -/
def dynStatic (ops : Array Oper) : Bool := edgesOk ops && (List.range ops.size).all fun i => (List.range i).all fun j => (match ops[j]?, ops[i]? with
  | some a, some b => a.apart ops b && (stillOp a.op || stillOp b.op)
  | _, _ => true) || befB ops 4 j i
noncomputable def sameAt (P : Program) (o : Oper) (e : TE) (H : AH) : Bool := match epure P o.op e.σ H with
  | some v => eqVV v e.v
  | none => false
noncomputable def dynPair (P : Program) (ops : Array Oper) (tr : List TE) (Hend : AH) (i j : Nat) : Bool := match ops[i]?, ops[j]?, tr[i]?, tr[j]? with
  | some a, some b, some e, some f => if loudOp b.op = true ∧ stillOp a.op = true ∧ calmOp P a.op = false ∧ e.did = true then
      (if i < j then befB ops 4 i j || sameAt P a e (match tr[j + 1]? with
        | some g => g.H
        | none => Hend)
      else befB ops 4 j i || sameAt P a e f.H) else true
  | _, _, _, _ => true
noncomputable def dynCheck (P : Program) (ops : Array Oper) (tr : List TE) (Hend : AH) : Bool := (List.range ops.size).all fun i => (List.range ops.size).all fun j => dynPair P ops tr Hend i j
noncomputable def edyn (P : Program) (call : AC) (ops : Array Oper) (σ : AE) (H : AH) (n : Nat) : AS := match etr P call ops ops.toList σ H n with
  | some (tr, σ', H', n') => (match dynStatic ops && dynCheck P ops tr H' with
    | true => some (.norm, σ', H', n')
    | false => none)
  | none => none
noncomputable def execB (P : Program) (call : AC) (ih : Code → AE → AH → Nat → AS) (c : Code) (σ : AE) (H : AH) (n : Nat) : AS := match c with
    | .skip => some (.norm, σ, H, n)
    | .region _ ops draw => (match draw && !swapB P ops with
      | false => eops P call ops ops.toList σ H n
      | true => edyn P call ops σ H n)
    | .seq a b => (match ih a σ H n with
      | some (.norm, σ', H', n') => ih b σ' H' n'
      | r => r)
    | .cond c a b => (match eev σ c with
      | .bool true => ih a σ H n
      | .bool false => ih b σ H n
      | _ => none)
    | .block id b => (match ih b σ H n with
      | some (.exit i, σ', H', n') => (match Nat.beq i id with
        | true => some (.norm, σ', H', n')
        | false => some (.exit i, σ', H', n'))
      | r => r)
    | .loop b => (match ih b σ H n with
      | some (.norm, σ', H', n') => ih (.loop b) σ' H' n'
      | r => r)
    | .exit i => some (.exit i, σ, H, n)
    | .scope b => ih b σ H n
    | .label _ => some (.norm, σ, H, n)
    | .ret => some (.ret, σ, H, n)
    | _ => none
noncomputable def exec (P : Program) (call : AC) (f : Nat) : Code → AE → AH → Nat → AS :=
  Nat.rec (fun _ _ _ _ => none) (fun _ ih => execB P call ih) f
noncomputable def eres (P : Program) (σ : AE) (H : AH) : List ResultVar → Option (List AV)
  | [] => some []
  | .tmp t :: rs => (eres P σ H rs).map (eev σ (.tmp t) :: ·)
  | .cell a t :: rs => (match eload P t (eev σ (.tmp a)) H with
    | some v => (eres P σ H rs).map (v :: ·)
    | none => none)
noncomputable def epack : List AV → AV
  | [v] => v
  | l => .tup l
noncomputable def eentry : List AV → Nat → AE → AE
  | [], _, σ => σ
  | v :: l, k, σ => eentry l (k + 1) (σ.set (some v) depthE k)
noncomputable def fuelE : Nat := 1000000
/-- What a function of the table does: its code is run, or it is known by a contract. -/
inductive EF where
  | no
  | run
  | nat (g : List AV → AH → Nat → AR)
noncomputable def ecallB (P : Program) (F : FuncId → EF) (ih : AC) (f : FuncId) (args : List AV) (H : AH) (n : Nat) : AR := match F f with
  | .no => none
  | .nat g => g args H n
  | .run => (match P.funcs[f]? with
    | some fn => (match fn.body, Nat.ble args.length fn.ntmps with
      | some c, true => (match exec P ih fuelE c (eentry args 0 .nil) H n with
        | some (.exit _, _, _, _) => none
        | some (_, σ, H', n') => (match eres P σ H' fn.results.toList with
          | some vs => some (epack vs, H', n')
          | none => none)
        | none => none)
      | _, _ => none)
    | none => none)
noncomputable def ecall (P : Program) (F : FuncId → EF) (d : Nat) : AC :=
  Nat.rec (fun _ _ _ _ => none) (fun _ ih => ecallB P F ih) d
noncomputable def isTrue : AR → Bool
  | some (.bool true, _, _) => true
  | _ => false
end Go.Proofs.Ytdfeigkooeeeaaa
