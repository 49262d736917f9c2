/- The engine: a region that draws its order, its operations' effects in a fixed order among themselves: the text's order serves. -/
import Derived.Test.YtaejmcgcfopmkaaEngDet
namespace Go.Proofs.Ytaejmcgcfopmkaa
open Go Go.RowKit
/-- Operations that touch no memory; and those that look at it. -/
def isPtrB (P : Program) (t : TypeId) : Bool := match P.underlying t with
  | some (.pointer _) => true
  | _ => false
def eqOp : BinOp → Bool
  | .eql | .neq => true
  | _ => false
def calmOp (P : Program) : Op → Bool
  | .move _ | .assign _ | .pick .. | .build .. | .nilCheck _ | .unOp .. | .makeFunc .. | .slice .. | .fieldAddr .. | .field .. | .indexAddr .. | .index .. | .extract .. => true
  | .binOp op t _ _ _ => !(eqOp op && isPtrB P t)
  | .call c => (match c.callee with
    | .builtin .min | .builtin .max => true
    | _ => false)
  | _ => false
def stillOp (o : Op) : Bool := !loudOp o
section
variable {P : Program} {ops : Array Oper}
theorem abinH_calm {op : BinOp} {t : TypeId} {x y : Value} {h h' : Hp} {C : Value → Prop} (hn : eqOp op = true → isPtrB P t = true → False) (k : abinH P op t x y h C) : abinH P op t x y h' C := by
  unfold abinH at *
  split
  · rename_i a b
    dsimp only at k
    unfold aptr at k
    split at k
    · rename_i e k' hu
      exact (hn rfl (by unfold isPtrB; rw [hu])).elim
    · rename_i e k' hu
      exact (hn rfl (by unfold isPtrB; rw [hu])).elim
    · exact k.elim
  · rename_i hne
    split at k
    · rename_i a b
      exact (hne a b rfl rfl).elim
    · exact k
theorem calm_any {o : Op} (hc : calmOp P o = true) (ρ : Env) (h h' : Hp) (C : Value → Prop) : apure P o ρ h C → apure P o ρ h' C := by
  intro k
  cases o
  case call c =>
    obtain ⟨callee, args, ats⟩ := c
    cases callee with
    | builtin b =>
      cases b <;> first | (rcases args with ⟨_ | ⟨x, _ | ⟨y, _ | ⟨z, r⟩⟩⟩⟩ <;> exact k) | (exfalso; revert hc; simp [calmOp])
    | _ => cases hc
  case binOp op t x y t' =>
    have hn : eqOp op = true → isPtrB P t = true → False := fun h1 h2 => by
      simp only [calmOp, h1, h2, Bool.and_self, Bool.not_true] at hc; cases hc
    exact abinH_calm hn k
  all_goals first | exact k | cases hc
theorem calm_still {o : Op} (hc : calmOp P o = true) : stillOp o = true := by
  cases o
  case call c =>
    obtain ⟨callee, args, ats⟩ := c
    cases callee with
    | builtin b => cases b <;> first | rfl | cases hc
    | _ => cases hc
  all_goals first | rfl | cases hc
def gstep (P : Program) (ops : Array Oper) (o : Oper) (ρ : Env) (h : Hp) (K : Env → Hp → Prop) : Prop :=
  match o.guard with
  | none => astep P o.op ρ h fun v h' => K (ρ.put o.dst v) h'
  | some (j, want) => (match gslot ops j with
    | none => False
    | some t => (match ρ t with
      | .bool q => if q = want then astep P o.op ρ h (fun v h' => K (ρ.put o.dst v) h') else K (ρ.put o.dst undef) h
      | .tuple _ => K (ρ.put o.dst undef) h
      | _ => False))
theorem aops_gstep {o : Oper} {l : List Oper} {ρ : Env} {h : Hp} {N : Env → Hp → Prop} (hk : aops P ops (o :: l) ρ h N) : gstep P ops o ρ h fun ρ' h' => aops P ops l ρ' h' N := by
  unfold aops at hk
  unfold gstep
  split at hk
  · rename_i hg; simp only [hg]; exact hk
  · rename_i j want hg
    simp only [hg]
    split at hk
    · exact hk.elim
    · rename_i t ht
      simp only [ht]
      split at hk
      · rename_i q hq
        simp only [hq]
        rcases Br_elim hk with ⟨hqw, hk2⟩ | ⟨hqw, hk2⟩
        · have e : q = want := by simpa using hqw
          rw [if_pos e]
          rw [upd_eta (by rw [hq, e])] at hk2
          exact hk2
        · have e : q = !want := by cases q <;> cases want <;> simp_all
          rw [if_neg (by rw [e]; cases want <;> simp)]
          rw [upd_eta (by rw [hq, e])] at hk2
          exact hk2
      · rename_i vs hq
        simp only [hq]; exact hk
      · exact hk.elim
theorem gstep_mono {o : Oper} {ρ : Env} {h : Hp} {K K' : Env → Hp → Prop} (m : ∀ v h', K (ρ.put o.dst v) h' → K' (ρ.put o.dst v) h') (hk : gstep P ops o ρ h K) : gstep P ops o ρ h K' := by
  unfold gstep at *
  split at hk
  · rename_i hg; exact (mono_step _ _ _).mono (fun v h' => m v h') hk
  · rename_i j want hg
    split at hk
    · exact hk.elim
    · rename_i t ht
      split at hk
      · split at hk
        · rename_i e; rw [if_pos e]; exact (mono_step _ _ _).mono (fun v h' => m v h') hk
        · rename_i e; rw [if_neg e]; exact m _ _ hk
      · exact m _ _ hk
      · exact hk.elim
/-- What an operation looks at. -/
def looks (ops : Array Oper) (o : Oper) : List Nat := o.looksAt ops
theorem put_agree {ρ : Env} {d : Option Nat} {v : Value} {t : Nat} (h : ∀ x, d = some x → x ≠ t) : (ρ.put d v) t = ρ t := by
  cases d with
  | none => rfl
  | some x => simp [Env.put, Env.upd, Ne.symm (h x rfl)]
theorem put_comm {ρ : Env} {d e : Option Nat} (hne : ∀ x, d = some x → e ≠ some x) (v u : Value) : (ρ.put d v).put e u = (ρ.put e u).put d v := by
  cases d with
  | none => rfl
  | some x =>
    cases e with
    | none => rfl
    | some y =>
      have : x ≠ y := fun q => hne x rfl (q ▸ rfl)
      funext t
      simp only [Env.put, Env.upd]
      by_cases h1 : t = y
      · subst h1; simp [Ne.symm this]
      · simp [h1]
theorem ev_agree {ρ ρ' : Env} {x : Operand} (h : ∀ t, x = .tmp t → ρ' t = ρ t) : ρ'.ev x = ρ.ev x := by
  cases x with
  | tmp t => exact h t rfl
  | _ => rfl
theorem astep_congr {o : Op} {ρ ρ' : Env} (hs : ∀ x ∈ o.operands, ρ'.ev x = ρ.ev x) (h : Hp) (K : KH) : astep P o ρ' h K = astep P o ρ h K := by
  have pairs : ∀ ps : Array (Nat × Operand), (∀ x ∈ (ps.toList.map (·.2)), ρ'.ev x = ρ.ev x) → (ps.toList.map fun x => (x.1, ρ'.ev x.2)) = (ps.toList.map fun x => (x.1, ρ.ev x.2)) := fun ps hp =>
    List.map_congr_left fun p hm => by
      rw [hp p.2 (List.mem_map.2 ⟨p, hm, rfl⟩)]
  have opt : ∀ x : Option Operand, (∀ y, x = some y → ρ'.ev y = ρ.ev y) → x.map ρ'.ev = x.map ρ.ev := fun x hx => by
    cases x with
    | none => rfl
    | some y => simp [hx y rfl]
  have arr : ∀ xs : Array Operand, (∀ y ∈ xs, ρ'.ev y = ρ.ev y) → xs.map ρ'.ev = xs.map ρ.ev := fun xs hx => Array.map_congr_left hx
  have arrL : ∀ xs : Array Operand, (∀ y ∈ xs, ρ'.ev y = ρ.ev y) → xs.toList.map ρ'.ev = xs.toList.map ρ.ev := fun xs hx => List.map_congr_left fun y hy => hx y (by simpa using hy)
  unfold astep
  cases o <;> simp only [Op.operands] at hs <;> simp only [loudOp, aloud, apure, if_true, if_false, Bool.false_eq_true]
  case move x => rw [hs x (by simp)]
  case assign x => rw [hs x (by simp)]
  case pick c a b => rw [hs c (by simp), hs a (by simp), hs b (by simp)]
  case box e x => rw [hs x (by simp)]
  case build t ps => rw [pairs ps fun x hx => hs x (by simpa using hx)]
  case buildSlice t n ps => rw [pairs ps fun x hx => hs x (by simpa using hx)]
  case insert t m k x => rw [hs m (by simp), hs k (by simp), hs x (by simp)]
  case load t a => rw [hs a (by simp)]
  case store t a x => rw [hs a (by simp), hs x (by simp)]
  case nilCheck x => rw [hs x (by simp)]
  case binOp op t x y t' => rw [hs x (by simp), hs y (by simp)]
  case unOp op t x => rw [hs x (by simp)]
  case convert s d x => rw [hs x (by simp)]
  case makeFunc fn first captured => rw [arr first fun x hx => hs x (by simp [hx]), arr captured fun x hx => hs x (by simp [hx])]
  case makeSlice t l c => rw [hs l (by simp), hs c (by simp)]
  case makeMap t r => cases r <;> simp only [aloud]
  case slice t x lo hi mx =>
    rw [hs x (by simp), opt lo fun y hy => hs y (by subst hy; simp), opt hi fun y hy => hs y (by subst hy; simp), opt mx fun y hy => hs y (by subst hy; simp)]
  case fieldAddr s x i => rw [hs x (by simp)]
  case field s x i => rw [hs x (by simp)]
  case indexAddr t x i => rw [hs x (by simp), hs i (by simp)]
  case index t x i => rw [hs x (by simp), hs i (by simp)]
  case lookup t x i ok => rw [hs x (by simp), hs i (by simp)]
  case mapUpdate t m k x => rw [hs m (by simp), hs k (by simp), hs x (by simp)]
  case extract x i => rw [hs x (by simp)]
  case call c =>
    obtain ⟨callee, args, ats⟩ := c
    have ha : ∀ y ∈ args, ρ'.ev y = ρ.ev y := fun y hy => hs y (by simp [Call.operands, hy])
    cases callee with
    | value f =>
      simp only [loudCallee, if_true, aloud]
      rw [arr args ha, hs f (by simp [Call.operands])]
    | invoke r m => simp only [loudCallee, apure, Bool.false_eq_true, if_false]
    | builtin b =>
      simp only [aloud, apure]
      rw [arrL args ha]
/-- Two operations that do not touch one another's slots. -/
theorem gstep_local {o : Oper} {d : Option Nat} (hl : ∀ x, d = some x → x ∉ looks ops o) (hd : ∀ x, d = some x → o.dst ≠ some x) (ρ : Env) (u : Value) (h : Hp) (K : Env → Hp → Prop) :
    gstep P ops o (ρ.put d u) h K = gstep P ops o ρ h fun ρ' h' => K (ρ'.put d u) h' := by
  have hop : ∀ x ∈ o.op.operands, (ρ.put d u).ev x = ρ.ev x := fun x hx => ev_agree fun t ht => put_agree fun y hy e => hl y hy (by
    subst ht e
    exact List.mem_append_left _ (List.mem_filterMap.2 ⟨.tmp y, by simpa using hx, rfl⟩))
  have hc : ∀ v, (ρ.put d u).put o.dst v = (ρ.put o.dst v).put d u := fun v => put_comm hd u v
  unfold gstep
  cases hg : o.guard with
  | none =>
    dsimp only
    rw [astep_congr hop]
    simp only [hc]
  | some q =>
    obtain ⟨j, want⟩ := q
    dsimp only
    cases ht : gslot ops j with
    | none => rfl
    | some t =>
      dsimp only
      have hslot : (ρ.put d u) t = ρ t := put_agree fun y hy e => hl y hy (by
        subst e
        unfold gslot at ht
        simp [looks, Oper.looksAt, hg, ht])
      rw [hslot, astep_congr hop]
      simp only [hc]
/-- An operation that is no effect: it yields one value; a calm one whatever the memory. -/
theorem gstep_still {o : Oper} (hs : stillOp o.op = true) {ρ : Env} {h : Hp} {K K' : Env → Hp → Prop} (hk : gstep P ops o ρ h K) (hk' : gstep P ops o ρ h K') :
    ∃ u, K (ρ.put o.dst u) h ∧ K' (ρ.put o.dst u) h ∧ ∀ L : Env → Hp → Prop, L (ρ.put o.dst u) h → gstep P ops o ρ h L := by
  have hl : loudOp o.op = false := by simpa [stillOp] using hs
  have red : ∀ (F : KH), astep P o.op ρ h F = apure P o.op ρ h fun v => F v h := fun F => by unfold astep; rw [hl]; rfl
  unfold gstep at *
  split at hk
  · rename_i hg
    simp only [hg] at hk'
    rw [red] at hk hk'
    obtain ⟨u, h1, h2, h3⟩ := (one_pure _ _ _).both hk hk'
    refine ⟨u, h1, h2, fun L hL => ?_⟩
    rw [red]
    exact (one_pure _ _ _).mono (fun v (hv : v = u) => by rw [hv]; exact hL) h3
  · rename_i j want hg
    simp only [hg] at hk'
    split at hk
    · exact hk.elim
    · rename_i t ht
      simp only [ht] at hk'
      split at hk
      · rename_i q hq
        simp only [hq] at hk'
        split at hk
        · rename_i e
          rw [if_pos e] at hk'
          rw [red] at hk hk'
          obtain ⟨u, h1, h2, h3⟩ := (one_pure _ _ _).both hk hk'
          refine ⟨u, h1, h2, fun L hL => ?_⟩
          rw [if_pos e, red]
          exact (one_pure _ _ _).mono (fun v (hv : v = u) => by rw [hv]; exact hL) h3
        · rename_i e
          rw [if_neg e] at hk'
          exact ⟨undef, hk, hk', fun L hL => by rw [if_neg e]; exact hL⟩
      · rename_i vs hq
        simp only [hq] at hk'
        exact ⟨undef, hk, hk', fun L hL => hL⟩
      · exact hk.elim
theorem gstep_calm {o : Oper} (hc : calmOp P o.op = true) {ρ : Env} {h : Hp} (h' : Hp) {K : Env → Hp → Prop} (hk : gstep P ops o ρ h fun ρ' _ => K ρ' h') : gstep P ops o ρ h' K := by
  have hl : loudOp o.op = false := by simpa [stillOp] using calm_still hc
  have red : ∀ (g : Hp) (F : KH), astep P o.op ρ g F = apure P o.op ρ g fun v => F v g := fun g F => by unfold astep; rw [hl]; rfl
  unfold gstep at *
  split at hk
  · rw [red] at hk ⊢; exact calm_any hc ρ h h' _ hk
  · rename_i j want hg
    split at hk
    · exact hk.elim
    · rename_i t ht
      split at hk
      · split at hk
        · rename_i e; rw [if_pos e, red]; rw [red] at hk; exact calm_any hc ρ h h' _ hk
        · rename_i e; rw [if_neg e]; exact hk
      · exact hk
      · exact hk.elim

/-! ### the same, by the value alone -/
def gval (P : Program) (ops : Array Oper) (o : Oper) (ρ : Env) (h : Hp) (M : Value → Hp → Prop) : Prop :=
  match o.guard with
  | none => astep P o.op ρ h M
  | some (j, want) => (match gslot ops j with
    | none => False
    | some t => (match ρ t with
      | .bool q => if q = want then astep P o.op ρ h M else M undef h
      | .tuple _ => M undef h
      | _ => False))
theorem gstep_val (o : Oper) (ρ : Env) (h : Hp) (K : Env → Hp → Prop) : gstep P ops o ρ h K = gval P ops o ρ h fun v h' => K (ρ.put o.dst v) h' := rfl
theorem gval_congr {o : Oper} {ρ ρ' : Env} (ha : ∀ t ∈ looks ops o, ρ' t = ρ t) (h : Hp) (M : Value → Hp → Prop) : gval P ops o ρ' h M = gval P ops o ρ h M := by
  have hop : ∀ x ∈ o.op.operands, ρ'.ev x = ρ.ev x := fun x hx => ev_agree fun t ht => ha t (by
    subst ht
    exact List.mem_append_left _ (List.mem_filterMap.2 ⟨.tmp t, by simpa using hx, rfl⟩))
  unfold gval
  cases hg : o.guard with
  | none => dsimp only; rw [astep_congr hop]
  | some q =>
    obtain ⟨j, want⟩ := q
    dsimp only
    cases ht : gslot ops j with
    | none => rfl
    | some t =>
      dsimp only
      have hslot : ρ' t = ρ t := ha t (by
        unfold gslot at ht
        simp [looks, Oper.looksAt, hg, ht])
      rw [hslot, astep_congr hop]
theorem gval_still {o : Oper} (hs : stillOp o.op = true) {ρ : Env} {h : Hp} {M M' : Value → Hp → Prop} (hk : gval P ops o ρ h M) (hk' : gval P ops o ρ h M') :
    ∃ u, M u h ∧ M' u h ∧ ∀ L : Value → Hp → Prop, L u h → gval P ops o ρ h L := by
  have hl : loudOp o.op = false := by simpa [stillOp] using hs
  have red : ∀ (F : KH), astep P o.op ρ h F = apure P o.op ρ h fun v => F v h := fun F => by unfold astep; rw [hl]; rfl
  unfold gval at *
  split at hk
  · rename_i hg
    simp only [hg] at hk'
    rw [red] at hk hk'
    obtain ⟨u, h1, h2, h3⟩ := (one_pure _ _ _).both hk hk'
    refine ⟨u, h1, h2, fun L hL => ?_⟩
    rw [red]
    exact (one_pure _ _ _).mono (fun v (hv : v = u) => by rw [hv]; exact hL) h3
  · rename_i j want hg
    simp only [hg] at hk'
    split at hk
    · exact hk.elim
    · rename_i t ht
      simp only [ht] at hk'
      split at hk
      · rename_i q hq
        simp only [hq] at hk'
        split at hk
        · rename_i e
          rw [if_pos e] at hk'
          rw [red] at hk hk'
          obtain ⟨u, h1, h2, h3⟩ := (one_pure _ _ _).both hk hk'
          refine ⟨u, h1, h2, fun L hL => ?_⟩
          rw [if_pos e, red]
          exact (one_pure _ _ _).mono (fun v (hv : v = u) => by rw [hv]; exact hL) h3
        · rename_i e
          rw [if_neg e] at hk'
          exact ⟨undef, hk, hk', fun L hL => by rw [if_neg e]; exact hL⟩
      · rename_i vs hq
        simp only [hq] at hk'
        exact ⟨undef, hk, hk', fun L hL => hL⟩
      · exact hk.elim
theorem gval_calm {o : Oper} (hc : calmOp P o.op = true) {ρ : Env} {h : Hp} (h' : Hp) {M : Value → Hp → Prop} (hk : gval P ops o ρ h fun v _ => M v h') : gval P ops o ρ h' M := by
  have hl : loudOp o.op = false := by simpa [stillOp] using calm_still hc
  have red : ∀ (g : Hp) (F : KH), astep P o.op ρ g F = apure P o.op ρ g fun v => F v g := fun g F => by unfold astep; rw [hl]; rfl
  unfold gval at *
  split at hk
  · rw [red] at hk ⊢; exact calm_any hc ρ h h' _ hk
  · rename_i j want hg
    split at hk
    · exact hk.elim
    · rename_i t ht
      split at hk
      · split at hk
        · rename_i e; rw [if_pos e, red]; rw [red] at hk; exact calm_any hc ρ h h' _ hk
        · rename_i e; rw [if_neg e]; exact hk
      · exact hk
      · exact hk.elim
theorem gval_mono {o : Oper} {ρ : Env} {h : Hp} {M M' : Value → Hp → Prop} (m : ∀ v h', M v h' → M' v h') (hk : gval P ops o ρ h M) : gval P ops o ρ h M' := by
  unfold gval at *
  split at hk
  · rename_i hg; exact (mono_step _ _ _).mono (fun v h' => m v h') hk
  · rename_i j want hg
    split at hk
    · exact hk.elim
    · rename_i t ht
      split at hk
      · split at hk
        · rename_i e; rw [if_pos e]; exact (mono_step _ _ _).mono (fun v h' => m v h') hk
        · rename_i e; rw [if_neg e]; exact m _ _ hk
      · exact m _ _ hk
      · exact hk.elim
/-- In a world that fits there is a way through. -/
theorem gval_way {o : Oper} {ρ : Env} {h : Hp} {M : Value → Hp → Prop} (hk : gval P ops o ρ h M) {w : World} (hi : Is w h) : ∃ v h' w', Is w' h' ∧ M v h' := by
  have st : astep P o.op ρ h M → ∃ v h' w', Is w' h' ∧ M v h' := fun k => by
    have hr := astep_sound k hi
    generalize (execOp ρ.ev o).run P w = r at hr
    cases hr with
    | value v w' h' i s m => exact ⟨v, h', w', i, m⟩
    | skip w' h' i s m => exact ⟨undef, h', w', i, m⟩
    | enter f args w' h' i s m =>
      obtain ⟨e, w2, fr, ⟨v, g, _, i2, _, m2⟩, _⟩ := m w' i []
      exact ⟨v, g, w2, i2, m2⟩
  unfold gval at hk
  split at hk
  · exact st hk
  · split at hk
    · exact hk.elim
    · split at hk
      · split at hk
        · exact st hk
        · exact ⟨_, h, w, hi, hk⟩
      · exact ⟨_, h, w, hi, hk⟩
      · exact hk.elim

/-! ### the operations by their numbers -/
def aopsI (P : Program) (ops : Array Oper) : List Nat → Env → Hp → (Env → Hp → Prop) → Prop
  | [], ρ, h, N => N ρ h
  | i :: l, ρ, h, N => (match ops[i]? with
    | none => aopsI P ops l ρ h N
    | some o => gstep P ops o ρ h fun ρ' h' => aopsI P ops l ρ' h' N)
theorem aopsI_of (N : Env → Hp → Prop) : ∀ (l : List Oper) (k : Nat), (∀ j, l[j]? = ops[k + j]?) → ∀ ρ h, aops P ops l ρ h N → aopsI P ops (List.range' k l.length) ρ h N
  | [], _, _, _, _, hk => hk
  | o :: l, k, hl, ρ, h, hk => by
    have h0 : ops[k]? = some o := by simpa using (hl 0).symm
    simp only [List.length_cons, List.range'_succ, aopsI, h0]
    exact gstep_mono (fun v h' hn => aopsI_of N l (k + 1) (fun j => by have := hl (j + 1); simpa [Nat.add_assoc, Nat.add_comm 1 j] using this) _ _ hn) (aops_gstep hk)
/-- Two operations that may be exchanged. -/
def commB (P : Program) (ops : Array Oper) (j i : Nat) : Bool := match ops[j]?, ops[i]? with
  | some a, some b => a.apart ops b && (calmOp P a.op || calmOp P b.op || (stillOp a.op && stillOp b.op))
  | _, _ => true
theorem way_to {N : Env → Hp → Prop} (l : List Nat) : ∀ (r : List Nat) (ρ : Env) (h : Hp) (w : World), aopsI P ops (r ++ l) ρ h N → Is w h →
    ∃ ρ' h', aopsI P ops l ρ' h' N ∧ ∀ t, (∀ j ∈ r, ∀ a, ops[j]? = some a → a.dst ≠ some t) → ρ' t = ρ t
  | [], ρ, h, w, hk, _ => ⟨ρ, h, hk, fun _ _ => rfl⟩
  | j :: r, ρ, h, w, hk, hi => by
    simp only [List.cons_append, aopsI] at hk
    split at hk
    · obtain ⟨ρ', h', h1, h2⟩ := way_to l r ρ h w hk hi
      exact ⟨ρ', h', h1, fun t ht => h2 t fun i hi => ht i (by simp [hi])⟩
    · rename_i a ha
      rw [gstep_val] at hk
      obtain ⟨v, h1, w1, hi1, hk1⟩ := gval_way hk hi
      obtain ⟨ρ', h', h2, h3⟩ := way_to l r _ h1 w1 hk1 hi1
      refine ⟨ρ', h', h2, fun t ht => (h3 t fun i hi => ht i (by simp [hi])).trans (put_agree fun x hx e => ht j (by simp) a ha (by rw [hx, e]))⟩
theorem push_calm {N : Env → Hp → Prop} {i : Nat} {o : Oper} (ho : ops[i]? = some o) (hc : calmOp P o.op = true) {ρ0 : Env} {u : Value} (hu : ∀ h (L : Value → Hp → Prop), L u h → gval P ops o ρ0 h L) (r2 : List Nat) :
    ∀ (r : List Nat), (∀ j ∈ r, commB P ops j i = true) → ∀ (ρ : Env) (h : Hp), (∀ t ∈ looks ops o, ρ t = ρ0 t) → aopsI P ops (r ++ i :: r2) ρ h N → aopsI P ops (r ++ r2) (ρ.put o.dst u) h N
  | [], _, ρ, h, ha, hk => by
    simp only [List.nil_append, aopsI, ho] at hk ⊢
    rw [gstep_val, gval_congr ha] at hk
    obtain ⟨v, h1, h2, _⟩ := gval_still (calm_still hc) hk (hu h (fun v _ => v = u) rfl)
    rw [h2] at h1
    exact h1
  | j :: r, hr, ρ, h, ha, hk => by
    simp only [List.cons_append, aopsI] at hk ⊢
    have ih := push_calm (N := N) ho hc hu r2 r fun k hk => hr k (by simp [hk])
    split at hk
    · exact ih ρ h ha hk
    · rename_i a hj
      have hcm := hr j (by simp)
      simp only [commB, hj, ho, Bool.and_eq_true] at hcm
      obtain ⟨h1, h2, h3⟩ := Oper.apart_spec hcm.1
      have hk2 : gstep P ops a ρ h fun ρ' h' => aopsI P ops (r ++ r2) (ρ'.put o.dst u) h' N :=
        gstep_mono (fun v h' hn => ih _ h' (fun t ht => (put_agree fun x hx e => h1 x hx (by rw [e]; exact ht)).trans (ha t ht)) hn) hk
      rw [gstep_local (o := a) (d := o.dst) (fun x hx => h3 x hx) (fun x hx e => h2 x e hx)]
      exact hk2
theorem bring_loud {N : Env → Hp → Prop} {i : Nat} {o : Oper} (ho : ops[i]? = some o) (r2 : List Nat) : ∀ (r : List Nat), (∀ j ∈ r, commB P ops j i = true) → calmOp P o.op = false → ∀ (ρ : Env) (h : Hp),
    aopsI P ops (r ++ i :: r2) ρ h N → gstep P ops o ρ h fun ρ' h' => aopsI P ops (r ++ r2) ρ' h' N
  | [], _, _, ρ, h, hk => by simpa [aopsI, ho] using hk
  | j :: r, hr, hnc, ρ, h, hk => by
    have ih := bring_loud (N := N) ho r2 r (fun k hk => hr k (by simp [hk])) hnc
    simp only [List.cons_append, aopsI] at hk ⊢
    cases hj : ops[j]? with
    | none =>
      simp only [hj] at hk ⊢
      exact ih ρ h hk
    | some a =>
      simp only [hj] at hk ⊢
      have hcm := hr j (by simp)
      simp only [commB, hj, ho, Bool.and_eq_true, hnc, Bool.or_false, Bool.or_eq_true] at hcm
      obtain ⟨h1, h2, h3⟩ := Oper.apart_spec hcm.1
      have hk2 : gstep P ops a ρ h fun ρ' h' => gstep P ops o ρ' h' fun ρ2 g2 => aopsI P ops (r ++ r2) ρ2 g2 N := gstep_mono (fun v h' hn => ih _ h' hn) hk
      have hst : stillOp a.op = true := hcm.2.elim calm_still (·.1)
      obtain ⟨u, hu1, _, hu2⟩ := gstep_still hst hk2 hk2
      have hloc := gstep_local (P := P) (ops := ops) (o := o) (d := a.dst) (fun x hx => h1 x hx) (fun x hx => h2 x hx) ρ u h fun ρ2 g2 => aopsI P ops (r ++ r2) ρ2 g2 N
      rw [hloc] at hu1
      have back : ∀ v (h' : Hp) (L : Env → Hp → Prop), gstep P ops a ρ h' (fun ρ' h' => L (ρ'.put o.dst v) h') → gstep P ops a (ρ.put o.dst v) h' L := fun v h' L k => by
        rw [gstep_local (o := a) (d := o.dst) (fun x hx => h3 x hx) (fun x hx e => h2 x e hx)]
        exact k
      rcases hcm.2 with hca | ⟨_, hso⟩
      · refine gstep_mono (fun v h' hn => back v h' _ ?_) hu1
        refine gstep_calm hca h' (h := h) (hu2 _ ?_)
        rw [put_comm (fun x hx => h2 x hx)]
        exact hn
      · obtain ⟨v, hv1, _, hv2⟩ := gstep_still hso hu1 hu1
        refine hv2 _ (back v h _ (hu2 _ ?_))
        rw [put_comm (fun x hx => h2 x hx)]
        exact hv1
/-- An operation that may come up may be taken first. -/
theorem bring {N : Env → Hp → Prop} {i : Nat} {o : Oper} (ho : ops[i]? = some o) (r r2 : List Nat) (hr : ∀ j ∈ r, commB P ops j i = true) {ρ : Env} {h : Hp} {w : World} (hi : Is w h)
    (hk : aopsI P ops (r ++ i :: r2) ρ h N) : gstep P ops o ρ h fun ρ' h' => aopsI P ops (r ++ r2) ρ' h' N := by
  cases hc : calmOp P o.op with
  | false => exact bring_loud ho r2 r hr hc ρ h hk
  | true =>
    obtain ⟨ρ', h', h1, h2⟩ := way_to (i :: r2) r ρ h w hk hi
    simp only [aopsI, ho] at h1
    have ha : ∀ t ∈ looks ops o, ρ' t = ρ t := fun t ht => h2 t fun j hj a haj e => by
      have hcm := hr j hj
      simp only [commB, haj, ho, Bool.and_eq_true] at hcm
      exact (Oper.apart_spec hcm.1).1 t e ht
    rw [gstep_val, gval_congr ha] at h1
    obtain ⟨u, _, _, hu⟩ := gval_still (calm_still hc) h1 h1
    have hu' : ∀ g (L : Value → Hp → Prop), L u g → gval P ops o ρ g L := fun g L hL => gval_calm hc g (hu (fun v _ => L v g) hL)
    rw [gstep_val]
    exact hu' h _ (push_calm ho hc hu' r2 r hr ρ h (fun _ _ => rfl) hk)
/-- Listed before: 'j' comes ahead of 'i' by the edges that bind. -/
def befB (ops : Array Oper) : Nat → Nat → Nat → Bool
  | 0, _, _ => false
  | f + 1, j, i => (match ops[i]? with
    | some o => o.after.any fun e => Region.binds .any e && (e.on == j || befB ops f j e.on)
    | none => false)
def swapB (P : Program) (ops : Array Oper) : Bool :=
  (List.range ops.size).all fun i => (match ops[i]? with
    | some o => o.after.all fun e => !Region.binds .any e || decide (e.on < i)
    | none => true) && (List.range i).all fun j => commB P ops j i || befB ops 4 j i
def Down (ops : Array Oper) (listed : Array Bool) : Prop := ∀ i o, ops[i]? = some o → listed.getD i false = true → ∀ e ∈ o.after, Region.binds .any e = true → listed.getD e.on false = true
theorem befB_listed {listed : Array Bool} (hd : Down ops listed) {j : Nat} : ∀ (f i : Nat), (∀ o, ops[i]? = some o → ∀ e ∈ o.after, Region.binds .any e = true → listed.getD e.on false = true) → befB ops f j i = true → listed.getD j false = true
  | 0, _, _, hb => by simp [befB] at hb
  | f + 1, i, hi, hb => by
    unfold befB at hb
    split at hb
    · rename_i o ho
      obtain ⟨e, he, h1⟩ := Array.any_eq_true'.1 hb
      simp only [Bool.and_eq_true, Bool.or_eq_true, beq_iff_eq] at h1
      have hl := hi o ho e he h1.1
      rcases h1.2 with h2 | h2
      · exact h2 ▸ hl
      · exact befB_listed hd f e.on (fun o' ho' e' he' hb' => hd e.on o' ho' hl e' he' hb') h2
    · cases hb
theorem gstep_wpOp {n : Nat} {ds : List Nat} {ρ0 ρ : Env} {w0 w : World} {h : Hp} {a : Act} {i : Nat} {o : Oper} {K : Act → World → Prop} {N : Env → Hp → Prop} {Q : Exit → Act → World → Prop} (ho : ops[i]? = some o)
    (hd : ∀ t, o.dst = some t → t < n ∧ ds.contains t = true) (hk : gstep P ops o ρ h N) (hr : Rel n a ρ) (hp : Keep ds ρ0 ρ) (hi : Is w h) (hs : Same w0 w)
    (hn : ∀ a w ρ h, Rel n a ρ → Keep ds ρ0 ρ → Is w h → Same w0 w → N ρ h → K a w) : wpOp P ops Q i K a w := by
  have hd1 : ∀ t, o.dst = some t → t < n := fun t e => (hd t e).1
  have hdd : ∀ t, o.dst = some t → ds.contains t = true := fun t e => (hd t e).2
  unfold wpOp
  simp only [ho]
  unfold gstep at hk
  split at hk
  · rename_i hg
    rw [if_pos (by simp [Region.wanted, hg])]
    exact .inl (Ran.wp (w0 := w0) (hr.eval ▸ astep_sound hk hi) hs fun v h' w' hi' hs' hk' => hn _ _ _ _ (hr.put hd1 v) (hp.put hdd v) hi' hs' hk')
  · rename_i j want hg
    split at hk
    · exact hk.elim
    · rename_i t ht
      have hy := yielded_eq hr ops ht
      split at hk
      · rename_i q hq
        rw [hq] at hy
        split at hk
        · rename_i e
          subst e
          rw [if_pos (by simp [Region.wanted, hg, hy])]
          exact .inl (Ran.wp (w0 := w0) (hr.eval ▸ astep_sound hk hi) hs fun v h' w' hi' hs' hk' => hn _ _ _ _ (hr.put hd1 v) (hp.put hdd v) hi' hs' hk')
        · rename_i e
          have : q = !want := by cases q <;> cases want <;> simp_all
          subst this
          rw [if_neg (by simp [Region.wanted, hg, hy])]
          exact hn _ _ _ _ (hr.put hd1 undef) (hp.put hdd undef) hi hs hk
      · rename_i vs hq
        rw [hq] at hy
        rw [if_neg (by simp [Region.wanted, hg, hy])]
        exact hn _ _ _ _ (hr.put hd1 undef) (hp.put hdd undef) hi hs hk
      · exact hk.elim
theorem mem_ready {listed : Array Bool} {i : Nat} : i ∈ Region.ready .any ops listed ↔ i < ops.size ∧ listed.getD i true = false ∧ ∃ o, ops[i]? = some o ∧ ∀ e ∈ o.after, Region.binds .any e = true → listed.getD e.on false = true := by
  unfold Region.ready
  rw [List.mem_filter, List.mem_range]
  cases h : ops[i]? with
  | none => simp
  | some o =>
    simp only [Option.map_some, Option.getD_some, Bool.and_eq_true, Bool.not_eq_true', Option.some.injEq, exists_eq_left', Array.all_eq_true', Bool.or_eq_true, and_congr_right_iff]
    intro _ _
    exact ⟨fun k e he hb => (k e he).resolve_left (by simp [hb]), fun k e he => by
      cases hb : Region.binds .any e with
      | false => exact .inl rfl
      | true => exact .inr (k e he hb)⟩
theorem getD_set {listed : Array Bool} {i j : Nat} {d : Bool} (hi : i < listed.size) : (listed.setIfInBounds i true).getD j d = if j = i then true else listed.getD j d := by
  simp only [Array.getD_eq_getD_getElem?, Array.getElem?_setIfInBounds]
  by_cases h : i = j
  · subst h; simp [hi]
  · simp [h, Ne.symm h]
theorem swap_any {n : Nat} {ds : List Nat} {ρ0 : Env} {w0 : World} {N : Env → Hp → Prop} {Q : Exit → Act → World → Prop} (hsw : swapB P ops = true) (hd : ∀ o ∈ ops.toList, ∀ t, o.dst = some t → t < n ∧ ds.contains t = true)
    (hQ : ∀ a w ρ h, Rel n a ρ → Keep ds ρ0 ρ → Is w h → Same w0 w → N ρ h → Q .normal a w) :
    ∀ (fuel : Nat) (l : List Nat) (listed : Array Bool) (ρ : Env) (h : Hp) (a : Act) (w : World), l.length = fuel → listed.size = ops.size → l.Pairwise (· < ·) → (∀ i, i ∈ l ↔ i < ops.size ∧ listed.getD i false = false) → Down ops listed →
      aopsI P ops l ρ h N → Rel n a ρ → Keep ds ρ0 ρ → Is w h → Same w0 w → wpAny P .any ops Q fuel listed a w := by
  have hsw' : ∀ i o, ops[i]? = some o → (∀ e ∈ o.after, Region.binds .any e = true → e.on < i) ∧ ∀ j, j < i → commB P ops j i = true ∨ befB ops 4 j i = true := fun i o ho => by
    have hlt : i < ops.size := (Array.getElem?_eq_some_iff.1 ho).1
    have := List.all_eq_true.1 hsw i (by simpa using hlt)
    rw [Bool.and_eq_true] at this
    obtain ⟨h1, h2⟩ := this
    simp only [ho] at h1
    refine ⟨fun e he hb => ?_, fun j hj => ?_⟩
    · have := Array.all_eq_true'.1 h1 e he
      simpa [hb] using this
    · simpa using List.all_eq_true.1 h2 j (by simpa using hj)
  have dflt : ∀ {listed : Array Bool}, listed.size = ops.size → ∀ i, i < ops.size → listed.getD i true = listed.getD i false := fun hsz i hi => by
    simp [Array.getD, hsz, hi]
  have empty : ∀ (l : List Nat) (listed : Array Bool), listed.size = ops.size → l.Pairwise (· < ·) → (∀ i, i ∈ l ↔ i < ops.size ∧ listed.getD i false = false) → Region.ready .any ops listed = [] → l = [] := fun l listed hsz hpw hm hr => by
    cases l with
    | nil => rfl
    | cons i l =>
      exfalso
      have hi := (hm i).1 (by simp)
      have : i ∈ Region.ready .any ops listed := mem_ready.2 ⟨hi.1, (dflt hsz i hi.1).trans hi.2, ops[i]'hi.1, Array.getElem?_eq_getElem hi.1, fun e he hb => by
        have hlt := (hsw' i _ (Array.getElem?_eq_getElem hi.1)).1 e he hb
        cases hl : listed.getD e.on false with
        | true => rfl
        | false =>
          have hmem := (hm e.on).2 ⟨by have := hi.1; omega, hl⟩
          rcases List.mem_cons.1 hmem with h1 | h1
          · omega
          · have := (List.pairwise_cons.1 hpw).1 _ h1
            omega⟩
      rw [hr] at this
      cases this
  intro fuel
  induction fuel with
  | zero =>
    intro l listed ρ h a w hl hsz hpw hm hdn hk hr hp hi hs
    have hl : l = [] := by simpa using hl
    subst hl
    refine ⟨?_, hQ a w ρ h hr hp hi hs hk⟩
    cases hre : Region.ready .any ops listed with
    | nil => rfl
    | cons i r =>
      exfalso
      have := mem_ready.1 (hre ▸ List.mem_cons_self : i ∈ Region.ready .any ops listed)
      exact absurd ((hm i).2 ⟨this.1, (dflt hsz i this.1) ▸ this.2.1⟩) (by simp)
  | succ fuel ih =>
    intro l listed ρ h a w hl hsz hpw hm hdn hk hr hp hi hs
    refine ⟨fun h0 => ?_, fun i hir => ?_⟩
    · have := empty l listed hsz hpw hm h0
      subst this
      cases hl
    · obtain ⟨hlt, hun, o, ho, hedge⟩ := mem_ready.1 hir
      have hil : i ∈ l := (hm i).2 ⟨hlt, (dflt hsz i hlt) ▸ hun⟩
      obtain ⟨r, r2, rfl⟩ := List.append_of_mem hil
      have hpw' := List.pairwise_append.1 hpw
      have hrlt : ∀ j ∈ r, j < i := fun j hj => hpw'.2.2 j hj i (by simp)
      have hr2lt : ∀ j ∈ r2, i < j := fun j hj => (List.pairwise_cons.1 hpw'.2.1).1 j hj
      have hcm : ∀ j ∈ r, commB P ops j i = true := fun j hj => ((hsw' i o ho).2 j (hrlt j hj)).resolve_right fun hb => by
        have h1 := befB_listed hdn 4 i (fun o' ho' e he hb' => by
          rw [ho] at ho'; cases ho'
          exact hedge e he hb') hb
        have h2 := ((hm j).1 (by simp [hj])).2
        rw [h1] at h2; cases h2
      have hg := bring ho r r2 hcm hi hk
      refine gstep_wpOp ho (hd o (by simpa using Array.mem_of_getElem? ho)) hg hr hp hi hs fun a' w' ρ' h' hr' hp' hi' hs' hk' => ?_
      refine ih (r ++ r2) _ ρ' h' a' w' (by simp at hl ⊢; omega) (by simpa using hsz) ?_ (fun j => ?_) ?_ hk' hr' hp' hi' hs'
      · exact hpw.sublist (List.Sublist.append (List.Sublist.refl r) (List.sublist_cons_self i r2))
      · rw [getD_set (by omega)]
        have hm' := hm j
        by_cases hj : j = i
        · subst hj
          simp only [if_pos, Bool.true_eq_false, and_false, iff_false]
          intro hmem
          rcases List.mem_append.1 hmem with h1 | h1
          · have := hrlt j h1; omega
          · have := hr2lt j h1; omega
        · rw [if_neg hj, ← hm']
          simp [hj]
      · intro k o' ho' hk' e he hb
        rw [getD_set (by omega)] at hk' ⊢
        by_cases hki : k = i
        · subst hki
          rw [ho] at ho'; cases ho'
          split
          · rfl
          · exact hedge e he hb
        · rw [if_neg hki] at hk'
          split
          · rfl
          · exact hdn k o' ho' hk' e he hb
/-! ### any order, by what holds behind each set of operations -/
def edgesOk (ops : Array Oper) : Bool := (List.range ops.size).all fun i => match ops[i]? with
  | some o => o.after.all fun e => !Region.binds .any e || decide (e.on < i)
  | none => true
def AnyI (P : Program) (ops : Array Oper) (ρ : Env) (h : Hp) (N : Env → Hp → Prop) : Prop := edgesOk ops = true ∧ ∃ I : Array Bool → Env → Hp → Prop, I (Array.replicate ops.size false) ρ h ∧
  (∀ listed i o ρ h, listed.size = ops.size → Down ops listed → ops[i]? = some o → listed.getD i false = false → (∀ e ∈ o.after, Region.binds .any e = true → listed.getD e.on false = true) → I listed ρ h →
    gstep P ops o ρ h (I (listed.setIfInBounds i true))) ∧
  (∀ listed ρ h, listed.size = ops.size → (∀ i, i < ops.size → listed.getD i false = true) → I listed ρ h → N ρ h)
theorem inv_any {n : Nat} {ds : List Nat} {ρ0 : Env} {w0 : World} {N : Env → Hp → Prop} {Q : Exit → Act → World → Prop} {I : Array Bool → Env → Hp → Prop} (hed : edgesOk ops = true) (hd : ∀ o ∈ ops.toList, ∀ t, o.dst = some t → t < n ∧ ds.contains t = true)
    (hstep : ∀ listed i o ρ h, listed.size = ops.size → Down ops listed → ops[i]? = some o → listed.getD i false = false → (∀ e ∈ o.after, Region.binds .any e = true → listed.getD e.on false = true) → I listed ρ h →
      gstep P ops o ρ h (I (listed.setIfInBounds i true)))
    (hfin : ∀ listed ρ h, listed.size = ops.size → (∀ i, i < ops.size → listed.getD i false = true) → I listed ρ h → N ρ h)
    (hQ : ∀ a w ρ h, Rel n a ρ → Keep ds ρ0 ρ → Is w h → Same w0 w → N ρ h → Q .normal a w) :
    ∀ (fuel : Nat) (l : List Nat) (listed : Array Bool) (ρ : Env) (h : Hp) (a : Act) (w : World), l.length = fuel → listed.size = ops.size → l.Pairwise (· < ·) → (∀ i, i ∈ l ↔ i < ops.size ∧ listed.getD i false = false) → Down ops listed →
      I listed ρ h → Rel n a ρ → Keep ds ρ0 ρ → Is w h → Same w0 w → wpAny P .any ops Q fuel listed a w := by
  have hed' : ∀ i o, ops[i]? = some o → ∀ e ∈ o.after, Region.binds .any e = true → e.on < i := fun i o ho e he hb => by
    have hlt : i < ops.size := (Array.getElem?_eq_some_iff.1 ho).1
    have h1 := List.all_eq_true.1 hed i (by simpa using hlt)
    simp only [ho] at h1
    have := Array.all_eq_true'.1 h1 e he
    simpa [hb] using this
  have dflt : ∀ {listed : Array Bool}, listed.size = ops.size → ∀ i, i < ops.size → listed.getD i true = listed.getD i false := fun hsz i hi => by
    simp [Array.getD, hsz, hi]
  have empty : ∀ (l : List Nat) (listed : Array Bool), listed.size = ops.size → l.Pairwise (· < ·) → (∀ i, i ∈ l ↔ i < ops.size ∧ listed.getD i false = false) → Region.ready .any ops listed = [] → l = [] := fun l listed hsz hpw hm hr => by
    cases l with
    | nil => rfl
    | cons i l =>
      exfalso
      have hi := (hm i).1 (by simp)
      have : i ∈ Region.ready .any ops listed := mem_ready.2 ⟨hi.1, (dflt hsz i hi.1).trans hi.2, ops[i]'hi.1, Array.getElem?_eq_getElem hi.1, fun e he hb => by
        have hlt := hed' i _ (Array.getElem?_eq_getElem hi.1) e he hb
        cases hl : listed.getD e.on false with
        | true => rfl
        | false =>
          have hmem := (hm e.on).2 ⟨by have := hi.1; omega, hl⟩
          rcases List.mem_cons.1 hmem with h1 | h1
          · omega
          · have := (List.pairwise_cons.1 hpw).1 _ h1
            omega⟩
      rw [hr] at this
      cases this
  intro fuel
  induction fuel with
  | zero =>
    intro l listed ρ h a w hl hsz hpw hm hdn hk hr hp hi hs
    have hl : l = [] := by simpa using hl
    subst hl
    refine ⟨?_, hQ a w ρ h hr hp hi hs (hfin listed ρ h hsz (fun i hlt => ?_) hk)⟩
    · cases hre : Region.ready .any ops listed with
      | nil => rfl
      | cons i r =>
        exfalso
        have := mem_ready.1 (hre ▸ List.mem_cons_self : i ∈ Region.ready .any ops listed)
        exact absurd ((hm i).2 ⟨this.1, (dflt hsz i this.1) ▸ this.2.1⟩) (by simp)
    · cases hb : listed.getD i false with
      | true => rfl
      | false => exact absurd ((hm i).2 ⟨hlt, hb⟩) (by simp)
  | succ fuel ih =>
    intro l listed ρ h a w hl hsz hpw hm hdn hk hr hp hi hs
    refine ⟨fun h0 => ?_, fun i hir => ?_⟩
    · have := empty l listed hsz hpw hm h0
      subst this
      cases hl
    · obtain ⟨hlt, hun, o, ho, hedge⟩ := mem_ready.1 hir
      have hunf : listed.getD i false = false := (dflt hsz i hlt) ▸ hun
      have hil : i ∈ l := (hm i).2 ⟨hlt, hunf⟩
      obtain ⟨r, r2, rfl⟩ := List.append_of_mem hil
      have hpw' := List.pairwise_append.1 hpw
      have hrlt : ∀ j ∈ r, j < i := fun j hj => hpw'.2.2 j hj i (by simp)
      have hr2lt : ∀ j ∈ r2, i < j := fun j hj => (List.pairwise_cons.1 hpw'.2.1).1 j hj
      have hg := hstep listed i o ρ h hsz hdn ho hunf hedge hk
      refine gstep_wpOp ho (hd o (by simpa using Array.mem_of_getElem? ho)) hg hr hp hi hs fun a' w' ρ' h' hr' hp' hi' hs' hk' => ?_
      refine ih (r ++ r2) _ ρ' h' a' w' (by simp at hl ⊢; omega) (by simpa using hsz) ?_ (fun j => ?_) ?_ hk' hr' hp' hi' hs'
      · exact hpw.sublist (List.Sublist.append (List.Sublist.refl r) (List.sublist_cons_self i r2))
      · rw [getD_set (by omega)]
        have hm' := hm j
        by_cases hj : j = i
        · subst hj
          simp only [if_pos, Bool.true_eq_false, and_false, iff_false]
          intro hmem
          rcases List.mem_append.1 hmem with h1 | h1
          · have := hrlt j h1; omega
          · have := hr2lt j h1; omega
        · rw [if_neg hj, ← hm']
          simp [hj]
      · intro k o' ho' hk' e he hb
        rw [getD_set (by omega)] at hk' ⊢
        by_cases hki : k = i
        · subst hki
          rw [ho] at ho'; cases ho'
          split
          · rfl
          · exact hedge e he hb
        · rw [if_neg hki] at hk'
          split
          · rfl
          · exact hdn k o' ho' hk' e he hb
theorem wp_region_inv {n id : Nat} {ds : List Nat} {ρ0 ρ : Env} {w0 w : World} {h : Hp} {a : Act} {N : Env → Hp → Prop} {Q : Exit → Act → World → Prop} (hm : P.follows .mixedOrders = true) (hd : ∀ o ∈ ops.toList, ∀ t, o.dst = some t → t < n ∧ ds.contains t = true)
    (hQ : ∀ a w ρ h, Rel n a ρ → Keep ds ρ0 ρ → Is w h → Same w0 w → N ρ h → Q .normal a w) (hk : AnyI P ops ρ h N) (hr : Rel n a ρ) (hp : Keep ds ρ0 ρ) (hi : Is w h) (hs : Same w0 w) : (Code.region id ops true).wp P Q a w := by
  obtain ⟨hed, I, h0, hstep, hfin⟩ := hk
  refine wp_region_any hm (inv_any hed hd hstep hfin hQ ops.size (List.range' 0 ops.size) _ ρ h a _ (by simp) (by simp) List.pairwise_lt_range' (fun i => ?_) (fun i o ho hl => ?_) h0 hr hp hi hs)
  · simp only [List.mem_range'_1, Nat.zero_le, true_and, Nat.zero_add]
    refine ⟨fun hlt => ⟨hlt, ?_⟩, fun k => k.1⟩
    simp [Array.getD, hlt]
  · simp [Array.getD] at hl
theorem wp_region_swap {n id : Nat} {ds : List Nat} {ρ0 ρ : Env} {w0 w : World} {h : Hp} {a : Act} {N : Env → Hp → Prop} {Q : Exit → Act → World → Prop} (hm : P.follows .mixedOrders = true) (hsw : swapB P ops = true) (hd : ∀ o ∈ ops.toList, ∀ t, o.dst = some t → t < n ∧ ds.contains t = true)
    (hQ : ∀ a w ρ h, Rel n a ρ → Keep ds ρ0 ρ → Is w h → Same w0 w → N ρ h → Q .normal a w) (hk : aops P ops ops.toList ρ h N) (hr : Rel n a ρ) (hp : Keep ds ρ0 ρ) (hi : Is w h) (hs : Same w0 w) : (Code.region id ops true).wp P Q a w := by
  refine wp_region_any hm (swap_any hsw hd hQ ops.size (List.range' 0 ops.size) _ ρ h a _ (by simp) (by simp) List.pairwise_lt_range' (fun i => ?_) (fun i o ho hl => ?_) ?_ hr hp hi hs)
  · simp only [List.mem_range'_1, Nat.zero_le, true_and, Nat.zero_add]
    refine ⟨fun hlt => ⟨hlt, ?_⟩, fun k => k.1⟩
    simp [Array.getD, hlt]
  · simp [Array.getD] at hl
  · have := aopsI_of (P := P) (ops := ops) N ops.toList 0 (fun j => by simp) ρ h hk
    simpa using this
end
end Go.Proofs.Ytaejmcgcfopmkaa
