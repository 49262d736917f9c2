/- The engine: regions and code. -/
import Derived.Test.YtaejmcgcfopmkaaEngMap
namespace Go.Proofs.Ytaejmcgcfopmkaa
open Go Go.RowKit

def isCall (P : Program) (f : FuncId) : Bool := match P.funcs[f]? with
  | some fn => !(fn.name == "runtime.NumGoroutine") && fn.body.isSome
  | none => false
theorem run_callFunc {P : Program} {f : FuncId} (hc : isCall P f = true) (args : Array Value) (w : World) : (callFunc f args).run P w = .ok (.enter f args) w := by
  unfold isCall at hc
  split at hc
  · rename_i fn hf
    simp only [Bool.and_eq_true, Bool.not_eq_true'] at hc
    have hb : fn.body.isNone = false := by
      cases hb : fn.body with
      | none => rw [hb] at hc; simp at hc
      | some c => rfl
    have hn : fn.body ≠ none := fun e => by rw [e] at hb; cases hb
    have h1 : ¬ fn.name = "runtime.NumGoroutine" := by simpa using hc.1
    simp [callFunc, hf, h1, hn]
  · cases hc
/-- A call of a Go function, in its first form; and one that hands back one value and leaves the view as it is. -/
def CallF (P : Program) (f : FuncId) (args : Array Value) (h : Hp) (K : KH) : Prop := isCall P f = true ∧ CallG P f args h K
def QCall (P : Program) (f : FuncId) (args : Array Value) (h : Hp) (v : Value) : Prop := isCall P f = true ∧ ∀ n, h.n ≤ n → CallG P f args (h.to n) fun u g => u = v ∧ ∃ k, n ≤ k ∧ g = h.to k
def acall (P : Program) (f : Value) (args : Array Value) (h : Hp) (K : KH) : Prop :=
  match f with
  | .func (.func g) first captured => CallF P g (first ++ args ++ captured) h K
  | _ => False
def qcall (P : Program) (f : Value) (args : Array Value) (h : Hp) (K : Value → Prop) : Prop :=
  match f with
  | .func (.func g) first captured => ∃ v, QCall P g (first ++ args ++ captured) h v ∧ K v
  | _ => False
def qbuiltin (P : Program) (b : Builtin) (ts : List TypeId) (args : List Value) (h : Hp) (K : Value → Prop) : Prop :=
  match b, ts, args with
  | .len, [t], [x] => alen P t x h K
  | .min, _, [x, y] => aminmax false x y K
  | .max, _, [x, y] => aminmax true x y K
  | _, _, _ => False
/-- What follows may look at less. -/
def Weak (K : KH) : KH := fun v h => ∃ g, Sub g h ∧ K v g
theorem Gives.weak {P : Program} {s : Sem Value} {h : Hp} {K : KH} (hg : Gives P s h (Weak K)) : Gives P s h K := fun w hi => by
  obtain ⟨v, w', h', hr, hi', hs, g, hsub, hk⟩ := hg w hi
  exact ⟨v, w', g, hr, hi'.sub hsub, hs, hk⟩
def lbuiltin (P : Program) (b : Builtin) (ts : List TypeId) (args : List Value) (h : Hp) (K : KH) : Prop :=
  match b, ts, args with
  | .append, [t, u], [s, x] => aappend P t u s x h (Weak K)
  | .copy, [t, _], [s, x] => acopy P t s x h K
  | _, _, _ => False
/-- The quiet operations: they look at memory at most. -/
def apure (P : Program) (o : Op) (ρ : Env) (h : Hp) (K : Value → Prop) : Prop :=
  match o with
  | .move x => K (ρ.ev x)
  | .assign x => K (ρ.ev x)
  | .pick c a b => (match ρ.ev c with
    | .bool q => K (if q = true then ρ.ev a else ρ.ev b)
    | _ => False)
  | .build t parts => (match tyBuild P t (parts.toList.map fun x => (x.1, ρ.ev x.2)) with
    | some r => K (.agg r)
    | none => False)
  | .load t a => aload P t (ρ.ev a) h K
  | .nilCheck x => (match ρ.ev x with
    | .pointer (some a) => K (.pointer (some a))
    | .func (.func f) a b => K (.func (.func f) a b)
    | _ => False)
  | .binOp op t x y _ => abinH P op t (ρ.ev x) (ρ.ev y) h K
  | .unOp op _ x => aun op (ρ.ev x) K
  | .makeFunc fn first captured => K (.func fn (first.map ρ.ev) (captured.map ρ.ev))
  | .slice t x lo hi mx => aslice P t (ρ.ev x) (lo.map ρ.ev) (hi.map ρ.ev) (mx.map ρ.ev) K
  | .fieldAddr s x i => afieldAddr P s (ρ.ev x) i K
  | .field t x i => afield P t (ρ.ev x) i K
  | .indexAddr t x ix => aindexAddr P t (ρ.ev x) (ρ.ev ix) K
  | .index t x ix => aindex P t (ρ.ev x) (ρ.ev ix) K
  | .extract x i => aextract (ρ.ev x) i K
  | .lookup t m k ok => alookup P t (ρ.ev m) (ρ.ev k) ok h K
  | .call c => (match c.callee with
    | .builtin b => qbuiltin P b c.argTypes.toList (c.args.toList.map ρ.ev) h K
    | _ => False)
  | _ => False
def aloud (P : Program) (o : Op) (ρ : Env) (h : Hp) (K : KH) : Prop :=
  match o with
  | .alloc e => aalloc P e h K
  | .box e x => anew e (ρ.ev x).cells h K
  | .buildSlice t len parts => (match tyBuildSlice P t len (parts.toList.map fun x => (x.1, ρ.ev x.2)) with
    | some (e, r) => K (.slice (some ⟨h.n, 0, none⟩) len len) ((h.put h.n (.cells r e (0, 0))).to (h.n + 1))
    | none => False)
  | .store t a x => astore P t (ρ.ev a) (ρ.ev x) h K
  | .convert src dst x => aconv P src dst (ρ.ev x) h K
  | .makeSlice t l c => amake P t (ρ.ev l) (ρ.ev c) h K
  | .makeMap _ none => K (.map (some h.n)) ((h.put h.n (.map #[] 0)).to (h.n + 1))
  | .mapUpdate t m k x => amapUpd P t (ρ.ev m) (ρ.ev k) (ρ.ev x) h K
  | .insert t m k x => amapUpd P t (ρ.ev m) (ρ.ev k) (ρ.ev x) h K
  | .call c => (match c.callee with
    | .builtin b => lbuiltin P b c.argTypes.toList (c.args.toList.map ρ.ev) h K
    | .value f => acall P (ρ.ev f) (c.args.map ρ.ev) h K
    | _ => False)
  | _ => False
def loudCallee : Callee → Bool
  | .builtin .append => true
  | .builtin .copy => true
  | .value _ => true
  | _ => false
def loudOp : Op → Bool
  | .alloc _ | .box .. | .buildSlice .. | .store .. | .convert .. | .makeSlice .. | .makeMap .. | .mapUpdate .. | .insert .. => true
  | .call c => loudCallee c.callee
  | _ => false
def astep (P : Program) (o : Op) (ρ : Env) (h : Hp) (K : KH) : Prop := if loudOp o = true then aloud P o ρ h K else apure P o ρ h fun v => K v h

theorem apure_sound {P : Program} {o : Oper} {ρ : Env} {h : Hp} {K : Value → Prop} (hk : apure P o.op ρ h K) : ∃ v, K v ∧ ∀ w, Fits w h → (execOp ρ.ev o).run P w = .ok (.value v) w := by
  have lift : ∀ {s : Sem Value}, PG P s h K → execOp ρ.ev o = (do pure (.value (← s))) → ∃ v, K v ∧ ∀ w, Fits w h → (execOp ρ.ev o).run P w = .ok (.value v) w := fun hp he =>
    let ⟨v, hv, hr⟩ := hp
    ⟨v, hv, fun w hw => by rw [he]; simp only [Sem.run_bind, hr w hw, Result.andThen_ok]; rfl⟩
  obtain ⟨dst, op, ty, pos, after, guard⟩ := o
  dsimp only at hk
  unfold apure at hk
  split at hk
  case h_1 => exact ⟨_, hk, fun w _ => rfl⟩
  case h_2 => exact ⟨_, hk, fun w _ => rfl⟩
  case h_3 =>
    split at hk
    · rename_i q hq
      exact ⟨_, hk, fun w _ => by simp [execOp, hq, asBool]⟩
    · exact hk.elim
  case h_4 =>
    rename_i t parts
    split at hk
    · rename_i r hr
      refine lift (s := Instr.build t (parts.map fun (i, x) => (i, ρ.ev x))) (.here (fun w _ => tyBuild_sound ?_ w) hk) rfl
      simpa using hr
    · exact hk.elim
  case h_5 => exact lift (aload_sound hk) rfl
  case h_6 =>
    split at hk
    · rename_i a ha
      exact ⟨_, hk, fun w _ => by simp [execOp, ha]⟩
    · rename_i f a b ha
      exact ⟨_, hk, fun w _ => by simp [execOp, ha]⟩
    · exact hk.elim
  case h_7 => exact lift (abinH_sound hk) rfl
  case h_8 => exact lift (aun_sound hk) rfl
  case h_9 => exact ⟨_, hk, fun w _ => rfl⟩
  case h_10 => exact lift (aslice_sound hk) rfl
  case h_11 => exact lift (afieldAddr_sound hk) rfl
  case h_12 => exact lift (afield_sound hk) rfl
  case h_13 => exact lift (aindexAddr_sound hk) rfl
  case h_14 => exact lift (aindex_sound hk) rfl
  case h_15 => exact lift (aextract_sound hk) rfl
  case h_16 => exact lift (alookup_sound hk) rfl
  case h_17 =>
    rename_i c
    split at hk
    · rename_i b hb
      have hex : execOp ρ.ev ⟨dst, .call c, ty, pos, after, guard⟩ = builtin b c.argTypes ty (c.args.map fun | .const _ => true | _ => false) (c.args.map ρ.ev) := by
        obtain ⟨callee, args, ats⟩ := c
        dsimp only at hb
        subst hb
        rfl
      have arr : ∀ {l : List Value}, c.args.toList.map ρ.ev = l → c.args.map ρ.ev = l.toArray := fun e => by
        apply Array.ext'
        simpa using e
      have arrT : ∀ {l : List TypeId}, c.argTypes.toList = l → c.argTypes = l.toArray := fun e => by
        apply Array.ext'
        simpa using e
      unfold qbuiltin at hk
      split at hk
      · rename_i e1 e2
        exact lift (alen_sound hk) (by rw [hex, arr e2, arrT e1]; rfl)
      · rename_i e2
        exact lift (amin_sound hk) (by rw [hex, arr e2]; rfl)
      · rename_i e2
        exact lift (amax_sound hk) (by rw [hex, arr e2]; rfl)
      · exact hk.elim
    · exact hk.elim
  case h_18 => exact hk.elim

/-- What an operation's run may be. -/
inductive Ran (P : Program) (w : World) (K : KH) : Result Next → Prop
  | value (v : Value) (w' : World) (h' : Hp) (hi : Is w' h') (hs : Same w w') (hk : K v h') : Ran P w K (.ok (.value v) w')
  | skip (w' : World) (h' : Hp) (hi : Is w' h') (hs : Same w w') (hk : K undef h') : Ran P w K (.ok .skip w')
  | enter (f : FuncId) (args : Array Value) (w' : World) (h' : Hp) (hi : Is w' h') (hs : Same w w') (hk : CallG P f args h' K) : Ran P w K (.ok (.enter f args) w')
theorem Gives.ran {P : Program} {s : Sem Value} {h : Hp} {K : KH} (hg : Gives P s h K) {w : World} (hi : Is w h) : Ran P w K ((do pure (.value (← s)) : Sem Next).run P w) := by
  obtain ⟨v, w', h', hr, i, s', k⟩ := hg w hi
  simp only [Sem.run_bind, hr, Result.andThen_ok]
  exact .value v w' h' i s' k
theorem aloud_sound {P : Program} {o : Oper} {ρ : Env} {h : Hp} {K : KH} (hk : aloud P o.op ρ h K) {w : World} (hi : Is w h) : Ran P w K ((execOp ρ.ev o).run P w) := by
  have lift : ∀ {s : Sem Value}, Gives P s h K → execOp ρ.ev o = (do pure (.value (← s))) → Ran P w K ((execOp ρ.ev o).run P w) := fun hg he => by
    rw [he]; exact hg.ran hi
  obtain ⟨dst, op, ty, pos, after, guard⟩ := o
  dsimp only at hk
  unfold aloud at hk
  split at hk
  case h_1 => exact lift (aalloc_sound hk) rfl
  case h_2 => exact lift (anew_sound hk) rfl
  case h_3 =>
    rename_i t len parts
    split at hk
    · rename_i e r hr
      have hp : (parts.map fun (i, x) => (i, ρ.ev x)).toList = parts.toList.map fun x => (x.1, ρ.ev x.2) := by simp
      rw [← hp] at hr
      have hg : Gives P (Instr.buildSlice t len (parts.map fun (i, x) => (i, ρ.ev x))) h K := tyBuildSlice_sound hr hk
      exact lift hg rfl
    · exact hk.elim
  case h_4 =>
    rename_i t a x
    obtain ⟨w', h', hr, i, s, k⟩ := astore_sound hk w hi
    have : (execOp ρ.ev ⟨dst, .store t a x, ty, pos, after, guard⟩).run P w = .ok .skip w' := by
      simp only [execOp, Sem.run_bind, hr, Result.andThen_ok]; rfl
    rw [this]
    exact .skip w' h' i s k
  case h_5 => exact lift (aconv_sound hk) rfl
  case h_6 => exact lift (amake_sound hk) rfl
  case h_7 => exact lift (amakeMap_sound hk) rfl
  case h_8 =>
    rename_i t m k x
    obtain ⟨w', h', hr, i, s, k'⟩ := amapUpd_sound hk w hi
    have : (execOp ρ.ev ⟨dst, .mapUpdate t m k x, ty, pos, after, guard⟩).run P w = .ok .skip w' := by
      simp only [execOp, Sem.run_bind, hr, Result.andThen_ok]; rfl
    rw [this]
    exact .skip w' h' i s k'
  case h_9 =>
    rename_i t m k x
    obtain ⟨w', h', hr, i, s, k'⟩ := amapUpd_sound hk w hi
    have : (execOp ρ.ev ⟨dst, .insert t m k x, ty, pos, after, guard⟩).run P w = .ok .skip w' := by
      simp only [execOp, Sem.run_bind, hr, Result.andThen_ok]; rfl
    rw [this]
    exact .skip w' h' i s k'
  case h_10 =>
    rename_i c
    obtain ⟨callee, args, ats⟩ := c
    dsimp only at hk
    split at hk
    · rename_i b
      have arr : ∀ {l : List Value}, args.toList.map ρ.ev = l → args.map ρ.ev = l.toArray := fun e => by
        apply Array.ext'
        simpa using e
      have arrT : ∀ {l : List TypeId}, ats.toList = l → ats = l.toArray := fun e => by
        apply Array.ext'
        simpa using e
      have hex : execOp ρ.ev ⟨dst, .call { callee := .builtin b, args := args, argTypes := ats }, ty, pos, after, guard⟩ = builtin b ats ty (args.map fun | .const _ => true | _ => false) (args.map ρ.ev) := rfl
      unfold lbuiltin at hk
      split at hk
      · rename_i e1 e2
        exact lift (aappend_sound hk).weak (by rw [hex, arr e2, arrT e1]; rfl)
      · rename_i e1 e2
        exact lift (acopy_sound rfl hk) (by rw [hex, arr e2, arrT e1]; rfl)
      · exact hk.elim
    · rename_i f
      unfold acall at hk
      split at hk
      · rename_i g first captured hf
        have : (execOp ρ.ev ⟨dst, .call { callee := .value f, args := args, argTypes := ats }, ty, pos, after, guard⟩).run P w = .ok (.enter g (first ++ args.map ρ.ev ++ captured)) w := by
          simp only [execOp, resolve, hf, Deferred.ofValue, invoke, Sem.run_bind, Sem.run_pure, Result.andThen_ok, run_callFunc hk.1]
        rw [this]
        exact .enter g _ w h hi (Same.refl w) hk.2
      · exact hk.elim
    · exact hk.elim
  case h_11 => exact hk.elim
theorem astep_sound {P : Program} {o : Oper} {ρ : Env} {h : Hp} {K : KH} (hk : astep P o.op ρ h K) {w : World} (hi : Is w h) : Ran P w K ((execOp ρ.ev o).run P w) := by
  unfold astep at hk
  split at hk
  · exact aloud_sound hk hi
  · obtain ⟨v, hv, hr⟩ := apure_sound hk
    rw [hr w hi.fits]
    exact .value v w h hi (Same.refl w) hv
theorem Ran.wp {P : Program} {o : Oper} {a : Act} {w w0 : World} {K : KH} {N : Act → World → Prop} {Q : Exit → Act → World → Prop} (hr : Ran P w K ((execOp a.eval o).run P w)) (hs : Same w0 w)
    (hn : ∀ v h' w', Is w' h' → Same w0 w' → K v h' → N (a.put o.dst v) w') : o.wp P a w N Q := by
  unfold Oper.wp
  generalize (execOp a.eval o).run P w = r at hr
  cases hr with
  | value v w' h' hi hs' hk => exact hn v h' w' hi (hs.trans hs') hk
  | skip w' h' hi hs' hk => exact hn undef h' w' hi (hs.trans hs') hk
  | enter f args w' h' hi hs' hk =>
    exact (hk w' hi).mono fun e w'' ⟨v, g, he, hi'', hs'', hk'⟩ => by
      subst he
      exact hn v g w'' hi'' ((hs.trans hs').trans hs'') hk'

/-! ### regions -/
def gslot (ops : Array Oper) (j : Nat) : Option Nat := (ops[j]?).bind (·.dst)
def aops (P : Program) (ops : Array Oper) : List Oper → Env → Hp → (Env → Hp → Prop) → Prop
  | [], ρ, h, N => N ρ h
  | o :: l, ρ, h, N => (match o.guard with
    | none => astep P o.op ρ h fun v h' => aops P ops l (ρ.put o.dst v) h' N
    | some (j, want) => (match gslot ops j with
      | none => False
      | some t => (match ρ t with
        | .bool q => Br (q == want) (astep P o.op (ρ.upd t (.bool want)) h fun v h' => aops P ops l ((ρ.upd t (.bool want)).put o.dst v) h' N)
          (aops P ops l ((ρ.upd t (.bool (!want))).put o.dst undef) h N)
        | .tuple _ => aops P ops l (ρ.put o.dst undef) h N
        | _ => False)))
theorem upd_eta {ρ : Env} {t : Nat} {v : Value} (h : ρ t = v) : ρ.upd t v = ρ := by
  funext x
  simp only [Env.upd]
  split
  · rename_i e; rw [e, h]
  · rfl
theorem yielded_eq {n : Nat} {a : Act} {ρ : Env} (hr : Rel n a ρ) (ops : Array Oper) {j t : Nat} (hg : gslot ops j = some t) : yielded ops a.tmps j = (match ρ t with | .bool b => some b | _ => none) := by
  have h1 := hr.2.2 t
  unfold yielded
  unfold gslot at hg
  rw [hg]
  simp only [Option.bind_some]
  rw [← h1]
  simp only [Array.getD_eq_getD_getElem?]
  cases a.tmps[t]? with
  | none => simp [undef]
  | some v => cases v <;> rfl
/-- Outside these slots the frame is as it was. -/
def Keep (ds : List Nat) (ρ0 ρ : Env) : Prop := ∀ t, ds.contains t = false → ρ t = ρ0 t
theorem Keep.put {ds : List Nat} {ρ0 ρ : Env} (hk : Keep ds ρ0 ρ) {d : Option Nat} (hd : ∀ t, d = some t → ds.contains t = true) (v : Value) : Keep ds ρ0 (ρ.put d v) := by
  intro t ht
  cases d with
  | none => exact hk t ht
  | some d =>
    have : t ≠ d := fun e => by subst e; rw [hd _ rfl] at ht; cases ht
    simp only [Env.put, Env.upd, if_neg this]
    exact hk t ht
theorem aops_sound {P : Program} {ops : Array Oper} {n : Nat} {ds : List Nat} {ρ0 : Env} {w0 : World} {N : Env → Hp → Prop} {Q : Exit → Act → World → Prop} (hQ : ∀ a w ρ h, Rel n a ρ → Keep ds ρ0 ρ → Is w h → Same w0 w → N ρ h → Q .normal a w) :
    ∀ (l : List Oper), (∀ o ∈ l, ∀ t, o.dst = some t → t < n ∧ ds.contains t = true) → ∀ (ρ : Env) (h : Hp) (a : Act) (w : World), aops P ops l ρ h N → Rel n a ρ → Keep ds ρ0 ρ → Is w h → Same w0 w → wpList P ops Q l a w
  | [], _, ρ, h, a, w, hk, hr, hp, hi, hs => hQ a w ρ h hr hp hi hs hk
  | o :: l, hd, ρ, h, a, w, hk, hr, hp, hi, hs => by
    have hd0 := hd o (by simp)
    have hd1 : ∀ t, o.dst = some t → t < n := fun t e => (hd0 t e).1
    have hdd : ∀ t, o.dst = some t → ds.contains t = true := fun t e => (hd0 t e).2
    have ih := aops_sound (P := P) (ops := ops) (w0 := w0) hQ l (fun o' ho => hd o' (by simp [ho]))
    unfold aops at hk
    split at hk
    · rename_i hg
      refine wpList_plain hg fun K hK => ?_
      refine Ran.wp (w0 := w0) (hr.eval ▸ astep_sound hk hi) hs fun v h' w' hi' hs' hk' => hK _ _ (ih _ _ _ _ hk' (hr.put hd1 v) (hp.put hdd v) hi' hs')
    · rename_i j want hg
      split at hk
      · exact hk.elim
      · rename_i t ht
        have hy := yielded_eq hr ops ht
        split at hk
        · rename_i q hq
          rw [hq] at hy
          rcases Br_elim hk with ⟨hqw, hk2⟩ | ⟨hqw, hk2⟩
          · have hqw : q = want := by simpa using hqw
            subst hqw
            rw [upd_eta hq] at hk2
            have hw : Region.wanted o (yielded ops a.tmps) = true := by simp [Region.wanted, hg, hy]
            refine wpList_step fun K hK => ?_
            rw [if_pos hw]
            exact Ran.wp (w0 := w0) (hr.eval ▸ astep_sound hk2 hi) hs fun v h' w' hi' hs' hk' => hK _ _ (ih _ _ _ _ hk' (hr.put hd1 v) (hp.put hdd v) hi' hs')
          · have hqw : q = !want := by cases q <;> cases want <;> simp_all
            subst hqw
            rw [upd_eta hq] at hk2
            have hw : Region.wanted o (yielded ops a.tmps) = false := by simp [Region.wanted, hg, hy]
            refine wpList_step fun K hK => ?_
            rw [if_neg (by simp [hw])]
            exact hK _ _ (ih _ _ _ _ hk2 (hr.put hd1 undef) (hp.put hdd undef) hi hs)
        · rename_i vs hq
          rw [hq] at hy
          have hw : Region.wanted o (yielded ops a.tmps) = false := by simp [Region.wanted, hg, hy]
          refine wpList_step fun K hK => ?_
          rw [if_neg (by simp [hw])]
          exact hK _ _ (ih _ _ _ _ hk (hr.put hd1 undef) (hp.put hdd undef) hi hs)
        · exact hk.elim
end Go.Proofs.Ytaejmcgcfopmkaa
