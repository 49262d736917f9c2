/- Texts of our own, joined: the engine, the machine that runs code, and what is known of the functions. -/
import Derived.Test.YtdfeigkooeeeaaaRows
import Derived.WalkKit
import Derived.Deep.Quiet
import Derived.ProofKit
import Derived.Laws.StructEq
import Derived.LaidEql
import Derived.Laws.BytesArg
import Derived.Maps.RangeRun
set_option linter.unusedSimpArgs false
set_option linter.unusedVariables false
namespace Go.Proofs.Ytdfeigkooeeeaaa
open Go Go.RowKit

/-! ### frames and heaps -/
abbrev Env := Nat → Value
def Env.upd (ρ : Env) (d : Nat) (v : Value) : Env := fun t => if t = d then v else ρ t
def Env.put (ρ : Env) (d : Option Nat) (v : Value) : Env := match d with
  | some d => ρ.upd d v
  | none => ρ
def Env.ev (ρ : Env) : Operand → Value
  | .tmp t => ρ t
  | .const v => v
  | .global g => .pointer (some ⟨g, 0, none⟩)
  | .func f => .func (.func f) #[] #[]
theorem upd_same (ρ : Env) (d : Nat) (v : Value) : ρ.upd d v d = v := by simp [Env.upd]
theorem upd_ne (ρ : Env) (d : Nat) (v : Value) (t : Nat) (h : t ≠ d) : ρ.upd d v t = ρ t := by simp [Env.upd, h]
theorem put_some (ρ : Env) (d : Nat) (v : Value) : ρ.put (some d) v = ρ.upd d v := rfl
theorem put_none (ρ : Env) (v : Value) : ρ.put none v = ρ := rfl
theorem ev_tmp (ρ : Env) (t : Nat) : ρ.ev (.tmp t) = ρ t := rfl
theorem ev_const (ρ : Env) (v : Value) : ρ.ev (.const v) = v := rfl
theorem ev_func (ρ : Env) (f : Nat) : ρ.ev (.func f) = .func (.func f) #[] #[] := rfl
theorem ev_global (ρ : Env) (g : Nat) : ρ.ev (.global g) = .pointer (some ⟨g, 0, none⟩) := rfl

/-- The frame of the walk holds what the slots hold. -/
def Rel (n : Nat) (a : Act) (ρ : Env) : Prop := a.defers = [] ∧ a.tmps.size = n ∧ ∀ t, a.tmps.getD t undef = ρ t
theorem Rel.eval {n : Nat} {a : Act} {ρ : Env} (h : Rel n a ρ) : a.eval = ρ.ev := by
  funext x
  cases x with
  | tmp t => exact h.2.2 t
  | _ => rfl
theorem Rel.put {n : Nat} {a : Act} {ρ : Env} (h : Rel n a ρ) {d : Option Nat} (hd : ∀ t, d = some t → t < n) (v : Value) : Rel n (a.put d v) (ρ.put d v) := by
  cases d with
  | none => exact h
  | some d =>
    have hlt := hd d rfl
    refine ⟨h.1, by simp [Act.put, h.2.1], fun t => ?_⟩
    have h1 := h.2.2 t
    by_cases e : t = d
    · subst e
      simp [Act.put, Env.put, Env.upd, h.2.1, hlt]
    · have e' : ¬ d = t := fun x => e x.symm
      simp only [Act.put, Env.put, Env.upd, if_neg e]
      rw [← h1]
      simp [Array.getD_eq_getD_getElem?, Array.getElem?_setIfInBounds_ne e']

structure Hp where
  f : Nat → Option Obj
  n : Nat
def Hp.put (h : Hp) (b : Nat) (o : Obj) : Hp := ⟨fun x => if x = b then some o else h.f x, h.n⟩
def Hp.to (h : Hp) (n : Nat) : Hp := ⟨h.f, n⟩
def Is (w : World) (h : Hp) : Prop := w.heap.size = h.n ∧ ∀ b o, h.f b = some o → w.heap[b]? = some o
def Same (w w' : World) : Prop := w'.os = w.os ∧ w'.tape = w.tape ∧ w'.output = w.output
theorem Same.refl (w : World) : Same w w := ⟨rfl, rfl, rfl⟩
theorem Same.trans {a b c : World} (h : Same a b) (k : Same b c) : Same a c := ⟨k.1.trans h.1, k.2.1.trans h.2.1, k.2.2.trans h.2.2⟩
def Sub (g h : Hp) : Prop := g.n = h.n ∧ ∀ b o, g.f b = some o → h.f b = some o
theorem Sub.refl (h : Hp) : Sub h h := ⟨rfl, fun _ _ e => e⟩
theorem Sub.trans {a b c : Hp} (h : Sub a b) (k : Sub b c) : Sub a c := ⟨h.1.trans k.1, fun x o e => k.2 x o (h.2 x o e)⟩
theorem Is.sub {w : World} {g h : Hp} (hi : Is w h) (hs : Sub g h) : Is w g := ⟨hi.1.trans hs.1.symm, fun b o e => hi.2 b o (hs.2 b o e)⟩
theorem put_n (h : Hp) (b : Nat) (o : Obj) : (h.put b o).n = h.n := rfl
theorem to_n (h : Hp) (n : Nat) : (h.to n).n = n := rfl
theorem to_f (h : Hp) (n : Nat) : (h.to n).f = h.f := rfl
theorem to_put (h : Hp) (n b : Nat) (o : Obj) : (h.to n).put b o = (h.put b o).to n := rfl
theorem to_to (h : Hp) (n k : Nat) : (h.to n).to k = h.to k := rfl
theorem to_self (h : Hp) : h.to h.n = h := rfl
theorem put_f_same (h : Hp) (b : Nat) (o : Obj) : (h.put b o).f b = some o := by simp [Hp.put]
theorem put_f_ne (h : Hp) (b : Nat) (o : Obj) (x : Nat) (hx : x ≠ b) : (h.put b o).f x = h.f x := by simp [Hp.put, hx]
theorem put_put (h : Hp) (b : Nat) (o o' : Obj) : (h.put b o).put b o' = h.put b o' := by
  simp only [Hp.put]; congr 1; funext x; split <;> rfl
theorem put_put_mid (h : Hp) (b c : Nat) (o o' o2 : Obj) (hx : c ≠ b) : ((h.put b o).put c o2).put b o' = (h.put b o').put c o2 := by
  simp only [Hp.put]; congr 1; funext x
  by_cases e : x = b
  · subst e; simp [Ne.symm hx]
  · simp [e]
theorem Sub.put {g h : Hp} (hs : Sub g h) (b : Nat) (o : Obj) : Sub (g.put b o) (h.put b o) :=
  ⟨hs.1, fun x o' e => by
    simp only [Hp.put] at e ⊢
    split
    · rename_i hx; rw [if_pos hx] at e; exact e
    · rename_i hx; rw [if_neg hx] at e; exact hs.2 x o' e⟩
theorem Sub.skip {g h : Hp} (hs : Sub g h) {b : Nat} (hb : g.f b = none) (o : Obj) : Sub g (h.put b o) :=
  ⟨hs.1, fun x o' e => by
    simp only [Hp.put]
    split
    · rename_i hx; subst hx; rw [hb] at e; cases e
    · exact hs.2 x o' e⟩
theorem Sub.to {g h : Hp} (hs : Sub g h) (n : Nat) : Sub (g.to n) (h.to n) := ⟨rfl, hs.2⟩

/-- A call, in every world that the view fits: it returns; the world behind it fits the view that is handed on. -/
def CallG (P : Program) (f : FuncId) (args : Array Value) (h : Hp) (K : Value → Hp → Prop) : Prop :=
  ∀ w, Is w h → Calls P f args w fun e w' => ∃ v h', e = .returned v ∧ Is w' h' ∧ Same w w' ∧ K v h'
theorem CallG.mono {P : Program} {f : FuncId} {args : Array Value} {h : Hp} {K K' : Value → Hp → Prop} (hc : CallG P f args h K) (hk : ∀ v h', K v h' → K' v h') : CallG P f args h K' :=
  fun w hw => (hc w hw).mono fun _ _ ⟨v, h', e, i, s, k⟩ => ⟨v, h', e, i, s, hk v h' k⟩
theorem CallG.sub {P : Program} {f : FuncId} {args : Array Value} {g h : Hp} {K : Value → Hp → Prop} (hc : CallG P f args g K) (hs : Sub g h) : CallG P f args h K :=
  fun w hw => hc w (hw.sub hs)
/-- What a function hands on may forget blocks. -/
def Fin (K : Value → Hp → Prop) (v : Value) (h : Hp) : Prop := ∃ g, Sub g h ∧ K v g
theorem Fin.here {K : Value → Hp → Prop} {v : Value} {h : Hp} (k : K v h) : Fin K v h := ⟨h, Sub.refl h, k⟩

/-! ### the tables of types -/
def tySize (P : Program) (t : TypeId) : Option Nat := (P.info? t).map (·.size)
def tyBytes (P : Program) (t : TypeId) : Option Nat := (P.info? t).map (·.bytes)
def tyZero (P : Program) (t : TypeId) : Option Value := (P.info? t).bind (·.zero)
def tyAgg (P : Program) (t : TypeId) : Option Bool := match P.underlying t with
  | some (.struct _) | some (.array _ _) => some true
  | some _ => some false
  | none => none
/-- Where a field lies, if it has cells. -/
def tyField (P : Program) (s : TypeId) (i : Nat) : Option (TypeId × Nat) := match P.underlying s with
  | some (.struct fs) => match fs[i]? with
    | some f => match tySize P f.type with
      | some (_ + 1) => some (f.type, f.offset)
      | _ => none
    | none => none
  | _ => none
theorem run_sizeOf {P : Program} {t : TypeId} {n : Nat} (h : tySize P t = some n) (w : World) : (sizeOf t).run P w = .ok n w := by
  unfold tySize at h
  cases hi : P.info? t with
  | none => simp [hi] at h
  | some i => simp [hi] at h; simp [sizeOf, typeInfo, hi, h]
theorem run_isAgg {P : Program} {t : TypeId} {q : Bool} (h : tyAgg P t = some q) (w : World) : (isAgg t).run P w = .ok q w := by
  unfold tyAgg at h
  cases hu : P.underlying t with
  | none => simp [hu] at h
  | some d =>
    rw [hu] at h
    simp only [isAgg, Sem.run_bind, run_underlying hu, Result.andThen_ok]
    cases d <;> simp_all
theorem run_zeroValue {P : Program} {t : TypeId} {v : Value} (h : tyZero P t = some v) (w : World) : (zeroValue t).run P w = .ok v w := by
  unfold tyZero at h
  cases hi : P.info? t with
  | none => simp [hi] at h
  | some i => simp [hi] at h; simp [zeroValue, typeInfo, hi, h]

/-! ### what the world's steps do to a view -/
/-- The view's blocks are the world's, however many blocks there are. -/
def Fits (w : World) (h : Hp) : Prop := ∀ b o, h.f b = some o → w.heap[b]? = some o
theorem Is.fits {w : World} {h : Hp} (hi : Is w h) : Fits w h := hi.2
theorem Fits.cell {w : World} {h : Hp} (hi : Fits w h) {b i : Nat} {c : Array Value} {t : TypeId} {fz : Nat × Nat} (e : h.f b = some (.cells c t fz)) : w.cell? ⟨b, i, none⟩ = c[i]? := by
  have h1 := hi b _ e
  simp [World.cell?, h1]
theorem Is.lt {w : World} {h : Hp} (hi : Is w h) {b : Nat} {o : Obj} (e : h.f b = some o) : b < h.n := by
  have h1 := hi.2 b o e
  rw [← hi.1]
  exact (Array.getElem?_eq_some_iff.1 h1).1
theorem Is.fresh {w : World} {h : Hp} (hi : Is w h) {b : Nat} (hb : h.n ≤ b) : h.f b = none := by
  cases e : h.f b with
  | none => rfl
  | some o => exact absurd (hi.lt e) (by omega)
theorem Is.push {w : World} {h : Hp} (hi : Is w h) (o : Obj) : Is { w with heap := w.heap.push o } ((h.put h.n o).to (h.n + 1)) := by
  refine ⟨by simp [hi.1, Hp.to], fun b o' e => ?_⟩
  simp only [Hp.to, Hp.put] at e
  split at e
  · rename_i hb
    subst hb
    injection e with e
    subst e
    rw [← hi.1]
    simp
  · rename_i hb
    have h1 := hi.lt e
    have h2 := hi.2 b o' e
    rw [← hi.1] at h1
    simp only [Array.getElem?_push]
    rw [if_neg (by omega)]
    exact h2
theorem Same.push (w : World) (o : Obj) : Same w { w with heap := w.heap.push o } := ⟨rfl, rfl, rfl⟩
theorem Is.draw {w : World} {h : Hp} (hi : Is w h) : Is { w with drawn := w.drawn + 1 } h := hi
theorem Is.set {w : World} {h : Hp} (hi : Is w h) {b : Nat} {o o' : Obj} (e : h.f b = some o) {g : Array Obj} (hs : g.size = w.heap.size) (hb : g[b]? = some o') (hx : ∀ x, x ≠ b → g[x]? = w.heap[x]?) :
    Is { w with heap := g } (h.put b o') := by
  refine ⟨by simp [hs, hi.1, Hp.put], fun x o2 e2 => ?_⟩
  simp only [Hp.put] at e2
  split at e2
  · rename_i hx'; subst hx'; injection e2 with e2; subst e2; exact hb
  · rename_i hx'; exact (hx x hx').trans (hi.2 x o2 e2)
theorem Is.setCell {w : World} {h : Hp} (hi : Is w h) {b i : Nat} {c : Array Value} {t : TypeId} {fz : Nat × Nat} (e : h.f b = some (.cells c t fz)) (v : Value) :
    Is (w.setCell ⟨b, i, none⟩ v) (h.put b (.cells (c.setIfInBounds i v) t fz)) := by
  have h1 := hi.2 b _ e
  refine hi.set e (by simp) ?_ (fun x hx => ?_)
  · simp [Array.getElem?_modify, h1]
  · have : ¬ b = x := fun e => hx e.symm
    simp [Array.getElem?_modify, this]
theorem Same.setCell (w : World) (a : Addr) (v : Value) : Same w (w.setCell a v) := ⟨rfl, rfl, rfl⟩
theorem Is.cell {w : World} {h : Hp} (hi : Is w h) {b i : Nat} {c : Array Value} {t : TypeId} {fz : Nat × Nat} (e : h.f b = some (.cells c t fz)) : w.cell? ⟨b, i, none⟩ = c[i]? := by
  have h1 := hi.2 b _ e
  simp [World.cell?, h1]
theorem Is.frozen {w : World} {h : Hp} (hi : Is w h) {b i : Nat} {c : Array Value} {t : TypeId} {fz : Nat × Nat} (e : h.f b = some (.cells c t fz)) (hf : fz.2 ≤ fz.1 ∨ i < fz.1) : w.frozen? ⟨b, i, none⟩ = false := by
  have h1 := hi.2 b _ e
  obtain ⟨lo, hi'⟩ := fz
  simp only [World.frozen?, h1]
  simp only at hf
  simp; omega
theorem add_addr (b o k : Nat) : (Addr.mk b o none).add k = ⟨b, o + k, none⟩ := by
  unfold Addr.add
  split
  · rename_i h; subst h; rfl
  · rfl

/-! ### rows of cells -/
def cellsL (c : Array Value) (o : Nat) : Nat → Option (List Value)
  | 0 => some []
  | n + 1 => match c[o]?, cellsL c (o + 1) n with
    | some x, some l => some (x :: l)
    | _, _ => none
def writeL (c : Array Value) (o : Nat) : List Value → Array Value
  | [] => c
  | x :: l => writeL (c.setIfInBounds o x) (o + 1) l
theorem run_loadCellsFrom {P : Program} {w : World} {b : Nat} {c : Array Value} (hc : ∀ i, w.cell? ⟨b, i, none⟩ = c[i]?) : ∀ (n o i : Nat) (acc : Array Value) (l : List Value), cellsL c (o + i) n = some l →
    (loadCellsFrom ⟨b, o, none⟩ i n acc).run P w = .ok (acc ++ l.toArray) w
  | 0, o, i, acc, l, h => by
    injection h with h
    subst h
    simp [loadCellsFrom]
  | n + 1, o, i, acc, l, h => by
    simp only [cellsL] at h
    split at h
    · rename_i x l' hx hl
      injection h with h
      subst h
      have h1 := run_loadCellsFrom (P := P) hc n o (i + 1) (acc.push x) l' (by rw [← Nat.add_assoc]; exact hl)
      simp only [loadCellsFrom, Sem.run_bind, add_addr]
      rw [show (Go.load ⟨b, o + i, none⟩).run P w = .ok x w from by simp [Go.load, Sem.run, hc, hx]]
      simp only [Result.andThen_ok, h1]
      congr 1
      apply Array.ext'
      simp
    · cases h
theorem run_loadCells {P : Program} {w : World} {b : Nat} {c : Array Value} (hc : ∀ i, w.cell? ⟨b, i, none⟩ = c[i]?) {n o : Nat} {l : List Value} (h : cellsL c o n = some l) :
    (loadCells ⟨b, o, none⟩ n).run P w = .ok l.toArray w := by
  have := run_loadCellsFrom (P := P) hc n o 0 #[] l h
  simpa [loadCells] using this
/-- None of n cells from o on is one that may not be written. -/
def Free (fz : Nat × Nat) (o n : Nat) : Prop := fz.2 ≤ fz.1 ∨ o + n ≤ fz.1
theorem free_zero (o n : Nat) : Free (0, 0) o n := .inl (Nat.le_refl _)
theorem run_storeCells {P : Program} {t : TypeId} {b : Nat} {fz : Nat × Nat} : ∀ (l : List Value) (w : World) (h : Hp) (c : Array Value) (o i : Nat), (∀ x ∈ l, x.oneCell' = true) → o + i + l.length ≤ c.size → Free fz (o + i) l.length → Is w h → h.f b = some (.cells c t fz) →
    ∃ w', (storeCells ⟨b, o, none⟩ l i).run P w = .ok () w' ∧ Is w' (h.put b (.cells (writeL c (o + i) l) t fz)) ∧ Same w w'
  | [], w, h, c, o, i, _, _, _, hi, e => by
    refine ⟨w, by simp [storeCells], ?_, Same.refl w⟩
    have : h.put b (.cells (writeL c (o + i) []) t fz) = h := by
      simp only [Hp.put, writeL]
      cases h
      congr 1
      funext x
      split
      · rename_i hx; subst hx; exact e.symm
      · rfl
    rw [this]; exact hi
  | x :: l, w, h, c, o, i, h1, hb, hz, hi, e => by
    simp only [List.length_cons] at hb
    unfold Free at hz
    simp only [List.length_cons] at hz
    have hlt : o + i < c.size := by omega
    have hs := run_store P w ⟨b, o + i, none⟩ x .plain (h1 x (by simp))
    have hcell := hi.cell (i := o + i) e
    have hfz := hi.frozen (i := o + i) e (by omega)
    rw [Array.getElem?_eq_getElem hlt] at hcell
    have hi' := hi.setCell (i := o + i) e x
    obtain ⟨w', hr, hw, hs'⟩ := run_storeCells l (w.setCell ⟨b, o + i, none⟩ x) _ (c.setIfInBounds (o + i) x) o (i + 1) (fun y hy => h1 y (by simp [hy])) (by simp; omega) (by unfold Free; omega) hi' (put_f_same _ _ _)
    refine ⟨w', ?_, ?_, (Same.setCell _ _ _).trans hs'⟩
    · simp only [storeCells, Sem.run_bind, add_addr]
      rw [show (Go.store ⟨b, o + i, none⟩ x .plain).run P w = .ok () (w.setCell ⟨b, o + i, none⟩ x) from by rw [hs]; simp only [stored, hcell, hfz]; rfl]
      simpa using hr
    · rw [put_put] at hw
      simpa [writeL, Nat.add_assoc] using hw
end Go.Proofs.Ytdfeigkooeeeaaa
namespace Go.Proofs.Ytdfeigkooeeeaaa
open Go Go.RowKit
abbrev KH := Value → Hp → Prop
def Br (q : Bool) (A B : Prop) : Prop := (q = true → A) ∧ (q = false → B)
theorem Br_true (A B : Prop) : Br true A B = A := by simp [Br]
theorem Br_false (A B : Prop) : Br false A B = B := by simp [Br]
theorem Br_dec (p : Prop) [Decidable p] (A B : Prop) : Br (decide p) A B = ((p → A) ∧ (¬ p → B)) := by simp [Br]
theorem Br_elim {q : Bool} {A B : Prop} (h : Br q A B) : (q = true ∧ A) ∨ (q = false ∧ B) := by
  cases q
  · exact .inr ⟨rfl, h.2 rfl⟩
  · exact .inl ⟨rfl, h.1 rfl⟩

/-- What an operation's run is to be. -/
def Gives (P : Program) (s : Sem Value) (h : Hp) (K : KH) : Prop := ∀ w, Is w h → ∃ v w' h', s.run P w = .ok v w' ∧ Is w' h' ∧ Same w w' ∧ K v h'
/-- It yields one value, in every world that the view fits, and leaves the world. -/
def PG (P : Program) (s : Sem Value) (h : Hp) (K : Value → Prop) : Prop := ∃ v, K v ∧ ∀ w, Fits w h → s.run P w = .ok v w
theorem PG.here {P : Program} {s : Sem Value} {h : Hp} {K : Value → Prop} {v : Value} (hr : ∀ w, Fits w h → s.run P w = .ok v w) (hk : K v) : PG P s h K := ⟨v, hk, hr⟩
theorem PG.gives {P : Program} {s : Sem Value} {h : Hp} {K : KH} (hp : PG P s h (fun v => K v h)) : Gives P s h K :=
  let ⟨v, hk, hr⟩ := hp
  fun w hi => ⟨v, w, h, hr w hi.fits, hi, Same.refl w, hk⟩

/-! ### arithmetic -/
def bitsV (op : BinOp) (k : IntKind) (x y : Int) : Int :=
  k.wrap ((match op with
    | .and => BitVec.ofInt k.bits x &&& BitVec.ofInt k.bits y
    | .or => BitVec.ofInt k.bits x ||| BitVec.ofInt k.bits y
    | .xor => BitVec.ofInt k.bits x ^^^ BitVec.ofInt k.bits y
    | _ => BitVec.ofInt k.bits x &&& ~~~ BitVec.ofInt k.bits y).toNat : Int)
/-- How two values of a struct type are compared, if all its fields are plain: 0 a number, 1 a text, 2 a truth, and the cell. -/
def planOf (P : Program) : List Field → Option (List (Nat × Nat))
  | [] => some []
  | f :: fs => if f.name = "_" then planOf P fs else if tyAgg P f.type = some false then (match P.underlying f.type with
    | some (.int _) => (planOf P fs).map ((0, f.offset) :: ·)
    | some .string => (planOf P fs).map ((1, f.offset) :: ·)
    | some .bool => (planOf P fs).map ((2, f.offset) :: ·)
    | _ => none) else none
def eqPlan (P : Program) (t : TypeId) : Option (List (Nat × Nat)) := match P.underlying t with
  | some (.struct fs) => if P.stoodInHeld t = false ∧ P.eqGuardType P.depth t = false then planOf P fs.toList else none
  | _ => none
def planEq (xs ys : Array Value) : List (Nat × Nat) → Option Bool
  | [] => some true
  | (k, o) :: l => (match xs[o]?, ys[o]? with
    | some (.int k1 a), some (.int k2 b) => if k = 0 ∧ k1 = k2 then (planEq xs ys l).map (decide (a = b) && ·) else none
    | some (.string a), some (.string b) => if k = 1 then (planEq xs ys l).map ((a.toList == b.toList) && ·) else none
    | some (.bool a), some (.bool b) => if k = 2 then (planEq xs ys l).map ((a == b) && ·) else none
    | _, _ => none)
def aggEq (P : Program) (t : TypeId) (xs ys : Array Value) : Option Bool := (eqPlan P t).bind (planEq xs ys)
theorem eqFields_plan {P : Program} {xs ys : Array Value} (d : Nat) : ∀ (fs : List Field) (l : List (Nat × Nat)) (q : Bool), planOf P fs = some l → planEq xs ys l = some q → ∀ w, (Op.eqFields (d + 1) xs ys fs).run P w = .ok q w
  | [], l, q, h, h2, w => by
    injection h with h; subst h
    injection h2 with h2; subst h2
    simp [Op.eqFields]
  | f :: fs, l, q, h, h2, w => by
    unfold planOf at h
    unfold Op.eqFields
    split at h
    · rename_i hn
      rw [if_neg (by simp [hn])]
      exact eqFields_plan d fs l q h h2 w
    · rename_i hn
      rw [if_pos hn]
      split at h
      · rename_i ha
        have step : ∀ (a b : Value) (r q' : Bool) (l' : List (Nat × Nat)), xs[f.offset]? = some a → ys[f.offset]? = some b → (Op.equalIn (d + 1) f.type a b).run P w = .ok r w → planOf P fs = some l' → planEq xs ys l' = some q' → q = (r && q') →
            (do
              let a ← part f.type xs f.offset
              let b ← part f.type ys f.offset
              let r ← Op.equalIn (d + 1) f.type a b
              if (!r) = true then pure false else Op.eqFields (d + 1) xs ys fs : Sem Bool).run P w = .ok q w := fun a b r q' l' ea eb er el eq hq => by
          subst hq
          have p1 : (part f.type xs f.offset).run P w = .ok a w := by simp [part, run_isAgg ha, ea]
          have p2 : (part f.type ys f.offset).run P w = .ok b w := by simp [part, run_isAgg ha, eb]
          simp only [Sem.run_bind, p1, p2, er, Result.andThen_ok]
          cases r with
          | false => simp
          | true => simpa using eqFields_plan d fs l' q' el eq w
        have fin_ : ∀ k : Nat, (planOf P fs).map ((k, f.offset) :: ·) = some l → ∃ l', planOf P fs = some l' ∧ l = (k, f.offset) :: l' := fun k h => by
          simp only [Option.map_eq_some_iff] at h
          obtain ⟨l', e1, e2⟩ := h
          exact ⟨l', e1, e2.symm⟩
        split at h
        · rename_i k hu
          obtain ⟨l', e1, rfl⟩ := fin_ 0 h
          simp only [planEq] at h2
          split at h2
          · rename_i ka a kb b ea eb
            split at h2
            · rename_i hk; obtain ⟨_, rfl⟩ := hk
              simp only [Option.map_eq_some_iff] at h2
              obtain ⟨q', e2, e3⟩ := h2
              exact step _ _ _ q' l' ea eb (run_equalIn_int w d f.type ka k a b hu) e1 e2 (by rw [← e3]; by_cases e : a = b <;> simp [e])
            · cases h2
          · split at h2
            · omega
            · cases h2
          · split at h2
            · omega
            · cases h2
          · cases h2
        · rename_i hu
          obtain ⟨l', e1, rfl⟩ := fin_ 1 h
          simp only [planEq] at h2
          split at h2
          · split at h2
            · omega
            · cases h2
          · rename_i a b ea eb
            split at h2
            · skip
              simp only [Option.map_eq_some_iff] at h2
              obtain ⟨q', e2, e3⟩ := h2
              exact step _ _ _ q' l' ea eb (run_equalIn_string w d f.type a b hu) e1 e2 (e3.symm)
            · cases h2
          · split at h2
            · omega
            · cases h2
          · cases h2
        · rename_i hu
          obtain ⟨l', e1, rfl⟩ := fin_ 2 h
          simp only [planEq] at h2
          split at h2
          · split at h2
            · omega
            · cases h2
          · split at h2
            · omega
            · cases h2
          · rename_i a b ea eb
            split at h2
            · skip
              simp only [Option.map_eq_some_iff] at h2
              obtain ⟨q', e2, e3⟩ := h2
              exact step _ _ _ q' l' ea eb (run_equalIn_bool' w d f.type a b hu) e1 e2 (e3.symm)
            · cases h2
          · cases h2
        · cases h
      · cases h
def abin (P : Program) (op : BinOp) (t : TypeId) (x y : Value) (K : Value → Prop) : Prop :=
  match x, y with
  | .int k a, .int k' b => (match op with
    | .shl => 0 ≤ b ∧ K (.int k (k.wrap (a * 2 ^ min b.toNat k.bits)))
    | .shr => 0 ≤ b ∧ K (.int k (a.fdiv (2 ^ min b.toNat k.bits)))
    | .add => k = k' ∧ K (.int k (k.wrap (a + b)))
    | .sub => k = k' ∧ K (.int k (k.wrap (a - b)))
    | .mul => k = k' ∧ K (.int k (k.wrap (a * b)))
    | .quo => k = k' ∧ b ≠ 0 ∧ K (.int k (k.wrap (a.tdiv b)))
    | .rem => k = k' ∧ b ≠ 0 ∧ K (.int k (a.tmod b))
    | .and => k = k' ∧ K (.int k (bitsV .and k a b))
    | .or => k = k' ∧ K (.int k (bitsV .or k a b))
    | .xor => k = k' ∧ K (.int k (bitsV .xor k a b))
    | .andNot => k = k' ∧ K (.int k (bitsV .andNot k a b))
    | .eql => k = k' ∧ K (.bool (decide (a = b)))
    | .neq => k = k' ∧ K (.bool (decide (a ≠ b)))
    | .lss => k = k' ∧ K (.bool (decide (a < b)))
    | .leq => k = k' ∧ K (.bool (decide (a ≤ b)))
    | .gtr => k = k' ∧ K (.bool (decide (b < a)))
    | .geq => k = k' ∧ K (.bool (decide (b ≤ a))))
  | .string a, .string b => (match op with
    | .add => a.size + b.size ≤ 9223372036854775807 ∧ K (.string (a ++ b))
    | .eql => K (.bool (a.toList == b.toList))
    | .neq => K (.bool (!(a.toList == b.toList)))
    | .lss => K (.bool (Op.bytesLess a.toList b.toList))
    | .leq => K (.bool (Op.bytesLess a.toList b.toList || a.toList == b.toList))
    | .gtr => K (.bool (!(Op.bytesLess a.toList b.toList || a.toList == b.toList)))
    | .geq => K (.bool (!(Op.bytesLess a.toList b.toList)))
    | _ => False)
  | .bool a, .bool b => (match op with
    | .eql => P.underlying t = some .bool ∧ K (.bool (a == b))
    | .neq => P.underlying t = some .bool ∧ K (.bool (!(a == b)))
    | _ => False)
  | .pointer p, .pointer none => (match op, P.underlying t with
    | .eql, some (.pointer _) => K (.bool p.isNone)
    | .neq, some (.pointer _) => K (.bool (!p.isNone))
    | _, _ => False)
  | .slice p _ _, .slice none _ _ => (match op, P.underlying t with
    | .eql, some (.slice _) => K (.bool p.isNone)
    | .neq, some (.slice _) => K (.bool (!p.isNone))
    | _, _ => False)
  | .agg xs, .agg ys => (match op, aggEq P t xs ys with
    | .eql, some q => K (.bool q)
    | .neq, some q => K (.bool (!q))
    | _, _ => False)
  | _, _ => False
theorem run_equal_bool {P : Program} {t : TypeId} (hu : P.underlying t = some .bool) (a b : Bool) (w : World) : (Op.equal t (.bool a) (.bool b)).run P w = .ok (a == b) w := by
  have h : ∀ d, (Op.equalIn (d + 1) t (.bool a) (.bool b)).run P w = .ok (a == b) w := fun d => by simp [Op.equalIn, run_underlying hu]
  exact h 9999
theorem run_equal_ptr {P : Program} {t e : TypeId} (hu : P.underlying t = some (.pointer e)) (p : Option Addr) (w : World) : (Op.equal t (.pointer p) (.pointer none)).run P w = .ok p.isNone w := by
  have h : ∀ d, (Op.equalIn (d + 1) t (.pointer p) (.pointer none)).run P w = .ok p.isNone w := fun d => by cases p <;> simp [Op.equalIn, run_underlying hu]
  exact h 9999
theorem run_equal_slice {P : Program} {t e : TypeId} (hu : P.underlying t = some (.slice e)) (p : Option Addr) (n c n' c' : Nat) (w : World) : (Op.equal t (.slice p n c) (.slice none n' c')).run P w = .ok p.isNone w := by
  have h : ∀ d, (Op.equalIn (d + 1) t (.slice p n c) (.slice none n' c')).run P w = .ok p.isNone w := fun d => by cases p <;> simp [Op.equalIn, run_underlying hu]
  exact h 9999
/-- The run of a comparison as the loop over operations has it. -/
theorem abin_sound {P : Program} {op : BinOp} {t : TypeId} {ox oy : Operand} {x y : Value} {h : Hp} {K : Value → Prop} (hb : abin P op t x y K) :
    PG P (do eqGuard op t ox oy x y; binOp op t x y) h K := by
  unfold abin at hb
  split at hb
  · rename_i k a k' b
    cases op <;> simp only at hb
    case shl => exact .here (fun w _ => by simp [eqGuard, binOp, Op.shift, Int.not_lt.2 hb.1]) hb.2
    case shr => exact .here (fun w _ => by simp [eqGuard, binOp, Op.shift, Int.not_lt.2 hb.1]) hb.2
    all_goals obtain ⟨rfl, hb⟩ := hb
    case quo => exact .here (fun w _ => by simp [eqGuard, binOp, Op.intDiv, hb.1]) hb.2
    case rem => exact .here (fun w _ => by simp [eqGuard, binOp, Op.intDiv, hb.1]) hb.2
    all_goals refine .here (fun w _ => ?_) hb
    all_goals simp [eqGuard, binOp, Op.intArith, Op.intBits, bitsV, Op.intCmp, GT.gt, GE.ge]
    case neq => by_cases e : a = b <;> simp [e, bne]
    all_goals (by_cases e : a = b <;> simp [e])
  · rename_i a b
    cases op <;> simp only at hb
    case add =>
      have h2 : ¬ (((a.size + b.size : Nat) : Int) > IntKind.i64.max) := by
        have : IntKind.i64.max = 9223372036854775807 := by decide
        omega
      exact .here (fun w _ => by simp only [eqGuard, binOp, Op.stringOp, h2, if_false]; simp) hb.2
    all_goals first | exact hb.elim | exact .here (fun w _ => by simp [eqGuard, binOp, Op.stringOp]) hb
  · rename_i a b
    cases op <;> simp only at hb
    case eql => exact .here (fun w _ => by simp [eqGuard, binOp, run_equal_bool hb.1]) hb.2
    case neq => exact .here (fun w _ => by simp [eqGuard, binOp, run_equal_bool hb.1]) hb.2
  · rename_i p
    split at hb
    · rename_i hu
      exact .here (fun w _ => by simp [eqGuard, binOp, run_equal_ptr hu]) hb
    · rename_i hu
      exact .here (fun w _ => by simp [eqGuard, binOp, run_equal_ptr hu]) hb
    · exact hb.elim
  · rename_i p n c n' c'
    split at hb
    · rename_i hu
      exact .here (fun w _ => by simp [eqGuard, binOp, run_equal_slice hu]) hb
    · rename_i hu
      exact .here (fun w _ => by simp [eqGuard, binOp, run_equal_slice hu]) hb
    · exact hb.elim
  · rename_i xs ys
    have key : ∀ q, aggEq P t xs ys = some q → (∀ w, (Op.equalIn 10000 t (.agg xs) (.agg ys)).run P w = .ok q w) ∧ P.eqGuardType P.depth t = false := fun q hq => by
      simp only [aggEq, Option.bind_eq_some_iff] at hq
      obtain ⟨l, hl, hq⟩ := hq
      unfold eqPlan at hl
      split at hl
      · rename_i fs hu
        split at hl
        · rename_i hg
          have hf : P.fieldsOf t = fs := by simp [Program.fieldsOf, hu]
          refine ⟨fun w => ?_, hg.2⟩
          rw [run_equalIn_struct w 9999 t xs ys (by rw [hf]; exact hu) hg.1, hf]
          exact eqFields_plan 9998 _ l q hl hq w
        · cases hl
      · cases hl
    split at hb
    · rename_i q hq
      obtain ⟨h1, h2⟩ := key q hq
      exact .here (fun w _ => by simp only [Sem.run_bind, run_eqGuard_agg w _ t ox oy xs ys h2, Result.andThen_ok, run_eql_struct, h1 w]) hb
    · rename_i q hq
      obtain ⟨h1, h2⟩ := key q hq
      exact .here (fun w _ => by simp only [Sem.run_bind, run_eqGuard_agg w _ t ox oy xs ys h2, Result.andThen_ok, run_neq_struct, h1 w]) hb
    · exact hb.elim
  · exact hb.elim
def aun (op : UnOp) (x : Value) (K : Value → Prop) : Prop :=
  match op, x with
  | .not, .bool b => K (.bool (!b))
  | .neg, .int k n => K (.int k (k.wrap (0 - n)))
  | .xor, .int k n => K (.int k (bitsV .xor k (if k.signed then -1 else k.max) n))
  | _, _ => False
theorem aun_sound {P : Program} {op : UnOp} {x : Value} {h : Hp} {K : Value → Prop} (hb : aun op x K) : PG P (Op.unary op x) h K := by
  unfold aun at hb
  split at hb
  · exact .here (fun w _ => by simp [Op.unary]) hb
  · exact .here (fun w _ => by simp [Op.unary, Op.intArith]) hb
  · exact .here (fun w _ => by simp [Op.unary, Op.intBits, bitsV]) hb
  · exact hb.elim
end Go.Proofs.Ytdfeigkooeeeaaa
namespace Go.Proofs.Ytdfeigkooeeeaaa
open Go Go.RowKit

/-! ### loads and stores -/
def aload (P : Program) (t : TypeId) (a : Value) (h : Hp) (K : Value → Prop) : Prop :=
  match a with
  | .pointer (some ⟨b, o, none⟩) => (match h.f b with
    | some (.cells c _ _) => (match tyAgg P t with
      | some false => (match c[o]? with
        | some v => K v
        | none => False)
      | some true => (match tySize P t with
        | some n => (match cellsL c o n with
          | some l => K (.agg l.toArray)
          | none => False)
        | none => False)
      | none => False)
    | _ => False)
  | _ => False
theorem aload_sound {P : Program} {t : TypeId} {a : Value} {h : Hp} {K : Value → Prop} (hk : aload P t a h K) : PG P (Instr.loadAt t a) h K := by
  unfold aload at hk
  split at hk
  · rename_i b o
    split at hk
    · rename_i c e fz he
      split at hk
      · rename_i ha
        split at hk
        · rename_i v hv
          refine .here (fun w hi => ?_) hk
          have hc := (hi.cell (i := o) he).trans hv
          simp [Instr.loadAt, Instr.sureAddr, loadVar, run_isAgg ha, Go.load, Sem.run, hc]
        · exact hk.elim
      · rename_i ha
        split at hk
        · rename_i n hn
          split at hk
          · rename_i l hl
            refine .here (fun w hi => ?_) hk
            simp [Instr.loadAt, Instr.sureAddr, loadVar, run_isAgg ha, run_sizeOf hn, run_loadCells (P := P) (w := w) (fun i => hi.cell (i := i) he) hl]
          · exact hk.elim
        · exact hk.elim
      · exact hk.elim
    · exact hk.elim
  · exact hk.elim
def astore (P : Program) (t : TypeId) (a v : Value) (h : Hp) (K : KH) : Prop :=
  match a with
  | .pointer (some ⟨b, o, none⟩) => (match h.f b with
    | some (.cells c e fz) => tySize P t = some v.cells.size ∧ (v.cells.toList.all Value.oneCell' = true) ∧ o + v.cells.size ≤ c.size ∧ Free fz o v.cells.size ∧ K undef (h.put b (.cells (writeL c o v.cells.toList) e fz))
    | _ => False)
  | _ => False
theorem astore_sound {P : Program} {t : TypeId} {a v : Value} {h : Hp} {K : KH} (hk : astore P t a v h K) (w : World) (hi : Is w h) :
    ∃ w' h', (Instr.storeAt t a v).run P w = .ok () w' ∧ Is w' h' ∧ Same w w' ∧ K undef h' := by
  unfold astore at hk
  split at hk
  · rename_i b o
    split at hk
    · rename_i c e fz he
      obtain ⟨hs, h1, hb, hf, hk⟩ := hk
      obtain ⟨w', hr, hi', hsame⟩ := run_storeCells (P := P) v.cells.toList w h c o 0 (fun x hx => List.all_eq_true.1 h1 x hx) (by simpa using hb) (by simpa using hf) hi he
      refine ⟨w', _, ?_, hi', hsame, by simpa using hk⟩
      simp [Instr.storeAt, Instr.sureAddr, storeVar, run_sizeOf hs, hr]
    · exact hk.elim
  · exact hk.elim

/-! ### places -/
def afieldAddr (P : Program) (s : TypeId) (a : Value) (i : Nat) (K : Value → Prop) : Prop :=
  match a, tyField P s i with
  | .pointer (some ⟨b, o, none⟩), some (_, off) => K (.pointer (some ⟨b, o + off, none⟩))
  | _, _ => False
theorem tyField_spec {P : Program} {s t : TypeId} {i off : Nat} (h : tyField P s i = some (t, off)) :
    ∃ fs f n, P.underlying s = some (.struct fs) ∧ fs[i]? = some f ∧ f.type = t ∧ f.offset = off ∧ tySize P t = some (n + 1) := by
  unfold tyField at h
  split at h
  · rename_i fs hu
    split at h
    · rename_i f hf
      split at h
      · rename_i n hn
        simp only [Option.some.injEq, Prod.mk.injEq] at h
        obtain ⟨h1, h2⟩ := h
        subst h1 h2
        exact ⟨fs, f, n, hu, hf, rfl, rfl, hn⟩
      · cases h
    · cases h
  · cases h
theorem afieldAddr_sound {P : Program} {s : TypeId} {a : Value} {i : Nat} {h : Hp} {K : Value → Prop} (hk : afieldAddr P s a i K) : PG P (Instr.fieldAt s a i) h K := by
  unfold afieldAddr at hk
  split at hk
  · rename_i b o t off ht
    obtain ⟨fs, f, n, hu, hf, rfl, rfl, hn⟩ := tyField_spec ht
    refine .here (fun w hi => ?_) hk
    simp [Instr.fieldAt, run_underlying hu, hf, Instr.sureAddr, fieldPlace, run_sizeOf hn, add_addr]
  · exact hk.elim
def apart_ (P : Program) (t : TypeId) (cs : Array Value) (off : Nat) (K : Value → Prop) : Prop :=
  match tyAgg P t with
  | some false => (match cs[off]? with
    | some v => K v
    | none => False)
  | some true => (match tySize P t with
    | some n => K (.agg (cs.extract off (off + n)))
    | none => False)
  | none => False
theorem apart_sound {P : Program} {t : TypeId} {cs : Array Value} {off : Nat} {h : Hp} {K : Value → Prop} (hk : apart_ P t cs off K) : PG P (part t cs off) h K := by
  unfold apart_ at hk
  split at hk
  · rename_i ha
    split at hk
    · rename_i v hv
      exact .here (fun w _ => by simp [part, run_isAgg ha, hv]) hk
    · exact hk.elim
  · rename_i ha
    split at hk
    · rename_i n hn
      exact .here (fun w _ => by simp [part, run_isAgg ha, run_sizeOf hn]) hk
    · exact hk.elim
  · exact hk.elim
def afield (P : Program) (s : TypeId) (x : Value) (i : Nat) (K : Value → Prop) : Prop :=
  match x, tyField P s i with
  | .agg cs, some (t, off) => apart_ P t cs off K
  | _, _ => False
theorem afield_sound {P : Program} {s : TypeId} {x : Value} {i : Nat} {h : Hp} {K : Value → Prop} (hk : afield P s x i K) : PG P (Instr.field s x i) h K := by
  unfold afield at hk
  split at hk
  · rename_i cs t off ht
    obtain ⟨fs, f, n, hu, hf, rfl, rfl, hn⟩ := tyField_spec ht
    obtain ⟨v, hv, hr⟩ := apart_sound (h := h) hk
    exact ⟨v, hv, fun w hi => by simpa [Instr.field, run_underlying hu, hf, asAgg] using hr w hi⟩
  · exact hk.elim
def aindexAddr (P : Program) (t : TypeId) (x ix : Value) (K : Value → Prop) : Prop :=
  match ix with
  | .int _ i => (match P.underlying t, x with
    | some (.slice e), .slice (some ⟨b, o, none⟩) len _ => 0 ≤ i ∧ i < (len : Int) ∧ (match tySize P e with
      | some k => K (.pointer (some ⟨b, o + i.toNat * k, none⟩))
      | none => False)
    | some (.array len e), .pointer (some ⟨b, o, none⟩) => 0 ≤ i ∧ i < (len : Int) ∧ (match tySize P e with
      | some k => K (.pointer (some ⟨b, o + i.toNat * k, none⟩))
      | none => False)
    | _, _ => False)
  | _ => False
theorem aindexAddr_sound {P : Program} {t : TypeId} {x ix : Value} {h : Hp} {K : Value → Prop} (hk : aindexAddr P t x ix K) : PG P (Instr.indexAt t x ix) h K := by
  unfold aindexAddr at hk
  split at hk
  · rename_i kk i
    split at hk
    · rename_i e b o len cap hu
      obtain ⟨h0, h1, hk⟩ := hk
      split at hk
      · rename_i k hn
        exact .here (fun w _ => by simp [Instr.indexAt, asIntOf, run_underlying hu, h0, h1, run_sizeOf hn, add_addr]) hk
      · exact hk.elim
    · rename_i len e b o hu
      obtain ⟨h0, h1, hk⟩ := hk
      split at hk
      · rename_i k hn
        exact .here (fun w _ => by simp [Instr.indexAt, asIntOf, run_underlying hu, h0, h1, run_sizeOf hn, add_addr, Instr.sureAddr]) hk
      · exact hk.elim
    · exact hk.elim
  · exact hk.elim
def aindex (P : Program) (t : TypeId) (x ix : Value) (K : Value → Prop) : Prop :=
  match ix with
  | .int _ i => (match P.underlying t, x with
    | some (.array len e), .agg cs => 0 ≤ i ∧ i < (len : Int) ∧ (match tySize P e with
      | some k => apart_ P e cs (i.toNat * k) K
      | none => False)
    | some .string, .string s => 0 ≤ i ∧ (match s.toList[i.toNat]? with
      | some b => K (.int .u8 b.toNat)
      | none => False)
    | _, _ => False)
  | _ => False
theorem bytes_getElem? (s : ByteArray) (i : Nat) : s[i]? = s.toList[i]? := by
  rw [ByteArray.toList_eq]
  by_cases hlt : i < s.size
  · rw [getElem?_pos s i hlt, List.getElem?_eq_getElem (by simpa using hlt)]; rfl
  · rw [getElem?_neg s i hlt, List.getElem?_eq_none (by simpa using hlt)]
theorem aindex_sound {P : Program} {t : TypeId} {x ix : Value} {h : Hp} {K : Value → Prop} (hk : aindex P t x ix K) : PG P (Instr.index t x ix) h K := by
  unfold aindex at hk
  split at hk
  · rename_i kk i
    split at hk
    · rename_i len e cs hu
      obtain ⟨h0, h1, hk⟩ := hk
      split at hk
      · rename_i k hn
        obtain ⟨v, hv, hr⟩ := apart_sound (h := h) hk
        exact ⟨v, hv, fun w hi => by simpa [Instr.index, asIntOf, run_underlying hu, h0, h1, run_sizeOf hn] using hr w hi⟩
      · exact hk.elim
    · rename_i s hu
      obtain ⟨h0, hk⟩ := hk
      split at hk
      · rename_i b hb
        exact .here (fun w _ => by simp [Instr.index, asIntOf, run_underlying hu, h0, bytes_getElem?, hb]) hk
      · exact hk.elim
    · exact hk.elim
  · exact hk.elim
def aextract (x : Value) (i : Nat) (K : Value → Prop) : Prop :=
  match x with
  | .tuple vs => (match vs[i]? with
    | some v => K v
    | none => False)
  | _ => False
theorem aextract_sound {P : Program} {x : Value} {i : Nat} {h : Hp} {K : Value → Prop} (hk : aextract x i K) : PG P (Instr.extract x i) h K := by
  unfold aextract at hk
  split at hk
  · split at hk
    · rename_i v hv
      exact .here (fun w _ => by simp [Instr.extract, hv]) hk
    · exact hk.elim
  · exact hk.elim

/-! ### new memory -/
def anew (e : TypeId) (cs : Array Value) (h : Hp) (K : KH) : Prop := K (.pointer (some ⟨h.n, 0, none⟩)) ((h.put h.n (.cells cs e (0, 0))).to (h.n + 1))
theorem run_newRow {P : Program} (e : TypeId) (cs : Array Value) {w : World} {h : Hp} (hi : Is w h) : (newRow e cs).run P w = .ok ⟨h.n, 0, none⟩ { w with heap := w.heap.push (.cells cs e (0, 0)) } := by
  simp only [newRow, newObj, Sem.run_bind]
  rw [show (Sem.new (.cells cs e) .pure).run P w = .ok w.heap.size { w with heap := w.heap.push (.cells cs e (0, 0)) } from by simp [Sem.run]]
  simp [hi.1]
theorem anew_sound {P : Program} {e : TypeId} {cs : Array Value} {h : Hp} {K : KH} (hk : anew e cs h K) : Gives P (do pure (.pointer (some (← newRow e cs)))) h K := fun w hi =>
  ⟨_, _, _, by simp only [Sem.run_bind, run_newRow e cs hi]; rfl, hi.push _, Same.push _ _, hk⟩
def aalloc (P : Program) (e : TypeId) (h : Hp) (K : KH) : Prop :=
  match tyZero P e with
  | some z => anew e z.cells h K
  | none => False
theorem aalloc_sound {P : Program} {e : TypeId} {h : Hp} {K : KH} (hk : aalloc P e h K) : Gives P (Instr.alloc e true (.tuple #[])) h K := by
  unfold aalloc at hk
  split at hk
  · rename_i z hz
    intro w hi
    obtain ⟨v, w', h', hr, r⟩ := anew_sound hk w hi
    exact ⟨v, w', h', by simpa [Instr.alloc, run_zeroValue hz, newVar] using hr, r⟩
  · exact hk.elim
/-- The cells of an aggregate, its parts laid in. -/
def fillP (place : Nat → Option (Nat × Nat)) (cells : Array Value) : List (Nat × Value) → Option (Array Value)
  | [] => some cells
  | (i, v) :: rest => (match place i with
    | none => none
    | some (off, size) => if v.cells.size = size ∧ off + size ≤ cells.size then fillP place (writeL cells off v.cells.toList) rest else none)
theorem writeL_eq : ∀ (l : List Value) (c : Array Value) (o k : Nat), (l.zipIdx k).foldl (fun cs (x : Value × Nat) => cs.setIfInBounds (o + x.2) x.1) c = writeL c (o + k) l
  | [], c, o, k => rfl
  | x :: l, c, o, k => by
    simp only [List.zipIdx_cons, List.foldl_cons, writeL]
    rw [writeL_eq l _ o (k + 1)]
    rfl
theorem fillP_eq (place : Nat → Option (Nat × Nat)) : ∀ (l : List (Nat × Value)) (cells r : Array Value), fillP place cells l = some r → Instr.fill place cells l = some r
  | [], cells, r, h => h
  | (i, v) :: l, cells, r, h => by
    simp only [fillP] at h
    split at h
    · cases h
    · rename_i off size hp
      split at h
      · rename_i hc
        have ih := fillP_eq place l _ r h
        simp only [Instr.fill, hp]
        rw [if_neg (by rw [hc.1]; simp; omega)]
        have := writeL_eq v.cells.toList cells off 0
        simp only [Nat.add_zero] at this
        rw [← this] at ih
        have e : v.cells.zipIdx.foldl (fun cs (x : Value × Nat) => cs.setIfInBounds (off + x.2) x.1) cells = v.cells.toList.zipIdx.foldl (fun cs (x : Value × Nat) => cs.setIfInBounds (off + x.2) x.1) cells := by
          rw [← Array.foldl_toList]; simp
        rw [← e] at ih
        exact ih
      · cases h
def structPlaces (P : Program) (fs : Array Field) (i : Nat) : Option (Nat × Nat) := match fs[i]? with
  | some f => (tySize P f.type).map fun s => (f.offset, s)
  | none => none
def tyBuild (P : Program) (t : TypeId) (parts : List (Nat × Value)) : Option (Array Value) :=
  match tyZero P t with
  | some z => (match P.underlying t with
    | some (.struct fs) => if (fs.toList.all fun f => (tySize P f.type).isSome) = true then fillP (structPlaces P fs) z.cells parts else none
    | some (.array _ e) => (match tySize P e with
      | some s => fillP (fun i => some (i * s, s)) z.cells parts
      | none => none)
    | _ => none)
  | none => none
theorem run_places {P : Program} (w : World) : ∀ (l : List Field), (l.all fun f => (tySize P f.type).isSome) = true →
    (l.mapM (fun f => (do pure (f.offset, ← sizeOf f.type) : Sem (Nat × Nat)))).run P w = .ok (l.map fun f => (f.offset, (tySize P f.type).getD 0)) w
  | [], _ => by simp
  | f :: l, h => by
    simp only [List.all_cons, Bool.and_eq_true] at h
    obtain ⟨n, hn⟩ := Option.isSome_iff_exists.1 h.1
    rw [List.mapM_cons]
    simp only [Sem.run_bind, run_sizeOf hn, Result.andThen_ok, Sem.run_pure, run_places w l h.2, List.map_cons, hn, Option.getD_some]
theorem tyBuild_sound {P : Program} {t : TypeId} {parts : Array (Nat × Value)} {r : Array Value} (hb : tyBuild P t parts.toList = some r) (w : World) : (Instr.build t parts).run P w = .ok (.agg r) w := by
  unfold tyBuild at hb
  split at hb
  · rename_i z hz
    split at hb
    · rename_i fs hu
      split at hb
      · rename_i hall
        have hp := run_places (P := P) w fs.toList hall
        have hm : (fs.mapM (fun f => (do pure (f.offset, ← sizeOf f.type) : Sem (Nat × Nat)))).run P w = .ok (fs.map fun f => (f.offset, (tySize P f.type).getD 0)) w := by
          rw [Array.mapM_eq_mapM_toList, Sem.run_map, hp]
          simp only [Result.andThen_ok]
          congr 1
          apply Array.ext'
          simp
        have hpl : (fun i => (fs.map fun f => (f.offset, (tySize P f.type).getD 0))[i]?) = structPlaces P fs := by
          funext i
          simp only [structPlaces, Array.getElem?_map]
          cases hf : fs[i]? with
          | none => rfl
          | some f =>
            have : (tySize P f.type).isSome = true := List.all_eq_true.1 hall f (by simpa using Array.mem_of_getElem? hf)
            obtain ⟨n, hn⟩ := Option.isSome_iff_exists.1 this
            simp [hn]
        have hfill := fillP_eq _ _ _ _ hb
        rw [← hpl] at hfill
        simp only [Instr.build, Sem.run_bind, run_zeroValue hz, Result.andThen_ok, run_underlying hu, hm, hfill]
        rfl
      · cases hb
    · rename_i n e hu
      split at hb
      · rename_i s hs
        have hfill := fillP_eq _ _ _ _ hb
        simp only [Instr.build, Sem.run_bind, run_zeroValue hz, Result.andThen_ok, run_underlying hu, run_sizeOf hs, hfill]
        rfl
      · cases hb
    · cases hb
  · cases hb
/-- n copies of a list of cells. -/
def copies (z : List Value) : Nat → List Value
  | 0 => []
  | n + 1 => z ++ copies z n
theorem copies_snoc (z : List Value) : ∀ n, copies z (n + 1) = copies z n ++ z
  | 0 => by simp [copies]
  | n + 1 => by
    show z ++ copies z (n + 1) = (z ++ copies z n) ++ z
    rw [copies_snoc z n, List.append_assoc]
theorem range_mod (z : Array Value) : ∀ n, (List.range (n * z.size)).map (fun i => z[i % z.size]!) = copies z.toList n
  | 0 => by simp [copies]
  | n + 1 => by
    rw [copies_snoc, ← range_mod z n, Nat.succ_mul, List.range_add, List.map_append, List.map_map]
    congr 1
    apply List.ext_getElem
    · simp
    · intro i h1 h2
      have hi : i < z.size := by simpa using h1
      simp [Nat.mod_eq_of_lt hi, hi]
theorem madeCells_copies (z : Array Value) (n : Nat) : madeCells z (n * z.size) = (copies z.toList n).toArray := by
  rw [← range_mod]
  unfold madeCells
  apply Array.ext'
  simp
def tyBuildSlice (P : Program) (t : TypeId) (len : Nat) (parts : List (Nat × Value)) : Option (TypeId × Array Value) :=
  match P.underlying t with
  | some (.slice e) => (match tySize P e, tyZero P e with
    | some s, some z => if len * s ≤ 16777216 ∧ z.cells.size = s then (fillP (fun i => some (i * s, s)) (copies z.cells.toList len).toArray parts).map (e, ·) else none
    | _, _ => none)
  | _ => none
theorem tyBuildSlice_sound {P : Program} {t : TypeId} {len : Nat} {parts : Array (Nat × Value)} {e : TypeId} {r : Array Value} (hb : tyBuildSlice P t len parts.toList = some (e, r)) {h : Hp} {K : KH}
    (hk : K (.slice (some ⟨h.n, 0, none⟩) len len) ((h.put h.n (.cells r e (0, 0))).to (h.n + 1))) : Gives P (Instr.buildSlice t len parts) h K := by
  unfold tyBuildSlice at hb
  split at hb
  · rename_i e' hu
    split at hb
    · rename_i s z hs hz
      split at hb
      · rename_i hle
        simp only [Option.map_eq_some_iff, Prod.mk.injEq] at hb
        obtain ⟨r', hf, rfl, rfl⟩ := hb
        have hfill := fillP_eq _ _ _ _ hf
        intro w hi
        refine ⟨_, _, _, ?_, hi.push _, Same.push _ _, hk⟩
        obtain ⟨hle, hsz⟩ := hle
        simp only [Instr.buildSlice, Sem.run_bind, run_underlying hu, Result.andThen_ok, run_sizeOf hs]
        rw [if_neg (by omega)]
        rw [← madeCells_copies, hsz] at hfill
        by_cases h0 : len * s = 0
        · rw [h0] at hfill ⊢
          have e0 : madeCells z.cells 0 = #[] := by simp [madeCells, Array.range_zero']
          rw [e0] at hfill
          simp only [if_true, Sem.run_bind, Sem.run_pure, Result.andThen_ok, Array.range_zero', Array.map_empty]
          rw [hfill]
          simp only [Sem.run_bind, run_newRow e' r' hi, Result.andThen_ok]
          rfl
        · simp only [madeCells] at hfill
          simp only [h0, if_false, Sem.run_bind, Sem.run_pure, run_zeroValue hz, Result.andThen_ok]
          rw [hfill]
          simp only [Sem.run_bind, run_newRow e' r' hi, Result.andThen_ok]
          rfl
      · cases hb
    · cases hb
  · cases hb
/-! ### two places -/
def aptr (P : Program) (op : BinOp) (t : TypeId) (a b : Addr) (h : Hp) (K : Value → Prop) : Prop :=
  match op, P.underlying t with
  | .eql, some (.pointer e) => (∃ k, tySize P e = some (k + 1)) ∧ (a = b ∨ (∃ ca ta cb tb, h.f a.block = some (.cells ca ta (0, 0)) ∧ h.f b.block = some (.cells cb tb (0, 0)))) ∧ K (.bool (decide (a = b)))
  | .neq, some (.pointer e) => (∃ k, tySize P e = some (k + 1)) ∧ (a = b ∨ (∃ ca ta cb tb, h.f a.block = some (.cells ca ta (0, 0)) ∧ h.f b.block = some (.cells cb tb (0, 0)))) ∧ K (.bool (!decide (a = b)))
  | _, _ => False
def abinH (P : Program) (op : BinOp) (t : TypeId) (x y : Value) (h : Hp) (K : Value → Prop) : Prop :=
  match x, y with
  | .pointer (some a), .pointer (some b) => aptr P op t a b h K
  | x, y => abin P op t x y K
theorem run_sameAddr_of {P : Program} {a b : Addr} {w : World} {h : Hp} (hi : Fits w h) (hc : a = b ∨ (∃ ca ta cb tb, h.f a.block = some (.cells ca ta (0, 0)) ∧ h.f b.block = some (.cells cb tb (0, 0)))) : (sameAddr a b).run P w = .ok (decide (a = b)) w := by
  by_cases e : a = b
  · subst e; simp [sameAddr]
  · obtain ⟨ca, ta, cb, tb, h1, h2⟩ := hc.resolve_left e
    rw [run_sameAddr_other w e (hi _ _ h1) (hi _ _ h2)]
    simp [e]
theorem abinH_sound {P : Program} {op : BinOp} {t : TypeId} {ox oy : Operand} {x y : Value} {h : Hp} {K : Value → Prop} (hb : abinH P op t x y h K) :
    PG P (do eqGuard op t ox oy x y; binOp op t x y) h K := by
  unfold abinH at hb
  split at hb
  · rename_i a b
    have key : ∀ {e k}, P.underlying t = some (.pointer e) → tySize P e = some (k + 1) → (a = b ∨ (∃ ca ta cb tb, h.f a.block = some (.cells ca ta (0, 0)) ∧ h.f b.block = some (.cells cb tb (0, 0)))) → ∀ w, Fits w h → (Op.equal t (.pointer (some a)) (.pointer (some b))).run P w = .ok (decide (a = b)) w := fun hu hs hc w hw => by
      have h : ∀ d, (Op.equalIn (d + 1) t (.pointer (some a)) (.pointer (some b))).run P w = .ok (decide (a = b)) w := fun d => by
        simp [Op.equalIn, run_underlying hu, run_sizeOf hs, run_sameAddr_of hw hc]
      exact h 9999
    unfold aptr at hb
    split at hb
    · rename_i e hu
      obtain ⟨⟨k, hs⟩, hc, hk⟩ := hb
      exact .here (fun w hw => by simp [eqGuard, binOp, key hu hs hc w hw]) hk
    · rename_i e hu
      obtain ⟨⟨k, hs⟩, hc, hk⟩ := hb
      exact .here (fun w hw => by simp [eqGuard, binOp, key hu hs hc w hw]) hk
    · exact hb.elim
  · exact abin_sound hb
end Go.Proofs.Ytdfeigkooeeeaaa
namespace Go.Proofs.Ytdfeigkooeeeaaa
open Go Go.RowKit

def bytesOf : List Value → Option (List UInt8)
  | [] => some []
  | .int .u8 n :: l => if 0 ≤ n ∧ n < 256 then (bytesOf l).map (UInt8.ofNat n.toNat :: ·) else none
  | _ => none
def byteVals (s : ByteArray) : Array Value := s.data.map fun b => .int .u8 b.toNat
theorem bytesOf_spec : ∀ (l : List Value) (bs : List UInt8), bytesOf l = some bs → ∃ ns : List Int, l = ns.map (Value.int .u8) ∧ bs = ns.map fun n => UInt8.ofNat n.toNat
  | [], bs, h => by injection h with h; subst h; exact ⟨[], rfl, rfl⟩
  | v :: l, bs, h => by
    unfold bytesOf at h
    split at h
    · injection h with h; subst h; rename_i e; cases e
    · rename_i n l' e
      injection e with e1 e2
      subst e1 e2
      split at h
      · simp only [Option.map_eq_some_iff] at h
        obtain ⟨bs', hb, rfl⟩ := h
        obtain ⟨ns, rfl, rfl⟩ := bytesOf_spec l bs' hb
        exact ⟨n :: ns, rfl, rfl⟩
      · cases h
    · cases h
def aconv (P : Program) (src dst : TypeId) (x : Value) (h : Hp) (K : KH) : Prop :=
  match x with
  | .int _ n => (match P.underlying src, P.underlying dst with
    | some (.int _), some (.int k) => K (.int k (k.wrap n)) h
    | _, _ => False)
  | .string s => (match P.underlying src, P.underlying dst with
    | some .string, some .string => K (.string s) h
    | some .string, some (.slice e) => P.underlying e = some (.int .u8) ∧ ∀ cap, s.size ≤ cap →
      K (.slice (some ⟨h.n, 0, none⟩) s.size cap) ((h.put h.n (.cells (byteVals s ++ Array.replicate (cap - s.size) (.int .u8 0)) e (cap, cap + 1))).to (h.n + 1))
    | _, _ => False)
  | .slice base len _ => (match P.underlying src, P.underlying dst with
    | some (.slice e), some .string => P.underlying e = some (.int .u8) ∧ (match base with
      | none => K (.string ByteArray.empty) h
      | some ⟨b, o, none⟩ => (match h.f b with
        | some (.cells c _ _) => (match (cellsL c o len).bind bytesOf with
          | some bs => K (.string ⟨bs.toArray⟩) h
          | none => False)
        | _ => False)
      | _ => False)
    | _, _ => False)
  | _ => False
theorem Is.freeze {w : World} {h : Hp} {b n : Nat} {c : Array Value} {t : TypeId} (hi : Is w h) (e : h.f b = some (.cells c t (0, 0))) :
    Is (w.freeze ⟨b, n, none⟩ 1) (h.put b (.cells c t (n, n + 1))) := by
  have h1 := hi.2 b _ e
  unfold World.freeze
  rw [if_neg (by omega)]
  refine hi.set e (by simp) ?_ (fun x hx => ?_)
  · simp [Array.getElem?_modify, h1]
  · have : ¬ b = x := fun e => hx e.symm
    simp [Array.getElem?_modify, this]
theorem aconv_sound {P : Program} {src dst : TypeId} {x : Value} {h : Hp} {K : KH} (hk : aconv P src dst x h K) : Gives P (convert src dst x) h K := by
  unfold aconv at hk
  split at hk
  · rename_i k n
    split at hk
    · rename_i k1 k2 h1 h2
      exact PG.gives (.here (fun w _ => by simp [convert, run_underlying h1, run_underlying h2, Conv.intToInt]) hk)
    · exact hk.elim
  · rename_i s
    split at hk
    · rename_i h1 h2
      exact PG.gives (.here (fun w _ => by simp [convert, run_underlying h1, run_underlying h2]) hk)
    · rename_i e h1 h2
      obtain ⟨he, hk⟩ := hk
      intro w hi
      let cap := (Question.appendCap s.size 0 e).cut (w.tape w.drawn (.appendCap s.size 0 e))
      have hcap : s.size ≤ cap := Nat.le_add_right _ _
      let w1 : World := { w with drawn := w.drawn + 1 }
      have hi1 : Is w1 h := hi
      let cells := byteVals s ++ Array.replicate (cap - s.size) (.int .u8 0)
      have hsz : cells.size = cap := by
        have : s.size = s.data.size := rfl
        simp only [cells, byteVals, Array.size_append, Array.size_map, Array.size_replicate]
        omega
      have hi2 := hi1.push (.cells cells e (0, 0))
      have hi3 := hi2.freeze (b := h.n) (n := cap) (c := cells) (t := e) (by simp [Hp.to, Hp.put])
      refine ⟨.slice (some ⟨h.n, 0, none⟩) s.size cap, _, _, ?_, hi3, ⟨rfl, rfl, rfl⟩, ?_⟩
      · have hshape : ({ w1 with heap := w1.heap.push (.cells cells e (0, 0)) } : World).shape? h.n = some (e, cap) := by
          have := hi2.2 h.n _ (by simp [Hp.to, Hp.put]; rfl)
          simp only [World.shape?, this, hsz]
        simp only [convert, Sem.run_bind, run_underlying h1, run_underlying h2, Result.andThen_ok, run_underlying he, Conv.stringToBytes]
        rw [show (choose (.appendCap s.size 0 e)).run P w = .ok cap w1 from by simp [choose, Sem.run, Question.forced]; exact ⟨rfl, rfl⟩]
        simp only [Result.andThen_ok]
        rw [show (s.data.map fun b => Value.int .u8 (b.toNat : Int)) = byteVals s from rfl]
        rw [run_newRow e _ hi1]
        simp only [Result.andThen_ok, markStringish, Sem.run_bind]
        have hsh : (Go.shape h.n).run P ({ w1 with heap := w1.heap.push (.cells cells e (0, 0)) } : World) = .ok (some (e, cap)) ({ w1 with heap := w1.heap.push (.cells cells e (0, 0)) } : World) := by simp only [Go.shape, Sem.run, hshape]
        rw [hsh]
        rfl
      · have := hk cap hcap
        rw [to_put, put_put]
        exact this
    · exact hk.elim
  · rename_i base len cap
    split at hk
    · rename_i e h1 h2
      obtain ⟨he, hk⟩ := hk
      split at hk
      · refine PG.gives (.here (fun w _ => ?_) hk)
        exact run_convert_bytes_nil w src e h1 he _ _ dst h2
      · rename_i b o
        split at hk
        · rename_i c t fz hc
          split at hk
          · rename_i bs hb
            refine PG.gives (.here (fun w hi => ?_) hk)
            cases hl : cellsL c o len with
            | none => rw [hl] at hb; cases hb
            | some l =>
              rw [hl] at hb
              obtain ⟨ns, rfl, rfl⟩ := bytesOf_spec l bs hb
              have hload := run_loadCells (P := P) (w := w) (fun i => hi.cell (i := i) hc) hl
              rw [run_convert_bytes_string w src dst e _ _ _ h1 he h2, run_bytesToString w _ _ _ ns hload, foldl_push_bytes]
              simp [ByteArray.empty, ByteArray.emptyWithCapacity]
              rfl
          · exact hk.elim
        · exact hk.elim
      · exact hk.elim
    · exact hk.elim
  · exact hk.elim

/-! ### slicing -/
def bnd (v : Option Value) (d : Int) : Option Int := match v with
  | none => some d
  | some (.int _ i) => some i
  | _ => none
def upTo (v : Option Value) (h m : Int) : Prop := match v with
  | none => True
  | some _ => h ≤ m
def sliceOf (a : Option Addr) (l h m k : Nat) : Value := .slice (if m = l then a else a.map (·.add (l * k))) (h - l) (m - l)
def aslice (P : Program) (t : TypeId) (x : Value) (lo hi mx : Option Value) (K : Value → Prop) : Prop :=
  match x with
  | .string s => P.underlying t = some .string ∧ mx.isSome = false ∧ (match bnd hi s.size, bnd lo 0 with
    | some h, some l => 0 ≤ l ∧ l ≤ h ∧ h ≤ s.size ∧ K (.string (s.extract l.toNat h.toNat))
    | _, _ => False)
  | .slice a len cap => (match P.underlying t with
    | some (.slice e) => (match tySize P e, bnd mx cap, bnd hi len, bnd lo 0 with
      | some k, some m, some h, some l => (mx.isSome = true → hi.isSome = true) ∧ 0 ≤ l ∧ l ≤ h ∧ upTo hi h m ∧ m ≤ (cap : Int) ∧ K (sliceOf a l.toNat h.toNat m.toNat k)
      | _, _, _, _ => False)
    | _ => False)
  | _ => False
theorem bnd_d (v : Value) (d : Int) : bnd (some v) d = bnd (some v) 0 := by cases v <;> rfl
theorem run_bound {P : Program} {v : Value} {i : Int} {y : Nat} {code : BoundsCode} {w : World} (hv : bnd (some v) 0 = some i) (h0 : 0 ≤ i) (h1 : i ≤ (y : Int)) : (Instr.sliceBound v y code).run P w = .ok i.toNat w := by
  unfold bnd at hv
  split at hv
  · rename_i e; cases e
  · rename_i k j e
    injection e with e; injection hv with hv
    subst e hv
    exact run_sliceBound w k j y code h0 h1
  · cases hv
theorem run_bounds {P : Program} {q : Bool} {len cap : Nat} {lo hi mx : Option Value} {m h l : Int} {w : World} (hm : bnd mx cap = some m) (hh : bnd hi len = some h) (hl : bnd lo 0 = some l)
    (hx : mx.isSome = true → hi.isSome = true) (h0 : 0 ≤ l) (h1 : l ≤ h) (h2 : upTo hi h m) (h3 : m ≤ (cap : Int)) :
    (Instr.sliceBounds q len cap lo hi mx).run P w = .ok (l.toNat, h.toNat, m.toNat) w := by
  unfold Instr.sliceBounds
  cases mx with
  | none =>
    injection hm with hm; subst hm
    cases hi with
    | none =>
      injection hh with hh; subst hh
      cases lo with
      | none => injection hl with hl; subst hl; simp
      | some v =>
        simp only [Sem.run_bind, Sem.run_pure, Result.andThen_ok]
        rw [run_bound (i := l) hl h0 h1]; simp
    | some u =>
      have hu : bnd (some u) 0 = some h := by rw [← hh]; exact (bnd_d _ _).symm
      simp only [upTo] at h2
      simp only [Sem.run_bind, Sem.run_pure, Result.andThen_ok]
      rw [run_bound hu (by omega) h2]
      cases lo with
      | none => injection hl with hl; subst hl; simp
      | some v =>
        simp only [Result.andThen_ok, Sem.run_bind, Sem.run_pure]
        rw [run_bound (i := l) hl h0 (by omega)]; simp
  | some x =>
    cases hi with
    | none => simp at hx
    | some u =>
      have hu : bnd (some u) 0 = some h := by rw [← hh]; exact (bnd_d _ _).symm
      have hx' : bnd (some x) 0 = some m := by rw [← hm]; exact (bnd_d _ _).symm
      simp only [upTo] at h2
      simp only [Sem.run_bind, Sem.run_pure, Result.andThen_ok]
      rw [run_bound hx' (by omega) h3]
      simp only [Result.andThen_ok, Sem.run_bind, Sem.run_pure]
      rw [run_bound hu (by omega) (by omega)]
      cases lo with
      | none => injection hl with hl; subst hl; simp
      | some v =>
        simp only [Result.andThen_ok, Sem.run_bind, Sem.run_pure]
        rw [run_bound (i := l) hl h0 (by omega)]; simp
theorem aslice_sound {P : Program} {t : TypeId} {x : Value} {lo hi mx : Option Value} {h : Hp} {K : Value → Prop} (hk : aslice P t x lo hi mx K) : PG P (Instr.sliceAt t x lo hi mx) h K := by
  unfold aslice at hk
  split at hk
  · rename_i s
    obtain ⟨hu, hmx, hk⟩ := hk
    split at hk
    · rename_i hh l e1 e2
      obtain ⟨h0, h1, h2, hk⟩ := hk
      refine .here (fun w _ => ?_) hk
      have := run_bounds (P := P) (q := false) (len := s.size) (cap := s.size) (lo := lo) (hi := hi) (mx := none) (m := s.size) (h := hh) (l := l) (w := w) rfl e1 e2 (by simp) h0 h1 (by unfold upTo; split <;> trivial) (Int.le_refl _)
      simp [Instr.sliceAt, run_underlying hu, Instr.slice, hmx, this]
    · exact hk.elim
  · rename_i a len cap
    split at hk
    · rename_i e hu
      split at hk
      · rename_i k m hh l hs e0 e1 e2
        obtain ⟨hx, h0, h1, h2, h3, hk⟩ := hk
        refine .here (fun w _ => ?_) hk
        have := run_bounds (P := P) (q := true) (w := w) e0 e1 e2 hx h0 h1 h2 h3
        simp [Instr.sliceAt, run_underlying hu, Instr.slice, this, run_sizeOf hs, sliceOf]
      · exact hk.elim
    · exact hk.elim
  · exact hk.elim

/-! ### make -/
def amake (P : Program) (t : TypeId) (len cap : Value) (h : Hp) (K : KH) : Prop :=
  match len, cap with
  | .int _ l, .int _ c => (match P.underlying t with
    | some (.slice e) => (match tySize P e, tyBytes P e, tyZero P e with
      | some k, some by', some z => 0 ≤ l ∧ l ≤ c ∧ (by' : Int) * c ≤ 281474976710656 ∧ c ≤ 9223372036854775807 ∧
        K (.slice (some ⟨h.n, 0, none⟩) l.toNat c.toNat) ((h.put h.n (.cells (madeCells z.cells (c.toNat * k)) e (0, 0))).to (h.n + 1))
      | _, _, _ => False)
    | _ => False)
  | _, _ => False
theorem info_all {P : Program} {t : TypeId} {k b : Nat} {z : Value} (hs : tySize P t = some k) (hb : tyBytes P t = some b) (hz : tyZero P t = some z) : ∃ i : TypeInfo, P.info? t = some i ∧ i.size = k ∧ i.bytes = b ∧ i.zero = some z := by
  unfold tySize at hs; unfold tyBytes at hb; unfold tyZero at hz
  cases hi : P.info? t with
  | none => simp [hi] at hs
  | some i => simp [hi] at hs hb hz; exact ⟨i, rfl, hs, hb, hz⟩
theorem amake_sound {P : Program} {t : TypeId} {len cap : Value} {h : Hp} {K : KH} (hk : amake P t len cap h K) : Gives P (Instr.makeSlice t len cap) h K := by
  unfold amake at hk
  split at hk
  · rename_i k1 l k2 c
    split at hk
    · rename_i e hu
      split at hk
      · rename_i k by' z hs hb hz
        obtain ⟨h0, h1, h2, h3, hk⟩ := hk
        intro w hi
        refine ⟨_, _, _, ?_, hi.push _, Same.push _ _, hk⟩
        obtain ⟨i, e1, e2, e3, e4⟩ := info_all hs hb hz
        have := run_make (P := P) w t e i z hu e1 e4 k1 k2 l c h0 h1 (by rw [e3]; exact h2) h3
        rw [e2, hi.1] at this
        exact this
      · exact hk.elim
    · exact hk.elim
  · exact hk.elim
end Go.Proofs.Ytdfeigkooeeeaaa
namespace Go.Proofs.Ytdfeigkooeeeaaa
open Go Go.RowKit

def srcCells (h : Hp) (k : Nat) (x : Value) : Option (Nat × List Value) :=
  match x with
  | .slice none n _ => some (n, [])
  | .slice (some ⟨b, o, none⟩) n _ => (match h.f b with
    | some (.cells c _ _) => (cellsL c o (n * k)).map (n, ·)
    | _ => (match n with
      | 0 => some (0, [])
      | _ + 1 => none))
  | .slice (some ⟨_, _, some _⟩) 0 _ => some (0, [])
  | .string s => some (s.size, (byteVals s).toList)
  | _ => none
theorem srcCells_len {P : Program} {h : Hp} {k n : Nat} {x : Value} {l : List Value} (e : srcCells h k x = some (n, l)) (w : World) : (Builtin.lenOf x).run P w = .ok n w := by
  unfold srcCells at e
  split at e
  · injection e with e; injection e with e1 e2; subst e1; simp [Builtin.lenOf]
  · split at e
    · simp only [Option.map_eq_some_iff, Prod.mk.injEq] at e
      obtain ⟨_, _, rfl, _⟩ := e
      simp [Builtin.lenOf]
    · split at e
      · injection e with e; injection e with e1 e2; subst e1; simp [Builtin.lenOf]
      · cases e
  · injection e with e; injection e with e1 e2; subst e1; simp [Builtin.lenOf]
  · injection e with e; injection e with e1 e2; subst e1; simp [Builtin.lenOf]
  · cases e
theorem srcCells_run {P : Program} {h : Hp} {k n : Nat} {x : Value} {l : List Value} (e : srcCells h k x = some (n, l)) {w : World} (hi : Is w h) : (Builtin.firstCells k n x).run P w = .ok l.toArray w := by
  unfold srcCells at e
  split at e
  · injection e with e; injection e with e1 e2; subst e1 e2; simp [Builtin.firstCells]
  · split at e
    · rename_i c t fz hc
      simp only [Option.map_eq_some_iff, Prod.mk.injEq] at e
      obtain ⟨l', hl, rfl, rfl⟩ := e
      exact run_loadCells (P := P) (w := w) (fun i => hi.cell (i := i) hc) hl
    · split at e
      · injection e with e; injection e with e1 e2; subst e1 e2; simp [Builtin.firstCells, loadCells, loadCellsFrom]
      · cases e
  · injection e with e; injection e with e1 e2; subst e1 e2; simp [Builtin.firstCells, loadCells, loadCellsFrom]
  · rename_i s
    injection e with e
    injection e with e1 e2
    subst e1 e2
    have : s.extract 0 s.size = s := by
      obtain ⟨⟨l⟩⟩ := s
      rw [show (ByteArray.mk ⟨l⟩).size = l.length from rfl]
      exact (ByteArray.extract_mk l 0 l.length).trans (by simp)
    simp only [Builtin.firstCells, byteVals, this, Sem.run_pure]
  · cases e
theorem growBy_le (need : Nat) : ∀ (r c : Nat), Builtin.growBy need r c ≤ max c (need + (need + 768) / 4)
  | 0, c => by simp [Builtin.growBy]; omega
  | r + 1, c => by
    simp only [Builtin.growBy]
    split
    · omega
    · have := growBy_le need r (c + (c + 768) / 4)
      omega
theorem nextcap_le (need cap : Nat) (h : cap < need) : Builtin.nextslicecap need cap ≤ 2 * need := by
  unfold Builtin.nextslicecap
  split
  · omega
  · split
    · omega
    · have := growBy_le need 4 cap
      omega
def growK (e : TypeId) (z : Value) (need : Nat) (old new : List Value) (h : Hp) (K : KH) : Prop :=
  ∀ cap, need ≤ cap → K (.slice (some ⟨h.n, 0, none⟩) need cap) ((h.put h.n (.cells (old ++ (new ++ copies z.cells.toList (cap - need))).toArray e (0, 0))).to (h.n + 1))
def stayK (base : Option Addr) (k sLen n sCap : Nat) (new : List Value) (h : Hp) (K : KH) : Prop :=
  match base with
  | none => K (.slice none (sLen + n) sCap) h
  | some ⟨b, o, none⟩ => (match h.f b with
    | some (.cells c e fz) => new.all Value.oneCell' = true ∧ o + sLen * k + new.length ≤ c.size ∧ Free fz (o + sLen * k) new.length ∧
      K (.slice (some ⟨b, o, none⟩) (sLen + n) sCap) (h.put b (.cells (writeL c (o + sLen * k) new) e fz))
    | _ => False)
  | _ => False
def aappend (P : Program) (t tx : TypeId) (s x : Value) (h : Hp) (K : KH) : Prop :=
  match s with
  | .slice base sLen sCap => ∃ e dx k by' z n new, P.underlying t = some (.slice e) ∧ P.underlying tx = some dx ∧ (∀ q, dx ≠ .int q) ∧ tySize P e = some k ∧ tyBytes P e = some by' ∧ tyZero P e = some z ∧
    z.cells.size = k ∧ 0 < by' ∧ srcCells h k x = some (n, new) ∧
    (sLen + n ≤ sCap → stayK base k sLen n sCap new h K) ∧
    (sCap < sLen + n → (sLen + n) * by' ≤ 140737488355328 ∧ ∃ old, srcCells h k s = some (sLen, old) ∧ growK e z (sLen + n) old new h K)
  | _ => False
theorem aappend_sound {P : Program} {t tx ty : TypeId} {s x : Value} {h : Hp} {K : KH} (hk : aappend P t tx s x h K) : Gives P (Builtin.append_ #[t, tx] ty #[s, x]) h K := by
  unfold aappend at hk
  split at hk
  · rename_i base sLen sCap
    obtain ⟨e, dx, k, by', z, n, new, hu, hx, hni, hs, hb, hz, hzs, hb0, hsrc, hin, hout⟩ := hk
    obtain ⟨i, e1, e2, e3, e4⟩ := info_all hs hb hz
    intro w hi
    have hlen := srcCells_len (P := P) hsrc w
    have hcells := srcCells_run (P := P) hsrc hi
    by_cases hle : sLen + n ≤ sCap
    · have hst := hin hle
      unfold stayK at hst
      split at hst
      · refine ⟨_, w, h, ?_, hi, Same.refl w, hst⟩
        simp only [Builtin.append_]
        simp [run_underlying hu, run_underlying hx, run_sizeOf hs]
        cases dx <;> first | (exact (hni _ rfl).elim) | simp [hlen, hle, hcells]
      · rename_i b o
        split at hst
        · rename_i c e' fz hc
          obtain ⟨h1, h2, h3, hst⟩ := hst
          obtain ⟨w', hr, hi', hsame⟩ := run_storeCells (P := P) new w h c (o + sLen * k) 0 (fun v hv => List.all_eq_true.1 h1 v hv) (by simpa using h2) (by simpa using h3) hi hc
          refine ⟨_, w', _, ?_, hi', hsame, by simpa using hst⟩
          simp only [Builtin.append_]
          simp [run_underlying hu, run_underlying hx, run_sizeOf hs]
          cases dx <;> first | (exact (hni _ rfl).elim) | simp [hlen, hle, hcells, add_addr, hr]
        · exact hst.elim
      · exact hst.elim
    · obtain ⟨hby, old, ho, hg⟩ := hout (by omega)
      obtain ⟨cap, hcd⟩ : ∃ cap, (Question.appendCap (sLen + n) sCap e).cut (w.tape w.drawn (.appendCap (sLen + n) sCap e)) = cap := ⟨_, rfl⟩
      have hcap : sLen + n ≤ cap := by rw [← hcd]; exact Nat.le_add_right _ _
      have hi1 : Is w.drew h := hi
      have hff : (Question.appendCap (sLen + n) sCap e).forced = false := rfl
      have hcells1 := srcCells_run (P := P) hsrc hi1
      have hold1 := srcCells_run (P := P) ho hi1
      refine ⟨_, _, _, ?_, hi1.push _, ⟨rfl, rfl, rfl⟩, hg cap hcap⟩
      have hn1 : ¬ (sLen + n ≤ sCap) := hle
      have hn2 : ¬ ((((sLen + n : Nat) : Int) > IntKind.i64.max) ∧ (False ∨ i.bytes = 0)) := by
        intro hh
        rcases hh.2 with hh | hh
        · exact hh
        · omega
      have hmul : Builtin.nextslicecap (sLen + n) sCap * i.bytes ≤ 281474976710656 := by
        have := nextcap_le (sLen + n) sCap (by omega)
        have h2 := Nat.mul_le_mul_right i.bytes this
        rw [e3] at h2 ⊢
        rw [Nat.mul_assoc] at h2
        omega
      have hask : ∀ m, (askRoom m).run P w.drew = .ok () w.drew := fun m => by unfold askRoom; split <;> simp [mark, Sem.run]
      have hzc : Builtin.zeroCells z.cells (cap - (sLen + n)) = (copies z.cells.toList (cap - (sLen + n))).toArray := by
        rw [← madeCells_copies]; rfl
      have hti : ∀ w', (typeInfo e).run P w' = .ok i w' := fun w' => by simp [typeInfo, e1]
      have hn3 : ¬ (i.bytes = 0) := by omega
      have hn4 : ¬ (281474976710656 < Builtin.nextslicecap (sLen + n) sCap * i.bytes) := by omega
      simp only [Builtin.append_]
      simp [run_underlying hu, run_underlying hx, run_sizeOf hs]
      cases dx <;> first
        | (exact (hni _ rfl).elim)
        | (simp [hlen, hn1, hti, hn3, hn4, hff, hcd, hask, hcells1, hold1, run_zeroValue hz, hzc]
           rw [run_newRow e _ hi1]
           simp)
  · exact hk.elim
def firstC (h : Hp) (k n : Nat) (x : Value) : Option (List Value) :=
  match x with
  | .slice none _ _ => some []
  | .slice (some ⟨b, o, none⟩) _ _ => (match h.f b with
    | some (.cells c _ _) => cellsL c o (n * k)
    | _ => none)
  | .string s => some ((s.toList.take n).map fun b => .int .u8 b.toNat)
  | _ => none
def lenV : Value → Option Nat
  | .slice _ n _ => some n
  | .string s => some s.size
  | _ => none
def acopy (P : Program) (t : TypeId) (d x : Value) (h : Hp) (K : KH) : Prop :=
  match d with
  | .slice base dLen _ => (match P.underlying t, lenV x with
    | some (.slice e), some m => (match tySize P e with
      | some k => (match firstC h k (min m dLen) x with
        | some l => (match base with
          | none => K (.int .i64 (min m dLen : Nat)) h
          | some ⟨b, o, none⟩ => (match h.f b with
            | some (.cells c e' fz) => l.all Value.oneCell' = true ∧ o + l.length ≤ c.size ∧ Free fz o l.length ∧ K (.int .i64 (min m dLen : Nat)) (h.put b (.cells (writeL c o l) e' fz))
            | _ => False)
          | _ => False)
        | none => False)
      | none => False)
    | _, _ => False)
  | _ => False
theorem firstC_run {P : Program} {h : Hp} {k n : Nat} {x : Value} {l : List Value} (e : firstC h k n x = some l) {w : World} (hi : Fits w h) : (Builtin.firstCells k n x).run P w = .ok l.toArray w := by
  unfold firstC at e
  split at e
  · injection e with e; subst e; simp [Builtin.firstCells]
  · split at e
    · rename_i c t fz hc
      exact run_loadCells (P := P) (w := w) (fun i => hi.cell (i := i) hc) e
    · cases e
  · rename_i s
    injection e with e
    subst e
    obtain ⟨⟨l⟩⟩ := s
    have h1 : (ByteArray.mk ⟨l⟩).extract 0 n = ByteArray.mk (l.take n).toArray := (ByteArray.extract_mk l 0 n).trans (by simp)
    have h2 : (ByteArray.mk ⟨l⟩).toList = l := ByteArray.toList_mk l
    simp only [Builtin.firstCells, h1, h2, Sem.run_pure]
    congr 1
    apply Array.ext'
    simp
  · cases e
theorem acopy_sound {P : Program} {t : TypeId} {ats : Array TypeId} {ty : TypeId} {d x : Value} {h : Hp} {K : KH} (ht : ats[0]? = some t) (hk : acopy P t d x h K) : Gives P (Builtin.copy_ ats ty #[d, x]) h K := by
  unfold acopy at hk
  split at hk
  · rename_i base dLen dCap
    split at hk
    · rename_i e m hu hl
      have hlen : ∀ w, (Builtin.lenOf x).run P w = .ok m w := fun w => by
        unfold lenV at hl
        split at hl <;> first | (injection hl with hl; subst hl; simp [Builtin.lenOf]) | cases hl
      split at hk
      · rename_i k hs
        split at hk
        · rename_i l hf
          split at hk
          · refine PG.gives (.here (fun w hi => ?_) hk)
            have hfc := firstC_run (P := P) hf hi
            simp [Builtin.copy_, ht, run_underlying hu, hlen, run_sizeOf hs, show Nat.min m dLen = min m dLen from rfl, hfc, goInt]
          · rename_i b o
            split at hk
            · rename_i c e' fz hc
              obtain ⟨h1, h2, h3, hk⟩ := hk
              intro w hi
              obtain ⟨w', hr, hi', hsame⟩ := run_storeCells (P := P) l w h c o 0 (fun v hv => List.all_eq_true.1 h1 v hv) (by simpa using h2) (by simpa using h3) hi hc
              refine ⟨_, w', _, ?_, hi', hsame, by simpa using hk⟩
              have hfc := firstC_run (P := P) hf hi.fits
              simp [Builtin.copy_, ht, run_underlying hu, hlen, run_sizeOf hs, show Nat.min m dLen = min m dLen from rfl, hfc, hr, goInt]
            · exact hk.elim
          · exact hk.elim
        · exact hk.elim
      · exact hk.elim
    · exact hk.elim
  · exact hk.elim
def alen (P : Program) (t : TypeId) (x : Value) (h : Hp) (K : Value → Prop) : Prop :=
  match P.underlying t, x with
  | some .string, .string s => K (.int .i64 s.size)
  | some (.slice _), .slice _ n _ => K (.int .i64 n)
  | some (.array n _), _ => K (.int .i64 n)
  | some (.map _ _), .map none => K (.int .i64 0)
  | some (.map _ _), .map (some r) => (match h.f r with
    | some (.map es _) => K (.int .i64 es.size)
    | _ => False)
  | _, _ => False
theorem run_getMap {P : Program} {w : World} {h : Hp} (hi : Fits w h) {r : Nat} {es : Array MapEntry} {cl : Nat} (e : h.f r = some (.map es cl)) : (getObj r).run P w = .ok (.map es cl) w := by
  have h1 := hi r _ e
  simp [getObj, Sem.run, h1]
theorem alen_sound {P : Program} {t ty : TypeId} {x : Value} {h : Hp} {K : Value → Prop} (hk : alen P t x h K) : PG P (Builtin.len_ #[t] ty #[x]) h K := by
  unfold alen at hk
  split at hk
  · rename_i s hu; exact .here (fun w _ => by simp [Builtin.len_, run_underlying hu, goInt]) hk
  · rename_i e a n c hu; exact .here (fun w _ => by simp [Builtin.len_, run_underlying hu, goInt]) hk
  · rename_i n e hu; exact .here (fun w _ => by simp [Builtin.len_, run_underlying hu, goInt]) hk
  · rename_i k e hu; exact .here (fun w _ => by simp [Builtin.len_, run_underlying hu, goInt]) hk
  · rename_i k e r hu
    split at hk
    · rename_i es cl he
      exact .here (fun w hi => by simp only [Builtin.len_]; simp [run_underlying hu, goInt, run_getMap hi he]) hk
    · exact hk.elim
  · exact hk.elim
def aminmax (mx : Bool) (x y : Value) (K : Value → Prop) : Prop :=
  match x, y with
  | .int k a, .int _ b => K (.int k (if mx then max a b else min a b))
  | _, _ => False
theorem amin_sound {P : Program} {ats : Array TypeId} {ty : TypeId} {x y : Value} {h : Hp} {K : Value → Prop} (hk : aminmax false x y K) : PG P (Builtin.min_ ats ty #[x, y]) h K := by
  unfold aminmax at hk
  split at hk
  · rename_i k a k' b
    refine .here (fun w _ => ?_) hk
    have : (if b < a then b else a) = min a b := by omega
    simp [Builtin.min_, Builtin.min2, this]
  · exact hk.elim
theorem amax_sound {P : Program} {ats : Array TypeId} {ty : TypeId} {x y : Value} {h : Hp} {K : Value → Prop} (hk : aminmax true x y K) : PG P (Builtin.max_ ats ty #[x, y]) h K := by
  unfold aminmax at hk
  split at hk
  · rename_i k a k' b
    refine .here (fun w _ => ?_) hk
    have : (if b > a then b else a) = max a b := by omega
    simp [Builtin.max_, Builtin.max2, this]
  · exact hk.elim
end Go.Proofs.Ytdfeigkooeeeaaa
namespace Go.Proofs.Ytdfeigkooeeeaaa
open Go Go.RowKit

def simpleKind : TypeDesc → Bool
  | .int _ => true
  | .string => true
  | _ => false
/-- The kind of a map's keys and its elements' type. -/
def mapKind (P : Program) (t : TypeId) : Option (TypeId × TypeDesc × TypeId) := match P.underlying t with
  | some (.map kt et) => (match P.underlying kt with
    | some kd => if simpleKind kd = true then some (kt, kd, et) else none
    | none => none)
  | _ => none
theorem mapKind_spec {P : Program} {t kt et : TypeId} {kd : TypeDesc} (h : mapKind P t = some (kt, kd, et)) : P.underlying t = some (.map kt et) ∧ P.underlying kt = some kd ∧ simpleKind kd = true := by
  unfold mapKind at h
  split at h
  · rename_i a b hu
    split at h
    · rename_i k hk
      split at h
      · rename_i hs
        simp only [Option.some.injEq, Prod.mk.injEq] at h
        obtain ⟨rfl, rfl, rfl⟩ := h
        exact ⟨hu, hk, hs⟩
      · cases h
    · cases h
  · cases h
theorem run_checkKey {P : Program} {kt : TypeId} {kd : TypeDesc} (hk : P.underlying kt = some kd) (hs : simpleKind kd = true) (q : Bool) (v : Value) (w : World) : (Instr.checkKey q 10000 kt v).run P w = .ok () w := by
  have h : ∀ n, (Instr.checkKey q (n + 1) kt v).run P w = .ok () w := fun n => by
    simp only [Instr.checkKey, Sem.run_bind, run_underlying hk, Result.andThen_ok]
    cases kd <;> first | (simp [simpleKind] at hs; done) | simp
  exact h 9999
/-- The first entry of a key. -/
def mfind (kd : TypeDesc) (k : Value) : List MapEntry → Nat → Option (Option (Nat × Value))
  | [], _ => some none
  | e :: es, i => (match Instr.sameNow kd k e.key with
    | some true => some (some (i, e.val))
    | some false => mfind kd k es (i + 1)
    | none => none)
theorem mfind_eq (kd : TypeDesc) (k : Value) : ∀ (l : List MapEntry) (i : Nat), Instr.findNow kd k l i = mfind kd k l i
  | [], _ => rfl
  | e :: es, i => by
    simp only [Instr.findNow, mfind]
    cases Instr.sameNow kd k e.key with
    | none => rfl
    | some q => cases q
                · exact mfind_eq kd k es (i + 1)
                · rfl
theorem run_findKey {P : Program} {kt : TypeId} {kd : TypeDesc} (hk : P.underlying kt = some kd) {k : Value} {l : List MapEntry} {r : Option (Nat × Value)} (h : mfind kd k l 0 = some r) (w : World) : (Instr.findKey kt k l).run P w = .ok r w := by
  simp only [Instr.findKey, Sem.run_bind, run_underlying hk, Result.andThen_ok, mfind_eq, h]
  rfl
def mapRow (h : Hp) (m : Value) : Option (List MapEntry) := match m with
  | .map none => some []
  | .map (some r) => (match h.f r with
    | some (.map es _) => some es.toList
    | _ => none)
  | _ => none
def found (z : Option Value) (ok : Bool) (r : Option (Nat × Value)) : Option Value := match r with
  | some (_, v) => some (if ok then .tuple #[v, .bool true] else v)
  | none => z.map fun z => if ok then .tuple #[z, .bool false] else z
def lookupR (P : Program) (t : TypeId) (m k : Value) (ok : Bool) (h : Hp) : Option Value :=
  (mapKind P t).bind fun x => (mapRow h m).bind fun l => (mfind x.2.1 k l 0).bind fun r => found (tyZero P x.2.2) ok r
def alookup (P : Program) (t : TypeId) (m k : Value) (ok : Bool) (h : Hp) (K : Value → Prop) : Prop := match lookupR P t m k ok h with
  | some v => K v
  | none => False
theorem alookup_sound {P : Program} {t : TypeId} {m k : Value} {ok : Bool} {h : Hp} {K : Value → Prop} (hk : alookup P t m k ok h K) : PG P (Instr.lookup t m k ok) h K := by
  unfold alookup at hk
  split at hk
  · rename_i v hv
    refine .here (fun w hi => ?_) hk
    simp only [lookupR, Option.bind_eq_some_iff] at hv
    obtain ⟨⟨kt, kd, et⟩, hm, l, hl, r, hr, hf⟩ := hv
    obtain ⟨hu, hku, hs⟩ := mapKind_spec hm
    dsimp only at hr hf
    have fin : ∀ es : Array MapEntry, es.toList = l → ((do
        Instr.checkKey es.isEmpty 10000 kt k
        match ← Instr.findKey kt k es.toList with
          | some (_, v) => do
            let x ← pure (v, true)
            pure (if ok then .tuple #[x.1, .bool x.2] else x.1)
          | none => do
            let z ← zeroValue et
            let x ← pure (z, false)
            pure (if ok then .tuple #[x.1, .bool x.2] else x.1)) : Sem Value).run P w = .ok v w := by
      intro es hes
      subst hes
      simp only [run_checkKey hku hs, Result.andThen_ok, run_findKey hku hr, Sem.run_bind]
      unfold found at hf
      split at hf
      · injection hf with hf; subst hf; simp
      · simp only [Option.map_eq_some_iff] at hf
        obtain ⟨z, hz, rfl⟩ := hf
        simp [run_zeroValue hz]
    unfold mapRow at hl
    split at hl
    · injection hl with hl
      have := fin #[] (by simpa using hl)
      simp only [Sem.run_bind] at this
      simp only [Instr.lookup, Sem.run_bind, run_underlying hu, Result.andThen_ok, Sem.run_pure]
      exact this
    · rename_i r'
      split at hl
      · rename_i es cl he
        injection hl with hl
        have := fin es hl
        simp only [Sem.run_bind] at this
        simp only [Instr.lookup, Sem.run_bind, run_underlying hu, Result.andThen_ok, run_getMap hi he, Sem.run_pure]
        exact this
      · cases hl
    · cases hl
  · exact hk.elim
/-- A map's entries, the one at i changed. -/
def chg (k v : Value) : List MapEntry → Nat → List MapEntry
  | [], _ => []
  | e :: es, 0 => { e with key := k, val := v } :: es
  | e :: es, i + 1 => e :: chg k v es i
theorem chg_eq (k v : Value) : ∀ (l : List MapEntry) (i : Nat), l.modify i (fun e : MapEntry => { e with key := k, val := v }) = chg k v l i
  | [], i => by cases i <;> rfl
  | e :: es, 0 => rfl
  | e :: es, i + 1 => by simp [chg, chg_eq k v es i]
def putEs (k v : Value) (es : List MapEntry) (cl : Nat) (r : Option (Nat × Value)) : Obj := match r with
  | some (i, _) => .map (chg k v es i).toArray cl
  | none => .map (es ++ [({ key := k, val := v, born := cl } : MapEntry)]).toArray (cl + 1)
def mapUpdR (P : Program) (t : TypeId) (m k v : Value) (h : Hp) : Option Hp :=
  match m with
  | .map (some r) => (match h.f r with
    | some (.map es cl) => (mapKind P t).bind fun x => (mfind x.2.1 k es.toList 0).map fun q => h.put r (putEs k v es.toList cl q)
    | _ => none)
  | _ => none
def amapUpd (P : Program) (t : TypeId) (m k v : Value) (h : Hp) (K : KH) : Prop := match mapUpdR P t m k v h with
  | some g => K undef g
  | none => False
theorem Is.setMap {w : World} {h : Hp} (hi : Is w h) {r : Nat} {es es' : Array MapEntry} {cl cl' : Nat} (e : h.f r = some (.map es cl)) (P : Program) :
    ∃ w', (setObj r (.map es' cl')).run P w = .ok () w' ∧ Is w' (h.put r (.map es' cl')) ∧ Same w w' := by
  have h1 := hi.2 r _ e
  have hlt : r < w.heap.size := (Array.getElem?_eq_some_iff.1 h1).1
  refine ⟨{ w with heap := w.heap.setIfInBounds r (.map es' cl') }, ?_, hi.set e (by simp) (by simp [hlt]) (fun x hx => ?_), ⟨rfl, rfl, rfl⟩⟩
  · simp [setObj, Sem.run, h1]
  · have : ¬ r = x := fun e => hx e.symm
    simp [Array.getElem?_setIfInBounds_ne this]
theorem bytes_beq (a b : ByteArray) : (a == b) = true ↔ a = b := by
  obtain ⟨x⟩ := a
  obtain ⟨y⟩ := b
  show (ByteArray.mk x).beq (ByteArray.mk y) = true ↔ _
  simp [ByteArray.beq]
theorem sameNow_bits {kd : TypeDesc} {a b : Value} (h : Instr.sameNow kd a b = some true) (n : Nat) : Instr.sameBits n b a = true := by
  unfold Instr.sameNow at h
  split at h
  · split at h
    · rename_i hk; subst hk
      injection h with h
      simp only [beq_iff_eq] at h
      subst h
      simp [Instr.sameBits]
    · cases h
  · injection h with h
    rw [bytes_beq] at h
    subst h
    simp only [Instr.sameBits]
    exact (bytes_beq _ _).2 rfl
  · injection h with h
    simp only [beq_iff_eq] at h
    subst h
    simp [Instr.sameBits]
  · cases h
theorem mfind_same {kd : TypeDesc} {k : Value} : ∀ (l : List MapEntry) (i j : Nat) (v : Value), mfind kd k l i = some (some (j, v)) → i ≤ j ∧ ∃ e, l[j - i]? = some e ∧ Instr.sameNow kd k e.key = some true ∧ e.val = v
  | [], i, j, v, h => by cases h
  | e :: es, i, j, v, h => by
    simp only [mfind] at h
    split at h
    · rename_i hs
      simp only [Option.some.injEq, Prod.mk.injEq] at h
      obtain ⟨rfl, rfl⟩ := h
      exact ⟨Nat.le_refl _, e, by simp, hs, rfl⟩
    · obtain ⟨hle, e', h1, h2, h3⟩ := mfind_same es (i + 1) j v h
      refine ⟨by omega, e', ?_, h2, h3⟩
      obtain ⟨d, rfl⟩ : ∃ d, j = i + 1 + d := ⟨j - (i + 1), by omega⟩
      rw [show i + 1 + d - i = d + 1 from by omega]
      rw [show i + 1 + d - (i + 1) = d from by omega] at h1
      simpa using h1
    · cases h
theorem amapUpd_sound {P : Program} {t : TypeId} {m k v : Value} {h : Hp} {K : KH} (hk : amapUpd P t m k v h K) (w : World) (hi : Is w h) :
    ∃ w' h', (Instr.mapUpdate t m k v).run P w = .ok () w' ∧ Is w' h' ∧ Same w w' ∧ K undef h' := by
  unfold amapUpd at hk
  split at hk
  · rename_i g hg
    unfold mapUpdR at hg
    split at hg
    · rename_i r
      split at hg
      · rename_i es cl he
        simp only [Option.bind_eq_some_iff, Option.map_eq_some_iff] at hg
        obtain ⟨⟨kt, kd, et⟩, hm, q, hq, rfl⟩ := hg
        obtain ⟨hu, hku, hs⟩ := mapKind_spec hm
        dsimp only at hq
        cases q with
        | none =>
          obtain ⟨w', h1, h2, h3⟩ := hi.setMap (es' := (es.toList ++ [({ key := k, val := v, born := cl } : MapEntry)]).toArray) (cl' := cl + 1) he P
          refine ⟨w', _, ?_, h2, h3, hk⟩
          have e : (es.toList ++ [({ key := k, val := v, born := cl } : MapEntry)]).toArray = es.push ({ key := k, val := v, born := cl } : MapEntry) := by
            apply Array.ext'; simp
          rw [e] at h1
          simp only [Instr.mapUpdate, Sem.run_bind, run_underlying hu, Result.andThen_ok, run_getMap hi.fits he, run_checkKey hku hs, run_findKey hku hq, h1]
        | some x =>
          obtain ⟨i, u⟩ := x
          obtain ⟨_, e', he', hsame, _⟩ := mfind_same es.toList 0 i u hq
          obtain ⟨w', h1, h2, h3⟩ := hi.setMap (es' := (chg k v es.toList i).toArray) (cl' := cl) he P
          refine ⟨w', _, ?_, h2, h3, hk⟩
          have e : (chg k v es.toList i).toArray = es.modify i (fun e : MapEntry => { e with key := k, val := v }) := by
            apply Array.ext'; rw [← chg_eq]; simp
          rw [e] at h1
          have hk0 : ((es[i]?).map (·.key)).getD k = e'.key := by
            have : es[i]? = some e' := by simpa using he'
            simp [this]
          have hst : (Instr.keyThatStays e'.key k).run P w = .ok k w := by
            unfold Instr.keyThatStays
            rw [if_pos (sameNow_bits hsame 10000)]
            rfl
          simp only [Instr.mapUpdate, Sem.run_bind, run_underlying hu, Result.andThen_ok, run_getMap hi.fits he, run_checkKey hku hs, run_findKey hku hq, hk0, hst, h1]
      · cases hg
    · cases hg
  · exact hk.elim
theorem amakeMap_sound {P : Program} {t : TypeId} {h : Hp} {K : KH} (hk : K (.map (some h.n)) ((h.put h.n (.map #[] 0)).to (h.n + 1))) : Gives P (Instr.makeMap t none) h K := fun w hi => by
  refine ⟨_, _, _, ?_, hi.push _, Same.push _ _, hk⟩
  simp [Instr.makeMap, newObj, Sem.run, hi.1]
end Go.Proofs.Ytdfeigkooeeeaaa
namespace Go.Proofs.Ytdfeigkooeeeaaa
open Go Go.RowKit

theorem Is.setIter {w : World} {h : Hp} (hi : Is w h) {r : Nat} {o o' : Obj} (e : h.f r = some o) : Is (Go.ChangeMaps.setBlock w r o') (h.put r o') := by
  have h1 := hi.2 r _ e
  have hlt : r < w.heap.size := (Array.getElem?_eq_some_iff.1 h1).1
  refine hi.set (g := w.heap.setIfInBounds r o') e (by simp) (by simp [hlt]) (fun x hx => ?_)
  have : ¬ r = x := fun e => hx e.symm
  simp [Array.getElem?_setIfInBounds_ne this]
def isMapT (P : Program) (t : TypeId) : Bool := match P.underlying t with
  | some (.map _ _) => true
  | _ => false
theorem isMapT_spec {P : Program} {t : TypeId} (h : isMapT P t = true) : ∃ k e, P.underlying t = some (.map k e) := by
  unfold isMapT at h
  split at h
  · exact ⟨_, _, by assumption⟩
  · cases h
def arange (P : Program) (t : TypeId) (x : Value) (h : Hp) (K : KH) : Prop := isMapT P t = true ∧ match x with
  | .map (some m) => (match h.f m with
    | some (.map _ cl) => K (.pointer (some ⟨h.n, 0, none⟩)) ((h.put h.n (.mapIter (some m) cl #[] cl)).to (h.n + 1))
    | _ => False)
  | _ => False
theorem arange_sound {P : Program} {t : TypeId} {x : Value} {h : Hp} {K : KH} (hk : arange P t x h K) : Gives P (Instr.range t x) h K := fun w hi => by
  obtain ⟨ht, hk⟩ := hk
  obtain ⟨k, e, hu⟩ := isMapT_spec ht
  split at hk
  · rename_i m
    split at hk
    · rename_i es cl he
      refine ⟨_, _, (h.put h.n (.mapIter (some m) cl #[] cl)).to (h.n + 1), run_range_map w t k e m es cl hu (hi.2 _ _ he), ?_, ⟨rfl, rfl, rfl⟩, ?_⟩
      · exact hi.push _
      · rw [hi.1]; exact hk
    · exact hk.elim
  · exact hk.elim
/-- Entries that are still to come. -/
def leftL (es : List MapEntry) (seen : Array Nat) : List MapEntry := es.filter fun e => !seen.contains e.born
theorem leftOf_toList (es : Array MapEntry) (seen : Array Nat) : (leftOf es seen).toList = leftL es.toList seen := by
  simp [leftOf, leftL]
def anext (x : Value) (s : Bool) (h : Hp) (K : KH) : Prop := match x, s with
  | .pointer (some ⟨r, 0, none⟩), false => (match h.f r with
    | some (.mapIter (some m) since seen last) => (match h.f m with
      | some (.map es cl) => (∀ e ∈ es.toList, e.born < since) ∧ since ≤ last ∧ (leftL es.toList seen = [] → K (.tuple #[.bool false]) h) ∧ ∀ e ∈ leftL es.toList seen, K (.tuple #[.bool true, e.key, e.val]) (h.put r (.mapIter (some m) since (seen.push e.born) cl))
      | _ => False)
    | _ => False)
  | _, _ => False
theorem anext_sound {P : Program} {ty : TypeId} {x : Value} {s : Bool} {h : Hp} {K : KH} (hk : anext x s h K) : Gives P (Instr.next x s ty) h K := fun w hi => by
  unfold anext at hk
  split at hk
  · rename_i r
    split at hk
    · rename_i m since seen last hr
      split at hk
      · rename_i es cl hm
        obtain ⟨h1, h2, h3, h4⟩ := hk
        rcases run_next_at (P := P) w ty r m since last seen es cl (hi.2 _ _ hr) (hi.2 _ _ hm) h1 h2 with ⟨h0, hrun⟩ | ⟨e, he, w1, hal, hrun⟩
        · refine ⟨_, w, h, hrun, hi, Same.refl w, h3 ?_⟩
          rw [← leftOf_toList]
          exact List.eq_nil_of_length_eq_zero (by simpa using h0)
        · rw [leftOf_toList] at he
          have hi1 : Is w1 h := by rcases hal with rfl | rfl <;> exact hi
          have hs1 : Same w w1 := by rcases hal with rfl | rfl <;> exact ⟨rfl, rfl, rfl⟩
          exact ⟨_, _, _, hrun, hi1.setIter hr, hs1.trans ⟨rfl, rfl, rfl⟩, h4 e he⟩
      · exact hk.elim
    · exact hk.elim
  · exact hk.elim
def aentry (x : Value) (h : Hp) (K : Value → Prop) : Prop := match x with
  | .pointer (some ⟨r, 0, none⟩) => (match h.f r with
    | some (.mapIter (some m) _ seen last) => (match h.f m, seen.back? with
      | some (.map es cl), some b => (match es.find? (·.born == b) with
        | some e => cl = last ∧ K (.tuple #[e.key, e.val])
        | none => False)
      | _, _ => False)
    | _ => False)
  | _ => False
theorem aentry_sound {P : Program} {x : Value} {h : Hp} {K : Value → Prop} (hk : aentry x h K) : PG P (Instr.entry x) h K := by
  unfold aentry at hk
  split at hk
  · rename_i r
    split at hk
    · rename_i m since seen last hr
      split at hk
      · rename_i es cl b hm hb
        split at hk
        · rename_i e he
          obtain ⟨rfl, hk⟩ := hk
          refine .here (fun w hi => ?_) hk
          have g1 := hi _ _ hr
          have g2 := hi _ _ hm
          simp only [Instr.entry, getObj, Sem.run_bind, Sem.run, g1, g2, Result.andThen, hb, bne_self_eq_false, Bool.false_eq_true, if_false, he]
          rfl
        · exact hk.elim
      · exact hk.elim
    · exact hk.elim
  · exact hk.elim
end Go.Proofs.Ytdfeigkooeeeaaa
namespace Go.Proofs.Ytdfeigkooeeeaaa
open Go Go.RowKit

def isCall (P : Program) (f : FuncId) : Bool := match P.funcs[f]? with
  | some fn => !(fn.name == "runtime.NumGoroutine") && fn.body.isSome
  | none => false
theorem run_callFunc {P : Program} {f : FuncId} (hc : isCall P f = true) (args : Array Value) (w : World) : (callFunc f args).run P w = .ok (.enter f args) w := by
  unfold isCall at hc
  split at hc
  · rename_i fn hf
    simp only [Bool.and_eq_true, Bool.not_eq_true'] at hc
    have hb : fn.body.isNone = false := by
      cases hb : fn.body with
      | none => rw [hb] at hc; simp at hc
      | some c => rfl
    have hn : fn.body ≠ none := fun e => by rw [e] at hb; cases hb
    have h1 : ¬ fn.name = "runtime.NumGoroutine" := by simpa using hc.1
    simp [callFunc, hf, h1, hn]
  · cases hc
/-- A call of a Go function, in its first form; and one that hands back one value and leaves the view as it is. -/
def CallF (P : Program) (f : FuncId) (args : Array Value) (h : Hp) (K : KH) : Prop := isCall P f = true ∧ CallG P f args h K
def QCall (P : Program) (f : FuncId) (args : Array Value) (h : Hp) (v : Value) : Prop := isCall P f = true ∧ ∀ n, h.n ≤ n → CallG P f args (h.to n) fun u g => u = v ∧ ∃ k, n ≤ k ∧ g = h.to k
def acall (P : Program) (f : Value) (args : Array Value) (h : Hp) (K : KH) : Prop :=
  match f with
  | .func (.func g) first captured => CallF P g (first ++ args ++ captured) h K
  | _ => False
def qcall (P : Program) (f : Value) (args : Array Value) (h : Hp) (K : Value → Prop) : Prop :=
  match f with
  | .func (.func g) first captured => ∃ v, QCall P g (first ++ args ++ captured) h v ∧ K v
  | _ => False
def qbuiltin (P : Program) (b : Builtin) (ts : List TypeId) (args : List Value) (h : Hp) (K : Value → Prop) : Prop :=
  match b, ts, args with
  | .len, [t], [x] => alen P t x h K
  | .min, _, [x, y] => aminmax false x y K
  | .max, _, [x, y] => aminmax true x y K
  | _, _, _ => False
/-- What follows may look at less. -/
def Weak (K : KH) : KH := fun v h => ∃ g, Sub g h ∧ K v g
theorem Gives.weak {P : Program} {s : Sem Value} {h : Hp} {K : KH} (hg : Gives P s h (Weak K)) : Gives P s h K := fun w hi => by
  obtain ⟨v, w', h', hr, hi', hs, g, hsub, hk⟩ := hg w hi
  exact ⟨v, w', g, hr, hi'.sub hsub, hs, hk⟩
def lbuiltin (P : Program) (b : Builtin) (ts : List TypeId) (args : List Value) (h : Hp) (K : KH) : Prop :=
  match b, ts, args with
  | .append, [t, u], [s, x] => aappend P t u s x h (Weak K)
  | .copy, [t, _], [s, x] => acopy P t s x h K
  | _, _, _ => False
/-- The quiet operations: they look at memory at most. -/
def apure (P : Program) (o : Op) (ρ : Env) (h : Hp) (K : Value → Prop) : Prop :=
  match o with
  | .move x => K (ρ.ev x)
  | .assign x => K (ρ.ev x)
  | .pick c a b => (match ρ.ev c with
    | .bool q => K (if q = true then ρ.ev a else ρ.ev b)
    | _ => False)
  | .build t parts => (match tyBuild P t (parts.toList.map fun x => (x.1, ρ.ev x.2)) with
    | some r => K (.agg r)
    | none => False)
  | .load t a => aload P t (ρ.ev a) h K
  | .nilCheck x => (match ρ.ev x with
    | .pointer (some a) => K (.pointer (some a))
    | .func (.func f) a b => K (.func (.func f) a b)
    | _ => False)
  | .binOp op t x y _ => abinH P op t (ρ.ev x) (ρ.ev y) h K
  | .unOp op _ x => aun op (ρ.ev x) K
  | .makeFunc fn first captured => K (.func fn (first.map ρ.ev) (captured.map ρ.ev))
  | .slice t x lo hi mx => aslice P t (ρ.ev x) (lo.map ρ.ev) (hi.map ρ.ev) (mx.map ρ.ev) K
  | .fieldAddr s x i => afieldAddr P s (ρ.ev x) i K
  | .field t x i => afield P t (ρ.ev x) i K
  | .indexAddr t x ix => aindexAddr P t (ρ.ev x) (ρ.ev ix) K
  | .index t x ix => aindex P t (ρ.ev x) (ρ.ev ix) K
  | .extract x i => aextract (ρ.ev x) i K
  | .lookup t m k ok => alookup P t (ρ.ev m) (ρ.ev k) ok h K
  | .entry it => aentry (ρ.ev it) h K
  | .call c => (match c.callee with
    | .builtin b => qbuiltin P b c.argTypes.toList (c.args.toList.map ρ.ev) h K
    | _ => False)
  | _ => False
def aloud (P : Program) (o : Op) (ρ : Env) (h : Hp) (K : KH) : Prop :=
  match o with
  | .alloc e => aalloc P e h K
  | .box e x => anew e (ρ.ev x).cells h K
  | .buildSlice t len parts => (match tyBuildSlice P t len (parts.toList.map fun x => (x.1, ρ.ev x.2)) with
    | some (e, r) => K (.slice (some ⟨h.n, 0, none⟩) len len) ((h.put h.n (.cells r e (0, 0))).to (h.n + 1))
    | none => False)
  | .store t a x => astore P t (ρ.ev a) (ρ.ev x) h K
  | .convert src dst x => aconv P src dst (ρ.ev x) h K
  | .makeSlice t l c => amake P t (ρ.ev l) (ρ.ev c) h K
  | .makeMap _ none => K (.map (some h.n)) ((h.put h.n (.map #[] 0)).to (h.n + 1))
  | .mapUpdate t m k x => amapUpd P t (ρ.ev m) (ρ.ev k) (ρ.ev x) h K
  | .insert t m k x => amapUpd P t (ρ.ev m) (ρ.ev k) (ρ.ev x) h K
  | .range t x => arange P t (ρ.ev x) h K
  | .next it s => anext (ρ.ev it) s h K
  | .call c => (match c.callee with
    | .builtin b => lbuiltin P b c.argTypes.toList (c.args.toList.map ρ.ev) h K
    | .value f => acall P (ρ.ev f) (c.args.map ρ.ev) h K
    | _ => False)
  | _ => False
def loudCallee : Callee → Bool
  | .builtin .append => true
  | .builtin .copy => true
  | .value _ => true
  | _ => false
def loudOp : Op → Bool
  | .alloc _ | .box .. | .buildSlice .. | .store .. | .convert .. | .makeSlice .. | .makeMap .. | .mapUpdate .. | .insert .. | .range .. | .next .. => true
  | .call c => loudCallee c.callee
  | _ => false
def astep (P : Program) (o : Op) (ρ : Env) (h : Hp) (K : KH) : Prop := if loudOp o = true then aloud P o ρ h K else apure P o ρ h fun v => K v h

theorem apure_sound {P : Program} {o : Oper} {ρ : Env} {h : Hp} {K : Value → Prop} (hk : apure P o.op ρ h K) : ∃ v, K v ∧ ∀ w, Fits w h → (execOp ρ.ev o).run P w = .ok (.value v) w := by
  have lift : ∀ {s : Sem Value}, PG P s h K → execOp ρ.ev o = (do pure (.value (← s))) → ∃ v, K v ∧ ∀ w, Fits w h → (execOp ρ.ev o).run P w = .ok (.value v) w := fun hp he =>
    let ⟨v, hv, hr⟩ := hp
    ⟨v, hv, fun w hw => by rw [he]; simp only [Sem.run_bind, hr w hw, Result.andThen_ok]; rfl⟩
  obtain ⟨dst, op, ty, pos, after, guard⟩ := o
  dsimp only at hk
  unfold apure at hk
  split at hk
  case h_1 => exact ⟨_, hk, fun w _ => rfl⟩
  case h_2 => exact ⟨_, hk, fun w _ => rfl⟩
  case h_3 =>
    split at hk
    · rename_i q hq
      exact ⟨_, hk, fun w _ => by simp [execOp, hq, asBool]⟩
    · exact hk.elim
  case h_4 =>
    rename_i t parts
    split at hk
    · rename_i r hr
      refine lift (s := Instr.build t (parts.map fun (i, x) => (i, ρ.ev x))) (.here (fun w _ => tyBuild_sound ?_ w) hk) rfl
      simpa using hr
    · exact hk.elim
  case h_5 => exact lift (aload_sound hk) rfl
  case h_6 =>
    split at hk
    · rename_i a ha
      exact ⟨_, hk, fun w _ => by simp [execOp, ha]⟩
    · rename_i f a b ha
      exact ⟨_, hk, fun w _ => by simp [execOp, ha]⟩
    · exact hk.elim
  case h_7 => exact lift (abinH_sound hk) rfl
  case h_8 => exact lift (aun_sound hk) rfl
  case h_9 => exact ⟨_, hk, fun w _ => rfl⟩
  case h_10 => exact lift (aslice_sound hk) rfl
  case h_11 => exact lift (afieldAddr_sound hk) rfl
  case h_12 => exact lift (afield_sound hk) rfl
  case h_13 => exact lift (aindexAddr_sound hk) rfl
  case h_14 => exact lift (aindex_sound hk) rfl
  case h_15 => exact lift (aextract_sound hk) rfl
  case h_16 => exact lift (alookup_sound hk) rfl
  case h_17 => exact lift (aentry_sound hk) rfl
  case h_18 =>
    rename_i c
    split at hk
    · rename_i b hb
      have hex : execOp ρ.ev ⟨dst, .call c, ty, pos, after, guard⟩ = builtin b c.argTypes ty (c.args.map fun | .const _ => true | _ => false) (c.args.map ρ.ev) := by
        obtain ⟨callee, args, ats⟩ := c
        dsimp only at hb
        subst hb
        rfl
      have arr : ∀ {l : List Value}, c.args.toList.map ρ.ev = l → c.args.map ρ.ev = l.toArray := fun e => by
        apply Array.ext'
        simpa using e
      have arrT : ∀ {l : List TypeId}, c.argTypes.toList = l → c.argTypes = l.toArray := fun e => by
        apply Array.ext'
        simpa using e
      unfold qbuiltin at hk
      split at hk
      · rename_i e1 e2
        exact lift (alen_sound hk) (by rw [hex, arr e2, arrT e1]; rfl)
      · rename_i e2
        exact lift (amin_sound hk) (by rw [hex, arr e2]; rfl)
      · rename_i e2
        exact lift (amax_sound hk) (by rw [hex, arr e2]; rfl)
      · exact hk.elim
    · exact hk.elim
  case h_19 => exact hk.elim

/-- What an operation's run may be. -/
inductive Ran (P : Program) (w : World) (K : KH) : Result Next → Prop
  | value (v : Value) (w' : World) (h' : Hp) (hi : Is w' h') (hs : Same w w') (hk : K v h') : Ran P w K (.ok (.value v) w')
  | skip (w' : World) (h' : Hp) (hi : Is w' h') (hs : Same w w') (hk : K undef h') : Ran P w K (.ok .skip w')
  | enter (f : FuncId) (args : Array Value) (w' : World) (h' : Hp) (hi : Is w' h') (hs : Same w w') (hk : CallG P f args h' K) : Ran P w K (.ok (.enter f args) w')
theorem Gives.ran {P : Program} {s : Sem Value} {h : Hp} {K : KH} (hg : Gives P s h K) {w : World} (hi : Is w h) : Ran P w K ((do pure (.value (← s)) : Sem Next).run P w) := by
  obtain ⟨v, w', h', hr, i, s', k⟩ := hg w hi
  simp only [Sem.run_bind, hr, Result.andThen_ok]
  exact .value v w' h' i s' k
theorem aloud_sound {P : Program} {o : Oper} {ρ : Env} {h : Hp} {K : KH} (hk : aloud P o.op ρ h K) {w : World} (hi : Is w h) : Ran P w K ((execOp ρ.ev o).run P w) := by
  have lift : ∀ {s : Sem Value}, Gives P s h K → execOp ρ.ev o = (do pure (.value (← s))) → Ran P w K ((execOp ρ.ev o).run P w) := fun hg he => by
    rw [he]; exact hg.ran hi
  obtain ⟨dst, op, ty, pos, after, guard⟩ := o
  dsimp only at hk
  unfold aloud at hk
  split at hk
  case h_1 => exact lift (aalloc_sound hk) rfl
  case h_2 => exact lift (anew_sound hk) rfl
  case h_3 =>
    rename_i t len parts
    split at hk
    · rename_i e r hr
      have hp : (parts.map fun (i, x) => (i, ρ.ev x)).toList = parts.toList.map fun x => (x.1, ρ.ev x.2) := by simp
      rw [← hp] at hr
      have hg : Gives P (Instr.buildSlice t len (parts.map fun (i, x) => (i, ρ.ev x))) h K := tyBuildSlice_sound hr hk
      exact lift hg rfl
    · exact hk.elim
  case h_4 =>
    rename_i t a x
    obtain ⟨w', h', hr, i, s, k⟩ := astore_sound hk w hi
    have : (execOp ρ.ev ⟨dst, .store t a x, ty, pos, after, guard⟩).run P w = .ok .skip w' := by
      simp only [execOp, Sem.run_bind, hr, Result.andThen_ok]; rfl
    rw [this]
    exact .skip w' h' i s k
  case h_5 => exact lift (aconv_sound hk) rfl
  case h_6 => exact lift (amake_sound hk) rfl
  case h_7 => exact lift (amakeMap_sound hk) rfl
  case h_8 =>
    rename_i t m k x
    obtain ⟨w', h', hr, i, s, k'⟩ := amapUpd_sound hk w hi
    have : (execOp ρ.ev ⟨dst, .mapUpdate t m k x, ty, pos, after, guard⟩).run P w = .ok .skip w' := by
      simp only [execOp, Sem.run_bind, hr, Result.andThen_ok]; rfl
    rw [this]
    exact .skip w' h' i s k'
  case h_9 =>
    rename_i t m k x
    obtain ⟨w', h', hr, i, s, k'⟩ := amapUpd_sound hk w hi
    have : (execOp ρ.ev ⟨dst, .insert t m k x, ty, pos, after, guard⟩).run P w = .ok .skip w' := by
      simp only [execOp, Sem.run_bind, hr, Result.andThen_ok]; rfl
    rw [this]
    exact .skip w' h' i s k'
  case h_10 => exact lift (arange_sound hk) rfl
  case h_11 => exact lift (anext_sound hk) rfl
  case h_12 =>
    rename_i c
    obtain ⟨callee, args, ats⟩ := c
    dsimp only at hk
    split at hk
    · rename_i b
      have arr : ∀ {l : List Value}, args.toList.map ρ.ev = l → args.map ρ.ev = l.toArray := fun e => by
        apply Array.ext'
        simpa using e
      have arrT : ∀ {l : List TypeId}, ats.toList = l → ats = l.toArray := fun e => by
        apply Array.ext'
        simpa using e
      have hex : execOp ρ.ev ⟨dst, .call { callee := .builtin b, args := args, argTypes := ats }, ty, pos, after, guard⟩ = builtin b ats ty (args.map fun | .const _ => true | _ => false) (args.map ρ.ev) := rfl
      unfold lbuiltin at hk
      split at hk
      · rename_i e1 e2
        exact lift (aappend_sound hk).weak (by rw [hex, arr e2, arrT e1]; rfl)
      · rename_i e1 e2
        exact lift (acopy_sound rfl hk) (by rw [hex, arr e2, arrT e1]; rfl)
      · exact hk.elim
    · rename_i f
      unfold acall at hk
      split at hk
      · rename_i g first captured hf
        have : (execOp ρ.ev ⟨dst, .call { callee := .value f, args := args, argTypes := ats }, ty, pos, after, guard⟩).run P w = .ok (.enter g (first ++ args.map ρ.ev ++ captured)) w := by
          simp only [execOp, resolve, hf, Deferred.ofValue, invoke, Sem.run_bind, Sem.run_pure, Result.andThen_ok, run_callFunc hk.1]
        rw [this]
        exact .enter g _ w h hi (Same.refl w) hk.2
      · exact hk.elim
    · exact hk.elim
  case h_13 => exact hk.elim
theorem astep_sound {P : Program} {o : Oper} {ρ : Env} {h : Hp} {K : KH} (hk : astep P o.op ρ h K) {w : World} (hi : Is w h) : Ran P w K ((execOp ρ.ev o).run P w) := by
  unfold astep at hk
  split at hk
  · exact aloud_sound hk hi
  · obtain ⟨v, hv, hr⟩ := apure_sound hk
    rw [hr w hi.fits]
    exact .value v w h hi (Same.refl w) hv
theorem Ran.wp {P : Program} {o : Oper} {a : Act} {w w0 : World} {K : KH} {N : Act → World → Prop} {Q : Exit → Act → World → Prop} (hr : Ran P w K ((execOp a.eval o).run P w)) (hs : Same w0 w)
    (hn : ∀ v h' w', Is w' h' → Same w0 w' → K v h' → N (a.put o.dst v) w') : o.wp P a w N Q := by
  unfold Oper.wp
  generalize (execOp a.eval o).run P w = r at hr
  cases hr with
  | value v w' h' hi hs' hk => exact hn v h' w' hi (hs.trans hs') hk
  | skip w' h' hi hs' hk => exact hn undef h' w' hi (hs.trans hs') hk
  | enter f args w' h' hi hs' hk =>
    exact (hk w' hi).mono fun e w'' ⟨v, g, he, hi'', hs'', hk'⟩ => by
      subst he
      exact hn v g w'' hi'' ((hs.trans hs').trans hs'') hk'

/-! ### regions -/
def gslot (ops : Array Oper) (j : Nat) : Option Nat := (ops[j]?).bind (·.dst)
def aops (P : Program) (ops : Array Oper) : List Oper → Env → Hp → (Env → Hp → Prop) → Prop
  | [], ρ, h, N => N ρ h
  | o :: l, ρ, h, N => (match o.guard with
    | none => astep P o.op ρ h fun v h' => aops P ops l (ρ.put o.dst v) h' N
    | some (j, want) => (match gslot ops j with
      | none => False
      | some t => (match ρ t with
        | .bool q => Br (q == want) (astep P o.op (ρ.upd t (.bool want)) h fun v h' => aops P ops l ((ρ.upd t (.bool want)).put o.dst v) h' N)
          (aops P ops l ((ρ.upd t (.bool (!want))).put o.dst undef) h N)
        | .tuple _ => aops P ops l (ρ.put o.dst undef) h N
        | _ => False)))
theorem upd_eta {ρ : Env} {t : Nat} {v : Value} (h : ρ t = v) : ρ.upd t v = ρ := by
  funext x
  simp only [Env.upd]
  split
  · rename_i e; rw [e, h]
  · rfl
theorem yielded_eq {n : Nat} {a : Act} {ρ : Env} (hr : Rel n a ρ) (ops : Array Oper) {j t : Nat} (hg : gslot ops j = some t) : yielded ops a.tmps j = (match ρ t with | .bool b => some b | _ => none) := by
  have h1 := hr.2.2 t
  unfold yielded
  unfold gslot at hg
  rw [hg]
  simp only [Option.bind_some]
  rw [← h1]
  simp only [Array.getD_eq_getD_getElem?]
  cases a.tmps[t]? with
  | none => simp [undef]
  | some v => cases v <;> rfl
/-- Outside these slots the frame is as it was. -/
def Keep (ds : List Nat) (ρ0 ρ : Env) : Prop := ∀ t, ds.contains t = false → ρ t = ρ0 t
theorem Keep.put {ds : List Nat} {ρ0 ρ : Env} (hk : Keep ds ρ0 ρ) {d : Option Nat} (hd : ∀ t, d = some t → ds.contains t = true) (v : Value) : Keep ds ρ0 (ρ.put d v) := by
  intro t ht
  cases d with
  | none => exact hk t ht
  | some d =>
    have : t ≠ d := fun e => by subst e; rw [hd _ rfl] at ht; cases ht
    simp only [Env.put, Env.upd, if_neg this]
    exact hk t ht
theorem aops_sound {P : Program} {ops : Array Oper} {n : Nat} {ds : List Nat} {ρ0 : Env} {w0 : World} {N : Env → Hp → Prop} {Q : Exit → Act → World → Prop} (hQ : ∀ a w ρ h, Rel n a ρ → Keep ds ρ0 ρ → Is w h → Same w0 w → N ρ h → Q .normal a w) :
    ∀ (l : List Oper), (∀ o ∈ l, ∀ t, o.dst = some t → t < n ∧ ds.contains t = true) → ∀ (ρ : Env) (h : Hp) (a : Act) (w : World), aops P ops l ρ h N → Rel n a ρ → Keep ds ρ0 ρ → Is w h → Same w0 w → wpList P ops Q l a w
  | [], _, ρ, h, a, w, hk, hr, hp, hi, hs => hQ a w ρ h hr hp hi hs hk
  | o :: l, hd, ρ, h, a, w, hk, hr, hp, hi, hs => by
    have hd0 := hd o (by simp)
    have hd1 : ∀ t, o.dst = some t → t < n := fun t e => (hd0 t e).1
    have hdd : ∀ t, o.dst = some t → ds.contains t = true := fun t e => (hd0 t e).2
    have ih := aops_sound (P := P) (ops := ops) (w0 := w0) hQ l (fun o' ho => hd o' (by simp [ho]))
    unfold aops at hk
    split at hk
    · rename_i hg
      refine wpList_plain hg fun K hK => ?_
      refine Ran.wp (w0 := w0) (hr.eval ▸ astep_sound hk hi) hs fun v h' w' hi' hs' hk' => hK _ _ (ih _ _ _ _ hk' (hr.put hd1 v) (hp.put hdd v) hi' hs')
    · rename_i j want hg
      split at hk
      · exact hk.elim
      · rename_i t ht
        have hy := yielded_eq hr ops ht
        split at hk
        · rename_i q hq
          rw [hq] at hy
          rcases Br_elim hk with ⟨hqw, hk2⟩ | ⟨hqw, hk2⟩
          · have hqw : q = want := by simpa using hqw
            subst hqw
            rw [upd_eta hq] at hk2
            have hw : Region.wanted o (yielded ops a.tmps) = true := by simp [Region.wanted, hg, hy]
            refine wpList_step fun K hK => ?_
            rw [if_pos hw]
            exact Ran.wp (w0 := w0) (hr.eval ▸ astep_sound hk2 hi) hs fun v h' w' hi' hs' hk' => hK _ _ (ih _ _ _ _ hk' (hr.put hd1 v) (hp.put hdd v) hi' hs')
          · have hqw : q = !want := by cases q <;> cases want <;> simp_all
            subst hqw
            rw [upd_eta hq] at hk2
            have hw : Region.wanted o (yielded ops a.tmps) = false := by simp [Region.wanted, hg, hy]
            refine wpList_step fun K hK => ?_
            rw [if_neg (by simp [hw])]
            exact hK _ _ (ih _ _ _ _ hk2 (hr.put hd1 undef) (hp.put hdd undef) hi hs)
        · rename_i vs hq
          rw [hq] at hy
          have hw : Region.wanted o (yielded ops a.tmps) = false := by simp [Region.wanted, hg, hy]
          refine wpList_step fun K hK => ?_
          rw [if_neg (by simp [hw])]
          exact hK _ _ (ih _ _ _ _ hk (hr.put hd1 undef) (hp.put hdd undef) hi hs)
        · exact hk.elim
end Go.Proofs.Ytdfeigkooeeeaaa
namespace Go.Proofs.Ytdfeigkooeeeaaa
open Go Go.RowKit
section
variable {P : Program} {C C' : Value → Prop}
/-- A transformer that is 'one value, under a condition'. -/
structure One (F : (Value → Prop) → Prop) : Prop where
  mono : ∀ {C C' : Value → Prop}, (∀ v, C v → C' v) → F C → F C'
  both : ∀ {C C' : Value → Prop}, F C → F C' → ∃ u, C u ∧ C' u ∧ F (fun v => v = u)
theorem One.det {F : (Value → Prop) → Prop} (hf : One F) {C : Value → Prop} (h : F C) : ∃ u, C u ∧ ∀ C' : Value → Prop, C' u → F C' := by
  obtain ⟨u, h1, _, h2⟩ := hf.both h h
  exact ⟨u, h1, fun C' hc => hf.mono (fun v (hv : v = u) => by rw [hv]; exact hc) h2⟩
theorem One.ap (v : Value) : One (fun C => C v) := ⟨fun h k => h _ k, fun h k => ⟨v, h, k, rfl⟩⟩
theorem One.false : One (fun _ => False) := ⟨fun _ h => h.elim, fun h => h.elim⟩
theorem One.and {p : Prop} {F : (Value → Prop) → Prop} (hf : One F) : One (fun C => p ∧ F C) :=
  ⟨fun h k => ⟨k.1, hf.mono h k.2⟩, fun h k => let ⟨u, h1, h2, h3⟩ := hf.both h.2 k.2; ⟨u, h1, h2, h.1, h3⟩⟩
theorem One.opt {α : Type} (r : Option α) {F : α → (Value → Prop) → Prop} (hf : ∀ a, One (F a)) : One (fun C => match r with | some a => F a C | none => False) := by
  cases r with
  | none => exact One.false
  | some a => exact hf a
theorem one_bin (op : BinOp) (t : TypeId) (x y : Value) : One (abin P op t x y) := by
  unfold abin
  cases x <;> cases y <;> try exact One.false
  case int.int => cases op <;> first | exact .and (.and (.ap _)) | exact .and (.ap _)
  case string.string => cases op <;> first | exact .and (.ap _) | exact .ap _ | exact .false
  case bool.bool => cases op <;> first | exact .and (.ap _) | exact .false
  case pointer.pointer p q =>
    cases q with
    | some a => exact .false
    | none =>
      cases op <;> try exact One.false
      all_goals (cases P.underlying t with
        | none => exact .false
        | some d => cases d <;> first | exact .ap _ | exact .false)
  case slice.slice p n c q n' c' =>
    cases q with
    | some a => exact .false
    | none =>
      cases op <;> try exact One.false
      all_goals (cases P.underlying t with
        | none => exact .false
        | some d => cases d <;> first | exact .ap _ | exact .false)
  case agg.agg xs ys =>
    dsimp only
    cases aggEq P t xs ys with
    | none => cases op <;> exact .false
    | some q => cases op <;> first | exact .ap _ | exact .false
theorem one_binH (op : BinOp) (t : TypeId) (x y : Value) (h : Hp) : One (abinH P op t x y h) := by
  unfold abinH
  split
  · unfold aptr
    split
    · exact .and (.and (.ap _))
    · exact .and (.and (.ap _))
    · exact .false
  · exact one_bin _ _ _ _
theorem one_un (op : UnOp) (x : Value) : One (aun op x) := by
  unfold aun
  cases op <;> cases x <;> first | exact .ap _ | exact .false
theorem one_load (t : TypeId) (a : Value) (h : Hp) : One (aload P t a h) := by
  unfold aload
  split
  · rename_i b o
    cases h.f b with
    | none => exact .false
    | some x =>
      cases x <;> try exact One.false
      rename_i c e fz
      cases tyAgg P t with
      | none => exact .false
      | some q =>
        cases q
        · dsimp only
          cases c[o]? <;> first | exact .false | exact .ap _
        · dsimp only
          cases tySize P t with
          | none => exact .false
          | some n =>
            dsimp only
            cases cellsL c o n <;> first | exact .false | exact .ap _
  · exact .false
theorem one_fieldAddr (s : TypeId) (a : Value) (i : Nat) : One (afieldAddr P s a i) := by
  unfold afieldAddr
  split
  · exact .ap _
  · exact .false
theorem one_part (t : TypeId) (cs : Array Value) (off : Nat) : One (apart_ P t cs off) := by
  unfold apart_
  cases tyAgg P t with
  | none => exact .false
  | some q =>
    cases q
    · dsimp only
      cases cs[off]? <;> first | exact .false | exact .ap _
    · dsimp only
      cases tySize P t <;> first | exact .false | exact .ap _
theorem one_field (s : TypeId) (x : Value) (i : Nat) : One (afield P s x i) := by
  unfold afield
  split
  · exact one_part _ _ _
  · exact .false
theorem one_indexAddr (t : TypeId) (x ix : Value) : One (aindexAddr P t x ix) := by
  unfold aindexAddr
  split
  · split
    · refine .and (.and ?_)
      cases tySize P _ <;> first | exact .false | exact .ap _
    · refine .and (.and ?_)
      cases tySize P _ <;> first | exact .false | exact .ap _
    · exact .false
  · exact .false
theorem one_index (t : TypeId) (x ix : Value) : One (aindex P t x ix) := by
  unfold aindex
  split
  · split
    · refine .and (.and ?_)
      cases tySize P _ <;> first | exact .false | exact one_part _ _ _
    · refine .and ?_
      rename_i i _ _ s _
      cases s.toList[i.toNat]? <;> first | exact .false | exact .ap _
    · exact .false
  · exact .false
theorem one_extract (x : Value) (i : Nat) : One (aextract x i) := by
  unfold aextract
  split
  · rename_i vs
    cases vs[i]? <;> first | exact .false | exact .ap _
  · exact .false
theorem one_len (t : TypeId) (x : Value) (h : Hp) : One (alen P t x h) := by
  unfold alen
  split
  · exact .ap _
  · exact .ap _
  · exact .ap _
  · exact .ap _
  · split
    · exact .ap _
    · exact .false
  · exact .false
theorem one_mm (q : Bool) (x y : Value) : One (aminmax q x y) := by
  unfold aminmax
  split
  · exact .ap _
  · exact .false
theorem one_lookup (t : TypeId) (m k : Value) (ok : Bool) (h : Hp) : One (alookup P t m k ok h) := by
  unfold alookup
  cases lookupR P t m k ok h <;> first | exact .false | exact .ap _
theorem one_entry (x : Value) (h : Hp) : One (aentry x h) := by
  unfold aentry
  split
  · split
    · split
      · split
        · exact .and (.ap _)
        · exact .false
      · exact .false
    · exact .false
  · exact .false
theorem one_slice (t : TypeId) (x : Value) (lo hi mx : Option Value) : One (aslice P t x lo hi mx) := by
  unfold aslice
  split
  · refine .and (.and ?_)
    split
    · exact .and (.and (.and (.ap _)))
    · exact .false
  · split
    · split
      · exact .and (.and (.and (.and (.and (.ap _)))))
      · exact .false
    · exact .false
  · exact .false
theorem one_pure (o : Op) (ρ : Env) (h : Hp) : One (apure P o ρ h) := by
  unfold apure
  split
  · exact .ap _
  · exact .ap _
  · split
    · exact .ap _
    · exact .false
  · split
    · exact .ap _
    · exact .false
  · exact one_load _ _ _
  · split
    · exact .ap _
    · exact .ap _
    · exact .false
  · exact one_binH _ _ _ _ _
  · exact one_un _ _
  · exact .ap _
  · exact one_slice _ _ _ _ _
  · exact one_fieldAddr _ _ _
  · exact one_field _ _ _
  · exact one_indexAddr _ _ _
  · exact one_index _ _ _
  · exact one_extract _ _
  · exact one_lookup _ _ _ _ _
  · exact one_entry _ _
  · split
    · unfold qbuiltin
      split
      · exact one_len _ _ _
      · exact one_mm _ _ _
      · exact one_mm _ _ _
      · exact .false
    · exact .false
  · exact .false
end
/-- More of what follows is more. -/
structure Mono (F : KH → Prop) : Prop where
  mono : ∀ {K K' : KH}, (∀ v h, K v h → K' v h) → F K → F K'
section
variable {P : Program}
theorem Mono.ap (v : Value) (h : Hp) : Mono (fun K => K v h) := ⟨fun m k => m _ _ k⟩
theorem Mono.false : Mono (fun _ => False) := ⟨fun _ h => h.elim⟩
theorem Mono.and {p : Prop} {F : KH → Prop} (hf : Mono F) : Mono (fun K => p ∧ F K) := ⟨fun h k => ⟨k.1, hf.mono h k.2⟩⟩
theorem Mono.opt {α : Type} (r : Option α) {F : α → KH → Prop} (hf : ∀ a, Mono (F a)) : Mono (fun K => match r with | some a => F a K | none => False) := by
  cases r with
  | none => exact Mono.false
  | some a => exact hf a
theorem One.toMono {F : (Value → Prop) → Prop} (hf : One F) (h : Hp) : Mono (fun K => F fun v => K v h) := ⟨fun m k => hf.mono (fun v hv => m v h hv) k⟩
theorem mono_conv (s d : TypeId) (x : Value) (h : Hp) : Mono (aconv P s d x h) := ⟨fun {K K'} m k => by
  unfold aconv at *
  split at k
  · split at k
    · exact m _ _ k
    · exact k.elim
  · split at k
    · exact m _ _ k
    · exact ⟨k.1, fun cap hc => m _ _ (k.2 cap hc)⟩
    · exact k.elim
  · split at k
    · refine ⟨k.1, ?_⟩
      have k2 := k.2
      split at k2
      · exact m _ _ k2
      · split at k2
        · split at k2
          · exact m _ _ k2
          · exact k2.elim
        · exact k2.elim
      · exact k2.elim
    · exact k.elim
  · exact k.elim⟩
theorem mono_store (t : TypeId) (a v : Value) (h : Hp) : Mono (astore P t a v h) := by
  unfold astore
  split
  · split
    · exact .and (.and (.and (.and (.ap _ _))))
    · exact .false
  · exact .false
theorem mono_make (t : TypeId) (l c : Value) (h : Hp) : Mono (amake P t l c h) := by
  unfold amake
  split
  · split
    · split
      · exact .and (.and (.and (.and (.ap _ _))))
      · exact .false
    · exact .false
  · exact .false
theorem mono_copy (t : TypeId) (d x : Value) (h : Hp) : Mono (acopy P t d x h) := by
  unfold acopy
  split
  · split
    · split
      · split
        · split
          · exact .ap _ _
          · split
            · exact .and (.and (.and (.ap _ _)))
            · exact .false
          · exact .false
        · exact .false
      · exact .false
    · exact .false
  · exact .false
theorem mono_append (t u : TypeId) (s x : Value) (h : Hp) : Mono (aappend P t u s x h) := ⟨fun {K K'} m k => by
  unfold aappend at *
  split at k
  · obtain ⟨e, dx, k1, by', z, n, new, h1, h2, h3, h4, h5, h6, h7, h8, h9, h10, h11⟩ := k
    refine ⟨e, dx, k1, by', z, n, new, h1, h2, h3, h4, h5, h6, h7, h8, h9, fun hl => ?_, fun hl => ?_⟩
    · have := h10 hl
      unfold stayK at *
      split at this
      · exact m _ _ this
      · split at this
        · exact ⟨this.1, this.2.1, this.2.2.1, m _ _ this.2.2.2⟩
        · exact this.elim
      · exact this.elim
    · obtain ⟨a1, old, a2, a3⟩ := h11 hl
      exact ⟨a1, old, a2, fun cap hc => m _ _ (a3 cap hc)⟩
  · exact k.elim⟩
theorem mono_appendW (t u : TypeId) (s x : Value) (h : Hp) : Mono (fun K => aappend P t u s x h (Weak K)) := ⟨fun m k => (mono_append t u s x h).mono (fun v g ⟨g', hs, hk⟩ => ⟨g', hs, m _ _ hk⟩) k⟩
theorem mono_call (f : Value) (args : Array Value) (h : Hp) : Mono (acall P f args h) := ⟨fun {K K'} m k => by
  unfold acall at *
  split at k
  · exact ⟨k.1, k.2.mono m⟩
  · exact k.elim⟩
theorem mono_loud (o : Op) (ρ : Env) (h : Hp) : Mono (aloud P o ρ h) := by
  unfold aloud
  split
  · unfold aalloc
    split
    · exact .ap _ _
    · exact .false
  · exact .ap _ _
  · split
    · exact .ap _ _
    · exact .false
  · exact mono_store _ _ _ _
  · exact mono_conv _ _ _ _
  · exact mono_make _ _ _ _
  · exact .ap _ _
  · unfold amapUpd
    split
    · exact .ap _ _
    · exact .false
  · unfold amapUpd
    split
    · exact .ap _ _
    · exact .false
  · unfold arange
    refine .and ?_
    split
    · split
      · exact .ap _ _
      · exact .false
    · exact .false
  · unfold anext
    split
    · split
      · split
        · exact ⟨fun m k => ⟨k.1, k.2.1, fun q => m _ _ (k.2.2.1 q), fun e he => m _ _ (k.2.2.2 e he)⟩⟩
        · exact .false
      · exact .false
    · exact .false
  · split
    · unfold lbuiltin
      split
      · exact mono_appendW _ _ _ _ _
      · exact mono_copy _ _ _ _
      · exact .false
    · exact mono_call _ _ _
    · exact .false
  · exact .false
theorem mono_step (o : Op) (ρ : Env) (h : Hp) : Mono (astep P o ρ h) := by
  unfold astep
  split
  · exact mono_loud _ _ _
  · exact (one_pure _ _ _).toMono h
end
end Go.Proofs.Ytdfeigkooeeeaaa
