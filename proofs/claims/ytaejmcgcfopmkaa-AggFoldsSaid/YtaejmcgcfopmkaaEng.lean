/- The engine: a predicate over a function's code, a frame of slots and a view of the heap, and the proof that it implies the walk. It holds for every program. -/
import Derived.Test.YtaejmcgcfopmkaaRows
import Derived.WalkKit
import Derived.Deep.Quiet
import Derived.ProofKit
namespace Go.Proofs.Ytaejmcgcfopmkaa
open Go Go.RowKit

/-! ### frames and heaps -/
abbrev Env := Nat → Value
def Env.upd (ρ : Env) (d : Nat) (v : Value) : Env := fun t => if t = d then v else ρ t
def Env.put (ρ : Env) (d : Option Nat) (v : Value) : Env := match d with
  | some d => ρ.upd d v
  | none => ρ
def Env.ev (ρ : Env) : Operand → Value
  | .tmp t => ρ t
  | .const v => v
  | .global g => .pointer (some ⟨g, 0, none⟩)
  | .func f => .func (.func f) #[] #[]
theorem upd_same (ρ : Env) (d : Nat) (v : Value) : ρ.upd d v d = v := by simp [Env.upd]
theorem upd_ne (ρ : Env) (d : Nat) (v : Value) (t : Nat) (h : t ≠ d) : ρ.upd d v t = ρ t := by simp [Env.upd, h]
theorem put_some (ρ : Env) (d : Nat) (v : Value) : ρ.put (some d) v = ρ.upd d v := rfl
theorem put_none (ρ : Env) (v : Value) : ρ.put none v = ρ := rfl
theorem ev_tmp (ρ : Env) (t : Nat) : ρ.ev (.tmp t) = ρ t := rfl
theorem ev_const (ρ : Env) (v : Value) : ρ.ev (.const v) = v := rfl
theorem ev_func (ρ : Env) (f : Nat) : ρ.ev (.func f) = .func (.func f) #[] #[] := rfl
theorem ev_global (ρ : Env) (g : Nat) : ρ.ev (.global g) = .pointer (some ⟨g, 0, none⟩) := rfl

/-- The frame of the walk holds what the slots hold. -/
def Rel (n : Nat) (a : Act) (ρ : Env) : Prop := a.defers = [] ∧ a.tmps.size = n ∧ ∀ t, a.tmps.getD t undef = ρ t
theorem Rel.eval {n : Nat} {a : Act} {ρ : Env} (h : Rel n a ρ) : a.eval = ρ.ev := by
  funext x
  cases x with
  | tmp t => exact h.2.2 t
  | _ => rfl
theorem Rel.put {n : Nat} {a : Act} {ρ : Env} (h : Rel n a ρ) {d : Option Nat} (hd : ∀ t, d = some t → t < n) (v : Value) : Rel n (a.put d v) (ρ.put d v) := by
  cases d with
  | none => exact h
  | some d =>
    have hlt := hd d rfl
    refine ⟨h.1, by simp [Act.put, h.2.1], fun t => ?_⟩
    have h1 := h.2.2 t
    by_cases e : t = d
    · subst e
      simp [Act.put, Env.put, Env.upd, h.2.1, hlt]
    · have e' : ¬ d = t := fun x => e x.symm
      simp only [Act.put, Env.put, Env.upd, if_neg e]
      rw [← h1]
      simp [Array.getD_eq_getD_getElem?, Array.getElem?_setIfInBounds_ne e']

structure Hp where
  f : Nat → Option Obj
  n : Nat
def Hp.put (h : Hp) (b : Nat) (o : Obj) : Hp := ⟨fun x => if x = b then some o else h.f x, h.n⟩
def Hp.to (h : Hp) (n : Nat) : Hp := ⟨h.f, n⟩
def Is (w : World) (h : Hp) : Prop := w.heap.size = h.n ∧ ∀ b o, h.f b = some o → w.heap[b]? = some o
def Same (w w' : World) : Prop := w'.os = w.os ∧ w'.tape = w.tape ∧ w'.output = w.output
theorem Same.refl (w : World) : Same w w := ⟨rfl, rfl, rfl⟩
theorem Same.trans {a b c : World} (h : Same a b) (k : Same b c) : Same a c := ⟨k.1.trans h.1, k.2.1.trans h.2.1, k.2.2.trans h.2.2⟩
def Sub (g h : Hp) : Prop := g.n = h.n ∧ ∀ b o, g.f b = some o → h.f b = some o
theorem Sub.refl (h : Hp) : Sub h h := ⟨rfl, fun _ _ e => e⟩
theorem Sub.trans {a b c : Hp} (h : Sub a b) (k : Sub b c) : Sub a c := ⟨h.1.trans k.1, fun x o e => k.2 x o (h.2 x o e)⟩
theorem Is.sub {w : World} {g h : Hp} (hi : Is w h) (hs : Sub g h) : Is w g := ⟨hi.1.trans hs.1.symm, fun b o e => hi.2 b o (hs.2 b o e)⟩
theorem put_n (h : Hp) (b : Nat) (o : Obj) : (h.put b o).n = h.n := rfl
theorem to_n (h : Hp) (n : Nat) : (h.to n).n = n := rfl
theorem to_f (h : Hp) (n : Nat) : (h.to n).f = h.f := rfl
theorem to_put (h : Hp) (n b : Nat) (o : Obj) : (h.to n).put b o = (h.put b o).to n := rfl
theorem to_to (h : Hp) (n k : Nat) : (h.to n).to k = h.to k := rfl
theorem to_self (h : Hp) : h.to h.n = h := rfl
theorem put_f_same (h : Hp) (b : Nat) (o : Obj) : (h.put b o).f b = some o := by simp [Hp.put]
theorem put_f_ne (h : Hp) (b : Nat) (o : Obj) (x : Nat) (hx : x ≠ b) : (h.put b o).f x = h.f x := by simp [Hp.put, hx]
theorem put_put (h : Hp) (b : Nat) (o o' : Obj) : (h.put b o).put b o' = h.put b o' := by
  simp only [Hp.put]; congr 1; funext x; split <;> rfl
theorem put_put_mid (h : Hp) (b c : Nat) (o o' o2 : Obj) (hx : c ≠ b) : ((h.put b o).put c o2).put b o' = (h.put b o').put c o2 := by
  simp only [Hp.put]; congr 1; funext x
  by_cases e : x = b
  · subst e; simp [Ne.symm hx]
  · simp [e]
theorem Sub.put {g h : Hp} (hs : Sub g h) (b : Nat) (o : Obj) : Sub (g.put b o) (h.put b o) :=
  ⟨hs.1, fun x o' e => by
    simp only [Hp.put] at e ⊢
    split
    · rename_i hx; rw [if_pos hx] at e; exact e
    · rename_i hx; rw [if_neg hx] at e; exact hs.2 x o' e⟩
theorem Sub.skip {g h : Hp} (hs : Sub g h) {b : Nat} (hb : g.f b = none) (o : Obj) : Sub g (h.put b o) :=
  ⟨hs.1, fun x o' e => by
    simp only [Hp.put]
    split
    · rename_i hx; subst hx; rw [hb] at e; cases e
    · exact hs.2 x o' e⟩
theorem Sub.to {g h : Hp} (hs : Sub g h) (n : Nat) : Sub (g.to n) (h.to n) := ⟨rfl, hs.2⟩

/-- A call, in every world that the view fits: it returns; the world behind it fits the view that is handed on. -/
def CallG (P : Program) (f : FuncId) (args : Array Value) (h : Hp) (K : Value → Hp → Prop) : Prop :=
  ∀ w, Is w h → Calls P f args w fun e w' => ∃ v h', e = .returned v ∧ Is w' h' ∧ Same w w' ∧ K v h'
theorem CallG.mono {P : Program} {f : FuncId} {args : Array Value} {h : Hp} {K K' : Value → Hp → Prop} (hc : CallG P f args h K) (hk : ∀ v h', K v h' → K' v h') : CallG P f args h K' :=
  fun w hw => (hc w hw).mono fun _ _ ⟨v, h', e, i, s, k⟩ => ⟨v, h', e, i, s, hk v h' k⟩
theorem CallG.sub {P : Program} {f : FuncId} {args : Array Value} {g h : Hp} {K : Value → Hp → Prop} (hc : CallG P f args g K) (hs : Sub g h) : CallG P f args h K :=
  fun w hw => hc w (hw.sub hs)
/-- What a function hands on may forget blocks. -/
def Fin (K : Value → Hp → Prop) (v : Value) (h : Hp) : Prop := ∃ g, Sub g h ∧ K v g
theorem Fin.here {K : Value → Hp → Prop} {v : Value} {h : Hp} (k : K v h) : Fin K v h := ⟨h, Sub.refl h, k⟩

/-! ### the tables of types -/
def tySize (P : Program) (t : TypeId) : Option Nat := (P.info? t).map (·.size)
def tyBytes (P : Program) (t : TypeId) : Option Nat := (P.info? t).map (·.bytes)
def tyZero (P : Program) (t : TypeId) : Option Value := (P.info? t).bind (·.zero)
def tyAgg (P : Program) (t : TypeId) : Option Bool := match P.underlying t with
  | some (.struct _) | some (.array _ _) => some true
  | some _ => some false
  | none => none
/-- Where a field lies, if it has cells. -/
def tyField (P : Program) (s : TypeId) (i : Nat) : Option (TypeId × Nat) := match P.underlying s with
  | some (.struct fs) => match fs[i]? with
    | some f => match tySize P f.type with
      | some (_ + 1) => some (f.type, f.offset)
      | _ => none
    | none => none
  | _ => none
theorem run_sizeOf {P : Program} {t : TypeId} {n : Nat} (h : tySize P t = some n) (w : World) : (sizeOf t).run P w = .ok n w := by
  unfold tySize at h
  cases hi : P.info? t with
  | none => simp [hi] at h
  | some i => simp [hi] at h; simp [sizeOf, typeInfo, hi, h]
theorem run_isAgg {P : Program} {t : TypeId} {q : Bool} (h : tyAgg P t = some q) (w : World) : (isAgg t).run P w = .ok q w := by
  unfold tyAgg at h
  cases hu : P.underlying t with
  | none => simp [hu] at h
  | some d =>
    rw [hu] at h
    simp only [isAgg, Sem.run_bind, run_underlying hu, Result.andThen_ok]
    cases d <;> simp_all
theorem run_zeroValue {P : Program} {t : TypeId} {v : Value} (h : tyZero P t = some v) (w : World) : (zeroValue t).run P w = .ok v w := by
  unfold tyZero at h
  cases hi : P.info? t with
  | none => simp [hi] at h
  | some i => simp [hi] at h; simp [zeroValue, typeInfo, hi, h]

/-! ### what the world's steps do to a view -/
/-- The view's blocks are the world's, however many blocks there are. -/
def Fits (w : World) (h : Hp) : Prop := ∀ b o, h.f b = some o → w.heap[b]? = some o
theorem Is.fits {w : World} {h : Hp} (hi : Is w h) : Fits w h := hi.2
theorem Fits.cell {w : World} {h : Hp} (hi : Fits w h) {b i : Nat} {c : Array Value} {t : TypeId} {fz : Nat × Nat} (e : h.f b = some (.cells c t fz)) : w.cell? ⟨b, i, none⟩ = c[i]? := by
  have h1 := hi b _ e
  simp [World.cell?, h1]
theorem Is.lt {w : World} {h : Hp} (hi : Is w h) {b : Nat} {o : Obj} (e : h.f b = some o) : b < h.n := by
  have h1 := hi.2 b o e
  rw [← hi.1]
  exact (Array.getElem?_eq_some_iff.1 h1).1
theorem Is.fresh {w : World} {h : Hp} (hi : Is w h) {b : Nat} (hb : h.n ≤ b) : h.f b = none := by
  cases e : h.f b with
  | none => rfl
  | some o => exact absurd (hi.lt e) (by omega)
theorem Is.push {w : World} {h : Hp} (hi : Is w h) (o : Obj) : Is { w with heap := w.heap.push o } ((h.put h.n o).to (h.n + 1)) := by
  refine ⟨by simp [hi.1, Hp.to], fun b o' e => ?_⟩
  simp only [Hp.to, Hp.put] at e
  split at e
  · rename_i hb
    subst hb
    injection e with e
    subst e
    rw [← hi.1]
    simp
  · rename_i hb
    have h1 := hi.lt e
    have h2 := hi.2 b o' e
    rw [← hi.1] at h1
    simp only [Array.getElem?_push]
    rw [if_neg (by omega)]
    exact h2
theorem Same.push (w : World) (o : Obj) : Same w { w with heap := w.heap.push o } := ⟨rfl, rfl, rfl⟩
theorem Is.draw {w : World} {h : Hp} (hi : Is w h) : Is { w with drawn := w.drawn + 1 } h := hi
theorem Is.set {w : World} {h : Hp} (hi : Is w h) {b : Nat} {o o' : Obj} (e : h.f b = some o) {g : Array Obj} (hs : g.size = w.heap.size) (hb : g[b]? = some o') (hx : ∀ x, x ≠ b → g[x]? = w.heap[x]?) :
    Is { w with heap := g } (h.put b o') := by
  refine ⟨by simp [hs, hi.1, Hp.put], fun x o2 e2 => ?_⟩
  simp only [Hp.put] at e2
  split at e2
  · rename_i hx'; subst hx'; injection e2 with e2; subst e2; exact hb
  · rename_i hx'; exact (hx x hx').trans (hi.2 x o2 e2)
theorem Is.setCell {w : World} {h : Hp} (hi : Is w h) {b i : Nat} {c : Array Value} {t : TypeId} {fz : Nat × Nat} (e : h.f b = some (.cells c t fz)) (v : Value) :
    Is (w.setCell ⟨b, i, none⟩ v) (h.put b (.cells (c.setIfInBounds i v) t fz)) := by
  have h1 := hi.2 b _ e
  refine hi.set e (by simp) ?_ (fun x hx => ?_)
  · simp [Array.getElem?_modify, h1]
  · have : ¬ b = x := fun e => hx e.symm
    simp [Array.getElem?_modify, this]
theorem Same.setCell (w : World) (a : Addr) (v : Value) : Same w (w.setCell a v) := ⟨rfl, rfl, rfl⟩
theorem Is.cell {w : World} {h : Hp} (hi : Is w h) {b i : Nat} {c : Array Value} {t : TypeId} {fz : Nat × Nat} (e : h.f b = some (.cells c t fz)) : w.cell? ⟨b, i, none⟩ = c[i]? := by
  have h1 := hi.2 b _ e
  simp [World.cell?, h1]
theorem Is.frozen {w : World} {h : Hp} (hi : Is w h) {b i : Nat} {c : Array Value} {t : TypeId} {fz : Nat × Nat} (e : h.f b = some (.cells c t fz)) (hf : fz.2 ≤ fz.1 ∨ i < fz.1) : w.frozen? ⟨b, i, none⟩ = false := by
  have h1 := hi.2 b _ e
  obtain ⟨lo, hi'⟩ := fz
  simp only [World.frozen?, h1]
  simp only at hf
  simp; omega
theorem add_addr (b o k : Nat) : (Addr.mk b o none).add k = ⟨b, o + k, none⟩ := by
  unfold Addr.add
  split
  · rename_i h; subst h; rfl
  · rfl

/-! ### rows of cells -/
def cellsL (c : Array Value) (o : Nat) : Nat → Option (List Value)
  | 0 => some []
  | n + 1 => match c[o]?, cellsL c (o + 1) n with
    | some x, some l => some (x :: l)
    | _, _ => none
def writeL (c : Array Value) (o : Nat) : List Value → Array Value
  | [] => c
  | x :: l => writeL (c.setIfInBounds o x) (o + 1) l
theorem run_loadCellsFrom {P : Program} {w : World} {b : Nat} {c : Array Value} (hc : ∀ i, w.cell? ⟨b, i, none⟩ = c[i]?) : ∀ (n o i : Nat) (acc : Array Value) (l : List Value), cellsL c (o + i) n = some l →
    (loadCellsFrom ⟨b, o, none⟩ i n acc).run P w = .ok (acc ++ l.toArray) w
  | 0, o, i, acc, l, h => by
    injection h with h
    subst h
    simp [loadCellsFrom]
  | n + 1, o, i, acc, l, h => by
    simp only [cellsL] at h
    split at h
    · rename_i x l' hx hl
      injection h with h
      subst h
      have h1 := run_loadCellsFrom (P := P) hc n o (i + 1) (acc.push x) l' (by rw [← Nat.add_assoc]; exact hl)
      simp only [loadCellsFrom, Sem.run_bind, add_addr]
      rw [show (Go.load ⟨b, o + i, none⟩).run P w = .ok x w from by simp [Go.load, Sem.run, hc, hx]]
      simp only [Result.andThen_ok, h1]
      congr 1
      apply Array.ext'
      simp
    · cases h
theorem run_loadCells {P : Program} {w : World} {b : Nat} {c : Array Value} (hc : ∀ i, w.cell? ⟨b, i, none⟩ = c[i]?) {n o : Nat} {l : List Value} (h : cellsL c o n = some l) :
    (loadCells ⟨b, o, none⟩ n).run P w = .ok l.toArray w := by
  have := run_loadCellsFrom (P := P) hc n o 0 #[] l h
  simpa [loadCells] using this
/-- None of n cells from o on is one that may not be written. -/
def Free (fz : Nat × Nat) (o n : Nat) : Prop := fz.2 ≤ fz.1 ∨ o + n ≤ fz.1
theorem free_zero (o n : Nat) : Free (0, 0) o n := .inl (Nat.le_refl _)
theorem run_storeCells {P : Program} {t : TypeId} {b : Nat} {fz : Nat × Nat} : ∀ (l : List Value) (w : World) (h : Hp) (c : Array Value) (o i : Nat), (∀ x ∈ l, x.oneCell' = true) → o + i + l.length ≤ c.size → Free fz (o + i) l.length → Is w h → h.f b = some (.cells c t fz) →
    ∃ w', (storeCells ⟨b, o, none⟩ l i).run P w = .ok () w' ∧ Is w' (h.put b (.cells (writeL c (o + i) l) t fz)) ∧ Same w w'
  | [], w, h, c, o, i, _, _, _, hi, e => by
    refine ⟨w, by simp [storeCells], ?_, Same.refl w⟩
    have : h.put b (.cells (writeL c (o + i) []) t fz) = h := by
      simp only [Hp.put, writeL]
      cases h
      congr 1
      funext x
      split
      · rename_i hx; subst hx; exact e.symm
      · rfl
    rw [this]; exact hi
  | x :: l, w, h, c, o, i, h1, hb, hz, hi, e => by
    simp only [List.length_cons] at hb
    unfold Free at hz
    simp only [List.length_cons] at hz
    have hlt : o + i < c.size := by omega
    have hs := run_store P w ⟨b, o + i, none⟩ x .plain (h1 x (by simp))
    have hcell := hi.cell (i := o + i) e
    have hfz := hi.frozen (i := o + i) e (by omega)
    rw [Array.getElem?_eq_getElem hlt] at hcell
    have hi' := hi.setCell (i := o + i) e x
    obtain ⟨w', hr, hw, hs'⟩ := run_storeCells l (w.setCell ⟨b, o + i, none⟩ x) _ (c.setIfInBounds (o + i) x) o (i + 1) (fun y hy => h1 y (by simp [hy])) (by simp; omega) (by unfold Free; omega) hi' (put_f_same _ _ _)
    refine ⟨w', ?_, ?_, (Same.setCell _ _ _).trans hs'⟩
    · simp only [storeCells, Sem.run_bind, add_addr]
      rw [show (Go.store ⟨b, o + i, none⟩ x .plain).run P w = .ok () (w.setCell ⟨b, o + i, none⟩ x) from by rw [hs]; simp only [stored, hcell, hfz]; rfl]
      simpa using hr
    · rw [put_put] at hw
      simpa [writeL, Nat.add_assoc] using hw
end Go.Proofs.Ytaejmcgcfopmkaa
