/- Texts of our own, joined: the engine, the machine that runs code, and what is known of the functions. -/
import Derived.Test.YthjggjhebbdkdaaRows
import Derived.WalkKit
import Derived.Deep.Quiet
import Derived.ProofKit
import Derived.Laws.StructEq
import Derived.LaidEql
import Derived.Laws.BytesArg
import Derived.Maps.RangeRun
import Derived.RangeFuncSeq
import Derived.Scope
set_option linter.unusedSimpArgs false
set_option linter.unusedVariables false
set_option maxHeartbeats 16000000
set_option maxRecDepth 100000
namespace Go.Proofs.Ythjggjhebbdkdaa
open Go Go.RowKit
abbrev Env := Nat → Value
def Env.upd (ρ : Env) (d : Nat) (v : Value) : Env := fun t => if t = d then v else ρ t
def Env.put (ρ : Env) (d : Option Nat) (v : Value) : Env := match d with
  | some d => ρ.upd d v
  | none => ρ
def Env.ev (ρ : Env) : Operand → Value
  | .tmp t => ρ t
  | .const v => v
  | .global g => .pointer (some ⟨g, 0, none⟩)
  | .func f => .func (.func f) #[] #[]
theorem pE (ρ : Env) (d : Nat) (v : Value) : ρ.upd d v d = v := by simp [Env.upd]
theorem HL (ρ : Env) (d : Nat) (v : Value) (t : Nat) (h : t ≠ d) : ρ.upd d v t = ρ t := by simp [Env.upd, h]
theorem mP (ρ : Env) (d : Nat) (v : Value) : ρ.put (some d) v = ρ.upd d v := rfl
def Rel (n : Nat) (a : Act) (ρ : Env) : Prop := a.defers = [] ∧ a.tmps.size = n ∧ ∀ t, a.tmps.getD t undef = ρ t
theorem Rel.eval {n : Nat} {a : Act} {ρ : Env} (h : Rel n a ρ) : a.eval = ρ.ev := by
  funext x
  cases x with
  | tmp t => exact h.2.2 t
  | _ => rfl
theorem Rel.put {n : Nat} {a : Act} {ρ : Env} (h : Rel n a ρ) {d : Option Nat} (hd : ∀ t, d = some t → t < n) (v : Value) : Rel n (a.put d v) (ρ.put d v) := by
  cases d with
  | none => exact h
  | some d =>
    have hlt := hd d rfl
    refine ⟨h.1, by simp [Act.put, h.2.1], fun t => ?_⟩
    have h1 := h.2.2 t
    by_cases e : t = d
    · subst e
      simp [Act.put, Env.put, Env.upd, h.2.1, hlt]
    · have e' : ¬ d = t := fun x => e x.symm
      simp only [Act.put, Env.put, Env.upd, if_neg e]
      rw [← h1]
      simp [Array.getD_eq_getD_getElem?, Array.getElem?_setIfInBounds_ne e']
structure Hp where
  f : Nat → Option Obj
  n : Nat
def Hp.put (h : Hp) (b : Nat) (o : Obj) : Hp := ⟨fun x => if x = b then some o else h.f x, h.n⟩
def Hp.to (h : Hp) (n : Nat) : Hp := ⟨h.f, n⟩
def Is (w : World) (h : Hp) : Prop := w.heap.size = h.n ∧ ∀ b o, h.f b = some o → w.heap[b]? = some o
def bq (w w' : World) : Prop := w'.os = w.os ∧ w'.tape = w.tape ∧ w'.output = w.output
theorem bq.refl (w : World) : bq w w := ⟨rfl, rfl, rfl⟩
theorem bq.trans {a b c : World} (h : bq a b) (k : bq b c) : bq a c := ⟨k.1.trans h.1, k.2.1.trans h.2.1, k.2.2.trans h.2.2⟩
def Sub (g h : Hp) : Prop := g.n = h.n ∧ ∀ b o, g.f b = some o → h.f b = some o
theorem Sub.refl (h : Hp) : Sub h h := ⟨rfl, fun _ _ e => e⟩
theorem Is.sub {w : World} {g h : Hp} (hi : Is w h) (hs : Sub g h) : Is w g := ⟨hi.1.trans hs.1.symm, fun b o e => hi.2 b o (hs.2 b o e)⟩
theorem BZ (h : Hp) (b : Nat) (o : Obj) : (h.put b o).n = h.n := rfl
theorem Ai (h : Hp) (n : Nat) : (h.to n).n = n := rfl
theorem Aj (h : Hp) (n : Nat) : (h.to n).f = h.f := rfl
theorem B0 (h : Hp) (n b : Nat) (o : Obj) : (h.to n).put b o = (h.put b o).to n := rfl
theorem bB (h : Hp) (b : Nat) (o : Obj) : (h.put b o).f b = some o := by simp [Hp.put]
theorem aT (h : Hp) (b : Nat) (o : Obj) (x : Nat) (hx : x ≠ b) : (h.put b o).f x = h.f x := by simp [Hp.put, hx]
theorem sU (h : Hp) (b : Nat) (o o' : Obj) : (h.put b o).put b o' = h.put b o' := by
  simp only [Hp.put]; congr 1; funext x; split <;> rfl
def pF (P : Program) (f : FuncId) (args : Array Value) (h : Hp) (K : Value → Hp → Prop) : Prop :=
  ∀ w, Is w h → Calls P f args w fun e w' => ∃ v h', e = .returned v ∧ Is w' h' ∧ bq w w' ∧ K v h'
theorem pF.mono {P : Program} {f : FuncId} {args : Array Value} {h : Hp} {K K' : Value → Hp → Prop} (hc : pF P f args h K) (hk : ∀ v h', K v h' → K' v h') : pF P f args h K' :=
  fun w hw => (hc w hw).mono fun _ _ ⟨v, h', e, i, s, k⟩ => ⟨v, h', e, i, s, hk v h' k⟩
def Fin (K : Value → Hp → Prop) (v : Value) (h : Hp) : Prop := ∃ g, Sub g h ∧ K v g
theorem Fin.here {K : Value → Hp → Prop} {v : Value} {h : Hp} (k : K v h) : Fin K v h := ⟨h, Sub.refl h, k⟩
def ah (P : Program) (t : TypeId) : Option Nat := (P.info? t).map (·.size)
def an (P : Program) (t : TypeId) : Option Nat := (P.info? t).map (·.bytes)
def au (P : Program) (t : TypeId) : Option Value := (P.info? t).bind (·.zero)
def aJ (P : Program) (t : TypeId) : Option Bool := match P.underlying t with
  | some (.struct _) | some (.array _ _) => some true
  | some _ => some false
  | none => none
def ai (P : Program) (s : TypeId) (i : Nat) : Option (TypeId × Nat) := match P.underlying s with
  | some (.struct fs) => match fs[i]? with
    | some f => match ah P f.type with
      | some (_ + 1) => some (f.type, f.offset)
      | _ => none
    | none => none
  | _ => none
theorem run_sizeOf {P : Program} {t : TypeId} {n : Nat} (h : ah P t = some n) (w : World) : (sizeOf t).run P w = .ok n w := by
  unfold ah at h
  cases hi : P.info? t with
  | none => simp [hi] at h
  | some i => simp [hi] at h; simp [sizeOf, typeInfo, hi, h]
theorem ir {P : Program} {t : TypeId} {q : Bool} (h : aJ P t = some q) (w : World) : (isAgg t).run P w = .ok q w := by
  unfold aJ at h
  cases hu : P.underlying t with
  | none => simp [hu] at h
  | some d =>
    rw [hu] at h
    simp only [isAgg, Sem.run_bind, run_underlying hu, Result.andThen_ok]
    cases d <;> simp_all
theorem dG {P : Program} {t : TypeId} {v : Value} (h : au P t = some v) (w : World) : (zeroValue t).run P w = .ok v w := by
  unfold au at h
  cases hi : P.info? t with
  | none => simp [hi] at h
  | some i => simp [hi] at h; simp [zeroValue, typeInfo, hi, h]
def Fits (w : World) (h : Hp) : Prop := ∀ b o, h.f b = some o → w.heap[b]? = some o
theorem Is.fits {w : World} {h : Hp} (hi : Is w h) : Fits w h := hi.2
theorem Fits.cell {w : World} {h : Hp} (hi : Fits w h) {b i : Nat} {c : Array Value} {t : TypeId} {fz : Nat × Nat} (e : h.f b = some (.cells c t fz)) : w.cell? ⟨b, i, none⟩ = c[i]? := by
  have h1 := hi b _ e
  simp [World.cell?, h1]
theorem Is.lt {w : World} {h : Hp} (hi : Is w h) {b : Nat} {o : Obj} (e : h.f b = some o) : b < h.n := by
  have h1 := hi.2 b o e
  rw [← hi.1]
  exact (Array.getElem?_eq_some_iff.1 h1).1
theorem Is.push {w : World} {h : Hp} (hi : Is w h) (o : Obj) : Is { w with heap := w.heap.push o } ((h.put h.n o).to (h.n + 1)) := by
  refine ⟨by simp [hi.1, Hp.to], fun b o' e => ?_⟩
  simp only [Hp.to, Hp.put] at e
  split at e
  · rename_i hb
    subst hb
    injection e with e
    subst e
    rw [← hi.1]
    simp
  · rename_i hb
    have h1 := hi.lt e
    have h2 := hi.2 b o' e
    rw [← hi.1] at h1
    simp only [Array.getElem?_push]
    rw [if_neg (by omega)]
    exact h2
theorem bq.push (w : World) (o : Obj) : bq w { w with heap := w.heap.push o } := ⟨rfl, rfl, rfl⟩
theorem Is.set {w : World} {h : Hp} (hi : Is w h) {b : Nat} {o o' : Obj} (e : h.f b = some o) {g : Array Obj} (hs : g.size = w.heap.size) (hb : g[b]? = some o') (hx : ∀ x, x ≠ b → g[x]? = w.heap[x]?) :
    Is { w with heap := g } (h.put b o') := by
  refine ⟨by simp [hs, hi.1, Hp.put], fun x o2 e2 => ?_⟩
  simp only [Hp.put] at e2
  split at e2
  · rename_i hx'; subst hx'; injection e2 with e2; subst e2; exact hb
  · rename_i hx'; exact (hx x hx').trans (hi.2 x o2 e2)
theorem Is.setCell {w : World} {h : Hp} (hi : Is w h) {b i : Nat} {c : Array Value} {t : TypeId} {fz : Nat × Nat} (e : h.f b = some (.cells c t fz)) (v : Value) :
    Is (w.setCell ⟨b, i, none⟩ v) (h.put b (.cells (c.setIfInBounds i v) t fz)) := by
  have h1 := hi.2 b _ e
  refine hi.set e (by simp) ?_ (fun x hx => ?_)
  · simp [Array.getElem?_modify, h1]
  · have : ¬ b = x := fun e => hx e.symm
    simp [Array.getElem?_modify, this]
theorem bq.setCell (w : World) (a : Addr) (v : Value) : bq w (w.setCell a v) := ⟨rfl, rfl, rfl⟩
theorem Is.cell {w : World} {h : Hp} (hi : Is w h) {b i : Nat} {c : Array Value} {t : TypeId} {fz : Nat × Nat} (e : h.f b = some (.cells c t fz)) : w.cell? ⟨b, i, none⟩ = c[i]? := by
  have h1 := hi.2 b _ e
  simp [World.cell?, h1]
theorem Is.frozen {w : World} {h : Hp} (hi : Is w h) {b i : Nat} {c : Array Value} {t : TypeId} {fz : Nat × Nat} (e : h.f b = some (.cells c t fz)) (hf : fz.2 ≤ fz.1 ∨ i < fz.1) : w.frozen? ⟨b, i, none⟩ = false := by
  have h1 := hi.2 b _ e
  obtain ⟨lo, hi'⟩ := fz
  simp only [World.frozen?, h1]
  simp only at hf
  simp; omega
theorem iy (b o k : Nat) : (Addr.mk b o none).add k = ⟨b, o + k, none⟩ := by
  unfold Addr.add
  split
  · rename_i h; subst h; rfl
  · rfl
def b6 (c : Array Value) (o : Nat) : Nat → Option (List Value)
  | 0 => some []
  | n + 1 => match c[o]?, b6 c (o + 1) n with
    | some x, some l => some (x :: l)
    | _, _ => none
def cV (c : Array Value) (o : Nat) : List Value → Array Value
  | [] => c
  | x :: l => cV (c.setIfInBounds o x) (o + 1) l
theorem run_loadCellsFrom {P : Program} {w : World} {b : Nat} {c : Array Value} (hc : ∀ i, w.cell? ⟨b, i, none⟩ = c[i]?) : ∀ (n o i : Nat) (acc : Array Value) (l : List Value), b6 c (o + i) n = some l →
    (loadCellsFrom ⟨b, o, none⟩ i n acc).run P w = .ok (acc ++ l.toArray) w
  | 0, o, i, acc, l, h => by
    injection h with h
    subst h
    simp [loadCellsFrom]
  | n + 1, o, i, acc, l, h => by
    simp only [b6] at h
    split at h
    · rename_i x l' hx hl
      injection h with h
      subst h
      have h1 := run_loadCellsFrom (P := P) hc n o (i + 1) (acc.push x) l' (by rw [← Nat.add_assoc]; exact hl)
      simp only [loadCellsFrom, Sem.run_bind, iy]
      rw [show (Go.load ⟨b, o + i, none⟩).run P w = .ok x w from by simp [Go.load, Sem.run, hc, hx]]
      simp only [Result.andThen_ok, h1]
      congr 1
      apply Array.ext'
      simp
    · cases h
theorem run_loadCells {P : Program} {w : World} {b : Nat} {c : Array Value} (hc : ∀ i, w.cell? ⟨b, i, none⟩ = c[i]?) {n o : Nat} {l : List Value} (h : b6 c o n = some l) :
    (loadCells ⟨b, o, none⟩ n).run P w = .ok l.toArray w := by
  have := run_loadCellsFrom (P := P) hc n o 0 #[] l h
  simpa [loadCells] using this
def mQ (fz : Nat × Nat) (o n : Nat) : Prop := fz.2 ≤ fz.1 ∨ o + n ≤ fz.1
theorem fP (o n : Nat) : mQ (0, 0) o n := .inl (Nat.le_refl _)
theorem fm {P : Program} {t : TypeId} {b : Nat} {fz : Nat × Nat} : ∀ (l : List Value) (w : World) (h : Hp) (c : Array Value) (o i : Nat), (∀ x ∈ l, x.oneCell' = true) → o + i + l.length ≤ c.size → mQ fz (o + i) l.length → Is w h → h.f b = some (.cells c t fz) →
    ∃ w', (storeCells ⟨b, o, none⟩ l i).run P w = .ok () w' ∧ Is w' (h.put b (.cells (cV c (o + i) l) t fz)) ∧ bq w w'
  | [], w, h, c, o, i, _, _, _, hi, e => by
    refine ⟨w, by simp [storeCells], ?_, bq.refl w⟩
    have : h.put b (.cells (cV c (o + i) []) t fz) = h := by
      simp only [Hp.put, cV]
      cases h
      congr 1
      funext x
      split
      · rename_i hx; subst hx; exact e.symm
      · rfl
    rw [this]; exact hi
  | x :: l, w, h, c, o, i, h1, hb, hz, hi, e => by
    simp only [List.length_cons] at hb
    unfold mQ at hz
    simp only [List.length_cons] at hz
    have hlt : o + i < c.size := by omega
    have hs := run_store P w ⟨b, o + i, none⟩ x .plain (h1 x (by simp))
    have hcell := hi.cell (i := o + i) e
    have hfz := hi.frozen (i := o + i) e (by omega)
    rw [Array.getElem?_eq_getElem hlt] at hcell
    have hi' := hi.setCell (i := o + i) e x
    obtain ⟨w', hr, hw, hs'⟩ := fm l (w.setCell ⟨b, o + i, none⟩ x) _ (c.setIfInBounds (o + i) x) o (i + 1) (fun y hy => h1 y (by simp [hy])) (by simp; omega) (by unfold mQ; omega) hi' (bB _ _ _)
    refine ⟨w', ?_, ?_, (bq.setCell _ _ _).trans hs'⟩
    · simp only [storeCells, Sem.run_bind, iy]
      rw [show (Go.store ⟨b, o + i, none⟩ x .plain).run P w = .ok () (w.setCell ⟨b, o + i, none⟩ x) from by rw [hs]; simp only [stored, hcell, hfz]; rfl]
      simpa using hr
    · rw [sU] at hw
      simpa [cV, Nat.add_assoc] using hw
end Go.Proofs.Ythjggjhebbdkdaa
namespace Go.Proofs.Ythjggjhebbdkdaa
open Go Go.RowKit
abbrev KH := Value → Hp → Prop
def Br (q : Bool) (A B : Prop) : Prop := (q = true → A) ∧ (q = false → B)
theorem yL {q : Bool} {A B : Prop} (h : Br q A B) : (q = true ∧ A) ∨ (q = false ∧ B) := by
  cases q
  · exact .inr ⟨rfl, h.2 rfl⟩
  · exact .inl ⟨rfl, h.1 rfl⟩
def fI (P : Program) (s : Sem Value) (h : Hp) (K : KH) : Prop := ∀ w, Is w h → ∃ v w' h', s.run P w = .ok v w' ∧ Is w' h' ∧ bq w w' ∧ K v h'
def PG (P : Program) (s : Sem Value) (h : Hp) (K : Value → Prop) : Prop := ∃ v, K v ∧ ∀ w, Fits w h → s.run P w = .ok v w
theorem PG.here {P : Program} {s : Sem Value} {h : Hp} {K : Value → Prop} {v : Value} (hr : ∀ w, Fits w h → s.run P w = .ok v w) (hk : K v) : PG P s h K := ⟨v, hk, hr⟩
theorem PG.uN {P : Program} {s : Sem Value} {h : Hp} {K : KH} (hp : PG P s h (fun v => K v h)) : fI P s h K :=
  let ⟨v, hk, hr⟩ := hp
  fun w hi => ⟨v, w, h, hr w hi.fits, hi, bq.refl w, hk⟩
def bI (op : BinOp) (k : IntKind) (x y : Int) : Int :=
  k.wrap ((match op with
    | .and => BitVec.ofInt k.bits x &&& BitVec.ofInt k.bits y
    | .or => BitVec.ofInt k.bits x ||| BitVec.ofInt k.bits y
    | .xor => BitVec.ofInt k.bits x ^^^ BitVec.ofInt k.bits y
    | _ => BitVec.ofInt k.bits x &&& ~~~ BitVec.ofInt k.bits y).toNat : Int)
def je (P : Program) : List Field → Option (List (Nat × Nat))
  | [] => some []
  | f :: fs => if f.name = "_" then je P fs else if aJ P f.type = some false then (match P.underlying f.type with
    | some (.int _) => (je P fs).map ((0, f.offset) :: ·)
    | some .string => (je P fs).map ((1, f.offset) :: ·)
    | some .bool => (je P fs).map ((2, f.offset) :: ·)
    | _ => none) else none
def eo (P : Program) (t : TypeId) : Option (List (Nat × Nat)) := match P.underlying t with
  | some (.struct fs) => if P.stoodInHeld t = false ∧ P.eqGuardType P.depth t = false then je P fs.toList else none
  | _ => none
def fo (xs ys : Array Value) : List (Nat × Nat) → Option Bool
  | [] => some true
  | (k, o) :: l => (match xs[o]?, ys[o]? with
    | some (.int k1 a), some (.int k2 b) => if k = 0 ∧ k1 = k2 then (fo xs ys l).map (decide (a = b) && ·) else none
    | some (.string a), some (.string b) => if k = 1 then (fo xs ys l).map ((a.toList == b.toList) && ·) else none
    | some (.bool a), some (.bool b) => if k = 2 then (fo xs ys l).map ((a == b) && ·) else none
    | _, _ => none)
def pG (P : Program) (t : TypeId) (xs ys : Array Value) : Option Bool := (eo P t).bind (fo xs ys)
theorem jf {P : Program} {xs ys : Array Value} (d : Nat) : ∀ (fs : List Field) (l : List (Nat × Nat)) (q : Bool), je P fs = some l → fo xs ys l = some q → ∀ w, (Op.eqFields (d + 1) xs ys fs).run P w = .ok q w
  | [], l, q, h, h2, w => by
    injection h with h; subst h
    injection h2 with h2; subst h2
    simp [Op.eqFields]
  | f :: fs, l, q, h, h2, w => by
    unfold je at h
    unfold Op.eqFields
    split at h
    · rename_i hn
      rw [if_neg (by simp [hn])]
      exact jf d fs l q h h2 w
    · rename_i hn
      rw [if_pos hn]
      split at h
      · rename_i ha
        have step : ∀ (a b : Value) (r q' : Bool) (l' : List (Nat × Nat)), xs[f.offset]? = some a → ys[f.offset]? = some b → (Op.equalIn (d + 1) f.type a b).run P w = .ok r w → je P fs = some l' → fo xs ys l' = some q' → q = (r && q') →
            (do
              let a ← part f.type xs f.offset
              let b ← part f.type ys f.offset
              let r ← Op.equalIn (d + 1) f.type a b
              if (!r) = true then pure false else Op.eqFields (d + 1) xs ys fs : Sem Bool).run P w = .ok q w := fun a b r q' l' ea eb er el eq hq => by
          subst hq
          have p1 : (part f.type xs f.offset).run P w = .ok a w := by simp [part, ir ha, ea]
          have p2 : (part f.type ys f.offset).run P w = .ok b w := by simp [part, ir ha, eb]
          simp only [Sem.run_bind, p1, p2, er, Result.andThen_ok]
          cases r with
          | false => simp
          | true => simpa using jf d fs l' q' el eq w
        have fin_ : ∀ k : Nat, (je P fs).map ((k, f.offset) :: ·) = some l → ∃ l', je P fs = some l' ∧ l = (k, f.offset) :: l' := fun k h => by
          simp only [Option.map_eq_some_iff] at h
          obtain ⟨l', e1, e2⟩ := h
          exact ⟨l', e1, e2.symm⟩
        split at h
        · rename_i k hu
          obtain ⟨l', e1, rfl⟩ := fin_ 0 h
          simp only [fo] at h2
          split at h2
          · rename_i ka a kb b ea eb
            split at h2
            · rename_i hk; obtain ⟨_, rfl⟩ := hk
              simp only [Option.map_eq_some_iff] at h2
              obtain ⟨q', e2, e3⟩ := h2
              exact step _ _ _ q' l' ea eb (run_equalIn_int w d f.type ka k a b hu) e1 e2 (by rw [← e3]; by_cases e : a = b <;> simp [e])
            · cases h2
          · split at h2
            · omega
            · cases h2
          · split at h2
            · omega
            · cases h2
          · cases h2
        · rename_i hu
          obtain ⟨l', e1, rfl⟩ := fin_ 1 h
          simp only [fo] at h2
          split at h2
          · split at h2
            · omega
            · cases h2
          · rename_i a b ea eb
            split at h2
            · skip
              simp only [Option.map_eq_some_iff] at h2
              obtain ⟨q', e2, e3⟩ := h2
              exact step _ _ _ q' l' ea eb (run_equalIn_string w d f.type a b hu) e1 e2 (e3.symm)
            · cases h2
          · split at h2
            · omega
            · cases h2
          · cases h2
        · rename_i hu
          obtain ⟨l', e1, rfl⟩ := fin_ 2 h
          simp only [fo] at h2
          split at h2
          · split at h2
            · omega
            · cases h2
          · split at h2
            · omega
            · cases h2
          · rename_i a b ea eb
            split at h2
            · skip
              simp only [Option.map_eq_some_iff] at h2
              obtain ⟨q', e2, e3⟩ := h2
              exact step _ _ _ q' l' ea eb (run_equalIn_bool' w d f.type a b hu) e1 e2 (e3.symm)
            · cases h2
          · cases h2
        · cases h
      · cases h
def iz (P : Program) (op : BinOp) (t : TypeId) (x y : Value) (K : Value → Prop) : Prop :=
  match x, y with
  | .int k a, .int k' b => (match op with
    | .shl => 0 ≤ b ∧ K (.int k (k.wrap (a * 2 ^ min b.toNat k.bits)))
    | .shr => 0 ≤ b ∧ K (.int k (a.fdiv (2 ^ min b.toNat k.bits)))
    | .add => k = k' ∧ K (.int k (k.wrap (a + b)))
    | .sub => k = k' ∧ K (.int k (k.wrap (a - b)))
    | .mul => k = k' ∧ K (.int k (k.wrap (a * b)))
    | .quo => k = k' ∧ b ≠ 0 ∧ K (.int k (k.wrap (a.tdiv b)))
    | .rem => k = k' ∧ b ≠ 0 ∧ K (.int k (a.tmod b))
    | .and => k = k' ∧ K (.int k (bI .and k a b))
    | .or => k = k' ∧ K (.int k (bI .or k a b))
    | .xor => k = k' ∧ K (.int k (bI .xor k a b))
    | .andNot => k = k' ∧ K (.int k (bI .andNot k a b))
    | .eql => k = k' ∧ K (.bool (decide (a = b)))
    | .neq => k = k' ∧ K (.bool (decide (a ≠ b)))
    | .lss => k = k' ∧ K (.bool (decide (a < b)))
    | .leq => k = k' ∧ K (.bool (decide (a ≤ b)))
    | .gtr => k = k' ∧ K (.bool (decide (b < a)))
    | .geq => k = k' ∧ K (.bool (decide (b ≤ a))))
  | .string a, .string b => (match op with
    | .add => a.size + b.size ≤ 9223372036854775807 ∧ K (.string (a ++ b))
    | .eql => K (.bool (a.toList == b.toList))
    | .neq => K (.bool (!(a.toList == b.toList)))
    | .lss => K (.bool (Op.bytesLess a.toList b.toList))
    | .leq => K (.bool (Op.bytesLess a.toList b.toList || a.toList == b.toList))
    | .gtr => K (.bool (!(Op.bytesLess a.toList b.toList || a.toList == b.toList)))
    | .geq => K (.bool (!(Op.bytesLess a.toList b.toList)))
    | _ => False)
  | .bool a, .bool b => (match op with
    | .eql => P.underlying t = some .bool ∧ K (.bool (a == b))
    | .neq => P.underlying t = some .bool ∧ K (.bool (!(a == b)))
    | _ => False)
  | .pointer p, .pointer none => (match op, P.underlying t with
    | .eql, some (.pointer _) => K (.bool p.isNone)
    | .neq, some (.pointer _) => K (.bool (!p.isNone))
    | _, _ => False)
  | .slice p _ _, .slice none _ _ => (match op, P.underlying t with
    | .eql, some (.slice _) => K (.bool p.isNone)
    | .neq, some (.slice _) => K (.bool (!p.isNone))
    | _, _ => False)
  | .agg xs, .agg ys => (match op, pG P t xs ys with
    | .eql, some q => K (.bool q)
    | .neq, some q => K (.bool (!q))
    | _, _ => False)
  | _, _ => False
theorem run_equal_bool {P : Program} {t : TypeId} (hu : P.underlying t = some .bool) (a b : Bool) (w : World) : (Op.equal t (.bool a) (.bool b)).run P w = .ok (a == b) w := by
  have h : ∀ d, (Op.equalIn (d + 1) t (.bool a) (.bool b)).run P w = .ok (a == b) w := fun d => by simp [Op.equalIn, run_underlying hu]
  exact h 9999
theorem lS {P : Program} {t e : TypeId} (hu : P.underlying t = some (.pointer e)) (p : Option Addr) (w : World) : (Op.equal t (.pointer p) (.pointer none)).run P w = .ok p.isNone w := by
  have h : ∀ d, (Op.equalIn (d + 1) t (.pointer p) (.pointer none)).run P w = .ok p.isNone w := fun d => by cases p <;> simp [Op.equalIn, run_underlying hu]
  exact h 9999
theorem km {P : Program} {t e : TypeId} (hu : P.underlying t = some (.slice e)) (p : Option Addr) (n c n' c' : Nat) (w : World) : (Op.equal t (.slice p n c) (.slice none n' c')).run P w = .ok p.isNone w := by
  have h : ∀ d, (Op.equalIn (d + 1) t (.slice p n c) (.slice none n' c')).run P w = .ok p.isNone w := fun d => by cases p <;> simp [Op.equalIn, run_underlying hu]
  exact h 9999
theorem xt {P : Program} {op : BinOp} {t : TypeId} {ox oy : Operand} {x y : Value} {h : Hp} {K : Value → Prop} (hb : iz P op t x y K) :
    PG P (do eqGuard op t ox oy x y; binOp op t x y) h K := by
  unfold iz at hb
  split at hb
  · rename_i k a k' b
    cases op <;> simp only at hb
    case shl => exact .here (fun w _ => by simp [eqGuard, binOp, Op.shift, Int.not_lt.2 hb.1]) hb.2
    case shr => exact .here (fun w _ => by simp [eqGuard, binOp, Op.shift, Int.not_lt.2 hb.1]) hb.2
    all_goals obtain ⟨rfl, hb⟩ := hb
    case quo => exact .here (fun w _ => by simp [eqGuard, binOp, Op.intDiv, hb.1]) hb.2
    case rem => exact .here (fun w _ => by simp [eqGuard, binOp, Op.intDiv, hb.1]) hb.2
    all_goals refine .here (fun w _ => ?_) hb
    all_goals simp [eqGuard, binOp, Op.intArith, Op.intBits, bI, Op.intCmp, GT.gt, GE.ge]
    case neq => by_cases e : a = b <;> simp [e, bne]
    all_goals (by_cases e : a = b <;> simp [e])
  · rename_i a b
    cases op <;> simp only at hb
    case add =>
      have h2 : ¬ (((a.size + b.size : Nat) : Int) > IntKind.i64.max) := by
        have : IntKind.i64.max = 9223372036854775807 := by decide
        omega
      exact .here (fun w _ => by simp only [eqGuard, binOp, Op.stringOp, h2, if_false]; simp) hb.2
    all_goals first | exact hb.elim | exact .here (fun w _ => by simp [eqGuard, binOp, Op.stringOp]) hb
  · rename_i a b
    cases op <;> simp only at hb
    case eql => exact .here (fun w _ => by simp [eqGuard, binOp, run_equal_bool hb.1]) hb.2
    case neq => exact .here (fun w _ => by simp [eqGuard, binOp, run_equal_bool hb.1]) hb.2
  · rename_i p
    split at hb
    · rename_i hu
      exact .here (fun w _ => by simp [eqGuard, binOp, lS hu]) hb
    · rename_i hu
      exact .here (fun w _ => by simp [eqGuard, binOp, lS hu]) hb
    · exact hb.elim
  · rename_i p n c n' c'
    split at hb
    · rename_i hu
      exact .here (fun w _ => by simp [eqGuard, binOp, km hu]) hb
    · rename_i hu
      exact .here (fun w _ => by simp [eqGuard, binOp, km hu]) hb
    · exact hb.elim
  · rename_i xs ys
    have key : ∀ q, pG P t xs ys = some q → (∀ w, (Op.equalIn 10000 t (.agg xs) (.agg ys)).run P w = .ok q w) ∧ P.eqGuardType P.depth t = false := fun q hq => by
      simp only [pG, Option.bind_eq_some_iff] at hq
      obtain ⟨l, hl, hq⟩ := hq
      unfold eo at hl
      split at hl
      · rename_i fs hu
        split at hl
        · rename_i hg
          have hf : P.fieldsOf t = fs := by simp [Program.fieldsOf, hu]
          refine ⟨fun w => ?_, hg.2⟩
          rw [run_equalIn_struct w 9999 t xs ys (by rw [hf]; exact hu) hg.1, hf]
          exact jf 9998 _ l q hl hq w
        · cases hl
      · cases hl
    split at hb
    · rename_i q hq
      obtain ⟨h1, h2⟩ := key q hq
      exact .here (fun w _ => by simp only [Sem.run_bind, run_eqGuard_agg w _ t ox oy xs ys h2, Result.andThen_ok, run_eql_struct, h1 w]) hb
    · rename_i q hq
      obtain ⟨h1, h2⟩ := key q hq
      exact .here (fun w _ => by simp only [Sem.run_bind, run_eqGuard_agg w _ t ox oy xs ys h2, Result.andThen_ok, run_neq_struct, h1 w]) hb
    · exact hb.elim
  · exact hb.elim
def aun (op : UnOp) (x : Value) (K : Value → Prop) : Prop :=
  match op, x with
  | .not, .bool b => K (.bool (!b))
  | .neg, .int k n => K (.int k (k.wrap (0 - n)))
  | .xor, .int k n => K (.int k (bI .xor k (if k.signed then -1 else k.max) n))
  | _, _ => False
theorem Ak {P : Program} {op : UnOp} {x : Value} {h : Hp} {K : Value → Prop} (hb : aun op x K) : PG P (Op.unary op x) h K := by
  unfold aun at hb
  split at hb
  · exact .here (fun w _ => by simp [Op.unary]) hb
  · exact .here (fun w _ => by simp [Op.unary, Op.intArith]) hb
  · exact .here (fun w _ => by simp [Op.unary, Op.intBits, bI]) hb
  · exact hb.elim
end Go.Proofs.Ythjggjhebbdkdaa
namespace Go.Proofs.Ythjggjhebbdkdaa
open Go Go.RowKit
def fJ (P : Program) (t : TypeId) (a : Value) (h : Hp) (K : Value → Prop) : Prop :=
  match a with
  | .pointer (some ⟨b, o, none⟩) => (match h.f b with
    | some (.cells c _ _) => (match aJ P t with
      | some false => (match c[o]? with
        | some v => K v
        | none => False)
      | some true => (match ah P t with
        | some n => (match b6 c o n with
          | some l => K (.agg l.toArray)
          | none => False)
        | none => False)
      | none => False)
    | _ => False)
  | _ => False
theorem oo {P : Program} {t : TypeId} {a : Value} {h : Hp} {K : Value → Prop} (hk : fJ P t a h K) : PG P (Instr.loadAt t a) h K := by
  unfold fJ at hk
  split at hk
  · rename_i b o
    split at hk
    · rename_i c e fz he
      split at hk
      · rename_i ha
        split at hk
        · rename_i v hv
          refine .here (fun w hi => ?_) hk
          have hc := (hi.cell (i := o) he).trans hv
          simp [Instr.loadAt, Instr.sureAddr, loadVar, ir ha, Go.load, Sem.run, hc]
        · exact hk.elim
      · rename_i ha
        split at hk
        · rename_i n hn
          split at hk
          · rename_i l hl
            refine .here (fun w hi => ?_) hk
            simp [Instr.loadAt, Instr.sureAddr, loadVar, ir ha, run_sizeOf hn, run_loadCells (P := P) (w := w) (fun i => hi.cell (i := i) he) hl]
          · exact hk.elim
        · exact hk.elim
      · exact hk.elim
    · exact hk.elim
  · exact hk.elim
def kG (P : Program) (t : TypeId) (a v : Value) (h : Hp) (K : KH) : Prop :=
  match a with
  | .pointer (some ⟨b, o, none⟩) => (match h.f b with
    | some (.cells c e fz) => ah P t = some v.cells.size ∧ (v.cells.toList.all Value.oneCell' = true) ∧ o + v.cells.size ≤ c.size ∧ mQ fz o v.cells.size ∧ K undef (h.put b (.cells (cV c o v.cells.toList) e fz))
    | _ => False)
  | _ => False
theorem sV {P : Program} {t : TypeId} {a v : Value} {h : Hp} {K : KH} (hk : kG P t a v h K) (w : World) (hi : Is w h) :
    ∃ w' h', (Instr.storeAt t a v).run P w = .ok () w' ∧ Is w' h' ∧ bq w w' ∧ K undef h' := by
  unfold kG at hk
  split at hk
  · rename_i b o
    split at hk
    · rename_i c e fz he
      obtain ⟨hs, h1, hb, hf, hk⟩ := hk
      obtain ⟨w', hr, hi', hsame⟩ := fm (P := P) v.cells.toList w h c o 0 (fun x hx => List.all_eq_true.1 h1 x hx) (by simpa using hb) (by simpa using hf) hi he
      refine ⟨w', _, ?_, hi', hsame, by simpa using hk⟩
      simp [Instr.storeAt, Instr.sureAddr, storeVar, run_sizeOf hs, hr]
    · exact hk.elim
  · exact hk.elim
def dN (P : Program) (s : TypeId) (a : Value) (i : Nat) (K : Value → Prop) : Prop :=
  match a, ai P s i with
  | .pointer (some ⟨b, o, none⟩), some (_, off) => K (.pointer (some ⟨b, o + off, none⟩))
  | _, _ => False
theorem mR {P : Program} {s t : TypeId} {i off : Nat} (h : ai P s i = some (t, off)) :
    ∃ fs f n, P.underlying s = some (.struct fs) ∧ fs[i]? = some f ∧ f.type = t ∧ f.offset = off ∧ ah P t = some (n + 1) := by
  unfold ai at h
  split at h
  · rename_i fs hu
    split at h
    · rename_i f hf
      split at h
      · rename_i n hn
        simp only [Option.some.injEq, Prod.mk.injEq] at h
        obtain ⟨h1, h2⟩ := h
        subst h1 h2
        exact ⟨fs, f, n, hu, hf, rfl, rfl, hn⟩
      · cases h
    · cases h
  · cases h
theorem nH {P : Program} {s : TypeId} {a : Value} {i : Nat} {h : Hp} {K : Value → Prop} (hk : dN P s a i K) : PG P (Instr.fieldAt s a i) h K := by
  unfold dN at hk
  split at hk
  · rename_i b o t off ht
    obtain ⟨fs, f, n, hu, hf, rfl, rfl, hn⟩ := mR ht
    refine .here (fun w hi => ?_) hk
    simp [Instr.fieldAt, run_underlying hu, hf, Instr.sureAddr, fieldPlace, run_sizeOf hn, iy]
  · exact hk.elim
def jL (P : Program) (t : TypeId) (cs : Array Value) (off : Nat) (K : Value → Prop) : Prop :=
  match aJ P t with
  | some false => (match cs[off]? with
    | some v => K v
    | none => False)
  | some true => (match ah P t with
    | some n => K (.agg (cs.extract off (off + n)))
    | none => False)
  | none => False
theorem oq {P : Program} {t : TypeId} {cs : Array Value} {off : Nat} {h : Hp} {K : Value → Prop} (hk : jL P t cs off K) : PG P (part t cs off) h K := by
  unfold jL at hk
  split at hk
  · rename_i ha
    split at hk
    · rename_i v hv
      exact .here (fun w _ => by simp [part, ir ha, hv]) hk
    · exact hk.elim
  · rename_i ha
    split at hk
    · rename_i n hn
      exact .here (fun w _ => by simp [part, ir ha, run_sizeOf hn]) hk
    · exact hk.elim
  · exact hk.elim
def l8 (P : Program) (s : TypeId) (x : Value) (i : Nat) (K : Value → Prop) : Prop :=
  match x, ai P s i with
  | .agg cs, some (t, off) => jL P t cs off K
  | _, _ => False
theorem sW {P : Program} {s : TypeId} {x : Value} {i : Nat} {h : Hp} {K : Value → Prop} (hk : l8 P s x i K) : PG P (Instr.field s x i) h K := by
  unfold l8 at hk
  split at hk
  · rename_i cs t off ht
    obtain ⟨fs, f, n, hu, hf, rfl, rfl, hn⟩ := mR ht
    obtain ⟨v, hv, hr⟩ := oq (h := h) hk
    exact ⟨v, hv, fun w hi => by simpa [Instr.field, run_underlying hu, hf, asAgg] using hr w hi⟩
  · exact hk.elim
def bY (P : Program) (t : TypeId) (x ix : Value) (K : Value → Prop) : Prop :=
  match ix with
  | .int _ i => (match P.underlying t, x with
    | some (.slice e), .slice (some ⟨b, o, none⟩) len _ => 0 ≤ i ∧ i < (len : Int) ∧ (match ah P e with
      | some k => K (.pointer (some ⟨b, o + i.toNat * k, none⟩))
      | none => False)
    | some (.array len e), .pointer (some ⟨b, o, none⟩) => 0 ≤ i ∧ i < (len : Int) ∧ (match ah P e with
      | some k => K (.pointer (some ⟨b, o + i.toNat * k, none⟩))
      | none => False)
    | _, _ => False)
  | _ => False
theorem nI {P : Program} {t : TypeId} {x ix : Value} {h : Hp} {K : Value → Prop} (hk : bY P t x ix K) : PG P (Instr.indexAt t x ix) h K := by
  unfold bY at hk
  split at hk
  · rename_i kk i
    split at hk
    · rename_i e b o len cap hu
      obtain ⟨h0, h1, hk⟩ := hk
      split at hk
      · rename_i k hn
        exact .here (fun w _ => by simp [Instr.indexAt, asIntOf, run_underlying hu, h0, h1, run_sizeOf hn, iy]) hk
      · exact hk.elim
    · rename_i len e b o hu
      obtain ⟨h0, h1, hk⟩ := hk
      split at hk
      · rename_i k hn
        exact .here (fun w _ => by simp [Instr.indexAt, asIntOf, run_underlying hu, h0, h1, run_sizeOf hn, iy, Instr.sureAddr]) hk
      · exact hk.elim
    · exact hk.elim
  · exact hk.elim
def gW (P : Program) (t : TypeId) (x ix : Value) (K : Value → Prop) : Prop :=
  match ix with
  | .int _ i => (match P.underlying t, x with
    | some (.array len e), .agg cs => 0 ≤ i ∧ i < (len : Int) ∧ (match ah P e with
      | some k => jL P e cs (i.toNat * k) K
      | none => False)
    | some .string, .string s => 0 ≤ i ∧ (match s.toList[i.toNat]? with
      | some b => K (.int .u8 b.toNat)
      | none => False)
    | _, _ => False)
  | _ => False
theorem pH (s : ByteArray) (i : Nat) : s[i]? = s.toList[i]? := by
  rw [ByteArray.toList_eq]
  by_cases hlt : i < s.size
  · rw [getElem?_pos s i hlt, List.getElem?_eq_getElem (by simpa using hlt)]; rfl
  · rw [getElem?_neg s i hlt, List.getElem?_eq_none (by simpa using hlt)]
theorem sX {P : Program} {t : TypeId} {x ix : Value} {h : Hp} {K : Value → Prop} (hk : gW P t x ix K) : PG P (Instr.index t x ix) h K := by
  unfold gW at hk
  split at hk
  · rename_i kk i
    split at hk
    · rename_i len e cs hu
      obtain ⟨h0, h1, hk⟩ := hk
      split at hk
      · rename_i k hn
        obtain ⟨v, hv, hr⟩ := oq (h := h) hk
        exact ⟨v, hv, fun w hi => by simpa [Instr.index, asIntOf, run_underlying hu, h0, h1, run_sizeOf hn] using hr w hi⟩
      · exact hk.elim
    · rename_i s hu
      obtain ⟨h0, hk⟩ := hk
      split at hk
      · rename_i b hb
        exact .here (fun w _ => by simp [Instr.index, asIntOf, run_underlying hu, h0, pH, hb]) hk
      · exact hk.elim
    · exact hk.elim
  · exact hk.elim
def iA (x : Value) (i : Nat) (K : Value → Prop) : Prop :=
  match x with
  | .tuple vs => (match vs[i]? with
    | some v => K v
    | none => False)
  | _ => False
theorem pI {P : Program} {x : Value} {i : Nat} {h : Hp} {K : Value → Prop} (hk : iA x i K) : PG P (Instr.extract x i) h K := by
  unfold iA at hk
  split at hk
  · split at hk
    · rename_i v hv
      exact .here (fun w _ => by simp [Instr.extract, hv]) hk
    · exact hk.elim
  · exact hk.elim
def B1 (e : TypeId) (cs : Array Value) (h : Hp) (K : KH) : Prop := K (.pointer (some ⟨h.n, 0, none⟩)) ((h.put h.n (.cells cs e (0, 0))).to (h.n + 1))
theorem iB {P : Program} (e : TypeId) (cs : Array Value) {w : World} {h : Hp} (hi : Is w h) : (newRow e cs).run P w = .ok ⟨h.n, 0, none⟩ { w with heap := w.heap.push (.cells cs e (0, 0)) } := by
  simp only [newRow, newObj, Sem.run_bind]
  rw [show (Sem.new (.cells cs e) .pure).run P w = .ok w.heap.size { w with heap := w.heap.push (.cells cs e (0, 0)) } from by simp [Sem.run]]
  simp [hi.1]
theorem pJ {P : Program} {e : TypeId} {cs : Array Value} {h : Hp} {K : KH} (hk : B1 e cs h K) : fI P (do pure (.pointer (some (← newRow e cs)))) h K := fun w hi =>
  ⟨_, _, _, by simp only [Sem.run_bind, iB e cs hi]; rfl, hi.push _, bq.push _ _, hk⟩
def nJ (P : Program) (e : TypeId) (h : Hp) (K : KH) : Prop :=
  match au P e with
  | some z => B1 e z.cells h K
  | none => False
theorem sY {P : Program} {e : TypeId} {h : Hp} {K : KH} (hk : nJ P e h K) : fI P (Instr.alloc e true (.tuple #[])) h K := by
  unfold nJ at hk
  split at hk
  · rename_i z hz
    intro w hi
    obtain ⟨v, w', h', hr, r⟩ := pJ hk w hi
    exact ⟨v, w', h', by simpa [Instr.alloc, dG hz, newVar] using hr, r⟩
  · exact hk.elim
def mS (place : Nat → Option (Nat × Nat)) (cells : Array Value) : List (Nat × Value) → Option (Array Value)
  | [] => some cells
  | (i, v) :: rest => (match place i with
    | none => none
    | some (off, size) => if v.cells.size = size ∧ off + size ≤ cells.size then mS place (cV cells off v.cells.toList) rest else none)
theorem rL : ∀ (l : List Value) (c : Array Value) (o k : Nat), (l.zipIdx k).foldl (fun cs (x : Value × Nat) => cs.setIfInBounds (o + x.2) x.1) c = cV c (o + k) l
  | [], c, o, k => rfl
  | x :: l, c, o, k => by
    simp only [List.zipIdx_cons, List.foldl_cons, cV]
    rw [rL l _ o (k + 1)]
    rfl
theorem mT (place : Nat → Option (Nat × Nat)) : ∀ (l : List (Nat × Value)) (cells r : Array Value), mS place cells l = some r → Instr.fill place cells l = some r
  | [], cells, r, h => h
  | (i, v) :: l, cells, r, h => by
    simp only [mS] at h
    split at h
    · cases h
    · rename_i off size hp
      split at h
      · rename_i hc
        have ih := mT place l _ r h
        simp only [Instr.fill, hp]
        rw [if_neg (by rw [hc.1]; simp; omega)]
        have := rL v.cells.toList cells off 0
        simp only [Nat.add_zero] at this
        rw [← this] at ih
        have e : v.cells.zipIdx.foldl (fun cs (x : Value × Nat) => cs.setIfInBounds (off + x.2) x.1) cells = v.cells.toList.zipIdx.foldl (fun cs (x : Value × Nat) => cs.setIfInBounds (off + x.2) x.1) cells := by
          rw [← Array.foldl_toList]; simp
        rw [← e] at ih
        exact ih
      · cases h
def fp (P : Program) (fs : Array Field) (i : Nat) : Option (Nat × Nat) := match fs[i]? with
  | some f => (ah P f.type).map fun s => (f.offset, s)
  | none => none
def ly (P : Program) (t : TypeId) (parts : List (Nat × Value)) : Option (Array Value) :=
  match au P t with
  | some z => (match P.underlying t with
    | some (.struct fs) => if (fs.toList.all fun f => (ah P f.type).isSome) = true then mS (fp P fs) z.cells parts else none
    | some (.array _ e) => (match ah P e with
      | some s => mS (fun i => some (i * s, s)) z.cells parts
      | none => none)
    | _ => none)
  | none => none
theorem run_places {P : Program} (w : World) : ∀ (l : List Field), (l.all fun f => (ah P f.type).isSome) = true →
    (l.mapM (fun f => (do pure (f.offset, ← sizeOf f.type) : Sem (Nat × Nat)))).run P w = .ok (l.map fun f => (f.offset, (ah P f.type).getD 0)) w
  | [], _ => by simp
  | f :: l, h => by
    simp only [List.all_cons, Bool.and_eq_true] at h
    obtain ⟨n, hn⟩ := Option.isSome_iff_exists.1 h.1
    rw [List.mapM_cons]
    simp only [Sem.run_bind, run_sizeOf hn, Result.andThen_ok, Sem.run_pure, run_places w l h.2, List.map_cons, hn, Option.getD_some]
theorem rB {P : Program} {t : TypeId} {parts : Array (Nat × Value)} {r : Array Value} (hb : ly P t parts.toList = some r) (w : World) : (Instr.build t parts).run P w = .ok (.agg r) w := by
  unfold ly at hb
  split at hb
  · rename_i z hz
    split at hb
    · rename_i fs hu
      split at hb
      · rename_i hall
        have hp := run_places (P := P) w fs.toList hall
        have hm : (fs.mapM (fun f => (do pure (f.offset, ← sizeOf f.type) : Sem (Nat × Nat)))).run P w = .ok (fs.map fun f => (f.offset, (ah P f.type).getD 0)) w := by
          rw [Array.mapM_eq_mapM_toList, Sem.run_map, hp]
          simp only [Result.andThen_ok]
          congr 1
          apply Array.ext'
          simp
        have hpl : (fun i => (fs.map fun f => (f.offset, (ah P f.type).getD 0))[i]?) = fp P fs := by
          funext i
          simp only [fp, Array.getElem?_map]
          cases hf : fs[i]? with
          | none => rfl
          | some f =>
            have : (ah P f.type).isSome = true := List.all_eq_true.1 hall f (by simpa using Array.mem_of_getElem? hf)
            obtain ⟨n, hn⟩ := Option.isSome_iff_exists.1 this
            simp [hn]
        have hfill := mT _ _ _ _ hb
        rw [← hpl] at hfill
        simp only [Instr.build, Sem.run_bind, dG hz, Result.andThen_ok, run_underlying hu, hm, hfill]
        rfl
      · cases hb
    · rename_i n e hu
      split at hb
      · rename_i s hs
        have hfill := mT _ _ _ _ hb
        simp only [Instr.build, Sem.run_bind, dG hz, Result.andThen_ok, run_underlying hu, run_sizeOf hs, hfill]
        rfl
      · cases hb
    · cases hb
  · cases hb
def b7 (z : List Value) : Nat → List Value
  | 0 => []
  | n + 1 => z ++ b7 z n
theorem ot (z : List Value) : ∀ n, b7 z (n + 1) = b7 z n ++ z
  | 0 => by simp [b7]
  | n + 1 => by
    show z ++ b7 z (n + 1) = (z ++ b7 z n) ++ z
    rw [ot z n, List.append_assoc]
theorem rM (z : Array Value) : ∀ n, (List.range (n * z.size)).map (fun i => z[i % z.size]!) = b7 z.toList n
  | 0 => by simp [b7]
  | n + 1 => by
    rw [ot, ← rM z n, Nat.succ_mul, List.range_add, List.map_append, List.map_map]
    congr 1
    apply List.ext_getElem
    · simp
    · intro i h1 h2
      have hi : i < z.size := by simpa using h1
      simp [Nat.mod_eq_of_lt hi, hi]
theorem fQ (z : Array Value) (n : Nat) : madeCells z (n * z.size) = (b7 z.toList n).toArray := by
  rw [← rM]
  unfold madeCells
  apply Array.ext'
  simp
def cS (P : Program) (t : TypeId) (len : Nat) (parts : List (Nat × Value)) : Option (TypeId × Array Value) :=
  match P.underlying t with
  | some (.slice e) => (match ah P e, au P e with
    | some s, some z => if len * s ≤ 16777216 ∧ z.cells.size = s then (mS (fun i => some (i * s, s)) (b7 z.cells.toList len).toArray parts).map (e, ·) else none
    | _, _ => none)
  | _ => none
theorem l9 {P : Program} {t : TypeId} {len : Nat} {parts : Array (Nat × Value)} {e : TypeId} {r : Array Value} (hb : cS P t len parts.toList = some (e, r)) {h : Hp} {K : KH}
    (hk : K (.slice (some ⟨h.n, 0, none⟩) len len) ((h.put h.n (.cells r e (0, 0))).to (h.n + 1))) : fI P (Instr.buildSlice t len parts) h K := by
  unfold cS at hb
  split at hb
  · rename_i e' hu
    split at hb
    · rename_i s z hs hz
      split at hb
      · rename_i hle
        simp only [Option.map_eq_some_iff, Prod.mk.injEq] at hb
        obtain ⟨r', hf, rfl, rfl⟩ := hb
        have hfill := mT _ _ _ _ hf
        intro w hi
        refine ⟨_, _, _, ?_, hi.push _, bq.push _ _, hk⟩
        obtain ⟨hle, hsz⟩ := hle
        simp only [Instr.buildSlice, Sem.run_bind, run_underlying hu, Result.andThen_ok, run_sizeOf hs]
        rw [if_neg (by omega)]
        rw [← fQ, hsz] at hfill
        by_cases h0 : len * s = 0
        · rw [h0] at hfill ⊢
          have e0 : madeCells z.cells 0 = #[] := by simp [madeCells, Array.range_zero']
          rw [e0] at hfill
          simp only [if_true, Sem.run_bind, Sem.run_pure, Result.andThen_ok, Array.range_zero', Array.map_empty]
          rw [hfill]
          simp only [Sem.run_bind, iB e' r' hi, Result.andThen_ok]
          rfl
        · simp only [madeCells] at hfill
          simp only [h0, if_false, Sem.run_bind, Sem.run_pure, dG hz, Result.andThen_ok]
          rw [hfill]
          simp only [Sem.run_bind, iB e' r' hi, Result.andThen_ok]
          rfl
      · cases hb
    · cases hb
  · cases hb
def Al (P : Program) (op : BinOp) (t : TypeId) (a b : Addr) (h : Hp) (K : Value → Prop) : Prop :=
  match op, P.underlying t with
  | .eql, some (.pointer e) => (∃ k, ah P e = some (k + 1)) ∧ (a = b ∨ (∃ ca ta cb tb, h.f a.block = some (.cells ca ta (0, 0)) ∧ h.f b.block = some (.cells cb tb (0, 0)))) ∧ K (.bool (decide (a = b)))
  | .neq, some (.pointer e) => (∃ k, ah P e = some (k + 1)) ∧ (a = b ∨ (∃ ca ta cb tb, h.f a.block = some (.cells ca ta (0, 0)) ∧ h.f b.block = some (.cells cb tb (0, 0)))) ∧ K (.bool (!decide (a = b)))
  | _, _ => False
def gH (P : Program) (op : BinOp) (t : TypeId) (x y : Value) (h : Hp) (K : Value → Prop) : Prop :=
  match x, y with
  | .pointer (some a), .pointer (some b) => Al P op t a b h K
  | x, y => iz P op t x y K
theorem oR {P : Program} {a b : Addr} {w : World} {h : Hp} (hi : Fits w h) (hc : a = b ∨ (∃ ca ta cb tb, h.f a.block = some (.cells ca ta (0, 0)) ∧ h.f b.block = some (.cells cb tb (0, 0)))) : (sameAddr a b).run P w = .ok (decide (a = b)) w := by
  by_cases e : a = b
  · subst e; simp [sameAddr]
  · obtain ⟨ca, ta, cb, tb, h1, h2⟩ := hc.resolve_left e
    rw [run_sameAddr_other w e (hi _ _ h1) (hi _ _ h2)]
    simp [e]
theorem uO {P : Program} {op : BinOp} {t : TypeId} {ox oy : Operand} {x y : Value} {h : Hp} {K : Value → Prop} (hb : gH P op t x y h K) :
    PG P (do eqGuard op t ox oy x y; binOp op t x y) h K := by
  unfold gH at hb
  split at hb
  · rename_i a b
    have key : ∀ {e k}, P.underlying t = some (.pointer e) → ah P e = some (k + 1) → (a = b ∨ (∃ ca ta cb tb, h.f a.block = some (.cells ca ta (0, 0)) ∧ h.f b.block = some (.cells cb tb (0, 0)))) → ∀ w, Fits w h → (Op.equal t (.pointer (some a)) (.pointer (some b))).run P w = .ok (decide (a = b)) w := fun hu hs hc w hw => by
      have h : ∀ d, (Op.equalIn (d + 1) t (.pointer (some a)) (.pointer (some b))).run P w = .ok (decide (a = b)) w := fun d => by
        simp [Op.equalIn, run_underlying hu, run_sizeOf hs, oR hw hc]
      exact h 9999
    unfold Al at hb
    split at hb
    · rename_i e hu
      obtain ⟨⟨k, hs⟩, hc, hk⟩ := hb
      exact .here (fun w hw => by simp [eqGuard, binOp, key hu hs hc w hw]) hk
    · rename_i e hu
      obtain ⟨⟨k, hs⟩, hc, hk⟩ := hb
      exact .here (fun w hw => by simp [eqGuard, binOp, key hu hs hc w hw]) hk
    · exact hb.elim
  · exact xt hb
end Go.Proofs.Ythjggjhebbdkdaa
namespace Go.Proofs.Ythjggjhebbdkdaa
open Go Go.RowKit
def bytesOf : List Value → Option (List UInt8)
  | [] => some []
  | .int .u8 n :: l => if 0 ≤ n ∧ n < 256 then (bytesOf l).map (UInt8.ofNat n.toNat :: ·) else none
  | _ => none
def da (s : ByteArray) : Array Value := s.data.map fun b => .int .u8 b.toNat
theorem jM : ∀ (l : List Value) (bs : List UInt8), bytesOf l = some bs → ∃ ns : List Int, l = ns.map (Value.int .u8) ∧ bs = ns.map fun n => UInt8.ofNat n.toNat
  | [], bs, h => by injection h with h; subst h; exact ⟨[], rfl, rfl⟩
  | v :: l, bs, h => by
    unfold bytesOf at h
    split at h
    · injection h with h; subst h; rename_i e; cases e
    · rename_i n l' e
      injection e with e1 e2
      subst e1 e2
      split at h
      · simp only [Option.map_eq_some_iff] at h
        obtain ⟨bs', hb, rfl⟩ := h
        obtain ⟨ns, rfl, rfl⟩ := jM l bs' hb
        exact ⟨n :: ns, rfl, rfl⟩
      · cases h
    · cases h
def eV (P : Program) (src dst : TypeId) (x : Value) (h : Hp) (K : KH) : Prop :=
  match x with
  | .int _ n => (match P.underlying src, P.underlying dst with
    | some (.int _), some (.int k) => K (.int k (k.wrap n)) h
    | _, _ => False)
  | .string s => (match P.underlying src, P.underlying dst with
    | some .string, some .string => K (.string s) h
    | some .string, some (.slice e) => P.underlying e = some (.int .u8) ∧ ∀ cap, s.size ≤ cap →
      K (.slice (some ⟨h.n, 0, none⟩) s.size cap) ((h.put h.n (.cells (da s ++ Array.replicate (cap - s.size) (.int .u8 0)) e (cap, cap + 1))).to (h.n + 1))
    | _, _ => False)
  | .slice base len _ => (match P.underlying src, P.underlying dst with
    | some (.slice e), some .string => P.underlying e = some (.int .u8) ∧ (match base with
      | none => K (.string ByteArray.empty) h
      | some ⟨b, o, none⟩ => (match h.f b with
        | some (.cells c _ _) => (match (b6 c o len).bind bytesOf with
          | some bs => K (.string ⟨bs.toArray⟩) h
          | none => False)
        | _ => False)
      | _ => False)
    | _, _ => False)
  | _ => False
theorem Is.freeze {w : World} {h : Hp} {b n : Nat} {c : Array Value} {t : TypeId} (hi : Is w h) (e : h.f b = some (.cells c t (0, 0))) :
    Is (w.freeze ⟨b, n, none⟩ 1) (h.put b (.cells c t (n, n + 1))) := by
  have h1 := hi.2 b _ e
  unfold World.freeze
  rw [if_neg (by omega)]
  refine hi.set e (by simp) ?_ (fun x hx => ?_)
  · simp [Array.getElem?_modify, h1]
  · have : ¬ b = x := fun e => hx e.symm
    simp [Array.getElem?_modify, this]
theorem uP {P : Program} {src dst : TypeId} {x : Value} {h : Hp} {K : KH} (hk : eV P src dst x h K) : fI P (convert src dst x) h K := by
  unfold eV at hk
  split at hk
  · rename_i k n
    split at hk
    · rename_i k1 k2 h1 h2
      exact PG.uN (.here (fun w _ => by simp [convert, run_underlying h1, run_underlying h2, Conv.intToInt]) hk)
    · exact hk.elim
  · rename_i s
    split at hk
    · rename_i h1 h2
      exact PG.uN (.here (fun w _ => by simp [convert, run_underlying h1, run_underlying h2]) hk)
    · rename_i e h1 h2
      obtain ⟨he, hk⟩ := hk
      intro w hi
      let cap := (Question.appendCap s.size 0 e).cut (w.tape w.drawn (.appendCap s.size 0 e))
      have hcap : s.size ≤ cap := Nat.le_add_right _ _
      let w1 : World := { w with drawn := w.drawn + 1 }
      have hi1 : Is w1 h := hi
      let cells := da s ++ Array.replicate (cap - s.size) (.int .u8 0)
      have hsz : cells.size = cap := by
        have : s.size = s.data.size := rfl
        simp only [cells, da, Array.size_append, Array.size_map, Array.size_replicate]
        omega
      have hi2 := hi1.push (.cells cells e (0, 0))
      have hi3 := hi2.freeze (b := h.n) (n := cap) (c := cells) (t := e) (by simp [Hp.to, Hp.put])
      refine ⟨.slice (some ⟨h.n, 0, none⟩) s.size cap, _, _, ?_, hi3, ⟨rfl, rfl, rfl⟩, ?_⟩
      · have hshape : ({ w1 with heap := w1.heap.push (.cells cells e (0, 0)) } : World).shape? h.n = some (e, cap) := by
          have := hi2.2 h.n _ (by simp [Hp.to, Hp.put]; rfl)
          simp only [World.shape?, this, hsz]
        simp only [convert, Sem.run_bind, run_underlying h1, run_underlying h2, Result.andThen_ok, run_underlying he, Conv.stringToBytes]
        rw [show (choose (.appendCap s.size 0 e)).run P w = .ok cap w1 from by simp [choose, Sem.run, Question.forced]; exact ⟨rfl, rfl⟩]
        simp only [Result.andThen_ok]
        rw [show (s.data.map fun b => Value.int .u8 (b.toNat : Int)) = da s from rfl]
        rw [iB e _ hi1]
        simp only [Result.andThen_ok, markStringish, Sem.run_bind]
        have hsh : (Go.shape h.n).run P ({ w1 with heap := w1.heap.push (.cells cells e (0, 0)) } : World) = .ok (some (e, cap)) ({ w1 with heap := w1.heap.push (.cells cells e (0, 0)) } : World) := by simp only [Go.shape, Sem.run, hshape]
        rw [hsh]
        rfl
      · have := hk cap hcap
        rw [B0, sU]
        exact this
    · exact hk.elim
  · rename_i base len cap
    split at hk
    · rename_i e h1 h2
      obtain ⟨he, hk⟩ := hk
      split at hk
      · refine PG.uN (.here (fun w _ => ?_) hk)
        exact run_convert_bytes_nil w src e h1 he _ _ dst h2
      · rename_i b o
        split at hk
        · rename_i c t fz hc
          split at hk
          · rename_i bs hb
            refine PG.uN (.here (fun w hi => ?_) hk)
            cases hl : b6 c o len with
            | none => rw [hl] at hb; cases hb
            | some l =>
              rw [hl] at hb
              obtain ⟨ns, rfl, rfl⟩ := jM l bs hb
              have hload := run_loadCells (P := P) (w := w) (fun i => hi.cell (i := i) hc) hl
              rw [run_convert_bytes_string w src dst e _ _ _ h1 he h2, run_bytesToString w _ _ _ ns hload, foldl_push_bytes]
              simp [ByteArray.empty, ByteArray.emptyWithCapacity]
              rfl
          · exact hk.elim
        · exact hk.elim
      · exact hk.elim
    · exact hk.elim
  · exact hk.elim
def bnd (v : Option Value) (d : Int) : Option Int := match v with
  | none => some d
  | some (.int _ i) => some i
  | _ => none
def pK (v : Option Value) (h m : Int) : Prop := match v with
  | none => True
  | some _ => h ≤ m
def fq (a : Option Addr) (l h m k : Nat) : Value := .slice (if m = l then a else a.map (·.add (l * k))) (h - l) (m - l)
def cI (P : Program) (t : TypeId) (x : Value) (lo hi mx : Option Value) (K : Value → Prop) : Prop :=
  match x with
  | .string s => P.underlying t = some .string ∧ mx.isSome = false ∧ (match bnd hi s.size, bnd lo 0 with
    | some h, some l => 0 ≤ l ∧ l ≤ h ∧ h ≤ s.size ∧ K (.string (s.extract l.toNat h.toNat))
    | _, _ => False)
  | .slice a len cap => (match P.underlying t with
    | some (.slice e) => (match ah P e, bnd mx cap, bnd hi len, bnd lo 0 with
      | some k, some m, some h, some l => (mx.isSome = true → hi.isSome = true) ∧ 0 ≤ l ∧ l ≤ h ∧ pK hi h m ∧ m ≤ (cap : Int) ∧ K (fq a l.toNat h.toNat m.toNat k)
      | _, _, _, _ => False)
    | _ => False)
  | _ => False
theorem B2 (v : Value) (d : Int) : bnd (some v) d = bnd (some v) 0 := by cases v <;> rfl
theorem iu {P : Program} {v : Value} {i : Int} {y : Nat} {code : BoundsCode} {w : World} (hv : bnd (some v) 0 = some i) (h0 : 0 ≤ i) (h1 : i ≤ (y : Int)) : (Instr.sliceBound v y code).run P w = .ok i.toNat w := by
  unfold bnd at hv
  split at hv
  · rename_i e; cases e
  · rename_i k j e
    injection e with e; injection hv with hv
    subst e hv
    exact run_sliceBound w k j y code h0 h1
  · cases hv
theorem pL {P : Program} {q : Bool} {len cap : Nat} {lo hi mx : Option Value} {m h l : Int} {w : World} (hm : bnd mx cap = some m) (hh : bnd hi len = some h) (hl : bnd lo 0 = some l)
    (hx : mx.isSome = true → hi.isSome = true) (h0 : 0 ≤ l) (h1 : l ≤ h) (h2 : pK hi h m) (h3 : m ≤ (cap : Int)) :
    (Instr.sliceBounds q len cap lo hi mx).run P w = .ok (l.toNat, h.toNat, m.toNat) w := by
  unfold Instr.sliceBounds
  cases mx with
  | none =>
    injection hm with hm; subst hm
    cases hi with
    | none =>
      injection hh with hh; subst hh
      cases lo with
      | none => injection hl with hl; subst hl; simp
      | some v =>
        simp only [Sem.run_bind, Sem.run_pure, Result.andThen_ok]
        rw [iu (i := l) hl h0 h1]; simp
    | some u =>
      have hu : bnd (some u) 0 = some h := by rw [← hh]; exact (B2 _ _).symm
      simp only [pK] at h2
      simp only [Sem.run_bind, Sem.run_pure, Result.andThen_ok]
      rw [iu hu (by omega) h2]
      cases lo with
      | none => injection hl with hl; subst hl; simp
      | some v =>
        simp only [Result.andThen_ok, Sem.run_bind, Sem.run_pure]
        rw [iu (i := l) hl h0 (by omega)]; simp
  | some x =>
    cases hi with
    | none => simp at hx
    | some u =>
      have hu : bnd (some u) 0 = some h := by rw [← hh]; exact (B2 _ _).symm
      have hx' : bnd (some x) 0 = some m := by rw [← hm]; exact (B2 _ _).symm
      simp only [pK] at h2
      simp only [Sem.run_bind, Sem.run_pure, Result.andThen_ok]
      rw [iu hx' (by omega) h3]
      simp only [Result.andThen_ok, Sem.run_bind, Sem.run_pure]
      rw [iu hu (by omega) (by omega)]
      cases lo with
      | none => injection hl with hl; subst hl; simp
      | some v =>
        simp only [Result.andThen_ok, Sem.run_bind, Sem.run_pure]
        rw [iu (i := l) hl h0 (by omega)]; simp
theorem sZ {P : Program} {t : TypeId} {x : Value} {lo hi mx : Option Value} {h : Hp} {K : Value → Prop} (hk : cI P t x lo hi mx K) : PG P (Instr.sliceAt t x lo hi mx) h K := by
  unfold cI at hk
  split at hk
  · rename_i s
    obtain ⟨hu, hmx, hk⟩ := hk
    split at hk
    · rename_i hh l e1 e2
      obtain ⟨h0, h1, h2, hk⟩ := hk
      refine .here (fun w _ => ?_) hk
      have := pL (P := P) (q := false) (len := s.size) (cap := s.size) (lo := lo) (hi := hi) (mx := none) (m := s.size) (h := hh) (l := l) (w := w) rfl e1 e2 (by simp) h0 h1 (by unfold pK; split <;> trivial) (Int.le_refl _)
      simp [Instr.sliceAt, run_underlying hu, Instr.slice, hmx, this]
    · exact hk.elim
  · rename_i a len cap
    split at hk
    · rename_i e hu
      split at hk
      · rename_i k m hh l hs e0 e1 e2
        obtain ⟨hx, h0, h1, h2, h3, hk⟩ := hk
        refine .here (fun w _ => ?_) hk
        have := pL (P := P) (q := true) (w := w) e0 e1 e2 hx h0 h1 h2 h3
        simp [Instr.sliceAt, run_underlying hu, Instr.slice, this, run_sizeOf hs, fq]
      · exact hk.elim
    · exact hk.elim
  · exact hk.elim
def pM (P : Program) (t : TypeId) (len cap : Value) (h : Hp) (K : KH) : Prop :=
  match len, cap with
  | .int _ l, .int _ c => (match P.underlying t with
    | some (.slice e) => (match ah P e, an P e, au P e with
      | some k, some by', some z => 0 ≤ l ∧ l ≤ c ∧ (by' : Int) * c ≤ 281474976710656 ∧ c ≤ 9223372036854775807 ∧
        K (.slice (some ⟨h.n, 0, none⟩) l.toNat c.toNat) ((h.put h.n (.cells (madeCells z.cells (c.toNat * k)) e (0, 0))).to (h.n + 1))
      | _, _, _ => False)
    | _ => False)
  | _, _ => False
theorem uQ {P : Program} {t : TypeId} {k b : Nat} {z : Value} (hs : ah P t = some k) (hb : an P t = some b) (hz : au P t = some z) : ∃ i : TypeInfo, P.info? t = some i ∧ i.size = k ∧ i.bytes = b ∧ i.zero = some z := by
  unfold ah at hs; unfold an at hb; unfold au at hz
  cases hi : P.info? t with
  | none => simp [hi] at hs
  | some i => simp [hi] at hs hb hz; exact ⟨i, rfl, hs, hb, hz⟩
theorem uR {P : Program} {t : TypeId} {len cap : Value} {h : Hp} {K : KH} (hk : pM P t len cap h K) : fI P (Instr.makeSlice t len cap) h K := by
  unfold pM at hk
  split at hk
  · rename_i k1 l k2 c
    split at hk
    · rename_i e hu
      split at hk
      · rename_i k by' z hs hb hz
        obtain ⟨h0, h1, h2, h3, hk⟩ := hk
        intro w hi
        refine ⟨_, _, _, ?_, hi.push _, bq.push _ _, hk⟩
        obtain ⟨i, e1, e2, e3, e4⟩ := uQ hs hb hz
        have := run_make (P := P) w t e i z hu e1 e4 k1 k2 l c h0 h1 (by rw [e3]; exact h2) h3
        rw [e2, hi.1] at this
        exact this
      · exact hk.elim
    · exact hk.elim
  · exact hk.elim
end Go.Proofs.Ythjggjhebbdkdaa
namespace Go.Proofs.Ythjggjhebbdkdaa
open Go Go.RowKit
def bC (h : Hp) (k : Nat) (x : Value) : Option (Nat × List Value) :=
  match x with
  | .slice none n _ => some (n, [])
  | .slice (some ⟨b, o, none⟩) n _ => (match h.f b with
    | some (.cells c _ _) => (b6 c o (n * k)).map (n, ·)
    | _ => (match n with
      | 0 => some (0, [])
      | _ + 1 => none))
  | .slice (some ⟨_, _, some _⟩) 0 _ => some (0, [])
  | .string s => some (s.size, (da s).toList)
  | _ => none
theorem s6 {P : Program} {h : Hp} {k n : Nat} {x : Value} {l : List Value} (e : bC h k x = some (n, l)) (w : World) : (Builtin.lenOf x).run P w = .ok n w := by
  unfold bC at e
  split at e
  · injection e with e; injection e with e1 e2; subst e1; simp [Builtin.lenOf]
  · split at e
    · simp only [Option.map_eq_some_iff, Prod.mk.injEq] at e
      obtain ⟨_, _, rfl, _⟩ := e
      simp [Builtin.lenOf]
    · split at e
      · injection e with e; injection e with e1 e2; subst e1; simp [Builtin.lenOf]
      · cases e
  · injection e with e; injection e with e1 e2; subst e1; simp [Builtin.lenOf]
  · injection e with e; injection e with e1 e2; subst e1; simp [Builtin.lenOf]
  · cases e
theorem jN {P : Program} {h : Hp} {k n : Nat} {x : Value} {l : List Value} (e : bC h k x = some (n, l)) {w : World} (hi : Is w h) : (Builtin.firstCells k n x).run P w = .ok l.toArray w := by
  unfold bC at e
  split at e
  · injection e with e; injection e with e1 e2; subst e1 e2; simp [Builtin.firstCells]
  · split at e
    · rename_i c t fz hc
      simp only [Option.map_eq_some_iff, Prod.mk.injEq] at e
      obtain ⟨l', hl, rfl, rfl⟩ := e
      exact run_loadCells (P := P) (w := w) (fun i => hi.cell (i := i) hc) hl
    · split at e
      · injection e with e; injection e with e1 e2; subst e1 e2; simp [Builtin.firstCells, loadCells, loadCellsFrom]
      · cases e
  · injection e with e; injection e with e1 e2; subst e1 e2; simp [Builtin.firstCells, loadCells, loadCellsFrom]
  · rename_i s
    injection e with e
    injection e with e1 e2
    subst e1 e2
    have : s.extract 0 s.size = s := by
      obtain ⟨⟨l⟩⟩ := s
      rw [show (ByteArray.mk ⟨l⟩).size = l.length from rfl]
      exact (ByteArray.extract_mk l 0 l.length).trans (by simp)
    simp only [Builtin.firstCells, da, this, Sem.run_pure]
  · cases e
theorem rN (need : Nat) : ∀ (r c : Nat), Builtin.growBy need r c ≤ max c (need + (need + 768) / 4)
  | 0, c => by simp [Builtin.growBy]; omega
  | r + 1, c => by
    simp only [Builtin.growBy]
    split
    · omega
    · have := rN need r (c + (c + 768) / 4)
      omega
theorem xu (need cap : Nat) (h : cap < need) : Builtin.nextslicecap need cap ≤ 2 * need := by
  unfold Builtin.nextslicecap
  split
  · omega
  · split
    · omega
    · have := rN need 4 cap
      omega
def yM (e : TypeId) (z : Value) (need : Nat) (old new : List Value) (h : Hp) (K : KH) : Prop :=
  ∀ cap, need ≤ cap → K (.slice (some ⟨h.n, 0, none⟩) need cap) ((h.put h.n (.cells (old ++ (new ++ b7 z.cells.toList (cap - need))).toArray e (0, 0))).to (h.n + 1))
def ou (base : Option Addr) (k sLen n sCap : Nat) (new : List Value) (h : Hp) (K : KH) : Prop :=
  match base with
  | none => K (.slice none (sLen + n) sCap) h
  | some ⟨b, o, none⟩ => (match h.f b with
    | some (.cells c e fz) => new.all Value.oneCell' = true ∧ o + sLen * k + new.length ≤ c.size ∧ mQ fz (o + sLen * k) new.length ∧
      K (.slice (some ⟨b, o, none⟩) (sLen + n) sCap) (h.put b (.cells (cV c (o + sLen * k) new) e fz))
    | _ => False)
  | _ => False
def ft (P : Program) (t tx : TypeId) (s x : Value) (h : Hp) (K : KH) : Prop :=
  match s with
  | .slice base sLen sCap => ∃ e dx k by' z n new, P.underlying t = some (.slice e) ∧ P.underlying tx = some dx ∧ (∀ q, dx ≠ .int q) ∧ ah P e = some k ∧ an P e = some by' ∧ au P e = some z ∧
    z.cells.size = k ∧ 0 < by' ∧ bC h k x = some (n, new) ∧
    (sLen + n ≤ sCap → ou base k sLen n sCap new h K) ∧
    (sCap < sLen + n → (sLen + n) * by' ≤ 140737488355328 ∧ ∃ old, bC h k s = some (sLen, old) ∧ yM e z (sLen + n) old new h K)
  | _ => False
theorem rC {P : Program} {t tx ty : TypeId} {s x : Value} {h : Hp} {K : KH} (hk : ft P t tx s x h K) : fI P (Builtin.append_ #[t, tx] ty #[s, x]) h K := by
  unfold ft at hk
  split at hk
  · rename_i base sLen sCap
    obtain ⟨e, dx, k, by', z, n, new, hu, hx, hni, hs, hb, hz, hzs, hb0, hsrc, hin, hout⟩ := hk
    obtain ⟨i, e1, e2, e3, e4⟩ := uQ hs hb hz
    intro w hi
    have hlen := s6 (P := P) hsrc w
    have hcells := jN (P := P) hsrc hi
    by_cases hle : sLen + n ≤ sCap
    · have hst := hin hle
      unfold ou at hst
      split at hst
      · refine ⟨_, w, h, ?_, hi, bq.refl w, hst⟩
        simp only [Builtin.append_]
        simp [run_underlying hu, run_underlying hx, run_sizeOf hs]
        cases dx <;> first | (exact (hni _ rfl).elim) | simp [hlen, hle, hcells]
      · rename_i b o
        split at hst
        · rename_i c e' fz hc
          obtain ⟨h1, h2, h3, hst⟩ := hst
          obtain ⟨w', hr, hi', hsame⟩ := fm (P := P) new w h c (o + sLen * k) 0 (fun v hv => List.all_eq_true.1 h1 v hv) (by simpa using h2) (by simpa using h3) hi hc
          refine ⟨_, w', _, ?_, hi', hsame, by simpa using hst⟩
          simp only [Builtin.append_]
          simp [run_underlying hu, run_underlying hx, run_sizeOf hs]
          cases dx <;> first | (exact (hni _ rfl).elim) | simp [hlen, hle, hcells, iy, hr]
        · exact hst.elim
      · exact hst.elim
    · obtain ⟨hby, old, ho, hg⟩ := hout (by omega)
      obtain ⟨cap, hcd⟩ : ∃ cap, (Question.appendCap (sLen + n) sCap e).cut (w.tape w.drawn (.appendCap (sLen + n) sCap e)) = cap := ⟨_, rfl⟩
      have hcap : sLen + n ≤ cap := by rw [← hcd]; exact Nat.le_add_right _ _
      have hi1 : Is w.drew h := hi
      have hff : (Question.appendCap (sLen + n) sCap e).forced = false := rfl
      have hcells1 := jN (P := P) hsrc hi1
      have hold1 := jN (P := P) ho hi1
      refine ⟨_, _, _, ?_, hi1.push _, ⟨rfl, rfl, rfl⟩, hg cap hcap⟩
      have hn1 : ¬ (sLen + n ≤ sCap) := hle
      have hn2 : ¬ ((((sLen + n : Nat) : Int) > IntKind.i64.max) ∧ (False ∨ i.bytes = 0)) := by
        intro hh
        rcases hh.2 with hh | hh
        · exact hh
        · omega
      have hmul : Builtin.nextslicecap (sLen + n) sCap * i.bytes ≤ 281474976710656 := by
        have := xu (sLen + n) sCap (by omega)
        have h2 := Nat.mul_le_mul_right i.bytes this
        rw [e3] at h2 ⊢
        rw [Nat.mul_assoc] at h2
        omega
      have hask : ∀ m, (askRoom m).run P w.drew = .ok () w.drew := fun m => by unfold askRoom; split <;> simp [mark, Sem.run]
      have hzc : Builtin.zeroCells z.cells (cap - (sLen + n)) = (b7 z.cells.toList (cap - (sLen + n))).toArray := by
        rw [← fQ]; rfl
      have hti : ∀ w', (typeInfo e).run P w' = .ok i w' := fun w' => by simp [typeInfo, e1]
      have hn3 : ¬ (i.bytes = 0) := by omega
      have hn4 : ¬ (281474976710656 < Builtin.nextslicecap (sLen + n) sCap * i.bytes) := by omega
      simp only [Builtin.append_]
      simp [run_underlying hu, run_underlying hx, run_sizeOf hs]
      cases dx <;> first
        | (exact (hni _ rfl).elim)
        | (simp [hlen, hn1, hti, hn3, hn4, hff, hcd, hask, hcells1, hold1, dG hz, hzc]
           rw [iB e _ hi1]
           simp)
  · exact hk.elim
def iC (h : Hp) (k n : Nat) (x : Value) : Option (List Value) :=
  match x with
  | .slice none _ _ => some []
  | .slice (some ⟨b, o, none⟩) _ _ => (match h.f b with
    | some (.cells c _ _) => b6 c o (n * k)
    | _ => none)
  | .string s => some ((s.toList.take n).map fun b => .int .u8 b.toNat)
  | _ => none
def B3 : Value → Option Nat
  | .slice _ n _ => some n
  | .string s => some s.size
  | _ => none
def kH (P : Program) (t : TypeId) (d x : Value) (h : Hp) (K : KH) : Prop :=
  match d with
  | .slice base dLen _ => (match P.underlying t, B3 x with
    | some (.slice e), some m => (match ah P e with
      | some k => (match iC h k (min m dLen) x with
        | some l => (match base with
          | none => K (.int .i64 (min m dLen : Nat)) h
          | some ⟨b, o, none⟩ => (match h.f b with
            | some (.cells c e' fz) => l.all Value.oneCell' = true ∧ o + l.length ≤ c.size ∧ mQ fz o l.length ∧ K (.int .i64 (min m dLen : Nat)) (h.put b (.cells (cV c o l) e' fz))
            | _ => False)
          | _ => False)
        | none => False)
      | none => False)
    | _, _ => False)
  | _ => False
theorem pN {P : Program} {h : Hp} {k n : Nat} {x : Value} {l : List Value} (e : iC h k n x = some l) {w : World} (hi : Fits w h) : (Builtin.firstCells k n x).run P w = .ok l.toArray w := by
  unfold iC at e
  split at e
  · injection e with e; subst e; simp [Builtin.firstCells]
  · split at e
    · rename_i c t fz hc
      exact run_loadCells (P := P) (w := w) (fun i => hi.cell (i := i) hc) e
    · cases e
  · rename_i s
    injection e with e
    subst e
    obtain ⟨⟨l⟩⟩ := s
    have h1 : (ByteArray.mk ⟨l⟩).extract 0 n = ByteArray.mk (l.take n).toArray := (ByteArray.extract_mk l 0 n).trans (by simp)
    have h2 : (ByteArray.mk ⟨l⟩).toList = l := ByteArray.toList_mk l
    simp only [Builtin.firstCells, h1, h2, Sem.run_pure]
    congr 1
    apply Array.ext'
    simp
  · cases e
theorem uS {P : Program} {t : TypeId} {ats : Array TypeId} {ty : TypeId} {d x : Value} {h : Hp} {K : KH} (ht : ats[0]? = some t) (hk : kH P t d x h K) : fI P (Builtin.copy_ ats ty #[d, x]) h K := by
  unfold kH at hk
  split at hk
  · rename_i base dLen dCap
    split at hk
    · rename_i e m hu hl
      have hlen : ∀ w, (Builtin.lenOf x).run P w = .ok m w := fun w => by
        unfold B3 at hl
        split at hl <;> first | (injection hl with hl; subst hl; simp [Builtin.lenOf]) | cases hl
      split at hk
      · rename_i k hs
        split at hk
        · rename_i l hf
          split at hk
          · refine PG.uN (.here (fun w hi => ?_) hk)
            have hfc := pN (P := P) hf hi
            simp [Builtin.copy_, ht, run_underlying hu, hlen, run_sizeOf hs, show Nat.min m dLen = min m dLen from rfl, hfc, goInt]
          · rename_i b o
            split at hk
            · rename_i c e' fz hc
              obtain ⟨h1, h2, h3, hk⟩ := hk
              intro w hi
              obtain ⟨w', hr, hi', hsame⟩ := fm (P := P) l w h c o 0 (fun v hv => List.all_eq_true.1 h1 v hv) (by simpa using h2) (by simpa using h3) hi hc
              refine ⟨_, w', _, ?_, hi', hsame, by simpa using hk⟩
              have hfc := pN (P := P) hf hi.fits
              simp [Builtin.copy_, ht, run_underlying hu, hlen, run_sizeOf hs, show Nat.min m dLen = min m dLen from rfl, hfc, hr, goInt]
            · exact hk.elim
          · exact hk.elim
        · exact hk.elim
      · exact hk.elim
    · exact hk.elim
  · exact hk.elim
def jO (P : Program) (t : TypeId) (x : Value) (h : Hp) (K : Value → Prop) : Prop :=
  match P.underlying t, x with
  | some .string, .string s => K (.int .i64 s.size)
  | some (.slice _), .slice _ n _ => K (.int .i64 n)
  | some (.array n _), _ => K (.int .i64 n)
  | some (.map _ _), .map none => K (.int .i64 0)
  | some (.map _ _), .map (some r) => (match h.f r with
    | some (.map es _) => K (.int .i64 es.size)
    | _ => False)
  | _, _ => False
theorem jP {P : Program} {w : World} {h : Hp} (hi : Fits w h) {r : Nat} {es : Array MapEntry} {cl : Nat} (e : h.f r = some (.map es cl)) : (getObj r).run P w = .ok (.map es cl) w := by
  have h1 := hi r _ e
  simp [getObj, Sem.run, h1]
theorem xw {P : Program} {t ty : TypeId} {x : Value} {h : Hp} {K : Value → Prop} (hk : jO P t x h K) : PG P (Builtin.len_ #[t] ty #[x]) h K := by
  unfold jO at hk
  split at hk
  · rename_i s hu; exact .here (fun w _ => by simp [Builtin.len_, run_underlying hu, goInt]) hk
  · rename_i e a n c hu; exact .here (fun w _ => by simp [Builtin.len_, run_underlying hu, goInt]) hk
  · rename_i n e hu; exact .here (fun w _ => by simp [Builtin.len_, run_underlying hu, goInt]) hk
  · rename_i k e hu; exact .here (fun w _ => by simp [Builtin.len_, run_underlying hu, goInt]) hk
  · rename_i k e r hu
    split at hk
    · rename_i es cl he
      exact .here (fun w hi => by simp only [Builtin.len_]; simp [run_underlying hu, goInt, jP hi he]) hk
    · exact hk.elim
  · exact hk.elim
def bZ (mx : Bool) (x y : Value) (K : Value → Prop) : Prop :=
  match x, y with
  | .int k a, .int _ b => K (.int k (if mx then max a b else min a b))
  | _, _ => False
theorem xx {P : Program} {ats : Array TypeId} {ty : TypeId} {x y : Value} {h : Hp} {K : Value → Prop} (hk : bZ false x y K) : PG P (Builtin.min_ ats ty #[x, y]) h K := by
  unfold bZ at hk
  split at hk
  · rename_i k a k' b
    refine .here (fun w _ => ?_) hk
    have : (if b < a then b else a) = min a b := by omega
    simp [Builtin.min_, Builtin.min2, this]
  · exact hk.elim
theorem xy {P : Program} {ats : Array TypeId} {ty : TypeId} {x y : Value} {h : Hp} {K : Value → Prop} (hk : bZ true x y K) : PG P (Builtin.max_ ats ty #[x, y]) h K := by
  unfold bZ at hk
  split at hk
  · rename_i k a k' b
    refine .here (fun w _ => ?_) hk
    have : (if b > a then b else a) = max a b := by omega
    simp [Builtin.max_, Builtin.max2, this]
  · exact hk.elim
theorem uT {P : Program} {ats : Array TypeId} {ty : TypeId} {x y z : Value} {h : Hp} {K : Value → Prop} (hk : bZ false x y fun u => bZ false u z K) : PG P (Builtin.min_ ats ty #[x, y, z]) h K := by
  unfold bZ at hk
  split at hk
  · rename_i k a k' b
    split at hk
    · rename_i u v d c q e he
      injection he with h1 h2
      subst h1
      refine .here (fun w _ => ?_) hk
      have e1 : (if b < a then b else a) = c := by rw [← h2]; simp only [Bool.false_eq_true, if_false]; omega
      have e2 : (if e < c then e else c) = min c e := by omega
      simp [Builtin.min_, Builtin.min2, e1, e2]
    · exact hk.elim
  · exact hk.elim
theorem uU {P : Program} {ats : Array TypeId} {ty : TypeId} {x y z : Value} {h : Hp} {K : Value → Prop} (hk : bZ true x y fun u => bZ true u z K) : PG P (Builtin.max_ ats ty #[x, y, z]) h K := by
  unfold bZ at hk
  split at hk
  · rename_i k a k' b
    split at hk
    · rename_i u v d c q e he
      injection he with h1 h2
      subst h1
      refine .here (fun w _ => ?_) hk
      have e1 : (if b > a then b else a) = c := by rw [← h2]; simp only [if_true]; omega
      have e2 : (if e > c then e else c) = max c e := by omega
      have e1' : (if a < b then b else a) = c := e1
      have e2' : (if c < e then e else c) = max c e := e2
      simp [Builtin.max_, Builtin.max2, e1', e2']
    · exact hk.elim
  · exact hk.elim
end Go.Proofs.Ythjggjhebbdkdaa
namespace Go.Proofs.Ythjggjhebbdkdaa
open Go Go.RowKit
def jQ : TypeDesc → Bool
  | .int _ => true
  | .string => true
  | _ => false
def lz (P : Program) (t : TypeId) : Option (TypeId × TypeDesc × TypeId) := match P.underlying t with
  | some (.map kt et) => (match P.underlying kt with
    | some kd => if jQ kd = true then some (kt, kd, et) else none
    | none => none)
  | _ => none
theorem mU {P : Program} {t kt et : TypeId} {kd : TypeDesc} (h : lz P t = some (kt, kd, et)) : P.underlying t = some (.map kt et) ∧ P.underlying kt = some kd ∧ jQ kd = true := by
  unfold lz at h
  split at h
  · rename_i a b hu
    split at h
    · rename_i k hk
      split at h
      · rename_i hs
        simp only [Option.some.injEq, Prod.mk.injEq] at h
        obtain ⟨rfl, rfl, rfl⟩ := h
        exact ⟨hu, hk, hs⟩
      · cases h
    · cases h
  · cases h
theorem run_checkKey {P : Program} {kt : TypeId} {kd : TypeDesc} (hk : P.underlying kt = some kd) (hs : jQ kd = true) (q : Bool) (v : Value) (w : World) : (Instr.checkKey q 10000 kt v).run P w = .ok () w := by
  have h : ∀ n, (Instr.checkKey q (n + 1) kt v).run P w = .ok () w := fun n => by
    simp only [Instr.checkKey, Sem.run_bind, run_underlying hk, Result.andThen_ok]
    cases kd <;> first | (simp [jQ] at hs; done) | simp
  exact h 9999
def ko (kd : TypeDesc) (k : Value) : List MapEntry → Nat → Option (Option (Nat × Value))
  | [], _ => some none
  | e :: es, i => (match Instr.sameNow kd k e.key with
    | some true => some (some (i, e.val))
    | some false => ko kd k es (i + 1)
    | none => none)
theorem uV (kd : TypeDesc) (k : Value) : ∀ (l : List MapEntry) (i : Nat), Instr.findNow kd k l i = ko kd k l i
  | [], _ => rfl
  | e :: es, i => by
    simp only [Instr.findNow, ko]
    cases Instr.sameNow kd k e.key with
    | none => rfl
    | some q => cases q
                · exact uV kd k es (i + 1)
                · rfl
theorem run_findKey {P : Program} {kt : TypeId} {kd : TypeDesc} (hk : P.underlying kt = some kd) {k : Value} {l : List MapEntry} {r : Option (Nat × Value)} (h : ko kd k l 0 = some r) (w : World) : (Instr.findKey kt k l).run P w = .ok r w := by
  simp only [Instr.findKey, Sem.run_bind, run_underlying hk, Result.andThen_ok, uV, h]
  rfl
def xz (h : Hp) (m : Value) : Option (List MapEntry) := match m with
  | .map none => some []
  | .map (some r) => (match h.f r with
    | some (.map es _) => some es.toList
    | _ => none)
  | _ => none
def found (z : Option Value) (ok : Bool) (r : Option (Nat × Value)) : Option Value := match r with
  | some (_, v) => some (if ok then .tuple #[v, .bool true] else v)
  | none => z.map fun z => if ok then .tuple #[z, .bool false] else z
def lA (P : Program) (t : TypeId) (m k : Value) (ok : Bool) (h : Hp) : Option Value :=
  (lz P t).bind fun x => (xz h m).bind fun l => (ko x.2.1 k l 0).bind fun r => found (au P x.2.2) ok r
def gE (P : Program) (t : TypeId) (m k : Value) (ok : Bool) (h : Hp) (K : Value → Prop) : Prop := match lA P t m k ok h with
  | some v => K v
  | none => False
theorem rD {P : Program} {t : TypeId} {m k : Value} {ok : Bool} {h : Hp} {K : Value → Prop} (hk : gE P t m k ok h K) : PG P (Instr.lookup t m k ok) h K := by
  unfold gE at hk
  split at hk
  · rename_i v hv
    refine .here (fun w hi => ?_) hk
    simp only [lA, Option.bind_eq_some_iff] at hv
    obtain ⟨⟨kt, kd, et⟩, hm, l, hl, r, hr, hf⟩ := hv
    obtain ⟨hu, hku, hs⟩ := mU hm
    dsimp only at hr hf
    have fin : ∀ es : Array MapEntry, es.toList = l → ((do
        Instr.checkKey es.isEmpty 10000 kt k
        match ← Instr.findKey kt k es.toList with
          | some (_, v) => do
            let x ← pure (v, true)
            pure (if ok then .tuple #[x.1, .bool x.2] else x.1)
          | none => do
            let z ← zeroValue et
            let x ← pure (z, false)
            pure (if ok then .tuple #[x.1, .bool x.2] else x.1)) : Sem Value).run P w = .ok v w := by
      intro es hes
      subst hes
      simp only [run_checkKey hku hs, Result.andThen_ok, run_findKey hku hr, Sem.run_bind]
      unfold found at hf
      split at hf
      · injection hf with hf; subst hf; simp
      · simp only [Option.map_eq_some_iff] at hf
        obtain ⟨z, hz, rfl⟩ := hf
        simp [dG hz]
    unfold xz at hl
    split at hl
    · injection hl with hl
      have := fin #[] (by simpa using hl)
      simp only [Sem.run_bind] at this
      simp only [Instr.lookup, Sem.run_bind, run_underlying hu, Result.andThen_ok, Sem.run_pure]
      exact this
    · rename_i r'
      split at hl
      · rename_i es cl he
        injection hl with hl
        have := fin es hl
        simp only [Sem.run_bind] at this
        simp only [Instr.lookup, Sem.run_bind, run_underlying hu, Result.andThen_ok, jP hi he, Sem.run_pure]
        exact this
      · cases hl
    · cases hl
  · exact hk.elim
def chg (k v : Value) : List MapEntry → Nat → List MapEntry
  | [], _ => []
  | e :: es, 0 => { e with key := k, val := v } :: es
  | e :: es, i + 1 => e :: chg k v es i
theorem xA (k v : Value) : ∀ (l : List MapEntry) (i : Nat), l.modify i (fun e : MapEntry => { e with key := k, val := v }) = chg k v l i
  | [], i => by cases i <;> rfl
  | e :: es, 0 => rfl
  | e :: es, i + 1 => by simp [chg, xA k v es i]
def B4 (k v : Value) (es : List MapEntry) (cl : Nat) (r : Option (Nat × Value)) : Obj := match r with
  | some (i, _) => .map (chg k v es i).toArray cl
  | none => .map (es ++ [({ key := k, val := v, born := cl } : MapEntry)]).toArray (cl + 1)
def s7 (P : Program) (t : TypeId) (m k v : Value) (h : Hp) : Option Hp :=
  match m with
  | .map (some r) => (match h.f r with
    | some (.map es cl) => (lz P t).bind fun x => (ko x.2.1 k es.toList 0).map fun q => h.put r (B4 k v es.toList cl q)
    | _ => none)
  | _ => none
def iR (P : Program) (t : TypeId) (m k v : Value) (h : Hp) (K : KH) : Prop := match s7 P t m k v h with
  | some g => K undef g
  | none => False
theorem Is.B5 {w : World} {h : Hp} (hi : Is w h) {r : Nat} {es es' : Array MapEntry} {cl cl' : Nat} (e : h.f r = some (.map es cl)) (P : Program) :
    ∃ w', (setObj r (.map es' cl')).run P w = .ok () w' ∧ Is w' (h.put r (.map es' cl')) ∧ bq w w' := by
  have h1 := hi.2 r _ e
  have hlt : r < w.heap.size := (Array.getElem?_eq_some_iff.1 h1).1
  refine ⟨{ w with heap := w.heap.setIfInBounds r (.map es' cl') }, ?_, hi.set e (by simp) (by simp [hlt]) (fun x hx => ?_), ⟨rfl, rfl, rfl⟩⟩
  · simp [setObj, Sem.run, h1]
  · have : ¬ r = x := fun e => hx e.symm
    simp [Array.getElem?_setIfInBounds_ne this]
theorem bytes_beq (a b : ByteArray) : (a == b) = true ↔ a = b := by
  obtain ⟨x⟩ := a
  obtain ⟨y⟩ := b
  show (ByteArray.mk x).beq (ByteArray.mk y) = true ↔ _
  simp [ByteArray.beq]
theorem s8 {kd : TypeDesc} {a b : Value} (h : Instr.sameNow kd a b = some true) (n : Nat) : Instr.sameBits n b a = true := by
  unfold Instr.sameNow at h
  split at h
  · split at h
    · rename_i hk; subst hk
      injection h with h
      simp only [beq_iff_eq] at h
      subst h
      simp [Instr.sameBits]
    · cases h
  · injection h with h
    rw [bytes_beq] at h
    subst h
    simp only [Instr.sameBits]
    exact (bytes_beq _ _).2 rfl
  · injection h with h
    simp only [beq_iff_eq] at h
    subst h
    simp [Instr.sameBits]
  · cases h
theorem pO {kd : TypeDesc} {k : Value} : ∀ (l : List MapEntry) (i j : Nat) (v : Value), ko kd k l i = some (some (j, v)) → i ≤ j ∧ ∃ e, l[j - i]? = some e ∧ Instr.sameNow kd k e.key = some true ∧ e.val = v
  | [], i, j, v, h => by cases h
  | e :: es, i, j, v, h => by
    simp only [ko] at h
    split at h
    · rename_i hs
      simp only [Option.some.injEq, Prod.mk.injEq] at h
      obtain ⟨rfl, rfl⟩ := h
      exact ⟨Nat.le_refl _, e, by simp, hs, rfl⟩
    · obtain ⟨hle, e', h1, h2, h3⟩ := pO es (i + 1) j v h
      refine ⟨by omega, e', ?_, h2, h3⟩
      obtain ⟨d, rfl⟩ : ∃ d, j = i + 1 + d := ⟨j - (i + 1), by omega⟩
      rw [show i + 1 + d - i = d + 1 from by omega]
      rw [show i + 1 + d - (i + 1) = d from by omega] at h1
      simpa using h1
    · cases h
theorem lT {P : Program} {t : TypeId} {m k v : Value} {h : Hp} {K : KH} (hk : iR P t m k v h K) (w : World) (hi : Is w h) :
    ∃ w' h', (Instr.mapUpdate t m k v).run P w = .ok () w' ∧ Is w' h' ∧ bq w w' ∧ K undef h' := by
  unfold iR at hk
  split at hk
  · rename_i g hg
    unfold s7 at hg
    split at hg
    · rename_i r
      split at hg
      · rename_i es cl he
        simp only [Option.bind_eq_some_iff, Option.map_eq_some_iff] at hg
        obtain ⟨⟨kt, kd, et⟩, hm, q, hq, rfl⟩ := hg
        obtain ⟨hu, hku, hs⟩ := mU hm
        dsimp only at hq
        cases q with
        | none =>
          obtain ⟨w', h1, h2, h3⟩ := hi.B5 (es' := (es.toList ++ [({ key := k, val := v, born := cl } : MapEntry)]).toArray) (cl' := cl + 1) he P
          refine ⟨w', _, ?_, h2, h3, hk⟩
          have e : (es.toList ++ [({ key := k, val := v, born := cl } : MapEntry)]).toArray = es.push ({ key := k, val := v, born := cl } : MapEntry) := by
            apply Array.ext'; simp
          rw [e] at h1
          simp only [Instr.mapUpdate, Sem.run_bind, run_underlying hu, Result.andThen_ok, jP hi.fits he, run_checkKey hku hs, run_findKey hku hq, h1]
        | some x =>
          obtain ⟨i, u⟩ := x
          obtain ⟨_, e', he', hsame, _⟩ := pO es.toList 0 i u hq
          obtain ⟨w', h1, h2, h3⟩ := hi.B5 (es' := (chg k v es.toList i).toArray) (cl' := cl) he P
          refine ⟨w', _, ?_, h2, h3, hk⟩
          have e : (chg k v es.toList i).toArray = es.modify i (fun e : MapEntry => { e with key := k, val := v }) := by
            apply Array.ext'; rw [← xA]; simp
          rw [e] at h1
          have hk0 : ((es[i]?).map (·.key)).getD k = e'.key := by
            have : es[i]? = some e' := by simpa using he'
            simp [this]
          have hst : (Instr.keyThatStays e'.key k).run P w = .ok k w := by
            unfold Instr.keyThatStays
            rw [if_pos (s8 hsame 10000)]
            rfl
          simp only [Instr.mapUpdate, Sem.run_bind, run_underlying hu, Result.andThen_ok, jP hi.fits he, run_checkKey hku hs, run_findKey hku hq, hk0, hst, h1]
      · cases hg
    · cases hg
  · exact hk.elim
theorem pP {P : Program} {t : TypeId} {h : Hp} {K : KH} (hk : K (.map (some h.n)) ((h.put h.n (.map #[] 0)).to (h.n + 1))) : fI P (Instr.makeMap t none) h K := fun w hi => by
  refine ⟨_, _, _, ?_, hi.push _, bq.push _ _, hk⟩
  simp [Instr.makeMap, newObj, Sem.run, hi.1]
end Go.Proofs.Ythjggjhebbdkdaa
namespace Go.Proofs.Ythjggjhebbdkdaa
open Go Go.RowKit
theorem Is.setIter {w : World} {h : Hp} (hi : Is w h) {r : Nat} {o o' : Obj} (e : h.f r = some o) : Is (Go.ChangeMaps.setBlock w r o') (h.put r o') := by
  have h1 := hi.2 r _ e
  have hlt : r < w.heap.size := (Array.getElem?_eq_some_iff.1 h1).1
  refine hi.set (g := w.heap.setIfInBounds r o') e (by simp) (by simp [hlt]) (fun x hx => ?_)
  have : ¬ r = x := fun e => hx e.symm
  simp [Array.getElem?_setIfInBounds_ne this]
def s9 (P : Program) (t : TypeId) : Bool := match P.underlying t with
  | some (.map _ _) => true
  | _ => false
theorem uW {P : Program} {t : TypeId} (h : s9 P t = true) : ∃ k e, P.underlying t = some (.map k e) := by
  unfold s9 at h
  split at h
  · exact ⟨_, _, by assumption⟩
  · cases h
def tc (P : Program) (t : TypeId) (x : Value) (h : Hp) (K : KH) : Prop := s9 P t = true ∧ match x with
  | .map (some m) => (match h.f m with
    | some (.map _ cl) => K (.pointer (some ⟨h.n, 0, none⟩)) ((h.put h.n (.mapIter (some m) cl #[] cl)).to (h.n + 1))
    | _ => False)
  | _ => False
theorem td {P : Program} {t : TypeId} {x : Value} {h : Hp} {K : KH} (hk : tc P t x h K) : fI P (Instr.range t x) h K := fun w hi => by
  obtain ⟨ht, hk⟩ := hk
  obtain ⟨k, e, hu⟩ := uW ht
  split at hk
  · rename_i m
    split at hk
    · rename_i es cl he
      refine ⟨_, _, (h.put h.n (.mapIter (some m) cl #[] cl)).to (h.n + 1), run_range_map w t k e m es cl hu (hi.2 _ _ he), ?_, ⟨rfl, rfl, rfl⟩, ?_⟩
      · exact hi.push _
      · rw [hi.1]; exact hk
    · exact hk.elim
  · exact hk.elim
def pQ (es : List MapEntry) (seen : Array Nat) : List MapEntry := es.filter fun e => !seen.contains e.born
theorem lU (es : Array MapEntry) (seen : Array Nat) : (leftOf es seen).toList = pQ es.toList seen := by
  simp [leftOf, pQ]
def rO (x : Value) (s : Bool) (h : Hp) (K : KH) : Prop := match x, s with
  | .pointer (some ⟨r, 0, none⟩), false => (match h.f r with
    | some (.mapIter (some m) since seen last) => (match h.f m with
      | some (.map es cl) => (∀ e ∈ es.toList, e.born < since) ∧ since ≤ last ∧ (pQ es.toList seen = [] → K (.tuple #[.bool false]) h) ∧ ∀ e ∈ pQ es.toList seen, K (.tuple #[.bool true, e.key, e.val]) (h.put r (.mapIter (some m) since (seen.push e.born) cl))
      | _ => False)
    | _ => False)
  | _, _ => False
theorem uX {P : Program} {ty : TypeId} {x : Value} {s : Bool} {h : Hp} {K : KH} (hk : rO x s h K) : fI P (Instr.next x s ty) h K := fun w hi => by
  unfold rO at hk
  split at hk
  · rename_i r
    split at hk
    · rename_i m since seen last hr
      split at hk
      · rename_i es cl hm
        obtain ⟨h1, h2, h3, h4⟩ := hk
        rcases run_next_at (P := P) w ty r m since last seen es cl (hi.2 _ _ hr) (hi.2 _ _ hm) h1 h2 with ⟨h0, hrun⟩ | ⟨e, he, w1, hal, hrun⟩
        · refine ⟨_, w, h, hrun, hi, bq.refl w, h3 ?_⟩
          rw [← lU]
          exact List.eq_nil_of_length_eq_zero (by simpa using h0)
        · rw [lU] at he
          have hi1 : Is w1 h := by rcases hal with rfl | rfl <;> exact hi
          have hs1 : bq w w1 := by rcases hal with rfl | rfl <;> exact ⟨rfl, rfl, rfl⟩
          exact ⟨_, _, _, hrun, hi1.setIter hr, hs1.trans ⟨rfl, rfl, rfl⟩, h4 e he⟩
      · exact hk.elim
    · exact hk.elim
  · exact hk.elim
def ma (x : Value) (h : Hp) (K : Value → Prop) : Prop := match x with
  | .pointer (some ⟨r, 0, none⟩) => (match h.f r with
    | some (.mapIter (some m) _ seen last) => (match h.f m, seen.back? with
      | some (.map es cl), some b => (match es.find? (·.born == b) with
        | some e => cl = last ∧ K (.tuple #[e.key, e.val])
        | none => False)
      | _, _ => False)
    | _ => False)
  | _ => False
theorem te {P : Program} {x : Value} {h : Hp} {K : Value → Prop} (hk : ma x h K) : PG P (Instr.entry x) h K := by
  unfold ma at hk
  split at hk
  · rename_i r
    split at hk
    · rename_i m since seen last hr
      split at hk
      · rename_i es cl b hm hb
        split at hk
        · rename_i e he
          obtain ⟨rfl, hk⟩ := hk
          refine .here (fun w hi => ?_) hk
          have g1 := hi _ _ hr
          have g2 := hi _ _ hm
          simp only [Instr.entry, getObj, Sem.run_bind, Sem.run, g1, g2, Result.andThen, hb, bne_self_eq_false, Bool.false_eq_true, if_false, he]
          rfl
        · exact hk.elim
      · exact hk.elim
    · exact hk.elim
  · exact hk.elim
end Go.Proofs.Ythjggjhebbdkdaa
namespace Go.Proofs.Ythjggjhebbdkdaa
open Go Go.RowKit
def aj (P : Program) (f : FuncId) : Bool := match P.funcs[f]? with
  | some fn => !(fn.name == "runtime.NumGoroutine") && fn.body.isSome
  | none => false
theorem jR {P : Program} {f : FuncId} (hc : aj P f = true) (args : Array Value) (w : World) : (callFunc f args).run P w = .ok (.enter f args) w := by
  unfold aj at hc
  split at hc
  · rename_i fn hf
    simp only [Bool.and_eq_true, Bool.not_eq_true'] at hc
    have hb : fn.body.isNone = false := by
      cases hb : fn.body with
      | none => rw [hb] at hc; simp at hc
      | some c => rfl
    have hn : fn.body ≠ none := fun e => by rw [e] at hb; cases hb
    have h1 : ¬ fn.name = "runtime.NumGoroutine" := by simpa using hc.1
    simp [callFunc, hf, h1, hn]
  · cases hc
def cL (P : Program) (f : FuncId) (args : Array Value) (h : Hp) (K : KH) : Prop := aj P f = true ∧ pF P f args h K
def Ju (P : Program) (f : FuncId) (args : Array Value) (h : Hp) (v : Value) : Prop := aj P f = true ∧ ∀ n, h.n ≤ n → pF P f args (h.to n) fun u g => u = v ∧ ∃ k, n ≤ k ∧ g = h.to k
def rP (P : Program) (f : Value) (args : Array Value) (h : Hp) (K : KH) : Prop :=
  match f with
  | .func (.func g) first captured => cL P g (first ++ args ++ captured) h K
  | _ => False
def G1 (P : Program) (f : Value) (args : Array Value) (h : Hp) (K : Value → Prop) : Prop :=
  match f with
  | .func (.func g) first captured => ∃ v, Ju P g (first ++ args ++ captured) h v ∧ K v
  | _ => False
def cP (P : Program) (b : Builtin) (ts : List TypeId) (args : List Value) (h : Hp) (K : Value → Prop) : Prop :=
  match b, ts, args with
  | .len, [t], [x] => jO P t x h K
  | .min, _, [x, y] => bZ false x y K
  | .max, _, [x, y] => bZ true x y K
  | .min, _, [x, y, z] => bZ false x y fun u => bZ false u z K
  | .max, _, [x, y, z] => bZ true x y fun u => bZ true u z K
  | _, _, _ => False
def nK (K : KH) : KH := fun v h => ∃ g, Sub g h ∧ K v g
theorem fI.LM {P : Program} {s : Sem Value} {h : Hp} {K : KH} (hg : fI P s h (nK K)) : fI P s h K := fun w hi => by
  obtain ⟨v, w', h', hr, hi', hs, g, hsub, hk⟩ := hg w hi
  exact ⟨v, w', g, hr, hi'.sub hsub, hs, hk⟩
def iD (P : Program) (b : Builtin) (ts : List TypeId) (args : List Value) (h : Hp) (K : KH) : Prop :=
  match b, ts, args with
  | .append, [t, u], [s, x] => ft P t u s x h (nK K)
  | .copy, [t, _], [s, x] => kH P t s x h K
  | _, _, _ => False
def cT (P : Program) (o : Op) (ρ : Env) (h : Hp) (K : Value → Prop) : Prop :=
  match o with
  | .move x => K (ρ.ev x)
  | .assign x => K (ρ.ev x)
  | .pick c a b => (match ρ.ev c with
    | .bool q => K (if q = true then ρ.ev a else ρ.ev b)
    | _ => False)
  | .build t parts => (match ly P t (parts.toList.map fun x => (x.1, ρ.ev x.2)) with
    | some r => K (.agg r)
    | none => False)
  | .load t a => fJ P t (ρ.ev a) h K
  | .nilCheck x => (match ρ.ev x with
    | .pointer (some a) => K (.pointer (some a))
    | .func (.func f) a b => K (.func (.func f) a b)
    | _ => False)
  | .binOp op t x y _ => gH P op t (ρ.ev x) (ρ.ev y) h K
  | .unOp op _ x => aun op (ρ.ev x) K
  | .makeFunc fn first captured => K (.func fn (first.map ρ.ev) (captured.map ρ.ev))
  | .slice t x lo hi mx => cI P t (ρ.ev x) (lo.map ρ.ev) (hi.map ρ.ev) (mx.map ρ.ev) K
  | .fieldAddr s x i => dN P s (ρ.ev x) i K
  | .field t x i => l8 P t (ρ.ev x) i K
  | .indexAddr t x ix => bY P t (ρ.ev x) (ρ.ev ix) K
  | .index t x ix => gW P t (ρ.ev x) (ρ.ev ix) K
  | .extract x i => iA (ρ.ev x) i K
  | .lookup t m k ok => gE P t (ρ.ev m) (ρ.ev k) ok h K
  | .entry it => ma (ρ.ev it) h K
  | .call c => (match c.callee with
    | .builtin b => cP P b c.argTypes.toList (c.args.toList.map ρ.ev) h K
    | _ => False)
  | _ => False
def kI (P : Program) (o : Op) (ρ : Env) (h : Hp) (K : KH) : Prop :=
  match o with
  | .alloc e => nJ P e h K
  | .box e x => B1 e (ρ.ev x).cells h K
  | .buildSlice t len parts => (match cS P t len (parts.toList.map fun x => (x.1, ρ.ev x.2)) with
    | some (e, r) => K (.slice (some ⟨h.n, 0, none⟩) len len) ((h.put h.n (.cells r e (0, 0))).to (h.n + 1))
    | none => False)
  | .store t a x => kG P t (ρ.ev a) (ρ.ev x) h K
  | .convert src dst x => eV P src dst (ρ.ev x) h K
  | .makeSlice t l c => pM P t (ρ.ev l) (ρ.ev c) h K
  | .makeMap _ none => K (.map (some h.n)) ((h.put h.n (.map #[] 0)).to (h.n + 1))
  | .mapUpdate t m k x => iR P t (ρ.ev m) (ρ.ev k) (ρ.ev x) h K
  | .insert t m k x => iR P t (ρ.ev m) (ρ.ev k) (ρ.ev x) h K
  | .range t x => tc P t (ρ.ev x) h K
  | .next it s => rO (ρ.ev it) s h K
  | .call c => (match c.callee with
    | .builtin b => iD P b c.argTypes.toList (c.args.toList.map ρ.ev) h K
    | .value f => rP P (ρ.ev f) (c.args.map ρ.ev) h K
    | _ => False)
  | _ => False
def mb : Callee → Bool
  | .builtin .append => true
  | .builtin .copy => true
  | .value _ => true
  | _ => false
def bE : Op → Bool
  | .alloc _ | .box .. | .buildSlice .. | .store .. | .convert .. | .makeSlice .. | .makeMap .. | .mapUpdate .. | .insert .. | .range .. | .next .. => true
  | .call c => mb c.callee
  | _ => false
def br (P : Program) (o : Op) (ρ : Env) (h : Hp) (K : KH) : Prop := if bE o = true then kI P o ρ h K else cT P o ρ h fun v => K v h
theorem kJ {P : Program} {o : Oper} {ρ : Env} {h : Hp} {K : Value → Prop} (hk : cT P o.op ρ h K) : ∃ v, K v ∧ ∀ w, Fits w h → (execOp ρ.ev o).run P w = .ok (.value v) w := by
  have lift : ∀ {s : Sem Value}, PG P s h K → execOp ρ.ev o = (do pure (.value (← s))) → ∃ v, K v ∧ ∀ w, Fits w h → (execOp ρ.ev o).run P w = .ok (.value v) w := fun hp he =>
    let ⟨v, hv, hr⟩ := hp
    ⟨v, hv, fun w hw => by rw [he]; simp only [Sem.run_bind, hr w hw, Result.andThen_ok]; rfl⟩
  obtain ⟨dst, op, ty, pos, after, guard⟩ := o
  dsimp only at hk
  unfold cT at hk
  split at hk
  case h_1 => exact ⟨_, hk, fun w _ => rfl⟩
  case h_2 => exact ⟨_, hk, fun w _ => rfl⟩
  case h_3 =>
    split at hk
    · rename_i q hq
      exact ⟨_, hk, fun w _ => by simp [execOp, hq, asBool]⟩
    · exact hk.elim
  case h_4 =>
    rename_i t parts
    split at hk
    · rename_i r hr
      refine lift (s := Instr.build t (parts.map fun (i, x) => (i, ρ.ev x))) (.here (fun w _ => rB ?_ w) hk) rfl
      simpa using hr
    · exact hk.elim
  case h_5 => exact lift (oo hk) rfl
  case h_6 =>
    split at hk
    · rename_i a ha
      exact ⟨_, hk, fun w _ => by simp [execOp, ha]⟩
    · rename_i f a b ha
      exact ⟨_, hk, fun w _ => by simp [execOp, ha]⟩
    · exact hk.elim
  case h_7 => exact lift (uO hk) rfl
  case h_8 => exact lift (Ak hk) rfl
  case h_9 => exact ⟨_, hk, fun w _ => rfl⟩
  case h_10 => exact lift (sZ hk) rfl
  case h_11 => exact lift (nH hk) rfl
  case h_12 => exact lift (sW hk) rfl
  case h_13 => exact lift (nI hk) rfl
  case h_14 => exact lift (sX hk) rfl
  case h_15 => exact lift (pI hk) rfl
  case h_16 => exact lift (rD hk) rfl
  case h_17 => exact lift (te hk) rfl
  case h_18 =>
    rename_i c
    split at hk
    · rename_i b hb
      have hex : execOp ρ.ev ⟨dst, .call c, ty, pos, after, guard⟩ = builtin b c.argTypes ty (c.args.map fun | .const _ => true | _ => false) (c.args.map ρ.ev) := by
        obtain ⟨callee, args, ats⟩ := c
        dsimp only at hb
        subst hb
        rfl
      have arr : ∀ {l : List Value}, c.args.toList.map ρ.ev = l → c.args.map ρ.ev = l.toArray := fun e => by
        apply Array.ext'
        simpa using e
      have arrT : ∀ {l : List TypeId}, c.argTypes.toList = l → c.argTypes = l.toArray := fun e => by
        apply Array.ext'
        simpa using e
      unfold cP at hk
      split at hk
      · rename_i e1 e2
        exact lift (xw hk) (by rw [hex, arr e2, arrT e1]; rfl)
      · rename_i e2
        exact lift (xx hk) (by rw [hex, arr e2]; rfl)
      · rename_i e2
        exact lift (xy hk) (by rw [hex, arr e2]; rfl)
      · rename_i e2
        exact lift (uT hk) (by rw [hex, arr e2]; rfl)
      · rename_i e2
        exact lift (uU hk) (by rw [hex, arr e2]; rfl)
      · exact hk.elim
    · exact hk.elim
  case h_19 => exact hk.elim
inductive Ran (P : Program) (w : World) (K : KH) : Result Next → Prop
  | value (v : Value) (w' : World) (h' : Hp) (hi : Is w' h') (hs : bq w w') (hk : K v h') : Ran P w K (.ok (.value v) w')
  | skip (w' : World) (h' : Hp) (hi : Is w' h') (hs : bq w w') (hk : K undef h') : Ran P w K (.ok .skip w')
  | enter (f : FuncId) (args : Array Value) (w' : World) (h' : Hp) (hi : Is w' h') (hs : bq w w') (hk : pF P f args h' K) : Ran P w K (.ok (.enter f args) w')
theorem fI.ran {P : Program} {s : Sem Value} {h : Hp} {K : KH} (hg : fI P s h K) {w : World} (hi : Is w h) : Ran P w K ((do pure (.value (← s)) : Sem Next).run P w) := by
  obtain ⟨v, w', h', hr, i, s', k⟩ := hg w hi
  simp only [Sem.run_bind, hr, Result.andThen_ok]
  exact .value v w' h' i s' k
theorem uY {P : Program} {o : Oper} {ρ : Env} {h : Hp} {K : KH} (hk : kI P o.op ρ h K) {w : World} (hi : Is w h) : Ran P w K ((execOp ρ.ev o).run P w) := by
  have lift : ∀ {s : Sem Value}, fI P s h K → execOp ρ.ev o = (do pure (.value (← s))) → Ran P w K ((execOp ρ.ev o).run P w) := fun hg he => by
    rw [he]; exact hg.ran hi
  obtain ⟨dst, op, ty, pos, after, guard⟩ := o
  dsimp only at hk
  unfold kI at hk
  split at hk
  case h_1 => exact lift (sY hk) rfl
  case h_2 => exact lift (pJ hk) rfl
  case h_3 =>
    rename_i t len parts
    split at hk
    · rename_i e r hr
      have hp : (parts.map fun (i, x) => (i, ρ.ev x)).toList = parts.toList.map fun x => (x.1, ρ.ev x.2) := by simp
      rw [← hp] at hr
      have hg : fI P (Instr.buildSlice t len (parts.map fun (i, x) => (i, ρ.ev x))) h K := l9 hr hk
      exact lift hg rfl
    · exact hk.elim
  case h_4 =>
    rename_i t a x
    obtain ⟨w', h', hr, i, s, k⟩ := sV hk w hi
    have : (execOp ρ.ev ⟨dst, .store t a x, ty, pos, after, guard⟩).run P w = .ok .skip w' := by
      simp only [execOp, Sem.run_bind, hr, Result.andThen_ok]; rfl
    rw [this]
    exact .skip w' h' i s k
  case h_5 => exact lift (uP hk) rfl
  case h_6 => exact lift (uR hk) rfl
  case h_7 => exact lift (pP hk) rfl
  case h_8 =>
    rename_i t m k x
    obtain ⟨w', h', hr, i, s, k'⟩ := lT hk w hi
    have : (execOp ρ.ev ⟨dst, .mapUpdate t m k x, ty, pos, after, guard⟩).run P w = .ok .skip w' := by
      simp only [execOp, Sem.run_bind, hr, Result.andThen_ok]; rfl
    rw [this]
    exact .skip w' h' i s k'
  case h_9 =>
    rename_i t m k x
    obtain ⟨w', h', hr, i, s, k'⟩ := lT hk w hi
    have : (execOp ρ.ev ⟨dst, .insert t m k x, ty, pos, after, guard⟩).run P w = .ok .skip w' := by
      simp only [execOp, Sem.run_bind, hr, Result.andThen_ok]; rfl
    rw [this]
    exact .skip w' h' i s k'
  case h_10 => exact lift (td hk) rfl
  case h_11 => exact lift (uX hk) rfl
  case h_12 =>
    rename_i c
    obtain ⟨callee, args, ats⟩ := c
    dsimp only at hk
    split at hk
    · rename_i b
      have arr : ∀ {l : List Value}, args.toList.map ρ.ev = l → args.map ρ.ev = l.toArray := fun e => by
        apply Array.ext'
        simpa using e
      have arrT : ∀ {l : List TypeId}, ats.toList = l → ats = l.toArray := fun e => by
        apply Array.ext'
        simpa using e
      have hex : execOp ρ.ev ⟨dst, .call { callee := .builtin b, args := args, argTypes := ats }, ty, pos, after, guard⟩ = builtin b ats ty (args.map fun | .const _ => true | _ => false) (args.map ρ.ev) := rfl
      unfold iD at hk
      split at hk
      · rename_i e1 e2
        exact lift (rC hk).LM (by rw [hex, arr e2, arrT e1]; rfl)
      · rename_i e1 e2
        exact lift (uS rfl hk) (by rw [hex, arr e2, arrT e1]; rfl)
      · exact hk.elim
    · rename_i f
      unfold rP at hk
      split at hk
      · rename_i g first captured hf
        have : (execOp ρ.ev ⟨dst, .call { callee := .value f, args := args, argTypes := ats }, ty, pos, after, guard⟩).run P w = .ok (.enter g (first ++ args.map ρ.ev ++ captured)) w := by
          simp only [execOp, resolve, hf, Deferred.ofValue, invoke, Sem.run_bind, Sem.run_pure, Result.andThen_ok, jR hk.1]
        rw [this]
        exact .enter g _ w h hi (bq.refl w) hk.2
      · exact hk.elim
    · exact hk.elim
  case h_13 => exact hk.elim
theorem gI {P : Program} {o : Oper} {ρ : Env} {h : Hp} {K : KH} (hk : br P o.op ρ h K) {w : World} (hi : Is w h) : Ran P w K ((execOp ρ.ev o).run P w) := by
  unfold br at hk
  split at hk
  · exact uY hk hi
  · obtain ⟨v, hv, hr⟩ := kJ hk
    rw [hr w hi.fits]
    exact .value v w h hi (bq.refl w) hv
theorem Ran.wp {P : Program} {o : Oper} {a : Act} {w w0 : World} {K : KH} {N : Act → World → Prop} {Q : Exit → Act → World → Prop} (hr : Ran P w K ((execOp a.eval o).run P w)) (hs : bq w0 w)
    (hn : ∀ v h' w', Is w' h' → bq w0 w' → K v h' → N (a.put o.dst v) w') : o.wp P a w N Q := by
  unfold Oper.wp
  generalize (execOp a.eval o).run P w = r at hr
  cases hr with
  | value v w' h' hi hs' hk => exact hn v h' w' hi (hs.trans hs') hk
  | skip w' h' hi hs' hk => exact hn undef h' w' hi (hs.trans hs') hk
  | enter f args w' h' hi hs' hk =>
    exact (hk w' hi).mono fun e w'' ⟨v, g, he, hi'', hs'', hk'⟩ => by
      subst he
      exact hn v g w'' hi'' ((hs.trans hs').trans hs'') hk'
def fK (ops : Array Oper) (j : Nat) : Option Nat := (ops[j]?).bind (·.dst)
def iE (P : Program) (ops : Array Oper) : List Oper → Env → Hp → (Env → Hp → Prop) → Prop
  | [], ρ, h, N => N ρ h
  | o :: l, ρ, h, N => (match o.guard with
    | none => br P o.op ρ h fun v h' => iE P ops l (ρ.put o.dst v) h' N
    | some (j, want) => (match fK ops j with
      | none => False
      | some t => (match ρ t with
        | .bool q => Br (q == want) (br P o.op (ρ.upd t (.bool want)) h fun v h' => iE P ops l ((ρ.upd t (.bool want)).put o.dst v) h' N)
          (iE P ops l ((ρ.upd t (.bool (!want))).put o.dst undef) h N)
        | .tuple _ => iE P ops l (ρ.put o.dst undef) h N
        | _ => False)))
theorem jS {ρ : Env} {t : Nat} {v : Value} (h : ρ t = v) : ρ.upd t v = ρ := by
  funext x
  simp only [Env.upd]
  split
  · rename_i e; rw [e, h]
  · rfl
theorem mc {n : Nat} {a : Act} {ρ : Env} (hr : Rel n a ρ) (ops : Array Oper) {j t : Nat} (hg : fK ops j = some t) : yielded ops a.tmps j = (match ρ t with | .bool b => some b | _ => none) := by
  have h1 := hr.2.2 t
  unfold yielded
  unfold fK at hg
  rw [hg]
  simp only [Option.bind_some]
  rw [← h1]
  simp only [Array.getD_eq_getD_getElem?]
  cases a.tmps[t]? with
  | none => simp [undef]
  | some v => cases v <;> rfl
def dW (ds : List Nat) (ρ0 ρ : Env) : Prop := ∀ t, ds.contains t = false → ρ t = ρ0 t
theorem dW.put {ds : List Nat} {ρ0 ρ : Env} (hk : dW ds ρ0 ρ) {d : Option Nat} (hd : ∀ t, d = some t → ds.contains t = true) (v : Value) : dW ds ρ0 (ρ.put d v) := by
  intro t ht
  cases d with
  | none => exact hk t ht
  | some d =>
    have : t ≠ d := fun e => by subst e; rw [hd _ rfl] at ht; cases ht
    simp only [Env.put, Env.upd, if_neg this]
    exact hk t ht
end Go.Proofs.Ythjggjhebbdkdaa
namespace Go.Proofs.Ythjggjhebbdkdaa
open Go Go.RowKit
section
variable {P : Program} {C C' : Value → Prop}
structure One (F : (Value → Prop) → Prop) : Prop where
  mono : ∀ {C C' : Value → Prop}, (∀ v, C v → C' v) → F C → F C'
  both : ∀ {C C' : Value → Prop}, F C → F C' → ∃ u, C u ∧ C' u ∧ F (fun v => v = u)
theorem One.ap (v : Value) : One (fun C => C v) := ⟨fun h k => h _ k, fun h k => ⟨v, h, k, rfl⟩⟩
theorem One.false : One (fun _ => False) := ⟨fun _ h => h.elim, fun h => h.elim⟩
theorem One.and {p : Prop} {F : (Value → Prop) → Prop} (hf : One F) : One (fun C => p ∧ F C) :=
  ⟨fun h k => ⟨k.1, hf.mono h k.2⟩, fun h k => let ⟨u, h1, h2, h3⟩ := hf.both h.2 k.2; ⟨u, h1, h2, h.1, h3⟩⟩
theorem E6 (op : BinOp) (t : TypeId) (x y : Value) : One (iz P op t x y) := by
  unfold iz
  cases x <;> cases y <;> try exact One.false
  case int.int => cases op <;> first | exact .and (.and (.ap _)) | exact .and (.ap _)
  case string.string => cases op <;> first | exact .and (.ap _) | exact .ap _ | exact .false
  case bool.bool => cases op <;> first | exact .and (.ap _) | exact .false
  case pointer.pointer p q =>
    cases q with
    | some a => exact .false
    | none =>
      cases op <;> try exact One.false
      all_goals (cases P.underlying t with
        | none => exact .false
        | some d => cases d <;> first | exact .ap _ | exact .false)
  case slice.slice p n c q n' c' =>
    cases q with
    | some a => exact .false
    | none =>
      cases op <;> try exact One.false
      all_goals (cases P.underlying t with
        | none => exact .false
        | some d => cases d <;> first | exact .ap _ | exact .false)
  case agg.agg xs ys =>
    dsimp only
    cases pG P t xs ys with
    | none => cases op <;> exact .false
    | some q => cases op <;> first | exact .ap _ | exact .false
theorem B6 (op : BinOp) (t : TypeId) (x y : Value) (h : Hp) : One (gH P op t x y h) := by
  unfold gH
  split
  · unfold Al
    split
    · exact .and (.and (.ap _))
    · exact .and (.and (.ap _))
    · exact .false
  · exact E6 _ _ _ _
theorem HM (op : UnOp) (x : Value) : One (aun op x) := by
  unfold aun
  cases op <;> cases x <;> first | exact .ap _ | exact .false
theorem B7 (t : TypeId) (a : Value) (h : Hp) : One (fJ P t a h) := by
  unfold fJ
  split
  · rename_i b o
    cases h.f b with
    | none => exact .false
    | some x =>
      cases x <;> try exact One.false
      rename_i c e fz
      cases aJ P t with
      | none => exact .false
      | some q =>
        cases q
        · dsimp only
          cases c[o]? <;> first | exact .false | exact .ap _
        · dsimp only
          cases ah P t with
          | none => exact .false
          | some n =>
            dsimp only
            cases b6 c o n <;> first | exact .false | exact .ap _
  · exact .false
theorem rE (s : TypeId) (a : Value) (i : Nat) : One (dN P s a i) := by
  unfold dN
  split
  · exact .ap _
  · exact .false
theorem uZ (t : TypeId) (cs : Array Value) (off : Nat) : One (jL P t cs off) := by
  unfold jL
  cases aJ P t with
  | none => exact .false
  | some q =>
    cases q
    · dsimp only
      cases cs[off]? <;> first | exact .false | exact .ap _
    · dsimp only
      cases ah P t <;> first | exact .false | exact .ap _
theorem Am (s : TypeId) (x : Value) (i : Nat) : One (l8 P s x i) := by
  unfold l8
  split
  · exact uZ _ _ _
  · exact .false
theorem rF (t : TypeId) (x ix : Value) : One (bY P t x ix) := by
  unfold bY
  split
  · split
    · refine .and (.and ?_)
      cases ah P _ <;> first | exact .false | exact .ap _
    · refine .and (.and ?_)
      cases ah P _ <;> first | exact .false | exact .ap _
    · exact .false
  · exact .false
theorem An (t : TypeId) (x ix : Value) : One (gW P t x ix) := by
  unfold gW
  split
  · split
    · refine .and (.and ?_)
      cases ah P _ <;> first | exact .false | exact uZ _ _ _
    · refine .and ?_
      rename_i i _ _ s _
      cases s.toList[i.toNat]? <;> first | exact .false | exact .ap _
    · exact .false
  · exact .false
theorem u0 (x : Value) (i : Nat) : One (iA x i) := by
  unfold iA
  split
  · rename_i vs
    cases vs[i]? <;> first | exact .false | exact .ap _
  · exact .false
theorem E7 (t : TypeId) (x : Value) (h : Hp) : One (jO P t x h) := by
  unfold jO
  split
  · exact .ap _
  · exact .ap _
  · exact .ap _
  · exact .ap _
  · split
    · exact .ap _
    · exact .false
  · exact .false
theorem B8 (q : Bool) (x y : Value) : One (bZ q x y) := by
  unfold bZ
  split
  · exact .ap _
  · exact .false
theorem yN (q : Bool) (x y z : Value) : One fun K => bZ q x y fun u => bZ q u z K := by
  unfold bZ
  split
  · dsimp only
    split
    · exact .ap _
    · exact .false
  · exact .false
theorem xB (t : TypeId) (m k : Value) (ok : Bool) (h : Hp) : One (gE P t m k ok h) := by
  unfold gE
  cases lA P t m k ok h <;> first | exact .false | exact .ap _
theorem Ao (x : Value) (h : Hp) : One (ma x h) := by
  unfold ma
  split
  · split
    · split
      · split
        · exact .and (.ap _)
        · exact .false
      · exact .false
    · exact .false
  · exact .false
theorem Ap (t : TypeId) (x : Value) (lo hi mx : Option Value) : One (cI P t x lo hi mx) := by
  unfold cI
  split
  · refine .and (.and ?_)
    split
    · exact .and (.and (.and (.ap _)))
    · exact .false
  · split
    · split
      · exact .and (.and (.and (.and (.and (.ap _)))))
      · exact .false
    · exact .false
  · exact .false
theorem ew (o : Op) (ρ : Env) (h : Hp) : One (cT P o ρ h) := by
  unfold cT
  split
  · exact .ap _
  · exact .ap _
  · split
    · exact .ap _
    · exact .false
  · split
    · exact .ap _
    · exact .false
  · exact B7 _ _ _
  · split
    · exact .ap _
    · exact .ap _
    · exact .false
  · exact B6 _ _ _ _ _
  · exact HM _ _
  · exact .ap _
  · exact Ap _ _ _ _ _
  · exact rE _ _ _
  · exact Am _ _ _
  · exact rF _ _ _
  · exact An _ _ _
  · exact u0 _ _
  · exact xB _ _ _ _ _
  · exact Ao _ _
  · split
    · unfold cP
      split
      · exact E7 _ _ _
      · exact B8 _ _ _
      · exact B8 _ _ _
      · exact yN _ _ _ _
      · exact yN _ _ _ _
      · exact .false
    · exact .false
  · exact .false
end
structure Mono (F : KH → Prop) : Prop where
  mono : ∀ {K K' : KH}, (∀ v h, K v h → K' v h) → F K → F K'
section
variable {P : Program}
theorem Mono.ap (v : Value) (h : Hp) : Mono (fun K => K v h) := ⟨fun m k => m _ _ k⟩
theorem Mono.false : Mono (fun _ => False) := ⟨fun _ h => h.elim⟩
theorem Mono.and {p : Prop} {F : KH → Prop} (hf : Mono F) : Mono (fun K => p ∧ F K) := ⟨fun h k => ⟨k.1, hf.mono h k.2⟩⟩
theorem One.toMono {F : (Value → Prop) → Prop} (hf : One F) (h : Hp) : Mono (fun K => F fun v => K v h) := ⟨fun m k => hf.mono (fun v hv => m v h hv) k⟩
theorem Aq (s d : TypeId) (x : Value) (h : Hp) : Mono (eV P s d x h) := ⟨fun {K K'} m k => by
  unfold eV at *
  split at k
  · split at k
    · exact m _ _ k
    · exact k.elim
  · split at k
    · exact m _ _ k
    · exact ⟨k.1, fun cap hc => m _ _ (k.2 cap hc)⟩
    · exact k.elim
  · split at k
    · refine ⟨k.1, ?_⟩
      have k2 := k.2
      split at k2
      · exact m _ _ k2
      · split at k2
        · split at k2
          · exact m _ _ k2
          · exact k2.elim
        · exact k2.elim
      · exact k2.elim
    · exact k.elim
  · exact k.elim⟩
theorem xC (t : TypeId) (a v : Value) (h : Hp) : Mono (kG P t a v h) := by
  unfold kG
  split
  · split
    · exact .and (.and (.and (.and (.ap _ _))))
    · exact .false
  · exact .false
theorem Ar (t : TypeId) (l c : Value) (h : Hp) : Mono (pM P t l c h) := by
  unfold pM
  split
  · split
    · split
      · exact .and (.and (.and (.and (.ap _ _))))
      · exact .false
    · exact .false
  · exact .false
theorem As (t : TypeId) (d x : Value) (h : Hp) : Mono (kH P t d x h) := by
  unfold kH
  split
  · split
    · split
      · split
        · split
          · exact .ap _ _
          · split
            · exact .and (.and (.and (.ap _ _)))
            · exact .false
          · exact .false
        · exact .false
      · exact .false
    · exact .false
  · exact .false
theorem u4 (t u : TypeId) (s x : Value) (h : Hp) : Mono (ft P t u s x h) := ⟨fun {K K'} m k => by
  unfold ft at *
  split at k
  · obtain ⟨e, dx, k1, by', z, n, new, h1, h2, h3, h4, h5, h6, h7, h8, h9, h10, h11⟩ := k
    refine ⟨e, dx, k1, by', z, n, new, h1, h2, h3, h4, h5, h6, h7, h8, h9, fun hl => ?_, fun hl => ?_⟩
    · have := h10 hl
      unfold ou at *
      split at this
      · exact m _ _ this
      · split at this
        · exact ⟨this.1, this.2.1, this.2.2.1, m _ _ this.2.2.2⟩
        · exact this.elim
      · exact this.elim
    · obtain ⟨a1, old, a2, a3⟩ := h11 hl
      exact ⟨a1, old, a2, fun cap hc => m _ _ (a3 cap hc)⟩
  · exact k.elim⟩
theorem tf (t u : TypeId) (s x : Value) (h : Hp) : Mono (fun K => ft P t u s x h (nK K)) := ⟨fun m k => (u4 t u s x h).mono (fun v g ⟨g', hs, hk⟩ => ⟨g', hs, m _ _ hk⟩) k⟩
theorem Au (f : Value) (args : Array Value) (h : Hp) : Mono (rP P f args h) := ⟨fun {K K'} m k => by
  unfold rP at *
  split at k
  · exact ⟨k.1, k.2.mono m⟩
  · exact k.elim⟩
theorem Av (o : Op) (ρ : Env) (h : Hp) : Mono (kI P o ρ h) := by
  unfold kI
  split
  · unfold nJ
    split
    · exact .ap _ _
    · exact .false
  · exact .ap _ _
  · split
    · exact .ap _ _
    · exact .false
  · exact xC _ _ _ _
  · exact Aq _ _ _ _
  · exact Ar _ _ _ _
  · exact .ap _ _
  · unfold iR
    split
    · exact .ap _ _
    · exact .false
  · unfold iR
    split
    · exact .ap _ _
    · exact .false
  · unfold tc
    refine .and ?_
    split
    · split
      · exact .ap _ _
      · exact .false
    · exact .false
  · unfold rO
    split
    · split
      · split
        · exact ⟨fun m k => ⟨k.1, k.2.1, fun q => m _ _ (k.2.2.1 q), fun e he => m _ _ (k.2.2.2 e he)⟩⟩
        · exact .false
      · exact .false
    · exact .false
  · split
    · unfold iD
      split
      · exact tf _ _ _ _ _
      · exact As _ _ _ _
      · exact .false
    · exact Au _ _ _
    · exact .false
  · exact .false
theorem rQ (o : Op) (ρ : Env) (h : Hp) : Mono (br P o ρ h) := by
  unfold br
  split
  · exact Av _ _ _
  · exact (ew _ _ _).toMono h
end
end Go.Proofs.Ythjggjhebbdkdaa
namespace Go.Proofs.Ythjggjhebbdkdaa
open Go Go.RowKit
def pR (P : Program) (t : TypeId) : Bool := match P.underlying t with
  | some (.pointer _) => true
  | _ => false
def HN : BinOp → Bool
  | .eql | .neq => true
  | _ => false
def tg (P : Program) (ts : Array TypeId) : Bool := match ts.toList with
  | [t] => (match P.underlying t with
    | some (.map _ _) => false
    | _ => true)
  | _ => false
def me (P : Program) : Op → Bool
  | .move _ | .assign _ | .pick .. | .build .. | .nilCheck _ | .unOp .. | .makeFunc .. | .slice .. | .fieldAddr .. | .field .. | .indexAddr .. | .index .. | .extract .. => true
  | .binOp op t _ _ _ => !(HN op && pR P t)
  | .call c => (match c.callee with
    | .builtin .min | .builtin .max => true
    | .builtin .len => tg P c.argTypes
    | _ => false)
  | _ => false
def eI (o : Op) : Bool := !bE o
section
variable {P : Program} {ops : Array Oper}
theorem xD {op : BinOp} {t : TypeId} {x y : Value} {h h' : Hp} {C : Value → Prop} (hn : HN op = true → pR P t = true → False) (k : gH P op t x y h C) : gH P op t x y h' C := by
  unfold gH at *
  split
  · rename_i a b
    dsimp only at k
    unfold Al at k
    split at k
    · rename_i e k' hu
      exact (hn rfl (by unfold pR; rw [hu])).elim
    · rename_i e k' hu
      exact (hn rfl (by unfold pR; rw [hu])).elim
    · exact k.elim
  · rename_i hne
    split at k
    · rename_i a b
      exact (hne a b rfl rfl).elim
    · exact k
theorem mV {o : Op} (hc : me P o = true) (ρ : Env) (h h' : Hp) (C : Value → Prop) : cT P o ρ h C → cT P o ρ h' C := by
  intro k
  cases o
  case call c =>
    obtain ⟨callee, args, ats⟩ := c
    cases callee with
    | builtin b =>
      cases b
      case len =>
        have hc : tg P ats = true := hc
        have k : cP P .len ats.toList (args.toList.map ρ.ev) h C := k
        show cP P .len ats.toList (args.toList.map ρ.ev) h' C
        unfold tg at hc
        split at hc
        · rename_i t ht
          rw [ht] at k ⊢
          rcases hx : args.toList.map ρ.ev with _ | ⟨x, _ | ⟨y, r⟩⟩
          · rw [hx] at k; exact k
          · rw [hx] at k
            have k : jO P t x h C := k
            show jO P t x h' C
            unfold jO at *
            split at hc
            · cases hc
            · rename_i hnm
              split at k
              · exact k
              · exact k
              · exact k
              · rename_i e1 _; exact (hnm _ _ e1).elim
              · rename_i e1 _; exact (hnm _ _ e1).elim
              · exact k.elim
          · rw [hx] at k; exact k
        · cases hc
      all_goals first | (rcases args with ⟨_ | ⟨x, _ | ⟨y, _ | ⟨z, _ | ⟨w, r⟩⟩⟩⟩⟩ <;> exact k) | (exfalso; revert hc; simp [me])
    | _ => cases hc
  case binOp op t x y t' =>
    have hn : HN op = true → pR P t = true → False := fun h1 h2 => by
      simp only [me, h1, h2, Bool.and_self, Bool.not_true] at hc; cases hc
    exact xD hn k
  all_goals first | exact k | cases hc
theorem jT {o : Op} (hc : me P o = true) : eI o = true := by
  cases o
  case call c =>
    obtain ⟨callee, args, ats⟩ := c
    cases callee with
    | builtin b => cases b <;> first | rfl | cases hc
    | _ => cases hc
  all_goals first | rfl | cases hc
def aX (P : Program) (ops : Array Oper) (o : Oper) (ρ : Env) (h : Hp) (K : Env → Hp → Prop) : Prop :=
  match o.guard with
  | none => br P o.op ρ h fun v h' => K (ρ.put o.dst v) h'
  | some (j, want) => (match fK ops j with
    | none => False
    | some t => (match ρ t with
      | .bool q => if q = want then br P o.op ρ h (fun v h' => K (ρ.put o.dst v) h') else K (ρ.put o.dst undef) h
      | .tuple _ => K (ρ.put o.dst undef) h
      | _ => False))
theorem jU {o : Oper} {l : List Oper} {ρ : Env} {h : Hp} {N : Env → Hp → Prop} (hk : iE P ops (o :: l) ρ h N) : aX P ops o ρ h fun ρ' h' => iE P ops l ρ' h' N := by
  unfold iE at hk
  unfold aX
  split at hk
  · rename_i hg; (try simp only [hg]); exact hk
  · rename_i j want hg
    (try simp only [hg])
    split at hk
    · exact hk.elim
    · rename_i t ht
      (try simp only [ht])
      split at hk
      · rename_i q hq
        (try simp only [hq])
        rcases yL hk with ⟨hqw, hk2⟩ | ⟨hqw, hk2⟩
        · have e : q = want := by simpa using hqw
          rw [if_pos e]
          rw [jS (by rw [hq, e])] at hk2
          exact hk2
        · have e : q = !want := by cases q <;> cases want <;> simp_all
          rw [if_neg (by rw [e]; cases want <;> simp)]
          rw [jS (by rw [hq, e])] at hk2
          exact hk2
      · rename_i vs hq
        (try simp only [hq]); exact hk
      · exact hk.elim
theorem dq {o : Oper} {ρ : Env} {h : Hp} {K K' : Env → Hp → Prop} (m : ∀ v h', K (ρ.put o.dst v) h' → K' (ρ.put o.dst v) h') (hk : aX P ops o ρ h K) : aX P ops o ρ h K' := by
  unfold aX at *
  split at hk
  · rename_i hg; exact (rQ _ _ _).mono (fun v h' => m v h') hk
  · rename_i j want hg
    split at hk
    · exact hk.elim
    · rename_i t ht
      split at hk
      · split at hk
        · rename_i e; rw [if_pos e]; exact (rQ _ _ _).mono (fun v h' => m v h') hk
        · rename_i e; rw [if_neg e]; exact m _ _ hk
      · exact m _ _ hk
      · exact hk.elim
def looks (ops : Array Oper) (o : Oper) : List Nat := o.looksAt ops
theorem jr {ρ : Env} {d : Option Nat} {v : Value} {t : Nat} (h : ∀ x, d = some x → x ≠ t) : (ρ.put d v) t = ρ t := by
  cases d with
  | none => rfl
  | some x => simp [Env.put, Env.upd, Ne.symm (h x rfl)]
theorem put_comm {ρ : Env} {d e : Option Nat} (hne : ∀ x, d = some x → e ≠ some x) (v u : Value) : (ρ.put d v).put e u = (ρ.put e u).put d v := by
  cases d with
  | none => rfl
  | some x =>
    cases e with
    | none => rfl
    | some y =>
      have : x ≠ y := fun q => hne x rfl (q ▸ rfl)
      funext t
      simp only [Env.put, Env.upd]
      by_cases h1 : t = y
      · subst h1; simp [Ne.symm this]
      · simp [h1]
theorem u5 {ρ ρ' : Env} {x : Operand} (h : ∀ t, x = .tmp t → ρ' t = ρ t) : ρ'.ev x = ρ.ev x := by
  cases x with
  | tmp t => exact h t rfl
  | _ => rfl
theorem iS {o : Op} {ρ ρ' : Env} (hs : ∀ x ∈ o.operands, ρ'.ev x = ρ.ev x) (h : Hp) (K : KH) : br P o ρ' h K = br P o ρ h K := by
  have pairs : ∀ ps : Array (Nat × Operand), (∀ x ∈ (ps.toList.map (·.2)), ρ'.ev x = ρ.ev x) → (ps.toList.map fun x => (x.1, ρ'.ev x.2)) = (ps.toList.map fun x => (x.1, ρ.ev x.2)) := fun ps hp =>
    List.map_congr_left fun p hm => by
      rw [hp p.2 (List.mem_map.2 ⟨p, hm, rfl⟩)]
  have opt : ∀ x : Option Operand, (∀ y, x = some y → ρ'.ev y = ρ.ev y) → x.map ρ'.ev = x.map ρ.ev := fun x hx => by
    cases x with
    | none => rfl
    | some y => simp [hx y rfl]
  have arr : ∀ xs : Array Operand, (∀ y ∈ xs, ρ'.ev y = ρ.ev y) → xs.map ρ'.ev = xs.map ρ.ev := fun xs hx => Array.map_congr_left hx
  have arrL : ∀ xs : Array Operand, (∀ y ∈ xs, ρ'.ev y = ρ.ev y) → xs.toList.map ρ'.ev = xs.toList.map ρ.ev := fun xs hx => List.map_congr_left fun y hy => hx y (by simpa using hy)
  unfold br
  cases o <;> simp only [Op.operands] at hs <;> simp only [bE, kI, cT, if_true, if_false, Bool.false_eq_true]
  case move x => rw [hs x (by simp)]
  case assign x => rw [hs x (by simp)]
  case pick c a b => rw [hs c (by simp), hs a (by simp), hs b (by simp)]
  case box e x => rw [hs x (by simp)]
  case build t ps => rw [pairs ps fun x hx => hs x (by simpa using hx)]
  case buildSlice t n ps => rw [pairs ps fun x hx => hs x (by simpa using hx)]
  case insert t m k x => rw [hs m (by simp), hs k (by simp), hs x (by simp)]
  case load t a => rw [hs a (by simp)]
  case store t a x => rw [hs a (by simp), hs x (by simp)]
  case nilCheck x => rw [hs x (by simp)]
  case binOp op t x y t' => rw [hs x (by simp), hs y (by simp)]
  case unOp op t x => rw [hs x (by simp)]
  case convert s d x => rw [hs x (by simp)]
  case makeFunc fn first captured => rw [arr first fun x hx => hs x (by simp [hx]), arr captured fun x hx => hs x (by simp [hx])]
  case makeSlice t l c => rw [hs l (by simp), hs c (by simp)]
  case makeMap t r => cases r <;> simp only [kI]
  case slice t x lo hi mx =>
    rw [hs x (by simp), opt lo fun y hy => hs y (by subst hy; simp), opt hi fun y hy => hs y (by subst hy; simp), opt mx fun y hy => hs y (by subst hy; simp)]
  case fieldAddr s x i => rw [hs x (by simp)]
  case field s x i => rw [hs x (by simp)]
  case indexAddr t x i => rw [hs x (by simp), hs i (by simp)]
  case index t x i => rw [hs x (by simp), hs i (by simp)]
  case lookup t x i ok => rw [hs x (by simp), hs i (by simp)]
  case mapUpdate t m k x => rw [hs m (by simp), hs k (by simp), hs x (by simp)]
  case extract x i => rw [hs x (by simp)]
  case range t x => rw [hs x (by simp)]
  case next x q => rw [hs x (by simp)]
  case entry x => rw [hs x (by simp)]
  case call c =>
    obtain ⟨callee, args, ats⟩ := c
    have ha : ∀ y ∈ args, ρ'.ev y = ρ.ev y := fun y hy => hs y (by simp [Call.operands, hy])
    cases callee with
    | value f =>
      (try simp only [mb, if_true, kI])
      rw [arr args ha, hs f (by simp [Call.operands])]
    | invoke r m => simp only [mb, cT, Bool.false_eq_true, if_false]
    | builtin b =>
      (try simp only [kI, cT])
      rw [arrL args ha]
theorem kK {o : Oper} {d : Option Nat} (hl : ∀ x, d = some x → x ∉ looks ops o) (hd : ∀ x, d = some x → o.dst ≠ some x) (ρ : Env) (u : Value) (h : Hp) (K : Env → Hp → Prop) :
    aX P ops o (ρ.put d u) h K = aX P ops o ρ h fun ρ' h' => K (ρ'.put d u) h' := by
  have hop : ∀ x ∈ o.op.operands, (ρ.put d u).ev x = ρ.ev x := fun x hx => u5 fun t ht => jr fun y hy e => hl y hy (by
    subst ht e
    exact List.mem_append_left _ (List.mem_filterMap.2 ⟨.tmp y, by simpa using hx, rfl⟩))
  have hc : ∀ v, (ρ.put d u).put o.dst v = (ρ.put o.dst v).put d u := fun v => put_comm hd u v
  unfold aX
  cases hg : o.guard with
  | none =>
    dsimp only
    rw [iS hop]
    (try simp only [hc])
  | some q =>
    obtain ⟨j, want⟩ := q
    dsimp only
    cases ht : fK ops j with
    | none => rfl
    | some t =>
      dsimp only
      have hslot : (ρ.put d u) t = ρ t := jr fun y hy e => hl y hy (by
        subst e
        unfold fK at ht
        simp [looks, Oper.looksAt, hg, ht])
      rw [hslot, iS hop]
      (try simp only [hc])
theorem kN {o : Oper} (hs : eI o.op = true) {ρ : Env} {h : Hp} {K K' : Env → Hp → Prop} (hk : aX P ops o ρ h K) (hk' : aX P ops o ρ h K') :
    ∃ u, K (ρ.put o.dst u) h ∧ K' (ρ.put o.dst u) h ∧ ∀ L : Env → Hp → Prop, L (ρ.put o.dst u) h → aX P ops o ρ h L := by
  have hl : bE o.op = false := by simpa [eI] using hs
  have red : ∀ (F : KH), br P o.op ρ h F = cT P o.op ρ h fun v => F v h := fun F => by unfold br; rw [hl]; rfl
  unfold aX at *
  split at hk
  · rename_i hg
    simp only [hg] at hk'
    rw [red] at hk hk'
    obtain ⟨u, h1, h2, h3⟩ := (ew _ _ _).both hk hk'
    refine ⟨u, h1, h2, fun L hL => ?_⟩
    rw [red]
    exact (ew _ _ _).mono (fun v (hv : v = u) => by rw [hv]; exact hL) h3
  · rename_i j want hg
    simp only [hg] at hk'
    split at hk
    · exact hk.elim
    · rename_i t ht
      simp only [ht] at hk'
      split at hk
      · rename_i q hq
        simp only [hq] at hk'
        split at hk
        · rename_i e
          rw [if_pos e] at hk'
          rw [red] at hk hk'
          obtain ⟨u, h1, h2, h3⟩ := (ew _ _ _).both hk hk'
          refine ⟨u, h1, h2, fun L hL => ?_⟩
          rw [if_pos e, red]
          exact (ew _ _ _).mono (fun v (hv : v = u) => by rw [hv]; exact hL) h3
        · rename_i e
          rw [if_neg e] at hk'
          exact ⟨undef, hk, hk', fun L hL => by rw [if_neg e]; exact hL⟩
      · rename_i vs hq
        simp only [hq] at hk'
        exact ⟨undef, hk, hk', fun L hL => hL⟩
      · exact hk.elim
def nL (P : Program) : Op → Bool
  | .convert s d _ => (match P.underlying s, P.underlying d with
    | some (.int _), some (.int _) => true
    | _, _ => false)
  | _ => false
theorem oZ {o : Op} (hs : nL P o = true) {ρ : Env} {h : Hp} {F F' : KH} (hk : br P o ρ h F) (hk' : br P o ρ h F') : ∃ u, F u h ∧ F' u h ∧ ∀ G : KH, G u h → br P o ρ h G := by
  cases o
  case convert s d x =>
    have red : ∀ G : KH, br P (.convert s d x) ρ h G = eV P s d (ρ.ev x) h G := fun G => rfl
    rw [red] at hk hk'
    unfold nL at hs
    dsimp only at hs
    split at hs
    · rename_i k1 k2 e1 e2
      unfold eV at hk hk'
      split at hk
      · rename_i q n hv
        simp only [hv, e1, e2] at hk hk'
        refine ⟨_, hk, hk', fun G hG => ?_⟩
        rw [red]; unfold eV
        (try simp only [hv, e1, e2])
        exact hG
      · simp only [e1, e2] at hk
      · simp only [e1, e2] at hk
      · exact hk.elim
    · cases hs
  all_goals cases hs
theorem u6 {o : Oper} (hs : nL P o.op = true) {ρ : Env} {h : Hp} {K K' : Env → Hp → Prop} (hk : aX P ops o ρ h K) (hk' : aX P ops o ρ h K') :
    ∃ u, K (ρ.put o.dst u) h ∧ K' (ρ.put o.dst u) h ∧ ∀ L : Env → Hp → Prop, L (ρ.put o.dst u) h → aX P ops o ρ h L := by
  unfold aX at *
  split at hk
  · rename_i hg
    simp only [hg] at hk'
    obtain ⟨u, h1, h2, h3⟩ := oZ hs hk hk'
    refine ⟨u, h1, h2, fun L hL => ?_⟩
    exact h3 _ hL
  · rename_i j want hg
    simp only [hg] at hk'
    split at hk
    · exact hk.elim
    · rename_i t ht
      simp only [ht] at hk'
      split at hk
      · rename_i q hq
        simp only [hq] at hk'
        split at hk
        · rename_i e
          rw [if_pos e] at hk'
          obtain ⟨u, h1, h2, h3⟩ := oZ hs hk hk'
          refine ⟨u, h1, h2, fun L hL => ?_⟩
          rw [if_pos e]
          exact h3 _ hL
        · rename_i e
          rw [if_neg e] at hk'
          exact ⟨undef, hk, hk', fun L hL => by rw [if_neg e]; exact hL⟩
      · rename_i vs hq
        simp only [hq] at hk'
        exact ⟨undef, hk, hk', fun L hL => hL⟩
      · exact hk.elim
theorem xE {o : Oper} (hc : me P o.op = true) {ρ : Env} {h : Hp} (h' : Hp) {K : Env → Hp → Prop} (hk : aX P ops o ρ h fun ρ' _ => K ρ' h') : aX P ops o ρ h' K := by
  have hl : bE o.op = false := by simpa [eI] using jT hc
  have red : ∀ (g : Hp) (F : KH), br P o.op ρ g F = cT P o.op ρ g fun v => F v g := fun g F => by unfold br; rw [hl]; rfl
  unfold aX at *
  split at hk
  · rw [red] at hk ⊢; exact mV hc ρ h h' _ hk
  · rename_i j want hg
    split at hk
    · exact hk.elim
    · rename_i t ht
      split at hk
      · split at hk
        · rename_i e; rw [if_pos e, red]; rw [red] at hk; exact mV hc ρ h h' _ hk
        · rename_i e; rw [if_neg e]; exact hk
      · exact hk
      · exact hk.elim
def fU (P : Program) (ops : Array Oper) (o : Oper) (ρ : Env) (h : Hp) (M : Value → Hp → Prop) : Prop :=
  match o.guard with
  | none => br P o.op ρ h M
  | some (j, want) => (match fK ops j with
    | none => False
    | some t => (match ρ t with
      | .bool q => if q = want then br P o.op ρ h M else M undef h
      | .tuple _ => M undef h
      | _ => False))
theorem lB (o : Oper) (ρ : Env) (h : Hp) (K : Env → Hp → Prop) : aX P ops o ρ h K = fU P ops o ρ h fun v h' => K (ρ.put o.dst v) h' := rfl
theorem pS {o : Oper} {ρ ρ' : Env} (ha : ∀ t ∈ looks ops o, ρ' t = ρ t) (h : Hp) (M : Value → Hp → Prop) : fU P ops o ρ' h M = fU P ops o ρ h M := by
  have hop : ∀ x ∈ o.op.operands, ρ'.ev x = ρ.ev x := fun x hx => u5 fun t ht => ha t (by
    subst ht
    exact List.mem_append_left _ (List.mem_filterMap.2 ⟨.tmp t, by simpa using hx, rfl⟩))
  unfold fU
  cases hg : o.guard with
  | none => dsimp only; rw [iS hop]
  | some q =>
    obtain ⟨j, want⟩ := q
    dsimp only
    cases ht : fK ops j with
    | none => rfl
    | some t =>
      dsimp only
      have hslot : ρ' t = ρ t := ha t (by
        unfold fK at ht
        simp [looks, Oper.looksAt, hg, ht])
      rw [hslot, iS hop]
theorem xF {o : Oper} (hs : eI o.op = true) {ρ : Env} {h : Hp} {M M' : Value → Hp → Prop} (hk : fU P ops o ρ h M) (hk' : fU P ops o ρ h M') :
    ∃ u, M u h ∧ M' u h ∧ ∀ L : Value → Hp → Prop, L u h → fU P ops o ρ h L := by
  have hl : bE o.op = false := by simpa [eI] using hs
  have red : ∀ (F : KH), br P o.op ρ h F = cT P o.op ρ h fun v => F v h := fun F => by unfold br; rw [hl]; rfl
  unfold fU at *
  split at hk
  · rename_i hg
    simp only [hg] at hk'
    rw [red] at hk hk'
    obtain ⟨u, h1, h2, h3⟩ := (ew _ _ _).both hk hk'
    refine ⟨u, h1, h2, fun L hL => ?_⟩
    rw [red]
    exact (ew _ _ _).mono (fun v (hv : v = u) => by rw [hv]; exact hL) h3
  · rename_i j want hg
    simp only [hg] at hk'
    split at hk
    · exact hk.elim
    · rename_i t ht
      simp only [ht] at hk'
      split at hk
      · rename_i q hq
        simp only [hq] at hk'
        split at hk
        · rename_i e
          rw [if_pos e] at hk'
          rw [red] at hk hk'
          obtain ⟨u, h1, h2, h3⟩ := (ew _ _ _).both hk hk'
          refine ⟨u, h1, h2, fun L hL => ?_⟩
          rw [if_pos e, red]
          exact (ew _ _ _).mono (fun v (hv : v = u) => by rw [hv]; exact hL) h3
        · rename_i e
          rw [if_neg e] at hk'
          exact ⟨undef, hk, hk', fun L hL => by rw [if_neg e]; exact hL⟩
      · rename_i vs hq
        simp only [hq] at hk'
        exact ⟨undef, hk, hk', fun L hL => hL⟩
      · exact hk.elim
theorem Aw {o : Oper} (hc : me P o.op = true) {ρ : Env} {h : Hp} (h' : Hp) {M : Value → Hp → Prop} (hk : fU P ops o ρ h fun v _ => M v h') : fU P ops o ρ h' M := by
  have hl : bE o.op = false := by simpa [eI] using jT hc
  have red : ∀ (g : Hp) (F : KH), br P o.op ρ g F = cT P o.op ρ g fun v => F v g := fun g F => by unfold br; rw [hl]; rfl
  unfold fU at *
  split at hk
  · rw [red] at hk ⊢; exact mV hc ρ h h' _ hk
  · rename_i j want hg
    split at hk
    · exact hk.elim
    · rename_i t ht
      split at hk
      · split at hk
        · rename_i e; rw [if_pos e, red]; rw [red] at hk; exact mV hc ρ h h' _ hk
        · rename_i e; rw [if_neg e]; exact hk
      · exact hk
      · exact hk.elim
theorem th {o : Op} (hs : nL P o = true) {ρ : Env} {h h' : Hp} {F : KH} (hk : br P o ρ h fun v _ => F v h') : br P o ρ h' F := by
  cases o
  case convert s d x =>
    have red : ∀ (g : Hp) (G : KH), br P (.convert s d x) ρ g G = eV P s d (ρ.ev x) g G := fun _ _ => rfl
    rw [red] at hk ⊢
    unfold nL at hs
    dsimp only at hs
    split at hs
    · rename_i k1 k2 e1 e2
      unfold eV at hk ⊢
      split at hk
      · rename_i q n hv
        simp only [hv, e1, e2] at hk ⊢
        exact hk
      · simp only [e1, e2] at hk
      · simp only [e1, e2] at hk
      · exact hk.elim
    · cases hs
  all_goals cases hs
theorem Ax {o : Oper} (hc : nL P o.op = true) {ρ : Env} {h : Hp} (h' : Hp) {K : Env → Hp → Prop} (hk : aX P ops o ρ h fun ρ' _ => K ρ' h') : aX P ops o ρ h' K := by
  unfold aX at *
  split at hk
  · exact th hc hk
  · rename_i j want hg
    split at hk
    · exact hk.elim
    · rename_i t ht
      split at hk
      · split at hk
        · rename_i e; rw [if_pos e]; exact th hc hk
        · rename_i e; rw [if_neg e]; exact hk
      · exact hk
      · exact hk.elim
theorem B9 {o : Oper} (hc : nL P o.op = true) {ρ : Env} {h : Hp} (h' : Hp) {M : Value → Hp → Prop} (hk : fU P ops o ρ h fun v _ => M v h') : fU P ops o ρ h' M := by
  unfold fU at *
  split at hk
  · exact th hc hk
  · rename_i j want hg
    split at hk
    · exact hk.elim
    · rename_i t ht
      split at hk
      · split at hk
        · rename_i e; rw [if_pos e]; exact th hc hk
        · rename_i e; rw [if_neg e]; exact hk
      · exact hk
      · exact hk.elim
def kp (P : Program) (o : Op) : Bool := me P o || nL P o
theorem u7 {o : Oper} (hc : kp P o.op = true) {ρ : Env} {h : Hp} (h' : Hp) {K : Env → Hp → Prop} (hk : aX P ops o ρ h fun ρ' _ => K ρ' h') : aX P ops o ρ h' K := by
  unfold kp at hc
  rw [Bool.or_eq_true] at hc
  exact hc.elim (fun q => xE q h' hk) (fun q => Ax q h' hk)
theorem xG {o : Oper} (hc : kp P o.op = true) {ρ : Env} {h : Hp} (h' : Hp) {M : Value → Hp → Prop} (hk : fU P ops o ρ h fun v _ => M v h') : fU P ops o ρ h' M := by
  unfold kp at hc
  rw [Bool.or_eq_true] at hc
  exact hc.elim (fun q => Aw q h' hk) (fun q => B9 q h' hk)
theorem Ay {o : Oper} (hs : eI o.op = true ∨ nL P o.op = true) {ρ : Env} {h : Hp} {K K' : Env → Hp → Prop} (hk : aX P ops o ρ h K) (hk' : aX P ops o ρ h K') :
    ∃ u, K (ρ.put o.dst u) h ∧ K' (ρ.put o.dst u) h ∧ ∀ L : Env → Hp → Prop, L (ρ.put o.dst u) h → aX P ops o ρ h L := hs.elim (fun q => kN q hk hk') fun q => u6 q hk hk'
theorem Ce {o : Oper} (hs : nL P o.op = true) {ρ : Env} {h : Hp} {M M' : Value → Hp → Prop} (hk : fU P ops o ρ h M) (hk' : fU P ops o ρ h M') :
    ∃ u, M u h ∧ M' u h ∧ ∀ L : Value → Hp → Prop, L u h → fU P ops o ρ h L := by
  unfold fU at *
  split at hk
  · rename_i hg
    simp only [hg] at hk'
    obtain ⟨u, h1, h2, h3⟩ := oZ hs hk hk'
    refine ⟨u, h1, h2, fun L hL => ?_⟩
    exact h3 _ hL
  · rename_i j want hg
    simp only [hg] at hk'
    split at hk
    · exact hk.elim
    · rename_i t ht
      simp only [ht] at hk'
      split at hk
      · rename_i q hq
        simp only [hq] at hk'
        split at hk
        · rename_i e
          rw [if_pos e] at hk'
          obtain ⟨u, h1, h2, h3⟩ := oZ hs hk hk'
          refine ⟨u, h1, h2, fun L hL => ?_⟩
          rw [if_pos e]
          exact h3 _ hL
        · rename_i e
          rw [if_neg e] at hk'
          exact ⟨undef, hk, hk', fun L hL => by rw [if_neg e]; exact hL⟩
      · rename_i vs hq
        simp only [hq] at hk'
        exact ⟨undef, hk, hk', fun L hL => hL⟩
      · exact hk.elim
theorem u9 {o : Oper} (hs : kp P o.op = true) {ρ : Env} {h : Hp} {M M' : Value → Hp → Prop} (hk : fU P ops o ρ h M) (hk' : fU P ops o ρ h M') : ∃ u, M u h ∧ M' u h ∧ ∀ L : Value → Hp → Prop, L u h → fU P ops o ρ h L := by
  unfold kp at hs
  rw [Bool.or_eq_true] at hs
  exact hs.elim (fun q => xF (jT q) hk hk') fun q => Ce q hk hk'
theorem Cf {o : Oper} {ρ : Env} {h : Hp} {M : Value → Hp → Prop} (hk : fU P ops o ρ h M) {w : World} (hi : Is w h) : ∃ v h' w', Is w' h' ∧ M v h' := by
  have st : br P o.op ρ h M → ∃ v h' w', Is w' h' ∧ M v h' := fun k => by
    have hr := gI k hi
    generalize (execOp ρ.ev o).run P w = r at hr
    cases hr with
    | value v w' h' i s m => exact ⟨v, h', w', i, m⟩
    | skip w' h' i s m => exact ⟨undef, h', w', i, m⟩
    | enter f args w' h' i s m =>
      obtain ⟨e, w2, fr, ⟨v, g, _, i2, _, m2⟩, _⟩ := m w' i []
      exact ⟨v, g, w2, i2, m2⟩
  unfold fU at hk
  split at hk
  · exact st hk
  · split at hk
    · exact hk.elim
    · split at hk
      · split at hk
        · exact st hk
        · exact ⟨_, h, w, hi, hk⟩
      · exact ⟨_, h, w, hi, hk⟩
      · exact hk.elim
def dj (P : Program) (ops : Array Oper) : List Nat → Env → Hp → (Env → Hp → Prop) → Prop
  | [], ρ, h, N => N ρ h
  | i :: l, ρ, h, N => (match ops[i]? with
    | none => dj P ops l ρ h N
    | some o => aX P ops o ρ h fun ρ' h' => dj P ops l ρ' h' N)
theorem vd (N : Env → Hp → Prop) : ∀ (l : List Oper) (k : Nat), (∀ j, l[j]? = ops[k + j]?) → ∀ ρ h, iE P ops l ρ h N → dj P ops (List.range' k l.length) ρ h N
  | [], _, _, _, _, hk => hk
  | o :: l, k, hl, ρ, h, hk => by
    have h0 : ops[k]? = some o := by simpa using (hl 0).symm
    simp only [List.length_cons, List.range'_succ, dj, h0]
    exact dq (fun v h' hn => vd N l (k + 1) (fun j => by have := hl (j + 1); simpa [Nat.add_assoc, Nat.add_comm 1 j] using this) _ _ hn) (jU hk)
def Ch : Op → Bool
  | .load .. => true
  | _ => false
def Az : Op → Bool
  | .buildSlice .. => true
  | _ => false
theorem yO {o : Op} (hs : Az o = true) {ρ : Env} {h : Hp} {F F' : KH} (hk : br P o ρ h F) (hk' : br P o ρ h F') : ∃ u h', F u h' ∧ F' u h' ∧ ∀ G : KH, G u h' → br P o ρ h G := by
  cases o
  case buildSlice t len parts =>
    have red : ∀ G : KH, br P (.buildSlice t len parts) ρ h G = (match cS P t len (parts.toList.map fun x => (x.1, ρ.ev x.2)) with
      | some (e, r) => G (.slice (some ⟨h.n, 0, none⟩) len len) ((h.put h.n (.cells r e (0, 0))).to (h.n + 1))
      | none => False) := fun G => rfl
    rw [red] at hk hk'
    split at hk
    · rename_i e r hq
      simp only [hq] at hk'
      exact ⟨_, _, hk, hk', fun G hG => by rw [red]; simp only [hq]; exact hG⟩
    · exact hk.elim
  all_goals cases hs
theorem AA {o : Oper} (hs : Az o.op = true) {ρ : Env} {h : Hp} {K K' : Env → Hp → Prop} (hk : aX P ops o ρ h K) (hk' : aX P ops o ρ h K') :
    ∃ u h', K (ρ.put o.dst u) h' ∧ K' (ρ.put o.dst u) h' ∧ ∀ L : Env → Hp → Prop, L (ρ.put o.dst u) h' → aX P ops o ρ h L := by
  unfold aX at *
  split at hk
  · rename_i hg
    simp only [hg] at hk'
    obtain ⟨u, h', h1, h2, h3⟩ := yO hs hk hk'
    refine ⟨u, h', h1, h2, fun L hL => ?_⟩
    exact h3 _ hL
  · rename_i j want hg
    simp only [hg] at hk'
    split at hk
    · exact hk.elim
    · rename_i t ht
      simp only [ht] at hk'
      split at hk
      · rename_i q hq
        simp only [hq] at hk'
        split at hk
        · rename_i e
          rw [if_pos e] at hk'
          obtain ⟨u, h', h1, h2, h3⟩ := yO hs hk hk'
          refine ⟨u, h', h1, h2, fun L hL => ?_⟩
          rw [if_pos e]
          exact h3 _ hL
        · rename_i e
          rw [if_neg e] at hk'
          exact ⟨undef, h, hk, hk', fun L hL => by rw [if_neg e]; exact hL⟩
      · rename_i vs hq
        simp only [hq] at hk'
        exact ⟨undef, h, hk, hk', fun L hL => hL⟩
      · exact hk.elim
def kq (P : Program) (ops : Array Oper) (j i : Nat) : Bool := match ops[j]?, ops[i]? with
  | some a, some b => a.apart ops b && (kp P a.op || kp P b.op || (eI a.op && eI b.op) || (Ch a.op && Az b.op))
  | _, _ => true
def Ext (h h' : Hp) : Prop := ∀ b o, h.f b = some o → h'.f b = some o
theorem Ci {t : TypeId} {a : Value} {h h' : Hp} {K : Value → Prop} (he : Ext h h') (hk : fJ P t a h K) : fJ P t a h' K := by
  unfold fJ at *
  split at hk
  · rename_i b o
    cases hb : h.f b with
    | none => simp only [hb] at hk
    | some x =>
      simp only [hb] at hk
      (try simp only [he b x hb])
      exact hk
  · exact hk.elim
theorem E8 {o : Oper} (hl : Ch o.op = true) {ρ : Env} {h h' : Hp} {u : Value} (he : Ext h h') (hu : ∀ L : Env → Hp → Prop, L (ρ.put o.dst u) h → aX P ops o ρ h L) (L : Env → Hp → Prop) (hL : L (ρ.put o.dst u) h') : aX P ops o ρ h' L := by
  have hk := hu (fun ρ' _ => ρ' = ρ.put o.dst u) rfl
  cases hop : o.op with
  | load t a =>
    have red : ∀ (g : Hp) (F : KH), br P o.op ρ g F = fJ P t (ρ.ev a) g fun v => F v g := fun g F => by rw [hop]; rfl
    have up : fJ P t (ρ.ev a) h (fun v => ρ.put o.dst v = ρ.put o.dst u) → fJ P t (ρ.ev a) h' fun v => L (ρ.put o.dst v) h' := fun k => by
      have k2 : cT P (.load t a) ρ h' fun v => ρ.put o.dst v = ρ.put o.dst u := Ci he k
      have k3 : cT P (.load t a) ρ h' fun v => L (ρ.put o.dst v) h' := (ew _ _ _).mono (fun v e => by rw [e]; exact hL) k2
      exact k3
    unfold aX at *
    split at hk
    · rw [red] at hk ⊢; exact up hk
    · split at hk
      · exact hk.elim
      · split at hk
        · split at hk
          · rename_i e; rw [if_pos e, red]; rw [red] at hk; exact up hk
          · rename_i e; rw [if_neg e, hk]; exact hL
        · rw [hk]; exact hL
        · exact hk.elim
  | _ => rw [hop] at hl; cases hl
theorem Cj {o : Oper} (hm : Az o.op = true) {ρ : Env} {h : Hp} {K : Env → Hp → Prop} (hw : ∀ b x, h.f b = some x → b < h.n) (hk : aX P ops o ρ h K) : aX P ops o ρ h fun ρ' h' => K ρ' h' ∧ Ext h h' := by
  have rfl' : Ext h h := fun _ _ e => e
  cases hop : o.op with
  | buildSlice t len parts =>
    have st : br P o.op ρ h (fun v h' => K (ρ.put o.dst v) h') → br P o.op ρ h fun v h' => K (ρ.put o.dst v) h' ∧ Ext h h' := fun k => by
      rw [hop] at k ⊢
      unfold br at *
      simp only [bE, if_true, kI] at *
      split at k
      · rename_i e r hr
        refine ⟨k, fun b x hb => ?_⟩
        have := hw b x hb
        show (if b = h.n then _ else h.f b) = some x
        rw [if_neg (by omega)]; exact hb
      · exact k.elim
    unfold aX at *
    split at hk
    · exact st hk
    · split at hk
      · exact hk.elim
      · split at hk
        · split at hk
          · rename_i e; rw [if_pos e]; exact st hk
          · rename_i e; rw [if_neg e]; exact ⟨hk, rfl'⟩
        · exact ⟨hk, rfl'⟩
        · exact hk.elim
  | _ => rw [hop] at hm; cases hm
theorem xH {N : Env → Hp → Prop} (l : List Nat) : ∀ (r : List Nat) (ρ : Env) (h : Hp) (w : World), dj P ops (r ++ l) ρ h N → Is w h →
    ∃ ρ' h', dj P ops l ρ' h' N ∧ ∀ t, (∀ j ∈ r, ∀ a, ops[j]? = some a → a.dst ≠ some t) → ρ' t = ρ t
  | [], ρ, h, w, hk, _ => ⟨ρ, h, hk, fun _ _ => rfl⟩
  | j :: r, ρ, h, w, hk, hi => by
    simp only [List.cons_append, dj] at hk
    split at hk
    · obtain ⟨ρ', h', h1, h2⟩ := xH l r ρ h w hk hi
      exact ⟨ρ', h', h1, fun t ht => h2 t fun i hi => ht i (by simp [hi])⟩
    · rename_i a ha
      rw [lB] at hk
      obtain ⟨v, h1, w1, hi1, hk1⟩ := Cf hk hi
      obtain ⟨ρ', h', h2, h3⟩ := xH l r _ h1 w1 hk1 hi1
      refine ⟨ρ', h', h2, fun t ht => (h3 t fun i hi => ht i (by simp [hi])).trans (jr fun x hx e => ht j (by simp) a ha (by rw [hx, e]))⟩
theorem rR {N : Env → Hp → Prop} {i : Nat} {o : Oper} (ho : ops[i]? = some o) (hc : kp P o.op = true) {ρ0 : Env} {u : Value} (hu : ∀ h (L : Value → Hp → Prop), L u h → fU P ops o ρ0 h L) (r2 : List Nat) :
    ∀ (r : List Nat), (∀ j ∈ r, kq P ops j i = true) → ∀ (ρ : Env) (h : Hp), (∀ t ∈ looks ops o, ρ t = ρ0 t) → dj P ops (r ++ i :: r2) ρ h N → dj P ops (r ++ r2) (ρ.put o.dst u) h N
  | [], _, ρ, h, ha, hk => by
    simp only [List.nil_append, dj, ho] at hk ⊢
    rw [lB, pS ha] at hk
    obtain ⟨v, h1, h2, _⟩ := u9 hc hk (hu h (fun v _ => v = u) rfl)
    rw [h2] at h1
    exact h1
  | j :: r, hr, ρ, h, ha, hk => by
    simp only [List.cons_append, dj] at hk ⊢
    have ih := rR (N := N) ho hc hu r2 r fun k hk => hr k (by simp [hk])
    split at hk
    · exact ih ρ h ha hk
    · rename_i a hj
      have hcm := hr j (by simp)
      simp only [kq, hj, ho, Bool.and_eq_true] at hcm
      obtain ⟨h1, h2, h3⟩ := Oper.apart_spec hcm.1
      have hk2 : aX P ops a ρ h fun ρ' h' => dj P ops (r ++ r2) (ρ'.put o.dst u) h' N :=
        dq (fun v h' hn => ih _ h' (fun t ht => (jr fun x hx e => h1 x hx (by rw [e]; exact ht)).trans (ha t ht)) hn) hk
      rw [kK (o := a) (d := o.dst) (fun x hx => h3 x hx) (fun x hx e => h2 x e hx)]
      exact hk2
theorem pT {N : Env → Hp → Prop} {i : Nat} {o : Oper} (ho : ops[i]? = some o) (r2 : List Nat) : ∀ (r : List Nat), (∀ j ∈ r, kq P ops j i = true) → kp P o.op = false → ∀ (ρ : Env) (h : Hp), (∀ b x, h.f b = some x → b < h.n) →
    dj P ops (r ++ i :: r2) ρ h N → aX P ops o ρ h fun ρ' h' => dj P ops (r ++ r2) ρ' h' N
  | [], _, _, ρ, h, _, hk => by simpa [dj, ho] using hk
  | j :: r, hr, hnc, ρ, h, hw, hk => by
    have ih := pT (N := N) ho r2 r (fun k hk => hr k (by simp [hk])) hnc
    simp only [List.cons_append, dj] at hk ⊢
    cases hj : ops[j]? with
    | none =>
      simp only [hj] at hk ⊢
      exact ih ρ h hw hk
    | some a =>
      simp only [hj] at hk ⊢
      have hcm := hr j (by simp)
      simp only [kq, hj, ho, Bool.and_eq_true, hnc, Bool.or_false, Bool.or_eq_true] at hcm
      obtain ⟨h1, h2, h3⟩ := Oper.apart_spec hcm.1
      have hst : eI a.op = true ∨ nL P a.op = true := by
        rcases hcm.2 with (hca | hso) | hld
        · unfold kp at hca
          rw [Bool.or_eq_true] at hca
          exact hca.imp jT id
        · exact .inl hso.1
        · exact .inl (by cases hop : a.op <;> first | rfl | (rw [hop] at hld; cases hld.1))
      obtain ⟨u, hk1, _, hu2⟩ := Ay hst hk hk
      have hu1 := ih _ h hw hk1
      have hloc := kK (P := P) (ops := ops) (o := o) (d := a.dst) (fun x hx => h1 x hx) (fun x hx => h2 x hx) ρ u h fun ρ2 g2 => dj P ops (r ++ r2) ρ2 g2 N
      rw [hloc] at hu1
      have back : ∀ v (h' : Hp) (L : Env → Hp → Prop), aX P ops a ρ h' (fun ρ' h' => L (ρ'.put o.dst v) h') → aX P ops a (ρ.put o.dst v) h' L := fun v h' L k => by
        rw [kK (o := a) (d := o.dst) (fun x hx => h3 x hx) (fun x hx e => h2 x e hx)]
        exact k
      rcases hcm.2 with (hca | ⟨_, hso⟩) | ⟨hld, hmk⟩
      · refine dq (fun v h' hn => back v h' _ ?_) hu1
        refine u7 hca h' (h := h) (hu2 _ ?_)
        rw [put_comm (fun x hx => h2 x hx)]
        exact hn
      · obtain ⟨v, hv1, _, hv2⟩ := kN hso hu1 hu1
        refine hv2 _ (back v h _ (hu2 _ ?_))
        rw [put_comm (fun x hx => h2 x hx)]
        exact hv1
      · refine dq (fun v h' hn => back v h' _ (E8 hld hn.2 hu2 _ ?_)) (Cj hmk hw hu1)
        rw [put_comm (fun x hx => h2 x hx)]
        exact hn.1
theorem G2 {N : Env → Hp → Prop} {i : Nat} {o : Oper} (ho : ops[i]? = some o) (r r2 : List Nat) (hr : ∀ j ∈ r, kq P ops j i = true) {ρ : Env} {h : Hp} {w : World} (hi : Is w h)
    (hk : dj P ops (r ++ i :: r2) ρ h N) : aX P ops o ρ h fun ρ' h' => dj P ops (r ++ r2) ρ' h' N := by
  cases hc : kp P o.op with
  | false => exact pT ho r2 r hr hc ρ h (fun b x e => by rw [← hi.1]; exact (Array.getElem?_eq_some_iff.1 (hi.2 b x e)).1) hk
  | true =>
    obtain ⟨ρ', h', h1, h2⟩ := xH (i :: r2) r ρ h w hk hi
    simp only [dj, ho] at h1
    have ha : ∀ t ∈ looks ops o, ρ' t = ρ t := fun t ht => h2 t fun j hj a haj e => by
      have hcm := hr j hj
      simp only [kq, haj, ho, Bool.and_eq_true] at hcm
      exact (Oper.apart_spec hcm.1).1 t e ht
    rw [lB, pS ha] at h1
    obtain ⟨u, _, _, hu⟩ := u9 hc h1 h1
    have hu' : ∀ g (L : Value → Hp → Prop), L u g → fU P ops o ρ g L := fun g L hL => xG hc g (hu (fun v _ => L v g) hL)
    rw [lB]
    exact hu' h _ (rR ho hc hu' r2 r hr ρ h (fun _ _ => rfl) hk)
def kC (ops : Array Oper) : Nat → Nat → Nat → Bool
  | 0, _, _ => false
  | f + 1, j, i => (match ops[i]? with
    | some o => o.after.any fun e => Region.binds .any e && (e.on == j || kC ops f j e.on)
    | none => false)
def ve (P : Program) (ops : Array Oper) : Bool :=
  (List.range ops.size).all fun i => (match ops[i]? with
    | some o => o.after.all fun e => !Region.binds .any e || decide (e.on < i)
    | none => true) && (List.range i).all fun j => kq P ops j i || kC ops 4 j i
def Down (ops : Array Oper) (listed : Array Bool) : Prop := ∀ i o, ops[i]? = some o → listed.getD i false = true → ∀ e ∈ o.after, Region.binds .any e = true → listed.getD e.on false = true
theorem eW {listed : Array Bool} (hd : Down ops listed) {j : Nat} : ∀ (f i : Nat), (∀ o, ops[i]? = some o → ∀ e ∈ o.after, Region.binds .any e = true → listed.getD e.on false = true) → kC ops f j i = true → listed.getD j false = true
  | 0, _, _, hb => by simp [kC] at hb
  | f + 1, i, hi, hb => by
    unfold kC at hb
    split at hb
    · rename_i o ho
      obtain ⟨e, he, h1⟩ := Array.any_eq_true'.1 hb
      simp only [Bool.and_eq_true, Bool.or_eq_true, beq_iff_eq] at h1
      have hl := hi o ho e he h1.1
      rcases h1.2 with h2 | h2
      · exact h2 ▸ hl
      · exact eW hd f e.on (fun o' ho' e' he' hb' => hd e.on o' ho' hl e' he' hb') h2
    · cases hb
theorem pU {n : Nat} {ds : List Nat} {ρ0 ρ : Env} {w0 w : World} {h : Hp} {a : Act} {i : Nat} {o : Oper} {K : Act → World → Prop} {N : Env → Hp → Prop} {Q : Exit → Act → World → Prop} (ho : ops[i]? = some o)
    (hd : ∀ t, o.dst = some t → t < n ∧ ds.contains t = true) (hk : aX P ops o ρ h N) (hr : Rel n a ρ) (hp : dW ds ρ0 ρ) (hi : Is w h) (hs : bq w0 w)
    (hn : ∀ a w ρ h, Rel n a ρ → dW ds ρ0 ρ → Is w h → bq w0 w → N ρ h → K a w) : wpOp P ops Q i K a w := by
  have hd1 : ∀ t, o.dst = some t → t < n := fun t e => (hd t e).1
  have hdd : ∀ t, o.dst = some t → ds.contains t = true := fun t e => (hd t e).2
  unfold wpOp
  (try simp only [ho])
  unfold aX at hk
  split at hk
  · rename_i hg
    rw [if_pos (by simp [Region.wanted, hg])]
    exact .inl (Ran.wp (w0 := w0) (hr.eval ▸ gI hk hi) hs fun v h' w' hi' hs' hk' => hn _ _ _ _ (hr.put hd1 v) (hp.put hdd v) hi' hs' hk')
  · rename_i j want hg
    split at hk
    · exact hk.elim
    · rename_i t ht
      have hy := mc hr ops ht
      split at hk
      · rename_i q hq
        rw [hq] at hy
        split at hk
        · rename_i e
          subst e
          rw [if_pos (by simp [Region.wanted, hg, hy])]
          exact .inl (Ran.wp (w0 := w0) (hr.eval ▸ gI hk hi) hs fun v h' w' hi' hs' hk' => hn _ _ _ _ (hr.put hd1 v) (hp.put hdd v) hi' hs' hk')
        · rename_i e
          have : q = !want := by cases q <;> cases want <;> simp_all
          subst this
          rw [if_neg (by simp [Region.wanted, hg, hy])]
          exact hn _ _ _ _ (hr.put hd1 undef) (hp.put hdd undef) hi hs hk
      · rename_i vs hq
        rw [hq] at hy
        rw [if_neg (by simp [Region.wanted, hg, hy])]
        exact hn _ _ _ _ (hr.put hd1 undef) (hp.put hdd undef) hi hs hk
      · exact hk.elim
theorem mem_ready {listed : Array Bool} {i : Nat} : i ∈ Region.ready .any ops listed ↔ i < ops.size ∧ listed.getD i true = false ∧ ∃ o, ops[i]? = some o ∧ ∀ e ∈ o.after, Region.binds .any e = true → listed.getD e.on false = true := by
  unfold Region.ready
  rw [List.mem_filter, List.mem_range]
  cases h : ops[i]? with
  | none => simp
  | some o =>
    simp only [Option.map_some, Option.getD_some, Bool.and_eq_true, Bool.not_eq_true', Option.some.injEq, exists_eq_left', Array.all_eq_true', Bool.or_eq_true, and_congr_right_iff]
    intro _ _
    exact ⟨fun k e he hb => (k e he).resolve_left (by simp [hb]), fun k e he => by
      cases hb : Region.binds .any e with
      | false => exact .inl rfl
      | true => exact .inr (k e he hb)⟩
theorem js {listed : Array Bool} {i j : Nat} {d : Bool} (hi : i < listed.size) : (listed.setIfInBounds i true).getD j d = if j = i then true else listed.getD j d := by
  simp only [Array.getD_eq_getD_getElem?, Array.getElem?_setIfInBounds]
  by_cases h : i = j
  · subst h; simp [hi]
  · simp [h, Ne.symm h]
theorem Ck {n : Nat} {ds : List Nat} {ρ0 : Env} {w0 : World} {N : Env → Hp → Prop} {Q : Exit → Act → World → Prop} (hsw : ve P ops = true) (hd : ∀ o ∈ ops.toList, ∀ t, o.dst = some t → t < n ∧ ds.contains t = true)
    (hQ : ∀ a w ρ h, Rel n a ρ → dW ds ρ0 ρ → Is w h → bq w0 w → N ρ h → Q .normal a w) :
    ∀ (fuel : Nat) (l : List Nat) (listed : Array Bool) (ρ : Env) (h : Hp) (a : Act) (w : World), l.length = fuel → listed.size = ops.size → l.Pairwise (· < ·) → (∀ i, i ∈ l ↔ i < ops.size ∧ listed.getD i false = false) → Down ops listed →
      dj P ops l ρ h N → Rel n a ρ → dW ds ρ0 ρ → Is w h → bq w0 w → wpAny P .any ops Q fuel listed a w := by
  have hsw' : ∀ i o, ops[i]? = some o → (∀ e ∈ o.after, Region.binds .any e = true → e.on < i) ∧ ∀ j, j < i → kq P ops j i = true ∨ kC ops 4 j i = true := fun i o ho => by
    have hlt : i < ops.size := (Array.getElem?_eq_some_iff.1 ho).1
    have := List.all_eq_true.1 hsw i (by simpa using hlt)
    rw [Bool.and_eq_true] at this
    obtain ⟨h1, h2⟩ := this
    simp only [ho] at h1
    refine ⟨fun e he hb => ?_, fun j hj => ?_⟩
    · have := Array.all_eq_true'.1 h1 e he
      simpa [hb] using this
    · simpa using List.all_eq_true.1 h2 j (by simpa using hj)
  have dflt : ∀ {listed : Array Bool}, listed.size = ops.size → ∀ i, i < ops.size → listed.getD i true = listed.getD i false := fun hsz i hi => by
    simp [Array.getD, hsz, hi]
  have empty : ∀ (l : List Nat) (listed : Array Bool), listed.size = ops.size → l.Pairwise (· < ·) → (∀ i, i ∈ l ↔ i < ops.size ∧ listed.getD i false = false) → Region.ready .any ops listed = [] → l = [] := fun l listed hsz hpw hm hr => by
    cases l with
    | nil => rfl
    | cons i l =>
      exfalso
      have hi := (hm i).1 (by simp)
      have : i ∈ Region.ready .any ops listed := mem_ready.2 ⟨hi.1, (dflt hsz i hi.1).trans hi.2, ops[i]'hi.1, Array.getElem?_eq_getElem hi.1, fun e he hb => by
        have hlt := (hsw' i _ (Array.getElem?_eq_getElem hi.1)).1 e he hb
        cases hl : listed.getD e.on false with
        | true => rfl
        | false =>
          have hmem := (hm e.on).2 ⟨by have := hi.1; omega, hl⟩
          rcases List.mem_cons.1 hmem with h1 | h1
          · omega
          · have := (List.pairwise_cons.1 hpw).1 _ h1
            omega⟩
      rw [hr] at this
      cases this
  intro fuel
  induction fuel with
  | zero =>
    intro l listed ρ h a w hl hsz hpw hm hdn hk hr hp hi hs
    have hl : l = [] := by simpa using hl
    subst hl
    refine ⟨?_, hQ a w ρ h hr hp hi hs hk⟩
    cases hre : Region.ready .any ops listed with
    | nil => rfl
    | cons i r =>
      exfalso
      have := mem_ready.1 (hre ▸ List.mem_cons_self : i ∈ Region.ready .any ops listed)
      exact absurd ((hm i).2 ⟨this.1, (dflt hsz i this.1) ▸ this.2.1⟩) (by simp)
  | succ fuel ih =>
    intro l listed ρ h a w hl hsz hpw hm hdn hk hr hp hi hs
    refine ⟨fun h0 => ?_, fun i hir => ?_⟩
    · have := empty l listed hsz hpw hm h0
      subst this
      cases hl
    · obtain ⟨hlt, hun, o, ho, hedge⟩ := mem_ready.1 hir
      have hil : i ∈ l := (hm i).2 ⟨hlt, (dflt hsz i hlt) ▸ hun⟩
      obtain ⟨r, r2, rfl⟩ := List.append_of_mem hil
      have hpw' := List.pairwise_append.1 hpw
      have hrlt : ∀ j ∈ r, j < i := fun j hj => hpw'.2.2 j hj i (by simp)
      have hr2lt : ∀ j ∈ r2, i < j := fun j hj => (List.pairwise_cons.1 hpw'.2.1).1 j hj
      have hcm : ∀ j ∈ r, kq P ops j i = true := fun j hj => ((hsw' i o ho).2 j (hrlt j hj)).resolve_right fun hb => by
        have h1 := eW hdn 4 i (fun o' ho' e he hb' => by
          rw [ho] at ho'; cases ho'
          exact hedge e he hb') hb
        have h2 := ((hm j).1 (by simp [hj])).2
        rw [h1] at h2; cases h2
      have hg := G2 ho r r2 hcm hi hk
      refine pU ho (hd o (by simpa using Array.mem_of_getElem? ho)) hg hr hp hi hs fun a' w' ρ' h' hr' hp' hi' hs' hk' => ?_
      refine ih (r ++ r2) _ ρ' h' a' w' (by simp at hl ⊢; omega) (by simpa using hsz) ?_ (fun j => ?_) ?_ hk' hr' hp' hi' hs'
      · exact hpw.sublist (List.Sublist.append (List.Sublist.refl r) (List.sublist_cons_self i r2))
      · rw [js (by omega)]
        have hm' := hm j
        by_cases hj : j = i
        · subst hj
          simp only [if_pos, Bool.true_eq_false, and_false, iff_false]
          intro hmem
          rcases List.mem_append.1 hmem with h1 | h1
          · have := hrlt j h1; omega
          · have := hr2lt j h1; omega
        · rw [if_neg hj, ← hm']
          simp [hj]
      · intro k o' ho' hk' e he hb
        rw [js (by omega)] at hk' ⊢
        by_cases hki : k = i
        · subst hki
          rw [ho] at ho'; cases ho'
          split
          · rfl
          · exact hedge e he hb
        · rw [if_neg hki] at hk'
          split
          · rfl
          · exact hdn k o' ho' hk' e he hb
def jV (ops : Array Oper) : Bool := (List.range ops.size).all fun i => match ops[i]? with
  | some o => o.after.all fun e => !Region.binds .any e || decide (e.on < i)
  | none => true
def xI (P : Program) (ops : Array Oper) (ρ : Env) (h : Hp) (N : Env → Hp → Prop) : Prop := jV ops = true ∧ ∃ I : Array Bool → Env → Hp → Prop, I (Array.replicate ops.size false) ρ h ∧
  (∀ listed i o ρ h, listed.size = ops.size → Down ops listed → ops[i]? = some o → listed.getD i false = false → (∀ e ∈ o.after, Region.binds .any e = true → listed.getD e.on false = true) → I listed ρ h → (∃ w, Is w h) →
    aX P ops o ρ h (I (listed.setIfInBounds i true))) ∧
  (∀ listed ρ h, listed.size = ops.size → (∀ i, i < ops.size → listed.getD i false = true) → I listed ρ h → N ρ h)
theorem E9 {n : Nat} {ds : List Nat} {ρ0 : Env} {w0 : World} {N : Env → Hp → Prop} {Q : Exit → Act → World → Prop} {I : Array Bool → Env → Hp → Prop} (hed : jV ops = true) (hd : ∀ o ∈ ops.toList, ∀ t, o.dst = some t → t < n ∧ ds.contains t = true)
    (hstep : ∀ listed i o ρ h, listed.size = ops.size → Down ops listed → ops[i]? = some o → listed.getD i false = false → (∀ e ∈ o.after, Region.binds .any e = true → listed.getD e.on false = true) → I listed ρ h → (∃ w, Is w h) →
      aX P ops o ρ h (I (listed.setIfInBounds i true)))
    (hfin : ∀ listed ρ h, listed.size = ops.size → (∀ i, i < ops.size → listed.getD i false = true) → I listed ρ h → N ρ h)
    (hQ : ∀ a w ρ h, Rel n a ρ → dW ds ρ0 ρ → Is w h → bq w0 w → N ρ h → Q .normal a w) :
    ∀ (fuel : Nat) (l : List Nat) (listed : Array Bool) (ρ : Env) (h : Hp) (a : Act) (w : World), l.length = fuel → listed.size = ops.size → l.Pairwise (· < ·) → (∀ i, i ∈ l ↔ i < ops.size ∧ listed.getD i false = false) → Down ops listed →
      I listed ρ h → Rel n a ρ → dW ds ρ0 ρ → Is w h → bq w0 w → wpAny P .any ops Q fuel listed a w := by
  have hed' : ∀ i o, ops[i]? = some o → ∀ e ∈ o.after, Region.binds .any e = true → e.on < i := fun i o ho e he hb => by
    have hlt : i < ops.size := (Array.getElem?_eq_some_iff.1 ho).1
    have h1 := List.all_eq_true.1 hed i (by simpa using hlt)
    simp only [ho] at h1
    have := Array.all_eq_true'.1 h1 e he
    simpa [hb] using this
  have dflt : ∀ {listed : Array Bool}, listed.size = ops.size → ∀ i, i < ops.size → listed.getD i true = listed.getD i false := fun hsz i hi => by
    simp [Array.getD, hsz, hi]
  have empty : ∀ (l : List Nat) (listed : Array Bool), listed.size = ops.size → l.Pairwise (· < ·) → (∀ i, i ∈ l ↔ i < ops.size ∧ listed.getD i false = false) → Region.ready .any ops listed = [] → l = [] := fun l listed hsz hpw hm hr => by
    cases l with
    | nil => rfl
    | cons i l =>
      exfalso
      have hi := (hm i).1 (by simp)
      have : i ∈ Region.ready .any ops listed := mem_ready.2 ⟨hi.1, (dflt hsz i hi.1).trans hi.2, ops[i]'hi.1, Array.getElem?_eq_getElem hi.1, fun e he hb => by
        have hlt := hed' i _ (Array.getElem?_eq_getElem hi.1) e he hb
        cases hl : listed.getD e.on false with
        | true => rfl
        | false =>
          have hmem := (hm e.on).2 ⟨by have := hi.1; omega, hl⟩
          rcases List.mem_cons.1 hmem with h1 | h1
          · omega
          · have := (List.pairwise_cons.1 hpw).1 _ h1
            omega⟩
      rw [hr] at this
      cases this
  intro fuel
  induction fuel with
  | zero =>
    intro l listed ρ h a w hl hsz hpw hm hdn hk hr hp hi hs
    have hl : l = [] := by simpa using hl
    subst hl
    refine ⟨?_, hQ a w ρ h hr hp hi hs (hfin listed ρ h hsz (fun i hlt => ?_) hk)⟩
    · cases hre : Region.ready .any ops listed with
      | nil => rfl
      | cons i r =>
        exfalso
        have := mem_ready.1 (hre ▸ List.mem_cons_self : i ∈ Region.ready .any ops listed)
        exact absurd ((hm i).2 ⟨this.1, (dflt hsz i this.1) ▸ this.2.1⟩) (by simp)
    · cases hb : listed.getD i false with
      | true => rfl
      | false => exact absurd ((hm i).2 ⟨hlt, hb⟩) (by simp)
  | succ fuel ih =>
    intro l listed ρ h a w hl hsz hpw hm hdn hk hr hp hi hs
    refine ⟨fun h0 => ?_, fun i hir => ?_⟩
    · have := empty l listed hsz hpw hm h0
      subst this
      cases hl
    · obtain ⟨hlt, hun, o, ho, hedge⟩ := mem_ready.1 hir
      have hunf : listed.getD i false = false := (dflt hsz i hlt) ▸ hun
      have hil : i ∈ l := (hm i).2 ⟨hlt, hunf⟩
      obtain ⟨r, r2, rfl⟩ := List.append_of_mem hil
      have hpw' := List.pairwise_append.1 hpw
      have hrlt : ∀ j ∈ r, j < i := fun j hj => hpw'.2.2 j hj i (by simp)
      have hr2lt : ∀ j ∈ r2, i < j := fun j hj => (List.pairwise_cons.1 hpw'.2.1).1 j hj
      have hg := hstep listed i o ρ h hsz hdn ho hunf hedge hk ⟨w, hi⟩
      refine pU ho (hd o (by simpa using Array.mem_of_getElem? ho)) hg hr hp hi hs fun a' w' ρ' h' hr' hp' hi' hs' hk' => ?_
      refine ih (r ++ r2) _ ρ' h' a' w' (by simp at hl ⊢; omega) (by simpa using hsz) ?_ (fun j => ?_) ?_ hk' hr' hp' hi' hs'
      · exact hpw.sublist (List.Sublist.append (List.Sublist.refl r) (List.sublist_cons_self i r2))
      · rw [js (by omega)]
        have hm' := hm j
        by_cases hj : j = i
        · subst hj
          simp only [if_pos, Bool.true_eq_false, and_false, iff_false]
          intro hmem
          rcases List.mem_append.1 hmem with h1 | h1
          · have := hrlt j h1; omega
          · have := hr2lt j h1; omega
        · rw [if_neg hj, ← hm']
          simp [hj]
      · intro k o' ho' hk' e he hb
        rw [js (by omega)] at hk' ⊢
        by_cases hki : k = i
        · subst hki
          rw [ho] at ho'; cases ho'
          split
          · rfl
          · exact hedge e he hb
        · rw [if_neg hki] at hk'
          split
          · rfl
          · exact hdn k o' ho' hk' e he hb
theorem rG {n id : Nat} {ds : List Nat} {ρ0 ρ : Env} {w0 w : World} {h : Hp} {a : Act} {N : Env → Hp → Prop} {Q : Exit → Act → World → Prop} (hm : P.follows .mixedOrders = true) (hd : ∀ o ∈ ops.toList, ∀ t, o.dst = some t → t < n ∧ ds.contains t = true)
    (hQ : ∀ a w ρ h, Rel n a ρ → dW ds ρ0 ρ → Is w h → bq w0 w → N ρ h → Q .normal a w) (hk : xI P ops ρ h N) (hr : Rel n a ρ) (hp : dW ds ρ0 ρ) (hi : Is w h) (hs : bq w0 w) : (Code.region id ops true).wp P Q a w := by
  obtain ⟨hed, I, h0, hstep, hfin⟩ := hk
  refine wp_region_any hm (E9 hed hd hstep hfin hQ ops.size (List.range' 0 ops.size) _ ρ h a _ (by simp) (by simp) List.pairwise_lt_range' (fun i => ?_) (fun i o ho hl => ?_) h0 hr hp hi hs)
  · simp only [List.mem_range'_1, Nat.zero_le, true_and, Nat.zero_add]
    refine ⟨fun hlt => ⟨hlt, ?_⟩, fun k => k.1⟩
    simp [Array.getD, hlt]
  · simp [Array.getD] at hl
theorem pV {n id : Nat} {ds : List Nat} {ρ0 ρ : Env} {w0 w : World} {h : Hp} {a : Act} {N : Env → Hp → Prop} {Q : Exit → Act → World → Prop} (hm : P.follows .mixedOrders = true) (hsw : ve P ops = true) (hd : ∀ o ∈ ops.toList, ∀ t, o.dst = some t → t < n ∧ ds.contains t = true)
    (hQ : ∀ a w ρ h, Rel n a ρ → dW ds ρ0 ρ → Is w h → bq w0 w → N ρ h → Q .normal a w) (hk : iE P ops ops.toList ρ h N) (hr : Rel n a ρ) (hp : dW ds ρ0 ρ) (hi : Is w h) (hs : bq w0 w) : (Code.region id ops true).wp P Q a w := by
  refine wp_region_any hm (Ck hsw hd hQ ops.size (List.range' 0 ops.size) _ ρ h a _ (by simp) (by simp) List.pairwise_lt_range' (fun i => ?_) (fun i o ho hl => ?_) ?_ hr hp hi hs)
  · simp only [List.mem_range'_1, Nat.zero_le, true_and, Nat.zero_add]
    refine ⟨fun hlt => ⟨hlt, ?_⟩, fun k => k.1⟩
    simp [Array.getD, hlt]
  · simp [Array.getD] at hl
  · have := vd (P := P) (ops := ops) N ops.toList 0 (fun j => by simp) ρ h hk
    simpa using this
end
end Go.Proofs.Ythjggjhebbdkdaa
namespace Go.Proofs.Ythjggjhebbdkdaa
open Go Go.RowKit
section
variable {P : Program} {ops : Array Oper}
abbrev FW (r : Option Nat) : Fence := { Fence.wide with round := r }
def nM (P : Program) (y : Nat) (args : Array Value) (h : Hp) (K : KH) : Prop := ∀ w, Is w h → YieldAt Fence.wide 0 P y args w fun e w' => ∃ v h', e = .returned v ∧ Is w' h' ∧ bq w w' ∧ K v h'
def valOf (o : Oper) : Option (Operand × Array Operand) := match o.guard, o.op with
  | none, .call c => (match c.callee with
    | .value f => some (f, c.args)
    | _ => none)
  | _, _ => none
def vf (P : Program) (ops : Array Oper) : List Oper → Env → Hp → (Env → Hp → Prop) → Prop
  | [], ρ, h, N => N ρ h
  | o :: l, ρ, h, N => (∃ f xs y, valOf o = some (f, xs) ∧ ρ.ev f = .func (.yield y) #[] #[] ∧ nM P y (xs.map ρ.ev) h fun v h' => vf P ops l (ρ.put o.dst v) h' N) ∨ aX P ops o ρ h fun ρ' h' => vf P ops l ρ' h' N
def kO (d : List Deferred) (n : Nat) (a : Act) (ρ : Env) : Prop := a.defers = d ∧ a.tmps.size = n ∧ ∀ t, a.tmps.getD t undef = ρ t
theorem kO.eval {d : List Deferred} {n : Nat} {a : Act} {ρ : Env} (h : kO d n a ρ) : a.eval = ρ.ev := by
  funext x
  cases x with
  | tmp t => exact h.2.2 t
  | _ => rfl
theorem kO.rel {d : List Deferred} {n : Nat} {a : Act} {ρ : Env} (h : kO d n a ρ) : Rel n { a with defers := [] } ρ := ⟨rfl, h.2.1, h.2.2⟩
theorem kO.put {D : List Deferred} {n : Nat} {a : Act} {ρ : Env} (h : kO D n a ρ) {d : Option Nat} (hd : ∀ t, d = some t → t < n) (v : Value) : kO D n (a.put d v) (ρ.put d v) := by
  have := h.rel.put hd v
  cases d with
  | none => exact ⟨h.1, this.2.1, this.2.2⟩
  | some d => exact ⟨h.1, this.2.1, this.2.2⟩
theorem lV {op : Op} {ρ : Env} {h : Hp} {K : KH} (hk : br P op ρ h K) : ∀ c, op ≠ .defer c := fun c e => by
  subst e
  exact hk.elim
theorem Ran.wpIn {r : Option Nat} {o : Oper} {a : Act} {w w0 : World} {K : KH} {N : Act → World → Prop} {Q : Exit → Act → World → Prop} (hno : ∀ c, o.op ≠ .defer c) (hr : Ran P w K ((execOp a.eval o).run P w)) (hs : bq w0 w)
    (hn : ∀ v h' w', Is w' h' → bq w0 w' → K v h' → N (a.put o.dst v) w') : o.wpIn (FW r) 0 P a w N Q := by
  refine ⟨fun _ _ => trivial, ?_⟩
  rw [show Oper.semAt (FW r).round a.eval o = execOp a.eval o from Oper.semAt_eq _ _ _ hno]
  generalize (execOp a.eval o).run P w = x at hr
  cases hr with
  | value v w' h' hi hs' hk => exact hn v h' w' hi (hs.trans hs') hk
  | skip w' h' hi hs' hk => exact hn undef h' w' hi (hs.trans hs') hk
  | enter f args w' h' hi hs' hk =>
    refine ⟨fun q => Bool.noConfusion q, callsIn_wide.2 ((hk w' hi).mono fun e w'' ⟨v, g, he, hi'', hs'', hk'⟩ => ?_)⟩
    subst he
    exact hn v g w'' hi'' ((hs.trans hs').trans hs'') hk'
theorem nM.wpIn {r : Option Nat} {o : Oper} {a : Act} {w w0 : World} {K : KH} {N : Act → World → Prop} {Q : Exit → Act → World → Prop} {f : Operand} {xs : Array Operand} {y : Nat} {h : Hp} (hv : valOf o = some (f, xs)) (hf : a.eval f = .func (.yield y) #[] #[]) (hy : nM P y (xs.map a.eval) h K) (hi : Is w h) (hs : bq w0 w)
    (hn : ∀ v h' w', Is w' h' → bq w0 w' → K v h' → N (a.put o.dst v) w') : o.guard = none ∧ o.wpIn (FW r) 0 P a w N Q := by
  obtain ⟨dst, op, ty, pos, after, guard⟩ := o
  cases guard with
  | some g => simp [valOf] at hv
  | none =>
    refine ⟨rfl, fun _ _ => trivial, ?_⟩
    cases op with
    | call c =>
      obtain ⟨callee, args, ats⟩ := c
      cases callee with
      | value f' =>
        simp only [valOf, Option.some.injEq, Prod.mk.injEq] at hv
        obtain ⟨rfl, rfl⟩ := hv
        obtain ⟨fn, tmps, assign, body, h1, h2⟩ := hy w hi
        have : (Oper.semAt (FW r).round a.eval ⟨dst, .call { callee := .value f', args := args, argTypes := ats }, ty, pos, after, none⟩).run P w = .ok (.round y fn tmps assign body) w := by
          rw [Oper.semAt_eq _ _ _ (by simp)]
          simp only [execOp, resolve, hf, Deferred.ofValue, invoke, Sem.run_bind, Sem.run_pure, Result.andThen_ok]
          simpa using h1
        rw [this]
        refine ⟨fun q => Bool.noConfusion q, h2.mono fun e w' ⟨v, h', he, hi', hs', hk⟩ => ?_⟩
        subst he
        exact hn v h' w' hi' (hs.trans hs') hk
      | _ => simp [valOf] at hv
    | _ => simp [valOf] at hv
theorem kP {r : Option Nat} {d : List Deferred} {n : Nat} {ds : List Nat} {ρ0 : Env} {w0 : World} {N : Env → Hp → Prop} {Q : Exit → Act → World → Prop} (hQ : ∀ a w ρ h, kO d n a ρ → dW ds ρ0 ρ → Is w h → bq w0 w → N ρ h → Q .normal a w) :
    ∀ (l : List Oper), (∀ o ∈ l, ∀ t, o.dst = some t → t < n ∧ ds.contains t = true) → ∀ (ρ : Env) (h : Hp) (a : Act) (w : World), vf P ops l ρ h N → kO d n a ρ → dW ds ρ0 ρ → Is w h → bq w0 w → wpListIn (FW r) 0 P ops Q l a w
  | [], _, ρ, h, a, w, hk, hr, hp, hi, hs => hQ a w ρ h hr hp hi hs hk
  | o :: l, hd, ρ, h, a, w, hk, hr, hp, hi, hs => by
    have hd0 := hd o (by simp)
    have hd1 : ∀ t, o.dst = some t → t < n := fun t e => (hd0 t e).1
    have hdd : ∀ t, o.dst = some t → ds.contains t = true := fun t e => (hd0 t e).2
    have ih := kP (r := r) (w0 := w0) hQ l (fun o' ho => hd o' (by simp [ho]))
    rcases hk with ⟨f, xs, y, hv, hf, hy⟩ | hk
    · refine wpListIn_plain (nM.wpIn (r := r) (w0 := w0) (a := a) (N := fun _ _ => True) (Q := Q) hv (hr.eval ▸ hf) (hr.eval ▸ hy) hi hs (fun _ _ _ _ _ _ => trivial)).1 fun K hK => ?_
      exact (nM.wpIn (w0 := w0) hv (hr.eval ▸ hf) (hr.eval ▸ hy) hi hs fun v h' w' hi' hs' hk' => hK _ _ (ih _ _ _ _ hk' (hr.put hd1 v) (hp.put hdd v) hi' hs')).2
    · unfold aX at hk
      split at hk
      · rename_i hg
        exact wpListIn_plain hg fun K hK => Ran.wpIn (w0 := w0) (lV hk) (hr.eval ▸ gI hk hi) hs fun v h' w' hi' hs' hk' => hK _ _ (ih _ _ _ _ hk' (hr.put hd1 v) (hp.put hdd v) hi' hs')
      · rename_i j want hg
        split at hk
        · exact hk.elim
        · rename_i t ht
          have hy := mc hr.rel ops ht
          dsimp only at hy
          split at hk
          · rename_i q hq
            rw [hq] at hy
            split at hk
            · rename_i e
              subst e
              have hw : Region.wanted o (yielded ops a.tmps) = true := by simp [Region.wanted, hg, hy]
              refine wpListIn_step fun K hK => ?_
              rw [if_pos hw]
              exact Ran.wpIn (w0 := w0) (lV hk) (hr.eval ▸ gI hk hi) hs fun v h' w' hi' hs' hk' => hK _ _ (ih _ _ _ _ hk' (hr.put hd1 v) (hp.put hdd v) hi' hs')
            · rename_i e
              have e2 : q = !want := by cases q <;> cases want <;> simp_all
              subst e2
              have hw : Region.wanted o (yielded ops a.tmps) = false := by simp [Region.wanted, hg, hy]
              refine wpListIn_step fun K hK => ?_
              rw [if_neg (by simp [hw])]
              exact ⟨fun _ _ => trivial, hK _ _ (ih _ _ _ _ hk (hr.put hd1 undef) (hp.put hdd undef) hi hs)⟩
          · rename_i vs hq
            rw [hq] at hy
            have hw : Region.wanted o (yielded ops a.tmps) = false := by simp [Region.wanted, hg, hy]
            refine wpListIn_step fun K hK => ?_
            rw [if_neg (by simp [hw])]
            exact ⟨fun _ _ => trivial, hK _ _ (ih _ _ _ _ hk (hr.put hd1 undef) (hp.put hdd undef) hi hs)⟩
          · exact hk.elim
end
end Go.Proofs.Ythjggjhebbdkdaa
namespace Go.Proofs.Ythjggjhebbdkdaa
open Go Go.RowKit
def Cl (P : Program) (src dst : TypeId) (x : Value) (h : Hp) (K : Value → Prop) : Prop :=
  match x with
  | .int _ n => (match P.underlying src, P.underlying dst with
    | some (.int _), some (.int k) => K (.int k (k.wrap n))
    | _, _ => False)
  | .slice base len _ => (match P.underlying src, P.underlying dst with
    | some (.slice e), some .string => P.underlying e = some (.int .u8) ∧ (match base with
      | none => K (.string ByteArray.empty)
      | some ⟨b, o, none⟩ => (match h.f b with
        | some (.cells c _ _) => (match (b6 c o len).bind bytesOf with
          | some bs => K (.string ⟨bs.toArray⟩)
          | none => False)
        | _ => False)
      | _ => False)
    | _, _ => False)
  | _ => False
theorem vg {P : Program} {src dst : TypeId} {x : Value} {h : Hp} {K : Value → Prop} (hk : Cl P src dst x h K) : PG P (convert src dst x) h K := by
  unfold Cl at hk
  split at hk
  · rename_i k n
    split at hk
    · rename_i k1 k2 h1 h2
      exact .here (fun w _ => by simp [convert, run_underlying h1, run_underlying h2, Conv.intToInt]) hk
    · exact hk.elim
  · rename_i base len cap
    split at hk
    · rename_i e h1 h2
      obtain ⟨he, hk⟩ := hk
      split at hk
      · refine .here (fun w _ => ?_) hk
        exact run_convert_bytes_nil w src e h1 he _ _ dst h2
      · rename_i b o
        split at hk
        · rename_i c t fz hc
          split at hk
          · rename_i bs hb
            refine .here (fun w hi => ?_) hk
            cases hl : b6 c o len with
            | none => rw [hl] at hb; cases hb
            | some l =>
              rw [hl] at hb
              obtain ⟨ns, rfl, rfl⟩ := jM l bs hb
              have hload := run_loadCells (P := P) (w := w) (fun i => hi.cell (i := i) hc) hl
              rw [run_convert_bytes_string w src dst e _ _ _ h1 he h2, run_bytesToString w _ _ _ ns hload, foldl_push_bytes]
              simp [ByteArray.empty, ByteArray.emptyWithCapacity]
              rfl
          · exact hk.elim
        · exact hk.elim
      · exact hk.elim
    · exact hk.elim
  · exact hk.elim
def ti (P : Program) (o : Op) (ρ : Env) (h : Hp) (K : Value → Prop) : Prop :=
  match o with
  | .call c => (match c.callee with
    | .value f => G1 P (ρ.ev f) (c.args.map ρ.ev) h K
    | .builtin b => cP P b c.argTypes.toList (c.args.toList.map ρ.ev) h K
    | _ => False)
  | .convert src dst x => Cl P src dst (ρ.ev x) h K
  | o => cT P o ρ h K
def Cls (h : Hp) (w0 w : World) : Prop := ∃ n, h.n ≤ n ∧ Is w (h.to n) ∧ bq w0 w
theorem mW {P : Program} {o : Oper} {a : Act} {ρ : Env} {h : Hp} {w0 : World} {K : Value → Prop} (he : a.eval = ρ.ev) (hk : ti P o.op ρ h K) : ∃ v, K v ∧ ∀ w, Cls h w0 w → o.quietAt P a (Cls h w0) w v := by
  have pure_ : ∀ {v : Value}, (∀ w, Fits w h → (execOp ρ.ev o).run P w = .ok (.value v) w) → ∀ w, Cls h w0 w → o.quietAt P a (Cls h w0) w v := fun hr w ⟨n, _, hi, _⟩ => by
    unfold Oper.quietAt
    rw [he, hr w hi.2]
    exact ⟨rfl, rfl⟩
  unfold ti at hk
  split at hk
  · rename_i c hc
    split at hk
    · rename_i f hf
      unfold G1 at hk
      split at hk
      · rename_i g first captured hg
        obtain ⟨v, ⟨hcall, hq⟩, hv⟩ := hk
        refine ⟨v, hv, fun w ⟨n, hn, hi, hs⟩ => ?_⟩
        obtain ⟨dst, op, ty, pos, after, guard⟩ := o
        obtain ⟨callee, args, ats⟩ := c
        dsimp only at hc hf hg hq
        subst hc hf
        have hrun : (execOp ρ.ev ⟨dst, .call { callee := .value f, args := args, argTypes := ats }, ty, pos, after, guard⟩).run P w = .ok (.enter g (first ++ args.map ρ.ev ++ captured)) w := by
          simp only [execOp, resolve, hg, Deferred.ofValue, invoke, Sem.run_bind, Sem.run_pure, Result.andThen_ok, jR hcall]
        unfold Oper.quietAt
        rw [he, hrun]
        refine ⟨rfl, (hq n hn w hi).mono fun e w' ⟨u, g', h1, h2, h3, h4, k, h5, h6⟩ => ?_⟩
        subst h1 h4 h6
        exact ⟨rfl, k, by omega, h2, hs.trans h3⟩
      · exact hk.elim
    · rename_i b hb
      have : cT P o.op ρ h K := by
        rw [hc]; unfold cT; simp only [hb]; exact hk
      obtain ⟨v, hv, hr⟩ := kJ this
      exact ⟨v, hv, pure_ hr⟩
    · exact hk.elim
  · rename_i src dst x hc
    obtain ⟨v, hv, hr⟩ := vg hk
    refine ⟨v, hv, pure_ fun w hw => ?_⟩
    obtain ⟨dst', op, ty, pos, after, guard⟩ := o
    dsimp only at hc
    subst hc
    simp only [execOp, Sem.run_bind, hr w hw, Result.andThen_ok]
    rfl
  · obtain ⟨v, hv, hr⟩ := kJ hk
    exact ⟨v, hv, pure_ hr⟩
def pW (P : Program) (ops : Array Oper) (h : Hp) : List Oper → Env → (Env → Prop) → Prop
  | [], ρ, N => N ρ
  | o :: l, ρ, N => (match o.guard with
    | none => ti P o.op ρ h fun v => pW P ops h l (ρ.put o.dst v) N
    | some (j, want) => (match fK ops j with
      | none => False
      | some t => (match ρ t with
        | .bool q => Br (q == want) (ti P o.op (ρ.upd t (.bool want)) h fun v => pW P ops h l ((ρ.upd t (.bool want)).put o.dst v) N)
          (pW P ops h l ((ρ.upd t (.bool (!want))).put o.dst undef) N)
        | .tuple _ => pW P ops h l (ρ.put o.dst undef) N
        | _ => False)))
theorem ow {P : Program} {ops : Array Oper} {n : Nat} {ds : List Nat} {ρ0 : Env} {h : Hp} {w0 : World} {N : Env → Prop} {Q : Act → Prop} (hQ : ∀ a ρ, Rel n a ρ → dW ds ρ0 ρ → N ρ → Q a) :
    ∀ (l : List Oper), (∀ o ∈ l, ∀ t, o.dst = some t → t < n ∧ ds.contains t = true) → ∀ (ρ : Env) (a : Act), pW P ops h l ρ N → Rel n a ρ → dW ds ρ0 ρ → wpQuiet P ops (Cls h w0) Q l a
  | [], _, ρ, a, hk, hr, hp => hQ a ρ hr hp hk
  | o :: l, hd, ρ, a, hk, hr, hp => by
    have hd1 := hd o (by simp)
    have hdn : ∀ t, o.dst = some t → t < n := fun t e => (hd1 t e).1
    have hdd : ∀ t, o.dst = some t → ds.contains t = true := fun t e => (hd1 t e).2
    have ih := ow (P := P) (ops := ops) (h := h) (w0 := w0) hQ l (fun o' ho => hd o' (by simp [ho]))
    unfold pW at hk
    unfold wpQuiet
    split at hk
    · rename_i hg
      rw [if_pos (by simp [Region.wanted, hg])]
      obtain ⟨v, hv, hq⟩ := mW (w0 := w0) hr.eval hk
      exact ⟨v, hq, ih _ _ hv (hr.put hdn v) (hp.put hdd v)⟩
    · rename_i j want hg
      split at hk
      · exact hk.elim
      · rename_i t ht
        have hy := mc hr ops ht
        split at hk
        · rename_i q hq
          rw [hq] at hy
          rcases yL hk with ⟨hqw, hk2⟩ | ⟨hqw, hk2⟩
          · have hqw : q = want := by simpa using hqw
            subst hqw
            rw [jS hq] at hk2
            rw [if_pos (by simp [Region.wanted, hg, hy])]
            obtain ⟨v, hv, hq⟩ := mW (w0 := w0) hr.eval hk2
            exact ⟨v, hq, ih _ _ hv (hr.put hdn v) (hp.put hdd v)⟩
          · have hqw : q = !want := by cases q <;> cases want <;> simp_all
            subst hqw
            rw [jS hq] at hk2
            rw [if_neg (by simp [Region.wanted, hg, hy])]
            exact ih _ _ hk2 (hr.put hdn undef) (hp.put hdd undef)
        · rename_i vs hq
          rw [hq] at hy
          rw [if_neg (by simp [Region.wanted, hg, hy])]
          exact ih _ _ hk (hr.put hdn undef) (hp.put hdd undef)
        · exact hk.elim
def Cm (l : List Oper) : List Nat := l.filterMap (·.dst)
def aI : Code → List Nat
  | .region _ ops _ => Cm ops.toList
  | .seq a b => aI a ++ aI b
  | .cond _ a b => aI a ++ aI b
  | .block _ c => aI c
  | .loop c => aI c
  | .scope c => aI c
  | _ => []
abbrev EH := Env → Hp → Prop
def Wf (h : Hp) : Prop := ∀ b o, h.f b = some o → b < h.n
theorem Is.wf {w : World} {h : Hp} (hi : Is w h) : Wf h := fun _ _ e => hi.lt e
def Jv (B : EH → EH) (cd : List Nat) (ρ : Env) (h : Hp) : Prop :=
  ∃ (I : EH) (μ : Env → Hp → Nat), I ρ h ∧ ∀ ρ' h', I ρ' h' → Wf h' → dW cd ρ ρ' → B (fun ρ2 h2 => ∃ g, Sub g h2 ∧ I ρ2 g ∧ μ ρ2 g < μ ρ' h') ρ' h'
def avc (P : Program) : Code → EH → EH → (Nat → EH) → EH
  | .skip, N, _, _, ρ, h => N ρ h
  | .region _ ops draw, N, _, _, ρ, h => if draw = true then (Region.lexB .any ops = true ∧ pW P ops h ops.toList ρ fun ρ' => ∀ n, h.n ≤ n → N ρ' (h.to n)) ∨ (ve P ops = true ∧ iE P ops ops.toList ρ h N) ∨ xI P ops ρ h N else vf P ops ops.toList ρ h N
  | .seq a b, N, R, X, ρ, h => avc P a (fun ρ' h' => avc P b N R X ρ' h') R X ρ h
  | .cond c a b, N, R, X, ρ, h => (match ρ.ev c with
    | .bool q => Br q (avc P a N R X ρ h) (avc P b N R X ρ h)
    | _ => False)
  | .block id c, N, R, X, ρ, h => avc P c N R (fun i ρ' h' => if i = id then N ρ' h' else X i ρ' h') ρ h
  | .loop c, _, R, X, ρ, h => Jv (fun N' ρ' h' => avc P c N' R X ρ' h') (aI c) ρ h
  | .exit i, _, _, X, ρ, h => X i ρ h
  | .scope c, N, R, X, ρ, h => avc P c N R X ρ h
  | .label _, N, _, _, ρ, h => N ρ h
  | .ret, _, R, _, ρ, h => R ρ h
  | _, _, _, _, _, _ => False
def LN (n : Nat) (ds : List Nat) (ρ0 : Env) (w0 : World) (N R : EH) (X : Nat → EH) : Exit → Act → World → Prop
  | .normal, a, w => ∃ ρ h, Rel n a ρ ∧ Is w h ∧ bq w0 w ∧ dW ds ρ0 ρ ∧ N ρ h
  | .ret, a, w => ∃ ρ h, Rel n a ρ ∧ Is w h ∧ bq w0 w ∧ dW ds ρ0 ρ ∧ R ρ h
  | .exit i, a, w => ∃ ρ h, Rel n a ρ ∧ Is w h ∧ bq w0 w ∧ dW ds ρ0 ρ ∧ X i ρ h
  | _, _, _ => False
theorem dW.mono {ds es : List Nat} {ρ0 ρ : Env} (hk : dW ds ρ0 ρ) (hs : ∀ t, ds.contains t = true → es.contains t = true) : dW es ρ0 ρ := fun t ht => hk t (by
  cases h : ds.contains t with
  | false => rfl
  | true => rw [hs t h] at ht; cases ht)
theorem dW.trans {ds : List Nat} {a b c : Env} (h : dW ds a b) (k : dW ds b c) : dW ds a c := fun t ht => (k t ht).trans (h t ht)
theorem rH {P : Program} {c : Code} {Q : Exit → Act → World → Prop} {γ : Type} (I : γ → Act → World → Prop) (μ : γ → Nat)
    (round : ∀ g a w, I g a w → c.wp P (Exit.then (fun a' w' => ∃ g', I g' a' w' ∧ μ g' < μ g) Q) a w) {g : γ} {a : Act} {w : World} (h0 : I g a w) : (Code.loop c).wp P Q a w := by
  intro b k cs
  have key : ∀ n g a w, μ g = n → I g a w → ∃ e a' w', Q e a' w' ∧ Arrives P (lone (b.at a (.code c :: .inLoop c :: k)) cs w) b k cs e a' w' := by
    intro n
    induction n using Nat.strongRecOn with
    | _ n ih =>
      intro g a w hn hI
      obtain ⟨e, a₁, w₁, hq, harr⟩ := round g a w hI b (.inLoop c :: k) cs
      cases e with
      | normal =>
        obtain ⟨g', hI₁, hlt⟩ := hq
        obtain ⟨e₂, a₂, w₂, hq₂, harr₂⟩ := ih (μ g') (hn ▸ hlt) g' a₁ w₁ rfl hI₁
        exact ⟨e₂, a₂, w₂, hq₂, .of_steps (Steps.trans harr (.one step_inLoop)) harr₂⟩
      | exit id => exact ⟨_, a₁, w₁, hq, .pass (x := .inLoop c) rfl (fun _ _ => .inl (by simp)) harr⟩
      | goto l => exact ⟨_, a₁, w₁, hq, .pass (x := .inLoop c) rfl (fun _ _ => .inl (by simp)) harr⟩
      | ret => exact ⟨_, a₁, w₁, hq, .pass (x := .inLoop c) rfl (fun _ _ => .inl (by simp)) harr⟩
      | panic ch => exact ⟨_, a₁, w₁, hq, .pass (x := .inLoop c) rfl (fun _ _ => .inl (by simp)) harr⟩
      | outgrown => exact ⟨_, a₁, w₁, hq, .pass (x := .inLoop c) rfl (fun _ _ => .inl (by simp)) harr⟩
  obtain ⟨e, a', w', hq, harr⟩ := key _ g a w rfl h0
  exact ⟨e, a', w', hq, .of_steps (.one step_loop) harr⟩
theorem oz {l : List Oper} {n : Nat} {ds : List Nat} (hd : ∀ t ∈ Cm l, t < n ∧ ds.contains t = true) : ∀ o ∈ l, ∀ t, o.dst = some t → t < n ∧ ds.contains t = true :=
  fun o ho t e => hd t (List.mem_filterMap.2 ⟨o, ho, e⟩)
theorem AB {P : Program} (hm : P.follows .mixedOrders = true) {n : Nat} {w0 : World} : ∀ (c : Code) (ds : List Nat), (∀ t ∈ aI c, t < n ∧ ds.contains t = true) → ∀ (N R : EH) (X : Nat → EH) (ρ0 ρ : Env) (h : Hp) (a : Act) (w : World),
    avc P c N R X ρ h → Rel n a ρ → Is w h → bq w0 w → dW ds ρ0 ρ → c.wp P (LN n ds ρ0 w0 N R X) a w := by
  intro c
  induction c with
  | skip => intro ds _ N R X ρ0 ρ h a w hk hr hi hs hp; exact wp_skip ⟨ρ, h, hr, hi, hs, hp, hk⟩
  | region id ops draw =>
    intro ds hd N R X ρ0 ρ h a w hk hr hi hs hp
    have hd' := oz (l := ops.toList) hd
    unfold avc at hk
    split at hk
    · rename_i hdr
      subst hdr
      rcases hk with hk | hk | hk
      case inr.inr => exact rG (n := n) (ds := ds) (ρ0 := ρ0) (w0 := w0) hm hd' (fun a' w' ρ' h' hr' hp' hi' hs' hN => ⟨ρ', h', hr', hi', hs', hp', hN⟩) hk hr hp hi hs
      case inr.inl => exact pV (n := n) (ds := ds) (ρ0 := ρ0) (w0 := w0) hm hk.1 hd' (fun a' w' ρ' h' hr' hp' hi' hs' hN => ⟨ρ', h', hr', hi', hs', hp', hN⟩) hk.2 hr hp hi hs
      refine wp_region_quiet (C := Cls h w0) hm hk.1 ⟨h.n, Nat.le_refl _, hi, hs⟩ ?_
      exact ow (fun a' ρ' hr' hp' hN w' ⟨k, hkn, hi', hs'⟩ => ⟨ρ', h.to k, hr', hi', hs', hp', hN k hkn⟩) ops.toList hd' ρ a hk.2 hr hp
    · rename_i hdr
      have hdr : draw = false := by simpa using hdr
      subst hdr
      refine (wpIn_wide (n := 0)).1 (wpIn_region_list ?_)
      exact kP (r := none) (d := []) (n := n) (ds := ds) (ρ0 := ρ0) (w0 := w0) (fun a' w' ρ' h' hr' hp' hi' hs' hN => ⟨ρ', h', hr', hi', hs', hp', hN⟩) ops.toList hd' ρ h a w hk hr hp hi hs
  | seq x y ihx ihy =>
    intro ds hd N R X ρ0 ρ h a w hk hr hi hs hp
    refine wp_seq (Code.wp_mono (fun e a' w' hq => ?_) (ihx ds (fun t ht => hd t (by simp [aI, ht])) (fun ρ' h' => avc P y N R X ρ' h') R X ρ0 ρ h a w hk hr hi hs hp))
    cases e with
    | normal =>
      obtain ⟨ρ', h', hr', hi', hs', hp', hN⟩ := hq
      exact ihy ds (fun t ht => hd t (by simp [aI, ht])) N R X ρ0 ρ' h' a' w' hN hr' hi' hs' hp'
    | _ => exact hq
  | cond t x y ihx ihy =>
    intro ds hd N R X ρ0 ρ h a w hk hr hi hs hp
    unfold avc at hk
    split at hk
    · rename_i q hq
      refine wp_cond_split (t := q) (by rw [hr.eval, hq]) (fun e => ?_) (fun e => ?_)
      · exact ihx ds (fun t ht => hd t (by simp [aI, ht])) N R X ρ0 ρ h a w (hk.1 e) hr hi hs hp
      · exact ihy ds (fun t ht => hd t (by simp [aI, ht])) N R X ρ0 ρ h a w (hk.2 e) hr hi hs hp
    · exact hk.elim
  | block id x ih =>
    intro ds hd N R X ρ0 ρ h a w hk hr hi hs hp
    refine wp_block (Code.wp_mono (fun e a' w' hq => ?_) (ih ds hd N R (fun i ρ' h' => if i = id then N ρ' h' else X i ρ' h') ρ0 ρ h a w hk hr hi hs hp))
    cases e with
    | exit i =>
      obtain ⟨ρ', h', hr', hi', hs', hp', hX⟩ := hq
      simp only [Exit.inBlock]
      split
      · rename_i e; rw [if_pos e] at hX; exact ⟨ρ', h', hr', hi', hs', hp', hX⟩
      · rename_i e; rw [if_neg e] at hX; exact ⟨ρ', h', hr', hi', hs', hp', hX⟩
    | _ => exact hq
  | loop x ih =>
    intro ds hd N R X ρ0 ρ h a w hk hr hi hs hp
    obtain ⟨I, μ, h0, hstep⟩ := hk
    have hsub : ∀ t, (aI x).contains t = true → ds.contains t = true := fun t ht => (hd t (show t ∈ aI x from by simpa using ht)).2
    refine rH (γ := Env × Hp) (fun g a' w' => Rel n a' g.1 ∧ Is w' g.2 ∧ bq w0 w' ∧ dW (aI x) ρ g.1 ∧ I g.1 g.2) (fun g => μ g.1 g.2) (fun g a' w' ⟨hr', hi', hs', hp', hI⟩ => ?_) (g := (ρ, h)) ⟨hr, hi, hs, fun _ _ => rfl, h0⟩
    have hb := hstep g.1 g.2 hI hi'.wf hp'
    refine Code.wp_mono (fun e a2 w2 hq => ?_) (ih (aI x) (fun t ht => ⟨(hd t ht).1, by simpa using (show t ∈ aI x from ht)⟩) _ R X ρ g.1 g.2 a' w' hb hr' hi' hs' hp')
    cases e with
    | normal =>
      obtain ⟨ρ2, h2, hr2, hi2, hs2, hp2, g2, hsub2, hI2, hlt⟩ := hq
      exact ⟨(ρ2, g2), ⟨hr2, hi2.sub hsub2, hs2, hp2, hI2⟩, hlt⟩
    | ret =>
      obtain ⟨ρ2, h2, hr2, hi2, hs2, hp2, hR⟩ := hq
      exact ⟨ρ2, h2, hr2, hi2, hs2, hp.trans (hp2.mono hsub), hR⟩
    | exit i =>
      obtain ⟨ρ2, h2, hr2, hi2, hs2, hp2, hR⟩ := hq
      exact ⟨ρ2, h2, hr2, hi2, hs2, hp.trans (hp2.mono hsub), hR⟩
    | _ => exact hq
  | exit i => intro ds _ N R X ρ0 ρ h a w hk hr hi hs hp; exact wp_exit ⟨ρ, h, hr, hi, hs, hp, hk⟩
  | scope x ih =>
    intro ds hd N R X ρ0 ρ h a w hk hr hi hs hp
    refine wp_scope_straight (Code.wp_mono (fun e a' w' hq => ?_) (ih ds hd N R X ρ0 ρ h a w hk hr hi hs hp))
    cases e <;> exact hq
  | label l => intro ds _ N R X ρ0 ρ h a w hk hr hi hs hp; exact wp_label ⟨ρ, h, hr, hi, hs, hp, hk⟩
  | ret => intro ds _ N R X ρ0 ρ h a w hk hr hi hs hp; exact wp_ret ⟨ρ, h, hr, hi, hs, hp, hk⟩
  | _ => intro ds _ N R X ρ0 ρ h a w hk; exact hk.elim
end Go.Proofs.Ythjggjhebbdkdaa
namespace Go.Proofs.Ythjggjhebbdkdaa
open Go Go.RowKit
def vh : List Value → Value
  | [v] => v
  | l => .tuple l.toArray
def oS (P : Program) : List ResultVar → List Value → Env → Hp → KH → Prop
  | [], acc, _, g, K => Fin K (vh acc.reverse) g
  | .tmp t :: rs, acc, ρ, g, K => oS P rs (ρ t :: acc) ρ g K
  | .cell a t :: rs, acc, ρ, g, K => fJ P t (ρ a) g fun v => oS P rs (v :: acc) ρ g K
def nN (tmps : Array Value) (x : ResultVar) : Sem Value := match x with
  | .tmp t => pure (tmps.getD t undef)
  | .cell a t => do
    loadVar t (← asAddr (tmps.getD a undef))
theorem jW {P : Program} {n : Nat} {a : Act} {ρ : Env} (hr : Rel n a ρ) {g : Hp} {K : KH} {w : World} (hw : Fits w g) : ∀ (rs : List ResultVar) (acc : List Value), oS P rs acc ρ g K →
    ∃ vs, (rs.mapM (nN a.tmps)).run P w = .ok vs w ∧ Fin K (vh (acc.reverse ++ vs)) g
  | [], acc, h => ⟨[], by simp, by simpa [oS] using h⟩
  | .tmp t :: rs, acc, h => by
    obtain ⟨vs, h1, h2⟩ := jW hr hw rs (ρ t :: acc) h
    refine ⟨ρ t :: vs, ?_, by simpa using h2⟩
    rw [List.mapM_cons]
    simp only [Sem.run_bind, nN, Sem.run_pure, Result.andThen_ok, h1, hr.2.2 t]
  | .cell x t :: rs, acc, h => by
    simp only [oS] at h
    obtain ⟨v, hv, hrun⟩ := oo h
    obtain ⟨vs, h1, h2⟩ := jW hr hw rs (v :: acc) hv
    refine ⟨v :: vs, ?_, by simpa using h2⟩
    rw [List.mapM_cons]
    have h3 := hrun w hw
    have hp : ∃ ad, ρ x = .pointer (some ad) := by
      unfold fJ at h
      split at h
      · rename_i b o e; exact ⟨_, e⟩
      · exact h.elim
    obtain ⟨ad, hp⟩ := hp
    have h4 : (nN a.tmps (.cell x t)).run P w = .ok v w := by
      simp only [nN, hr.2.2 x]
      rw [hp] at h3 ⊢
      simpa [Instr.loadAt, Instr.sureAddr, asAddr] using h3
    simp only [Sem.run_bind, h4, Result.andThen_ok, h1, Sem.run_pure]
theorem mX {P : Program} {fn : Func} {tmps : Array Value} {w : World} {vs : List Value} (h : (fn.results.toList.mapM (nN tmps)).run P w = .ok vs w) : (results fn tmps).run P w = .ok (vh vs) w := by
  have e : (results fn tmps) = (do
      let vs ← fn.results.mapM (nN tmps)
      pure (if h : vs.size = 1 then vs[0] else .tuple vs)) := rfl
  rw [e, Array.mapM_eq_mapM_toList]
  simp only [Sem.run_bind, Sem.run_map, h, Result.andThen_ok, Sem.run_pure]
  congr 1
  match vs with
  | [] => rfl
  | [v] => rfl
  | v :: u :: l => rfl
def fu : List Value → Nat → Env
  | [], _ => fun _ => undef
  | v :: l, k => (fu l (k + 1)).upd k v
theorem kQ : ∀ (l : List Value) (k t : Nat), fu l k t = if k ≤ t then (l[t - k]?).getD undef else undef
  | [], k, t => by simp [fu]
  | v :: l, k, t => by
    simp only [fu, Env.upd]
    rw [kQ l (k + 1) t]
    by_cases e : t = k
    · subst e; simp
    · rw [if_neg e]
      by_cases h1 : k ≤ t
      · have h2 : k + 1 ≤ t := by omega
        rw [if_pos h1, if_pos h2]
        obtain ⟨d, rfl⟩ : ∃ d, t = k + 1 + d := ⟨t - (k + 1), by omega⟩
        rw [show k + 1 + d - (k + 1) = d from by omega, show k + 1 + d - k = d + 1 from by omega]
        simp
      · rw [if_neg h1, if_neg (by omega)]
theorem rS {args : Array Value} {n : Nat} (hl : args.size ≤ n) : Rel n ⟨args ++ Array.replicate (n - args.size) undef, []⟩ (fu args.toList 0) := by
  refine ⟨rfl, by simp; omega, fun t => ?_⟩
  rw [kQ]
  simp only [Nat.zero_le, if_true, Nat.sub_zero, Array.getElem?_toList]
  simp only [Array.getD_eq_getD_getElem?]
  by_cases ht : t < args.size
  · rw [Array.getElem?_append_left ht]
  · have h2 : args[t]? = none := Array.getElem?_eq_none (by omega)
    rw [Array.getElem?_append_right (by omega), h2]
    simp [Array.getElem?_replicate]
    split <;> rfl
theorem Co {P : Program} (hm : P.follows .mixedOrders = true) {f : FuncId} {fn : Func} {c : Code} (hf : P.funcs[f]? = some fn) (hb : fn.body = some c) {n : Nat} (hn : fn.ntmps = n) {rs : Array ResultVar} (hr : fn.results = rs)
    (hok : ((aI c).all fun t => decide (t < n)) = true) {args : Array Value} (hl : args.size ≤ n) {h : Hp} {K : KH}
    (hk : Wf h → avc P c (fun ρ g => oS P rs.toList [] ρ g K) (fun ρ g => oS P rs.toList [] ρ g K) (fun _ _ _ => False) (fu args.toList 0) h) : pF P f args h K := by
  intro w hi
  refine calls_of_wp hf hb ?_
  rw [hn]
  have hd : ∀ t ∈ aI c, t < n ∧ (aI c).contains t = true := fun t ht => ⟨by simpa using List.all_eq_true.1 hok t ht, by simpa using ht⟩
  have hs := AB hm (w0 := w) c (aI c) hd _ _ _ _ _ h _ w (hk hi.wf) (rS hl) hi (bq.refl w) (fun _ _ => rfl)
  refine Code.wp_mono (fun e a w' hq => ?_) hs
  have fin : ∀ ρ g, Rel n a ρ → Is w' g → bq w w' → oS P rs.toList [] ρ g K → a.defers = [] ∧ ∃ v, (results fn a.tmps).run P w' = .ok v w' ∧ ∃ v' h', Ending.returned v = .returned v' ∧ Is w' h' ∧ bq w w' ∧ K v' h' := by
    intro ρ g hr' hi' hs' hK
    obtain ⟨vs, h1, g', hsub, hK'⟩ := jW hr' hi'.2 rs.toList [] hK
    rw [← hr] at h1
    exact ⟨hr'.1, _, mX h1, _, g', rfl, hi'.sub hsub, hs', hK'⟩
  cases e with
  | normal => obtain ⟨ρ, g, hr', hi', hs', _, hK⟩ := hq; exact fin ρ g hr' hi' hs' hK
  | ret => obtain ⟨ρ, g, hr', hi', hs', _, hK⟩ := hq; exact fin ρ g hr' hi' hs' hK
  | exit i => obtain ⟨ρ, g, hr', hi', hs', _, hK⟩ := hq; exact hK.elim
  | _ => exact hq.elim
end Go.Proofs.Ythjggjhebbdkdaa
namespace Go.Proofs.Ythjggjhebbdkdaa
open Go Go.RowKit
inductive PM (α : Type) where
  | nil
  | node (l : PM α) (v : Option α) (r : PM α)
noncomputable def PM.get {α : Type} (t : PM α) : Nat → Option α :=
  PM.rec (fun _ => none) (fun _ v _ gl gr n => Nat.rec v (fun m _ => Nat.rec (gl (Nat.div m 2)) (fun _ _ => gr (Nat.div m 2)) (Nat.mod m 2)) n) t
noncomputable def PM.set {α : Type} (v : Option α) (f : Nat) : PM α → Nat → PM α :=
  Nat.rec (fun _ _ => .nil) (fun _ ih t n => PM.rec
    (Nat.rec (.node .nil v .nil) (fun m _ => Nat.rec (.node (ih .nil (Nat.div m 2)) none .nil) (fun _ _ => .node .nil none (ih .nil (Nat.div m 2))) (Nat.mod m 2)) n)
    (fun l u r _ _ => Nat.rec (.node l v r) (fun m _ => Nat.rec (.node (ih l (Nat.div m 2)) u r) (fun _ _ => .node l u (ih r (Nat.div m 2))) (Nat.mod m 2)) n) t) f
inductive AV where
  | int (k : IntKind) (n : Int)
  | str (s : List Nat)
  | bool (b : Bool)
  | nil
  | ptr (b o : Nat)
  | nsl
  | sl (b o n c k : Nat)
  | esl (b : Nat)
  | agg (l : List AV)
  | tup (l : List AV)
  | fn (f : Nat) (a c : List AV)
  | map (b : Nat)
  | any (v : Value)
  | bad
  | si (k : IntKind) (n : Int)
  | sb (b : Bool)
  | ss (s : List Nat)
  | sy (b o n c k : Nat)
  | rw (b o n k x : Nat)
  | fr (n k : Nat) (l : List AV)
  | fa (l : List AV) (o : Nat)
structure Fz where
  B : Nat
  s : Nat
  L : List AV
structure HP where
  P : (Fz → Prop) → (Nat → Prop) → Hp → Prop
  loc : ∀ z S h g, h.n ≤ g.n → (∀ B, S B → g.f B = h.f B) → P z S h → P z S g
  mono : ∀ z z' S h, (∀ q, z q → z' q) → P z S h → P z' S h
  ex : ∀ z S h B, P z S h → S B → ∃ o, h.f B = some o
inductive AO where
  | cells (l : List AV) (z : Bool)
  | map (es : List (AV × AV))
  | ro (l : List AV)
  | iter (b m : Nat) (seen : List Nat)
  | sep (Q : HP)
abbrev AE := PM AV
abbrev AH := PM AO
def cJ : AV := .tup []
noncomputable def vi : Value → AV
  | .int k n => .int k n
  | .string s => .str (s.data.toList.map UInt8.toNat)
  | .bool b => .bool b
  | .pointer none => .nil
  | .slice none 0 0 => .nsl
  | v => .any v
noncomputable def ofV : Value → AV
  | .agg cs => .agg (cs.toList.map vi)
  | .tuple cs => .tup (cs.toList.map vi)
  | v => vi v
noncomputable def AV.cells : AV → List AV
  | .agg l => l
  | v => [v]
noncomputable def mf : AV → Bool
  | .agg _ | .tup _ => false
  | .any v => v.oneCell'
  | .bad => false
  | _ => true
noncomputable def okC : AV → Bool
  | .bad => false
  | .any u => u.oneCell'
  | _ => true
noncomputable def db : Nat := 30
noncomputable def aa : Nat := 40
inductive Pa where
  | stop
  | here
  | lo (p : Pa)
  | hi (p : Pa)
noncomputable def pathOf (f : Nat) : Nat → Pa :=
  Nat.rec (fun _ => .stop) (fun _ ih n => Nat.rec .here (fun m _ => Nat.rec (.lo (ih (Nat.div m 2))) (fun _ _ => .hi (ih (Nat.div m 2))) (Nat.mod m 2)) n) f
noncomputable def pa (t : Nat) : Pa := pathOf db t
noncomputable def LO (v : Option AV) : AV := Option.rec .bad (fun a => a) v
noncomputable def ay (p : Pa) : AE → AV :=
  Pa.rec (fun _ => .bad) (fun t => PM.rec .bad (fun _ v _ _ _ => LO v) t) (fun _ ih t => PM.rec .bad (fun l _ _ _ _ => ih l) t) (fun _ ih t => PM.rec .bad (fun _ _ r _ _ => ih r) t) p
noncomputable def nO (v : AV) (p : Pa) : AE → AE :=
  Pa.rec (fun _ => .nil) (fun t => PM.rec (.node .nil (some v) .nil) (fun l _ r _ _ => .node l (some v) r) t)
    (fun _ ih t => PM.rec (.node (ih .nil) none .nil) (fun l u r _ _ => .node (ih l) u r) t) (fun _ ih t => PM.rec (.node .nil none (ih .nil)) (fun l u r _ _ => .node l u (ih r)) t) p
noncomputable def LP (d : Option Nat) (v : AV) (σ : AE) : AE := Option.rec σ (fun t => nO v (pa t) σ) d
noncomputable def eev (σ : AE) : Operand → AV
  | .tmp t => ay (pa t) σ
  | .const v => ofV v
  | .func f => .fn f [] []
  | .global g => .any (.pointer (some ⟨g, 0, none⟩))
noncomputable def b8 (σ : AE) (d : Option Nat) (v : AV) : AE := LP d v σ
noncomputable def nth {α : Type} : List α → Nat → Option α
  | [], _ => none
  | x :: _, 0 => some x
  | _ :: l, n + 1 => nth l n
noncomputable def kR : List Nat → List Nat → Bool
  | [], [] => true
  | a :: x, b :: y => (match Nat.beq a b with
    | true => kR x y
    | false => false)
  | _, _ => false
noncomputable def ltL : List Nat → List Nat → Bool
  | _, [] => false
  | [], _ :: _ => true
  | a :: x, b :: y => (match Nat.beq a b with
    | true => ltL x y
    | false => Nat.blt a b)
noncomputable def bu {α : Type} (l : List α) (o n : Nat) : Option (List α) := (match Nat.ble (o + n) l.length with
  | true => some ((l.drop o).take n)
  | false => none)
noncomputable def ez {α : Type} : List α → Nat → List α → Option (List α)
  | l, 0, [] => some l
  | [], 0, _ :: _ => none
  | [], _ + 1, _ => none
  | _ :: l, 0, x :: xs => (ez l 0 xs).map (x :: ·)
  | y :: l, o + 1, xs => (ez l o xs).map (y :: ·)
noncomputable def rT (P : Program) (t : TypeId) (a : AV) (H : AH) : Option AV := match a with
  | .ptr b o => (match H.get b with
    | some (.cells l _) => (match aJ P t with
      | some false => nth l o
      | some true => (match ah P t with
        | some n => (bu l o n).map .agg
        | none => none)
      | none => none)
    | some (.ro l) => (match aJ P t with
      | some false => nth l o
      | some true => (match ah P t with
        | some n => (bu l o n).map .agg
        | none => none)
      | none => none)
    | _ => none)
  | _ => none
noncomputable def Fa (op : BinOp) (k k' : IntKind) (a b : Int) : Option AV := match op with
  | .shl => if 0 ≤ b then some (.int k (k.wrap (a * 2 ^ min b.toNat k.bits))) else none
  | .shr => if 0 ≤ b then some (.int k (a.fdiv (2 ^ min b.toNat k.bits))) else none
  | op => if k = k' then (match op with
    | .add => some (.int k (k.wrap (a + b)))
    | .sub => some (.int k (k.wrap (a - b)))
    | .mul => some (.int k (k.wrap (a * b)))
    | .quo => if b = 0 then none else some (.int k (k.wrap (a.tdiv b)))
    | .rem => if b = 0 then none else some (.int k (a.tmod b))
    | .and => some (.int k (bI .and k a b))
    | .or => some (.int k (bI .or k a b))
    | .xor => some (.int k (bI .xor k a b))
    | .andNot => some (.int k (bI .andNot k a b))
    | .eql => some (.bool (decide (a = b)))
    | .neq => some (.bool (!decide (a = b)))
    | .lss => some (.bool (decide (a < b)))
    | .leq => some (.bool (decide (a ≤ b)))
    | .gtr => some (.bool (decide (b < a)))
    | .geq => some (.bool (decide (b ≤ a)))
    | _ => none) else none
noncomputable def Cp (op : BinOp) (a b : List Nat) : Option AV := match op with
  | .add => if a.length + b.length ≤ 9223372036854775807 then some (.str (a ++ b)) else none
  | .eql => some (.bool (kR a b))
  | .neq => some (.bool (!kR a b))
  | .lss => some (.bool (ltL a b))
  | .leq => some (.bool (ltL a b || kR a b))
  | .gtr => some (.bool (!(ltL a b || kR a b)))
  | .geq => some (.bool (!ltL a b))
  | _ => none
noncomputable def Cq : AV → Option Bool
  | .nil => some true
  | .ptr _ _ => some false
  | .any (.pointer a) => some a.isNone
  | _ => none
noncomputable def Cr : AV → Option Bool
  | .nsl => some true
  | .sl .. => some false
  | .esl _ => some false
  | _ => none
noncomputable def mY (op : BinOp) (q : Option Bool) : Option AV := match q with
  | none => none
  | some q => (match op with
    | .eql => some (.bool q)
    | .neq => some (.bool (!q))
    | _ => none)
noncomputable def oA (xs ys : List AV) : List (Nat × Nat) → Option Bool
  | [] => some true
  | (k, o) :: l => (match nth xs o, nth ys o with
    | some (.int k1 a), some (.int k2 b) => if k = 0 ∧ k1 = k2 then (oA xs ys l).map (decide (a = b) && ·) else none
    | some (.str a), some (.str b) => if k = 1 then (oA xs ys l).map (kR a b && ·) else none
    | some (.bool a), some (.bool b) => if k = 2 then (oA xs ys l).map ((a == b) && ·) else none
    | _, _ => none)
noncomputable def xJ (P : Program) (t : TypeId) : Bool := match P.underlying t with
  | some (.pointer _) => true
  | _ => false
noncomputable def pX (P : Program) (t : TypeId) : Bool := match P.underlying t with
  | some (.slice _) => true
  | _ => false
noncomputable def o8 (P : Program) (t : TypeId) : Bool := match P.underlying t with
  | some .bool => true
  | _ => false
noncomputable def tj (H : AH) (b : Nat) : Bool := match H.get b with
  | some (.cells _ true) => true
  | _ => false
noncomputable def Jw (P : Program) (t : TypeId) (H : AH) (b o b' o' : Nat) : Option Bool := match P.underlying t with
  | some (.pointer e) => (match ah P e with
    | some (_ + 1) => (match Nat.beq b b' && Nat.beq o o' with
      | true => some true
      | false => if tj H b && tj H b' then some false else none)
    | _ => none)
  | _ => none
noncomputable def oT (P : Program) (op : BinOp) (t : TypeId) (x y : AV) (H : AH) : Option AV := match x, y with
  | .int k a, .int k' b => Fa op k k' a b
  | .str a, .str b => Cp op a b
  | .bool a, .bool b => if o8 P t then mY op (some (a == b)) else none
  | .ptr b o, .ptr b' o' => mY op (Jw P t H b o b' o')
  | x, .nil => if xJ P t then mY op (Cq x) else none
  | x, .nsl => if pX P t then mY op (Cr x) else none
  | .agg xs, .agg ys => mY op ((eo P t).bind (oA xs ys))
  | _, _ => none
noncomputable def eun (op : UnOp) (x : AV) : Option AV := match op, x with
  | .not, .bool b => some (.bool (!b))
  | .neg, .int k n => some (.int k (k.wrap (0 - n)))
  | .xor, .int k n => some (.int k (bI .xor k (if k.signed then -1 else k.max) n))
  | _, _ => none
noncomputable def rU (P : Program) (t : TypeId) (l : List AV) (off : Nat) : Option AV := match aJ P t with
  | some false => nth l off
  | some true => (match ah P t with
    | some n => (bu l off n).map .agg
    | none => none)
  | none => none
noncomputable def xK (P : Program) (s : TypeId) (x : AV) (i : Nat) : Option AV := match x, ai P s i with
  | .agg l, some (t, off) => rU P t l off
  | _, _ => none
noncomputable def mg (P : Program) (s : TypeId) (x : AV) (i : Nat) : Option AV := match x, ai P s i with
  | .ptr b o, some (_, off) => some (.ptr b (o + off))
  | .fa l o, some (_, off) => some (.fa l (o + off))
  | _, _ => none
noncomputable def eix (ix : AV) (len : Nat) : Option Nat := match ix with
  | .int _ (.ofNat i) => (match Nat.blt i len with
    | true => some i
    | false => none)
  | _ => none
noncomputable def mh (P : Program) (t : TypeId) (x ix : AV) : Option AV := match P.underlying t, x with
  | some (.slice e), .sl b o n _ _ => (match eix ix n, ah P e with
    | some i, some k => some (.ptr b (o + i * k))
    | _, _ => none)
  | some (.array len e), .ptr b o => (match eix ix len, ah P e with
    | some i, some k => some (.ptr b (o + i * k))
    | _, _ => none)
  | _, _ => none
noncomputable def xL (P : Program) (t : TypeId) (x ix : AV) : Option AV := match P.underlying t, x with
  | some (.array len e), .agg l => (match eix ix len, ah P e with
    | some i, some k => rU P e l (i * k)
    | _, _ => none)
  | some .string, .str s => (match eix ix s.length with
    | some i => (nth s i).map fun c => .int .u8 (Int.ofNat c)
    | none => none)
  | _, _ => none
noncomputable def pY (x : AV) (i : Nat) : Option AV := match x with
  | .tup l => nth l i
  | _ => none
noncomputable def jX (x : Option AV) (d : Nat) : Option Nat := match x with
  | none => some d
  | some (.int _ (.ofNat i)) => some i
  | _ => none
noncomputable def fV (P : Program) (t : TypeId) (x : AV) (lo hi mx : Option AV) : Option AV := match x with
  | .str s => (match P.underlying t, mx, jX lo 0, jX hi s.length with
    | some .string, none, some l, some h => if l ≤ h ∧ h ≤ s.length then some (.str ((s.drop l).take (h - l))) else none
    | _, _, _, _ => none)
  | .nsl => (match P.underlying t, jX lo 0, jX hi 0, jX mx 0 with
    | some (.slice e), some l, some h, some m => if l = 0 ∧ h = 0 ∧ m = 0 ∧ (mx.isSome = true → hi.isSome = true) ∧ (ah P e).isSome = true then some .nsl else none
    | _, _, _, _ => none)
  | .esl b => (match P.underlying t, mx, jX lo 0, jX hi 0 with
    | some (.slice e), none, some l, some h => if l = 0 ∧ h = 0 ∧ (ah P e).isSome = true then some (.esl b) else none
    | _, _, _, _ => none)
  | .sl b o n c k => (match P.underlying t with
    | some (.slice e) => (match ah P e, jX lo 0, jX hi n, jX mx c with
      | some es, some l, some h, some m => if l ≤ h ∧ h ≤ m ∧ m ≤ c then
          (match k, mx with
          | 0, none => some (.sl b (if m = l then o else o + l * es) (h - l) (m - l) 0)
          | 0, some _ => if hi.isSome = true then some (.sl b (if m = l then o else o + l * es) (h - l) (m - l) 0) else none
          | k' + 1, none => if es = k' + 1 then (if l = 0 ∨ l < c then some (.sl b (o + l * es) (h - l) (c - l) (k' + 1)) else some (.esl b)) else none
          | _ + 1, some _ => if hi.isSome = true then some (.sl b (if m = l then o else o + l * es) (h - l) (m - l) 0) else none)
        else none
      | _, _, _, _ => none)
    | _ => none)
  | _ => none
noncomputable def AD (P : Program) (t : TypeId) (x : AV) (H : AH) : Option AV := match P.underlying t, x with
  | some .string, .str s => some (.int .i64 s.length)
  | some (.slice _), .nsl => some (.int .i64 0)
  | some (.slice _), .esl _ => some (.int .i64 0)
  | some (.slice _), .sl _ _ n _ _ => some (.int .i64 n)
  | some (.array n _), _ => some (.int .i64 n)
  | some (.map _ _), .map b => (match H.get b with
    | some (.map es) => some (.int .i64 es.length)
    | _ => none)
  | _, _ => none
noncomputable def emm (mx : Bool) (x y : AV) : Option AV := match x, y with
  | .int k a, .int _ b => some (.int k (if mx then max a b else min a b))
  | _, _ => none
noncomputable def rV (place : Nat → Option (Nat × Nat)) (cells : List AV) : List (Nat × AV) → Option (List AV)
  | [] => some cells
  | (i, v) :: rest => (match place i with
    | none => none
    | some (off, size) => (match Nat.beq v.cells.length size && (okC v && Nat.ble (off + size) cells.length), ez cells off v.cells with
      | true, some c => rV place c rest
      | _, _ => none))
noncomputable def xM (P : Program) (t : TypeId) (parts : List (Nat × AV)) : Option (List AV) :=
  match au P t with
  | some z => (match P.underlying t with
    | some (.struct fs) => if (fs.toList.all fun f => (ah P f.type).isSome) = true then rV (fp P fs) (ofV z).cells parts else none
    | some (.array _ e) => (match ah P e with
      | some s => rV (fun i => some (i * s, s)) (ofV z).cells parts
      | none => none)
    | _ => none)
  | none => none
noncomputable def Ct (kd : TypeDesc) (a b : AV) : Option Bool := match kd, a, b with
  | .int _, .int k n, .int k' m => if k = k' then some (decide (n = m)) else none
  | .string, .str s, .str r => some (kR s r)
  | _, _, _ => none
noncomputable def rW (kd : TypeDesc) (k : AV) : List (AV × AV) → Nat → Option (Option (Nat × AV))
  | [], _ => some none
  | e :: es, i => (match Ct kd k e.1 with
    | some true => some (some (i, e.2))
    | some false => rW kd k es (i + 1)
    | none => none)
noncomputable def jY (P : Program) (t : TypeId) (m k : AV) (ok : Bool) (H : AH) : Option AV := match m, lz P t with
  | .map b, some (_, kd, et) => (match H.get b with
    | some (.map es) => (match rW kd k es 0 with
      | some (some (_, v)) => some (if ok then .tup [v, .bool true] else v)
      | some none => (match au P et with
        | some z => some (if ok then .tup [ofV z, .bool false] else ofV z)
        | none => none)
      | none => none)
    | _ => none)
  | _, _ => none
noncomputable def mZ (P : Program) (o : Op) (σ : AE) (H : AH) : Option AV :=
  match o with
  | .move x => some (eev σ x)
  | .assign x => some (eev σ x)
  | .pick c a b => (match eev σ c with
    | .bool true => some (eev σ a)
    | .bool false => some (eev σ b)
    | _ => none)
  | .build t parts => (xM P t (parts.toList.map fun x => (x.1, eev σ x.2))).map .agg
  | .load t a => rT P t (eev σ a) H
  | .nilCheck x => (match eev σ x with
    | .ptr b o => some (.ptr b o)
    | .fn f a c => some (.fn f a c)
    | _ => none)
  | .binOp op t x y _ => oT P op t (eev σ x) (eev σ y) H
  | .unOp op _ x => eun op (eev σ x)
  | .makeFunc (.func f) first captured => some (.fn f (first.toList.map (eev σ)) (captured.toList.map (eev σ)))
  | .slice t x lo hi mx => fV P t (eev σ x) (lo.map (eev σ)) (hi.map (eev σ)) (mx.map (eev σ))
  | .fieldAddr s x i => mg P s (eev σ x) i
  | .field t x i => xK P t (eev σ x) i
  | .indexAddr t x ix => mh P t (eev σ x) (eev σ ix)
  | .index t x ix => xL P t (eev σ x) (eev σ ix)
  | .extract x i => pY (eev σ x) i
  | .lookup t m k ok => jY P t (eev σ m) (eev σ k) ok H
  | .call c => (match c.callee, c.argTypes.toList, c.args.toList.map (eev σ) with
    | .builtin .len, [t], [x] => AD P t x H
    | .builtin .min, _, [x, y] => emm false x y
    | .builtin .max, _, [x, y] => emm true x y
    | _, _, _ => none)
  | _ => none
abbrev AR := Option (AV × AH × Nat)
noncomputable def Fb (l : List AV) (H : AH) (n : Nat) : AR := some (.ptr n 0, H.set (some (.cells l true)) aa n, n + 1)
noncomputable def tk (P : Program) (t : TypeId) (a v : AV) (H : AH) (n : Nat) : AR := match a with
  | .ptr b o => (match H.get b, ah P t with
    | some (.cells l z), some s => (match Nat.beq v.cells.length s && (okC v && v.cells.all mf), ez l o v.cells with
      | true, some l' => some (cJ, H.set (some (.cells l' z)) aa b, n)
      | _, _ => none)
    | _, _ => none)
  | _ => none
noncomputable def fv (z : List AV) : Nat → List AV
  | 0 => []
  | n + 1 => z ++ fv z n
noncomputable def iF : List AV → Option (List Nat)
  | [] => some []
  | .int .u8 (.ofNat n) :: l => (match Nat.blt n 256 with
    | true => (iF l).map (n :: ·)
    | false => none)
  | .si .u8 (.ofNat n) :: l => (match Nat.blt n 256 with
    | true => (iF l).map (n :: ·)
    | false => none)
  | _ => none
noncomputable def vj (P : Program) (src dst : TypeId) (x : AV) (H : AH) (n : Nat) : AR := match P.underlying src, P.underlying dst, x with
  | some (.int _), some (.int k), .int _ a => some (.int k (k.wrap a), H, n)
  | some .string, some .string, .str s => some (.str s, H, n)
  | some .string, some (.slice e), .str s => (match P.underlying e with
    | some (.int .u8) => some (.sl n 0 s.length s.length 1, H.set (some (.cells (s.map fun c => .int .u8 (Int.ofNat c)) false)) aa n, n + 1)
    | _ => none)
  | some (.slice e), some .string, .nsl => (match P.underlying e with
    | some (.int .u8) => some (.str [], H, n)
    | _ => none)
  | some (.slice e), some .string, .sl b o len _ _ => (match P.underlying e, H.get b with
    | some (.int .u8), some (.cells l _) => ((bu l o len).bind iF).map fun s => (.str s, H, n)
    | _, _ => none)
  | _, _, _ => none
noncomputable def pZ (P : Program) (t : TypeId) (len cap : AV) (H : AH) (n : Nat) : AR := match P.underlying t, len, cap with
  | some (.slice e), .int _ (.ofNat l), .int _ (.ofNat c) => (match ah P e, an P e, au P e with
    | some k, some by', some z => if l ≤ c ∧ by' * c ≤ 281474976710656 ∧ c ≤ 9223372036854775807 ∧ z.cells.size = k then
        some (.sl n 0 l c 0, H.set (some (.cells (fv (ofV z).cells c) true)) aa n, n + 1) else none
    | _, _, _ => none)
  | _, _, _ => none
noncomputable def Fc (H : AH) (k : Nat) (x : AV) : Option (Nat × List AV) := match x with
  | .nsl => some (0, [])
  | .sl b o n _ _ => (match H.get b with
    | some (.cells l _) => (bu l o (n * k)).map (n, ·)
    | some (.ro l) => (bu l o (n * k)).map (n, ·)
    | _ => none)
  | .esl b => (match H.get b with
    | some (.cells _ _) => some (0, [])
    | _ => none)
  | .str s => some (s.length, s.map fun c => .int .u8 (Int.ofNat c))
  | _ => none
noncomputable def m0 (P : Program) (t u : TypeId) (s x : AV) (H : AH) (n : Nat) : AR := match P.underlying t, P.underlying u with
  | some (.slice e), some ud => (match ud, ah P e, an P e, au P e with
    | .int _, _, _, _ => none
    | _, some k, some by', some z => (match Fc H k x with
      | some (m, new) => if z.cells.size = k ∧ 0 < by' ∧ 0 < k ∧ new.length = m * k ∧ new.all mf = true then (match s with
        | .nsl => (match m with
          | 0 => some (.nsl, H, n)
          | _ => if m * by' ≤ 140737488355328 then some (.sl n 0 m m k, H.set (some (.cells new true)) aa n, n + 1) else none)
        | .sl b o sn c sk => (match H.get b with
          | some (.cells l z') => if sn + m ≤ c then (match ez l (o + sn * k) new with
              | some l' => some (.sl b o (sn + m) c sk, H.set (some (.cells l' z')) aa b, n)
              | none => none)
            else if (sn + m) * by' ≤ 140737488355328 then (match bu l o (sn * k), sk with
              | some old, 0 => some (.sl n 0 (sn + m) (sn + m) k, H.set (some (.cells (old ++ new) true)) aa n, n + 1)
              | some old, _ + 1 => if sk = k then some (.sl n 0 (sn + m) (sn + m) k, (H.set none aa b).set (some (.cells (old ++ new) z')) aa n, n + 1) else none
              | none, _ => none)
            else none
          | _ => none)
        | _ => none) else none
      | none => none)
    | _, _, _, _ => none)
  | _, _ => none
noncomputable def yP : AV → Option Nat
  | .nsl => some 0
  | .sl _ _ n _ _ => some n
  | .esl _ => some 0
  | .str s => some s.length
  | _ => none
noncomputable def xN (H : AH) (k q : Nat) (x : AV) : Option (List AV) := match x with
  | .nsl => some []
  | .sl b o _ _ _ => (match H.get b with
    | some (.cells l _) => bu l o (q * k)
    | some (.ro l) => bu l o (q * k)
    | _ => none)
  | .esl b => (match H.get b, q with
    | some (.cells _ _), 0 => some []
    | some (.ro _), 0 => some []
    | _, _ => none)
  | .str s => some ((s.take q).map fun c => .int .u8 (Int.ofNat c))
  | _ => none
noncomputable def vk (P : Program) (t : TypeId) (d x : AV) (H : AH) (n : Nat) : AR := match P.underlying t, yP x, yP d with
  | some (.slice e), some m, some dn => (match ah P e with
    | some k => (match xN H k (min m dn) x with
      | some cells => (match d with
        | .nsl => some (.int .i64 (min m dn : Nat), H, n)
        | .esl b => (match H.get b, cells with
          | some (.cells l z), [] => some (.int .i64 (min m dn : Nat), H.set (some (.cells l z)) aa b, n)
          | _, _ => none)
        | .sl b o _ _ _ => (match H.get b with
          | some (.cells l z) => (match ez l o cells, cells.all mf with
            | some l', true => some (.int .i64 (min m dn : Nat), H.set (some (.cells l' z)) aa b, n)
            | _, _ => none)
          | _ => none)
        | _ => none)
      | none => none)
    | none => none)
  | _, _, _ => none
noncomputable def tl (P : Program) (t : TypeId) (len : Nat) (parts : List (Nat × AV)) : Option (List AV) := match P.underlying t with
  | some (.slice e) => (match ah P e, au P e with
    | some s, some z => if len * s ≤ 16777216 ∧ z.cells.size = s then rV (fun i => some (i * s, s)) (fv (ofV z).cells len) parts else none
    | _, _ => none)
  | _ => none
noncomputable def vl (k v : AV) : List (AV × AV) → Option (Nat × AV) → List (AV × AV)
  | es, none => es ++ [(k, v)]
  | [], some _ => []
  | _ :: es, some (0, _) => (k, v) :: es
  | e :: es, some (i + 1, u) => e :: vl k v es (some (i, u))
noncomputable def o9 (P : Program) (t : TypeId) (m k v : AV) (H : AH) (n : Nat) : AR := match m, lz P t with
  | .map b, some (_, kd, _) => (match H.get b with
    | some (.map es) => (match rW kd k es 0 with
      | some r => some (cJ, H.set (some (.map (vl k v es r))) aa b, n)
      | none => none)
    | _ => none)
  | _, _ => none
abbrev AC := FuncId → List AV → AH → Nat → AR
noncomputable def xO (P : Program) (t : TypeId) (x : AV) (H : AH) (n : Nat) : AR := match x with
  | .map b => (match H.get b, s9 P t with
    | some (.map es), true => some (.ptr n 0, H.set (some (.iter b es.length [])) aa n, n + 1)
    | _, _ => none)
  | _ => none
noncomputable def yQ (P : Program) (call : AC) (o : Op) (σ : AE) (H : AH) (n : Nat) : AR :=
  match o with
  | .alloc e => (match au P e with
    | some z => Fb (ofV z).cells H n
    | none => none)
  | .box _ x => (match okC (eev σ x) with
    | true => Fb (eev σ x).cells H n
    | false => none)
  | .buildSlice t len parts => (match tl P t len (parts.toList.map fun x => (x.1, eev σ x.2)) with
    | some l => some (.sl n 0 len len 0, H.set (some (.cells l true)) aa n, n + 1)
    | none => none)
  | .store t a x => tk P t (eev σ a) (eev σ x) H n
  | .convert src dst x => vj P src dst (eev σ x) H n
  | .makeSlice t l c => pZ P t (eev σ l) (eev σ c) H n
  | .makeMap _ none => some (.map n, H.set (some (.map [])) aa n, n + 1)
  | .mapUpdate t m k x => o9 P t (eev σ m) (eev σ k) (eev σ x) H n
  | .insert t m k x => o9 P t (eev σ m) (eev σ k) (eev σ x) H n
  | .range t x => xO P t (eev σ x) H n
  | .call c => (match c.callee with
    | .value f => (match eev σ f with
      | .fn g a cs => call g (a ++ c.args.toList.map (eev σ) ++ cs) H n
      | _ => none)
    | .builtin .append => (match c.argTypes.toList, c.args.toList.map (eev σ) with
      | [t, u], [s, x] => m0 P t u s x H n
      | _, _ => none)
    | .builtin .copy => (match c.argTypes.toList, c.args.toList.map (eev σ) with
      | [t, _], [s, x] => vk P t s x H n
      | _, _ => none)
    | _ => (match mZ P (.call c) σ H with
      | some v => some (v, H, n)
      | none => none))
  | o => (match mZ P o σ H with
    | some v => some (v, H, n)
    | none => none)
noncomputable def rX : List AV → AV
  | [v] => v
  | l => .tup l
noncomputable def p5 : List AV → Nat → AE → AE
  | [], _, σ => σ
  | v :: l, k, σ => p5 l (k + 1) (σ.set (some v) db k)
end Go.Proofs.Ythjggjhebbdkdaa
