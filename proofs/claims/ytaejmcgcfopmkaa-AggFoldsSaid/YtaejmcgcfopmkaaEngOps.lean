/- The engine: the single operations. -/
import Derived.Test.YtaejmcgcfopmkaaEng
import Derived.Laws.StructEq
namespace Go.Proofs.Ytaejmcgcfopmkaa
open Go Go.RowKit
abbrev KH := Value → Hp → Prop
def Br (q : Bool) (A B : Prop) : Prop := (q = true → A) ∧ (q = false → B)
theorem Br_true (A B : Prop) : Br true A B = A := by simp [Br]
theorem Br_false (A B : Prop) : Br false A B = B := by simp [Br]
theorem Br_dec (p : Prop) [Decidable p] (A B : Prop) : Br (decide p) A B = ((p → A) ∧ (¬ p → B)) := by simp [Br]
theorem Br_elim {q : Bool} {A B : Prop} (h : Br q A B) : (q = true ∧ A) ∨ (q = false ∧ B) := by
  cases q
  · exact .inr ⟨rfl, h.2 rfl⟩
  · exact .inl ⟨rfl, h.1 rfl⟩

/-- What an operation's run is to be. -/
def Gives (P : Program) (s : Sem Value) (h : Hp) (K : KH) : Prop := ∀ w, Is w h → ∃ v w' h', s.run P w = .ok v w' ∧ Is w' h' ∧ Same w w' ∧ K v h'
/-- It yields one value, in every world that the view fits, and leaves the world. -/
def PG (P : Program) (s : Sem Value) (h : Hp) (K : Value → Prop) : Prop := ∃ v, K v ∧ ∀ w, Fits w h → s.run P w = .ok v w
theorem PG.here {P : Program} {s : Sem Value} {h : Hp} {K : Value → Prop} {v : Value} (hr : ∀ w, Fits w h → s.run P w = .ok v w) (hk : K v) : PG P s h K := ⟨v, hk, hr⟩
theorem PG.gives {P : Program} {s : Sem Value} {h : Hp} {K : KH} (hp : PG P s h (fun v => K v h)) : Gives P s h K :=
  let ⟨v, hk, hr⟩ := hp
  fun w hi => ⟨v, w, h, hr w hi.fits, hi, Same.refl w, hk⟩

/-! ### arithmetic -/
def bitsV (op : BinOp) (k : IntKind) (x y : Int) : Int :=
  k.wrap ((match op with
    | .and => BitVec.ofInt k.bits x &&& BitVec.ofInt k.bits y
    | .or => BitVec.ofInt k.bits x ||| BitVec.ofInt k.bits y
    | .xor => BitVec.ofInt k.bits x ^^^ BitVec.ofInt k.bits y
    | _ => BitVec.ofInt k.bits x &&& ~~~ BitVec.ofInt k.bits y).toNat : Int)
/-- How two values of a struct type are compared, if all its fields are plain: 0 a number, 1 a text, 2 a truth, and the cell. -/
def planOf (P : Program) : List Field → Option (List (Nat × Nat))
  | [] => some []
  | f :: fs => if f.name = "_" then planOf P fs else if tyAgg P f.type = some false then (match P.underlying f.type with
    | some (.int _) => (planOf P fs).map ((0, f.offset) :: ·)
    | some .string => (planOf P fs).map ((1, f.offset) :: ·)
    | some .bool => (planOf P fs).map ((2, f.offset) :: ·)
    | _ => none) else none
def eqPlan (P : Program) (t : TypeId) : Option (List (Nat × Nat)) := match P.underlying t with
  | some (.struct fs) => if P.stoodInHeld t = false ∧ P.eqGuardType P.depth t = false then planOf P fs.toList else none
  | _ => none
def planEq (xs ys : Array Value) : List (Nat × Nat) → Option Bool
  | [] => some true
  | (k, o) :: l => (match xs[o]?, ys[o]? with
    | some (.int k1 a), some (.int k2 b) => if k = 0 ∧ k1 = k2 then (planEq xs ys l).map (decide (a = b) && ·) else none
    | some (.string a), some (.string b) => if k = 1 then (planEq xs ys l).map ((a.toList == b.toList) && ·) else none
    | some (.bool a), some (.bool b) => if k = 2 then (planEq xs ys l).map ((a == b) && ·) else none
    | _, _ => none)
def aggEq (P : Program) (t : TypeId) (xs ys : Array Value) : Option Bool := (eqPlan P t).bind (planEq xs ys)
theorem eqFields_plan {P : Program} {xs ys : Array Value} (d : Nat) : ∀ (fs : List Field) (l : List (Nat × Nat)) (q : Bool), planOf P fs = some l → planEq xs ys l = some q → ∀ w, (Op.eqFields (d + 1) xs ys fs).run P w = .ok q w
  | [], l, q, h, h2, w => by
    injection h with h; subst h
    injection h2 with h2; subst h2
    simp [Op.eqFields]
  | f :: fs, l, q, h, h2, w => by
    unfold planOf at h
    unfold Op.eqFields
    split at h
    · rename_i hn
      rw [if_neg (by simp [hn])]
      exact eqFields_plan d fs l q h h2 w
    · rename_i hn
      rw [if_pos hn]
      split at h
      · rename_i ha
        have step : ∀ (a b : Value) (r q' : Bool) (l' : List (Nat × Nat)), xs[f.offset]? = some a → ys[f.offset]? = some b → (Op.equalIn (d + 1) f.type a b).run P w = .ok r w → planOf P fs = some l' → planEq xs ys l' = some q' → q = (r && q') →
            (do
              let a ← part f.type xs f.offset
              let b ← part f.type ys f.offset
              let r ← Op.equalIn (d + 1) f.type a b
              if (!r) = true then pure false else Op.eqFields (d + 1) xs ys fs : Sem Bool).run P w = .ok q w := fun a b r q' l' ea eb er el eq hq => by
          subst hq
          have p1 : (part f.type xs f.offset).run P w = .ok a w := by simp [part, run_isAgg ha, ea]
          have p2 : (part f.type ys f.offset).run P w = .ok b w := by simp [part, run_isAgg ha, eb]
          simp only [Sem.run_bind, p1, p2, er, Result.andThen_ok]
          cases r with
          | false => simp
          | true => simpa using eqFields_plan d fs l' q' el eq w
        have fin_ : ∀ k : Nat, (planOf P fs).map ((k, f.offset) :: ·) = some l → ∃ l', planOf P fs = some l' ∧ l = (k, f.offset) :: l' := fun k h => by
          simp only [Option.map_eq_some_iff] at h
          obtain ⟨l', e1, e2⟩ := h
          exact ⟨l', e1, e2.symm⟩
        split at h
        · rename_i k hu
          obtain ⟨l', e1, rfl⟩ := fin_ 0 h
          simp only [planEq] at h2
          split at h2
          · rename_i ka a kb b ea eb
            split at h2
            · rename_i hk; obtain ⟨_, rfl⟩ := hk
              simp only [Option.map_eq_some_iff] at h2
              obtain ⟨q', e2, e3⟩ := h2
              exact step _ _ _ q' l' ea eb (run_equalIn_int w d f.type ka k a b hu) e1 e2 (by rw [← e3]; by_cases e : a = b <;> simp [e])
            · cases h2
          · split at h2
            · omega
            · cases h2
          · split at h2
            · omega
            · cases h2
          · cases h2
        · rename_i hu
          obtain ⟨l', e1, rfl⟩ := fin_ 1 h
          simp only [planEq] at h2
          split at h2
          · split at h2
            · omega
            · cases h2
          · rename_i a b ea eb
            split at h2
            · skip
              simp only [Option.map_eq_some_iff] at h2
              obtain ⟨q', e2, e3⟩ := h2
              exact step _ _ _ q' l' ea eb (run_equalIn_string w d f.type a b hu) e1 e2 (e3.symm)
            · cases h2
          · split at h2
            · omega
            · cases h2
          · cases h2
        · rename_i hu
          obtain ⟨l', e1, rfl⟩ := fin_ 2 h
          simp only [planEq] at h2
          split at h2
          · split at h2
            · omega
            · cases h2
          · split at h2
            · omega
            · cases h2
          · rename_i a b ea eb
            split at h2
            · skip
              simp only [Option.map_eq_some_iff] at h2
              obtain ⟨q', e2, e3⟩ := h2
              exact step _ _ _ q' l' ea eb (run_equalIn_bool' w d f.type a b hu) e1 e2 (e3.symm)
            · cases h2
          · cases h2
        · cases h
      · cases h
def abin (P : Program) (op : BinOp) (t : TypeId) (x y : Value) (K : Value → Prop) : Prop :=
  match x, y with
  | .int k a, .int k' b => (match op with
    | .shl => 0 ≤ b ∧ K (.int k (k.wrap (a * 2 ^ min b.toNat k.bits)))
    | .shr => 0 ≤ b ∧ K (.int k (a.fdiv (2 ^ min b.toNat k.bits)))
    | .add => k = k' ∧ K (.int k (k.wrap (a + b)))
    | .sub => k = k' ∧ K (.int k (k.wrap (a - b)))
    | .mul => k = k' ∧ K (.int k (k.wrap (a * b)))
    | .quo => k = k' ∧ b ≠ 0 ∧ K (.int k (k.wrap (a.tdiv b)))
    | .rem => k = k' ∧ b ≠ 0 ∧ K (.int k (a.tmod b))
    | .and => k = k' ∧ K (.int k (bitsV .and k a b))
    | .or => k = k' ∧ K (.int k (bitsV .or k a b))
    | .xor => k = k' ∧ K (.int k (bitsV .xor k a b))
    | .andNot => k = k' ∧ K (.int k (bitsV .andNot k a b))
    | .eql => k = k' ∧ K (.bool (decide (a = b)))
    | .neq => k = k' ∧ K (.bool (decide (a ≠ b)))
    | .lss => k = k' ∧ K (.bool (decide (a < b)))
    | .leq => k = k' ∧ K (.bool (decide (a ≤ b)))
    | .gtr => k = k' ∧ K (.bool (decide (b < a)))
    | .geq => k = k' ∧ K (.bool (decide (b ≤ a))))
  | .string a, .string b => (match op with
    | .add => a.size + b.size ≤ 9223372036854775807 ∧ K (.string (a ++ b))
    | .eql => K (.bool (a.toList == b.toList))
    | .neq => K (.bool (!(a.toList == b.toList)))
    | .lss => K (.bool (Op.bytesLess a.toList b.toList))
    | .leq => K (.bool (Op.bytesLess a.toList b.toList || a.toList == b.toList))
    | .gtr => K (.bool (!(Op.bytesLess a.toList b.toList || a.toList == b.toList)))
    | .geq => K (.bool (!(Op.bytesLess a.toList b.toList)))
    | _ => False)
  | .bool a, .bool b => (match op with
    | .eql => P.underlying t = some .bool ∧ K (.bool (a == b))
    | .neq => P.underlying t = some .bool ∧ K (.bool (!(a == b)))
    | _ => False)
  | .pointer p, .pointer none => (match op, P.underlying t with
    | .eql, some (.pointer _) => K (.bool p.isNone)
    | .neq, some (.pointer _) => K (.bool (!p.isNone))
    | _, _ => False)
  | .slice p _ _, .slice none _ _ => (match op, P.underlying t with
    | .eql, some (.slice _) => K (.bool p.isNone)
    | .neq, some (.slice _) => K (.bool (!p.isNone))
    | _, _ => False)
  | .agg xs, .agg ys => (match op, aggEq P t xs ys with
    | .eql, some q => K (.bool q)
    | .neq, some q => K (.bool (!q))
    | _, _ => False)
  | _, _ => False
theorem run_equal_bool {P : Program} {t : TypeId} (hu : P.underlying t = some .bool) (a b : Bool) (w : World) : (Op.equal t (.bool a) (.bool b)).run P w = .ok (a == b) w := by
  have h : ∀ d, (Op.equalIn (d + 1) t (.bool a) (.bool b)).run P w = .ok (a == b) w := fun d => by simp [Op.equalIn, run_underlying hu]
  exact h 9999
theorem run_equal_ptr {P : Program} {t e : TypeId} (hu : P.underlying t = some (.pointer e)) (p : Option Addr) (w : World) : (Op.equal t (.pointer p) (.pointer none)).run P w = .ok p.isNone w := by
  have h : ∀ d, (Op.equalIn (d + 1) t (.pointer p) (.pointer none)).run P w = .ok p.isNone w := fun d => by cases p <;> simp [Op.equalIn, run_underlying hu]
  exact h 9999
theorem run_equal_slice {P : Program} {t e : TypeId} (hu : P.underlying t = some (.slice e)) (p : Option Addr) (n c n' c' : Nat) (w : World) : (Op.equal t (.slice p n c) (.slice none n' c')).run P w = .ok p.isNone w := by
  have h : ∀ d, (Op.equalIn (d + 1) t (.slice p n c) (.slice none n' c')).run P w = .ok p.isNone w := fun d => by cases p <;> simp [Op.equalIn, run_underlying hu]
  exact h 9999
/-- The run of a comparison as the loop over operations has it. -/
theorem abin_sound {P : Program} {op : BinOp} {t : TypeId} {ox oy : Operand} {x y : Value} {h : Hp} {K : Value → Prop} (hb : abin P op t x y K) :
    PG P (do eqGuard op t ox oy x y; binOp op t x y) h K := by
  unfold abin at hb
  split at hb
  · rename_i k a k' b
    cases op <;> simp only at hb
    case shl => exact .here (fun w _ => by simp [eqGuard, binOp, Op.shift, Int.not_lt.2 hb.1]) hb.2
    case shr => exact .here (fun w _ => by simp [eqGuard, binOp, Op.shift, Int.not_lt.2 hb.1]) hb.2
    all_goals obtain ⟨rfl, hb⟩ := hb
    case quo => exact .here (fun w _ => by simp [eqGuard, binOp, Op.intDiv, hb.1]) hb.2
    case rem => exact .here (fun w _ => by simp [eqGuard, binOp, Op.intDiv, hb.1]) hb.2
    all_goals refine .here (fun w _ => ?_) hb
    all_goals simp [eqGuard, binOp, Op.intArith, Op.intBits, bitsV, Op.intCmp, GT.gt, GE.ge]
    case neq => by_cases e : a = b <;> simp [e, bne]
    all_goals (by_cases e : a = b <;> simp [e])
  · rename_i a b
    cases op <;> simp only at hb
    case add =>
      have h2 : ¬ (((a.size + b.size : Nat) : Int) > IntKind.i64.max) := by
        have : IntKind.i64.max = 9223372036854775807 := by decide
        omega
      exact .here (fun w _ => by simp only [eqGuard, binOp, Op.stringOp, h2, if_false]; simp) hb.2
    all_goals first | exact hb.elim | exact .here (fun w _ => by simp [eqGuard, binOp, Op.stringOp]) hb
  · rename_i a b
    cases op <;> simp only at hb
    case eql => exact .here (fun w _ => by simp [eqGuard, binOp, run_equal_bool hb.1]) hb.2
    case neq => exact .here (fun w _ => by simp [eqGuard, binOp, run_equal_bool hb.1]) hb.2
  · rename_i p
    split at hb
    · rename_i hu
      exact .here (fun w _ => by simp [eqGuard, binOp, run_equal_ptr hu]) hb
    · rename_i hu
      exact .here (fun w _ => by simp [eqGuard, binOp, run_equal_ptr hu]) hb
    · exact hb.elim
  · rename_i p n c n' c'
    split at hb
    · rename_i hu
      exact .here (fun w _ => by simp [eqGuard, binOp, run_equal_slice hu]) hb
    · rename_i hu
      exact .here (fun w _ => by simp [eqGuard, binOp, run_equal_slice hu]) hb
    · exact hb.elim
  · rename_i xs ys
    have key : ∀ q, aggEq P t xs ys = some q → (∀ w, (Op.equalIn 10000 t (.agg xs) (.agg ys)).run P w = .ok q w) ∧ P.eqGuardType P.depth t = false := fun q hq => by
      simp only [aggEq, Option.bind_eq_some_iff] at hq
      obtain ⟨l, hl, hq⟩ := hq
      unfold eqPlan at hl
      split at hl
      · rename_i fs hu
        split at hl
        · rename_i hg
          have hf : P.fieldsOf t = fs := by simp [Program.fieldsOf, hu]
          refine ⟨fun w => ?_, hg.2⟩
          rw [run_equalIn_struct w 9999 t xs ys (by rw [hf]; exact hu) hg.1, hf]
          exact eqFields_plan 9998 _ l q hl hq w
        · cases hl
      · cases hl
    split at hb
    · rename_i q hq
      obtain ⟨h1, h2⟩ := key q hq
      exact .here (fun w _ => by simp only [Sem.run_bind, run_eqGuard_agg w _ t ox oy xs ys h2, Result.andThen_ok, run_eql_struct, h1 w]) hb
    · rename_i q hq
      obtain ⟨h1, h2⟩ := key q hq
      exact .here (fun w _ => by simp only [Sem.run_bind, run_eqGuard_agg w _ t ox oy xs ys h2, Result.andThen_ok, run_neq_struct, h1 w]) hb
    · exact hb.elim
  · exact hb.elim
def aun (op : UnOp) (x : Value) (K : Value → Prop) : Prop :=
  match op, x with
  | .not, .bool b => K (.bool (!b))
  | .neg, .int k n => K (.int k (k.wrap (0 - n)))
  | .xor, .int k n => K (.int k (bitsV .xor k (if k.signed then -1 else k.max) n))
  | _, _ => False
theorem aun_sound {P : Program} {op : UnOp} {x : Value} {h : Hp} {K : Value → Prop} (hb : aun op x K) : PG P (Op.unary op x) h K := by
  unfold aun at hb
  split at hb
  · exact .here (fun w _ => by simp [Op.unary]) hb
  · exact .here (fun w _ => by simp [Op.unary, Op.intArith]) hb
  · exact .here (fun w _ => by simp [Op.unary, Op.intBits, bitsV]) hb
  · exact hb.elim
end Go.Proofs.Ytaejmcgcfopmkaa
