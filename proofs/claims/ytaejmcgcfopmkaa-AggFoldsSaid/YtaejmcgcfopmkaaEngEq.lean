/- The engine: the equations by which a walk is reckoned. -/
import Derived.Test.YtaejmcgcfopmkaaEngEnt
import Derived.Test.YtaejmcgcfopmkaaTab
namespace Go.Proofs.Ytaejmcgcfopmkaa
open Go Go.RowKit

/-! ### small ways on; what follows is not looked into before the value is known -/
def optK (r : Option Value) (C : Value → Prop) : Prop := match r with
  | some v => C v
  | none => False
def optL (r : Option (List Value)) (C : Value → Prop) : Prop := match r with
  | some l => C (.agg l.toArray)
  | none => False
def optS (r : Option (List UInt8)) (C : Value → Prop) : Prop := match r with
  | some l => C (.string ⟨l.toArray⟩)
  | none => False
def optB (r : Option UInt8) (C : Value → Prop) : Prop := match r with
  | some l => C (.int .u8 l.toNat)
  | none => False
def optN (r : Option Nat) (C : Nat → Prop) : Prop := match r with
  | some n => C n
  | none => False
def cellK (r : Option Obj) (o : Nat) (C : Value → Prop) : Prop := match r with
  | some (.cells c _ _) => optK c[o]? C
  | _ => False
def aggK (r : Option Obj) (o n : Nat) (C : Value → Prop) : Prop := match r with
  | some (.cells c _ _) => optL (cellsL c o n) C
  | _ => False
def strK (r : Option Obj) (o n : Nat) (C : Value → Prop) : Prop := match r with
  | some (.cells c _ _) => optS ((cellsL c o n).bind bytesOf) C
  | _ => False
def stK (r : Option Obj) (b o n : Nat) (l : List Value) (h : Hp) (K : KH) : Prop := match r with
  | some (.cells c e fz) => l.all Value.oneCell' = true ∧ o + n ≤ c.size ∧ (fz.2 ≤ fz.1 ∨ o + n ≤ fz.1) ∧ K undef (h.put b (.cells (writeL c o l) e fz))
  | _ => False
section
variable (P : Program) (C : Value → Prop) (t : TypeId) (h : Hp) (K : KH) (b o n i : Nat) (x y v : Value)
theorem optK_some : optK (some v) C = C v := id rfl
theorem optL_some (l : List Value) : optL (some l) C = C (.agg l.toArray) := id rfl
theorem optS_some (l : List UInt8) : optS (some l) C = C (.string ⟨l.toArray⟩) := id rfl
theorem optB_some (c : UInt8) : optB (some c) C = C (.int .u8 c.toNat) := id rfl
theorem optN_some (G : Nat → Prop) : optN (some n) G = G n := id rfl
theorem cellK_cells (c : Array Value) (e : TypeId) (fz : Nat × Nat) : cellK (some (.cells c e fz)) o C = optK c[o]? C := id rfl
theorem aggK_cells (c : Array Value) (e : TypeId) (fz : Nat × Nat) : aggK (some (.cells c e fz)) o n C = optL (cellsL c o n) C := id rfl
theorem strK_cells (c : Array Value) (e : TypeId) (fz : Nat × Nat) : strK (some (.cells c e fz)) o n C = optS ((cellsL c o n).bind bytesOf) C := id rfl
theorem stK_cells (c : Array Value) (e : TypeId) (lo hi : Nat) (l : List Value) : stK (some (.cells c e (lo, hi))) b o n l h K = (l.all Value.oneCell' = true ∧ o + n ≤ c.size ∧ (hi ≤ lo ∨ o + n ≤ lo) ∧ K undef (h.put b (.cells (writeL c o l) e (lo, hi)))) := id rfl

/-! ### types -/
def isSl : Option TypeDesc → Bool
  | some (.slice _) => true
  | _ => false
def isArr : Option TypeDesc → Bool
  | some (.array _ _) => true
  | _ => false
def isPtr : Option TypeDesc → Bool
  | some (.pointer _) => true
  | _ => false
def elT : Option TypeDesc → TypeId
  | some (.slice e) => e
  | some (.array _ e) => e
  | _ => 0
def arrN : Option TypeDesc → Nat
  | some (.array n _) => n
  | _ => 0
def isInt : Option TypeDesc → Bool
  | some (.int _) => true
  | _ => false
def intK : Option TypeDesc → IntKind
  | some (.int k) => k
  | _ => .i64
theorem isSl_spec {d : Option TypeDesc} (h : isSl d = true) : ∃ e, d = some (.slice e) := by
  unfold isSl at h; split at h
  · exact ⟨_, rfl⟩
  · cases h
theorem isArr_spec {d : Option TypeDesc} (h : isArr d = true) : ∃ n e, d = some (.array n e) := by
  unfold isArr at h; split at h
  · exact ⟨_, _, rfl⟩
  · cases h
theorem isInt_spec {d : Option TypeDesc} (h : isInt d = true) : ∃ k, d = some (.int k) := by
  unfold isInt at h; split at h
  · exact ⟨_, rfl⟩
  · cases h
theorem isPtr_spec {d : Option TypeDesc} (h : isPtr d = true) : ∃ e, d = some (.pointer e) := by
  unfold isPtr at h; split at h
  · exact ⟨_, rfl⟩
  · cases h

/-! ### operations -/
def QC (P : Program) (f : FuncId) (args : Array Value) (h : Hp) (C : Value → Prop) : Prop := ∃ v, QCall P f args h v ∧ C v
theorem acall_func (g : FuncId) (a c d : Array Value) : acall P (.func (.func g) a d) c h K = CallF P g (a ++ c ++ d) h K := id rfl
theorem qcall_func (g : FuncId) (a c d : Array Value) : qcall P (.func (.func g) a d) c h C = QC P g (a ++ c ++ d) h C := id rfl
theorem ab_add (k : IntKind) (p q : Int) : abin P .add t (.int k p) (.int k q) C = C (.int k (k.wrap (p + q))) := by simp [abin]
theorem ab_sub (k : IntKind) (p q : Int) : abin P .sub t (.int k p) (.int k q) C = C (.int k (k.wrap (p - q))) := by simp [abin]
theorem ab_mul (k : IntKind) (p q : Int) : abin P .mul t (.int k p) (.int k q) C = C (.int k (k.wrap (p * q))) := by simp [abin]
theorem ab_quo (k : IntKind) (p q : Int) : abin P .quo t (.int k p) (.int k q) C = (q ≠ 0 ∧ C (.int k (k.wrap (p.tdiv q)))) := by simp [abin]
theorem ab_rem (k : IntKind) (p q : Int) : abin P .rem t (.int k p) (.int k q) C = (q ≠ 0 ∧ C (.int k (p.tmod q))) := by simp [abin]
theorem ab_and (k : IntKind) (p q : Int) : abin P .and t (.int k p) (.int k q) C = C (.int k (bitsV .and k p q)) := by simp [abin]
theorem ab_or (k : IntKind) (p q : Int) : abin P .or t (.int k p) (.int k q) C = C (.int k (bitsV .or k p q)) := by simp [abin]
theorem ab_xor (k : IntKind) (p q : Int) : abin P .xor t (.int k p) (.int k q) C = C (.int k (bitsV .xor k p q)) := by simp [abin]
theorem ab_andNot (k : IntKind) (p q : Int) : abin P .andNot t (.int k p) (.int k q) C = C (.int k (bitsV .andNot k p q)) := by simp [abin]
theorem ab_shl (k k' : IntKind) (p q : Int) : abin P .shl t (.int k p) (.int k' q) C = (0 ≤ q ∧ C (.int k (k.wrap (p * 2 ^ min q.toNat k.bits)))) := by simp [abin]
theorem ab_shr (k k' : IntKind) (p q : Int) : abin P .shr t (.int k p) (.int k' q) C = (0 ≤ q ∧ C (.int k (p.fdiv (2 ^ min q.toNat k.bits)))) := by simp [abin]
theorem ab_eql (k : IntKind) (p q : Int) : abin P .eql t (.int k p) (.int k q) C = C (.bool (decide (p = q))) := by simp [abin]
theorem ab_neq (k : IntKind) (p q : Int) : abin P .neq t (.int k p) (.int k q) C = C (.bool (!decide (p = q))) := by simp [abin]
theorem ab_lss (k : IntKind) (p q : Int) : abin P .lss t (.int k p) (.int k q) C = C (.bool (decide (p < q))) := by simp [abin]
theorem ab_leq (k : IntKind) (p q : Int) : abin P .leq t (.int k p) (.int k q) C = C (.bool (decide (p ≤ q))) := by simp [abin]
theorem ab_gtr (k : IntKind) (p q : Int) : abin P .gtr t (.int k p) (.int k q) C = C (.bool (decide (q < p))) := by simp [abin]
theorem ab_geq (k : IntKind) (p q : Int) : abin P .geq t (.int k p) (.int k q) C = C (.bool (decide (q ≤ p))) := by simp [abin]
theorem ab_sadd (s r : ByteArray) : abin P .add t (.string s) (.string r) C = (s.size + r.size ≤ 9223372036854775807 ∧ C (.string (s ++ r))) := id rfl
theorem ab_seql (s r : ByteArray) : abin P .eql t (.string s) (.string r) C = C (.bool (s.toList == r.toList)) := id rfl
theorem ab_sneq (s r : ByteArray) : abin P .neq t (.string s) (.string r) C = C (.bool (!(s.toList == r.toList))) := id rfl
theorem ab_slss (s r : ByteArray) : abin P .lss t (.string s) (.string r) C = C (.bool (Op.bytesLess s.toList r.toList)) := id rfl
theorem ab_sleq (s r : ByteArray) : abin P .leq t (.string s) (.string r) C = C (.bool (Op.bytesLess s.toList r.toList || s.toList == r.toList)) := id rfl
theorem ab_sgtr (s r : ByteArray) : abin P .gtr t (.string s) (.string r) C = C (.bool (!(Op.bytesLess s.toList r.toList || s.toList == r.toList))) := id rfl
theorem ab_sgeq (s r : ByteArray) : abin P .geq t (.string s) (.string r) C = C (.bool (!(Op.bytesLess s.toList r.toList))) := id rfl
theorem ab_beql (p q : Bool) (hu : P.underlying t = some .bool) : abin P .eql t (.bool p) (.bool q) C = C (.bool (p == q)) := by simp [abin, hu]
theorem ab_bneq (p q : Bool) (hu : P.underlying t = some .bool) : abin P .neq t (.bool p) (.bool q) C = C (.bool (!(p == q))) := by simp [abin, hu]
theorem ab_peql (p : Option Addr) (hu : isPtr (P.underlying t) = true) : abin P .eql t (.pointer p) (.pointer none) C = C (.bool p.isNone) := by
  obtain ⟨e, he⟩ := isPtr_spec hu; simp only [abin, he]
theorem ab_pneq (p : Option Addr) (hu : isPtr (P.underlying t) = true) : abin P .neq t (.pointer p) (.pointer none) C = C (.bool (!p.isNone)) := by
  obtain ⟨e, he⟩ := isPtr_spec hu; simp only [abin, he]
theorem ab_sleql (p : Option Addr) (m c m' c' : Nat) (hu : isSl (P.underlying t) = true) : abin P .eql t (.slice p m c) (.slice none m' c') C = C (.bool p.isNone) := by
  obtain ⟨e, he⟩ := isSl_spec hu; simp only [abin, he]
theorem ab_slneq (p : Option Addr) (m c m' c' : Nat) (hu : isSl (P.underlying t) = true) : abin P .neq t (.slice p m c) (.slice none m' c') C = C (.bool (!p.isNone)) := by
  obtain ⟨e, he⟩ := isSl_spec hu; simp only [abin, he]
theorem au_not (q : Bool) : aun .not (.bool q) C = C (.bool (!q)) := id rfl
theorem au_neg (k : IntKind) (p : Int) : aun .neg (.int k p) C = C (.int k (k.wrap (0 - p))) := id rfl
theorem au_xor (k : IntKind) (p : Int) : aun .xor (.int k p) C = C (.int k (bitsV .xor k (if k.signed then -1 else k.max) p)) := id rfl
theorem ld_cell (ha : tyAgg P t = some false) : aload P t (.pointer (some ⟨b, o, none⟩)) h C = cellK (h.f b) o C := by
  simp only [aload, cellK, ha]
  generalize h.f b = r
  cases r with
  | none => rfl
  | some ob =>
    cases ob <;> try rfl
theorem ld_agg (ha : tyAgg P t = some true) : aload P t (.pointer (some ⟨b, o, none⟩)) h C = optN (tySize P t) (fun n => aggK (h.f b) o n C) := by
  simp only [aload, aggK, ha, optN]
  generalize h.f b = r
  cases tySize P t with
  | none =>
    cases r with
    | none => rfl
    | some ob => cases ob <;> rfl
  | some n =>
    cases r with
    | none => rfl
    | some ob =>
      cases ob <;> try rfl
theorem sto (hn : tySize P t = some v.cells.size) : astore P t (.pointer (some ⟨b, o, none⟩)) v h K = stK (h.f b) b o v.cells.size v.cells.toList h K := by
  simp only [astore, stK, hn, Free, true_and]
  generalize h.f b = r
  cases r with
  | none => rfl
  | some ob => cases ob <;> rfl
theorem fa_ptr : afieldAddr P t (.pointer (some ⟨b, o, none⟩)) i C = optN ((tyField P t i).map (·.2)) (fun off => C (.pointer (some ⟨b, o + off, none⟩))) := by
  simp only [afieldAddr, optN]
  cases tyField P t i <;> rfl
theorem f_agg (cs : Array Value) : afield P t (.agg cs) i C = optN ((tyField P t i).map (·.2)) (fun off => optN ((tyField P t i).map (·.1)) fun t' => apart_ P t' cs off C) := by
  simp only [afield, optN]
  cases tyField P t i <;> rfl
theorem part_f (cs : Array Value) (off : Nat) (ha : tyAgg P t = some false) : apart_ P t cs off C = optK cs[off]? C := by
  simp only [apart_, ha, optK]
  cases cs[off]? <;> rfl
theorem part_t (cs : Array Value) (off : Nat) (ha : tyAgg P t = some true) : apart_ P t cs off C = optN (tySize P t) (fun n => C (.agg (cs.extract off (off + n)))) := by
  simp only [apart_, ha, optN]
  cases tySize P t <;> rfl
theorem ia_sl (k : IntKind) (p : Int) (len cap : Nat) (hu : isSl (P.underlying t) = true) : aindexAddr P t (.slice (some ⟨b, o, none⟩) len cap) (.int k p) C =
    (0 ≤ p ∧ p < (len : Int) ∧ optN (tySize P (elT (P.underlying t))) fun n => C (.pointer (some ⟨b, o + p.toNat * n, none⟩))) := by
  obtain ⟨e, he⟩ := isSl_spec hu
  simp only [aindexAddr, he, elT, optN]
  cases tySize P e <;> rfl
theorem ia_arr (k : IntKind) (p : Int) (hu : isArr (P.underlying t) = true) : aindexAddr P t (.pointer (some ⟨b, o, none⟩)) (.int k p) C =
    (0 ≤ p ∧ p < (arrN (P.underlying t) : Int) ∧ optN (tySize P (elT (P.underlying t))) fun n => C (.pointer (some ⟨b, o + p.toNat * n, none⟩))) := by
  obtain ⟨m, e, he⟩ := isArr_spec hu
  simp only [aindexAddr, he, elT, arrN, optN]
  cases tySize P e <;> rfl
theorem ix_arr (k : IntKind) (p : Int) (cs : Array Value) (hu : isArr (P.underlying t) = true) : aindex P t (.agg cs) (.int k p) C =
    (0 ≤ p ∧ p < (arrN (P.underlying t) : Int) ∧ optN (tySize P (elT (P.underlying t))) fun n => apart_ P (elT (P.underlying t)) cs (p.toNat * n) C) := by
  obtain ⟨m, e, he⟩ := isArr_spec hu
  simp only [aindex, he, elT, arrN, optN]
  cases tySize P e <;> rfl
theorem ix_str (k : IntKind) (p : Int) (s : ByteArray) (hu : P.underlying t = some .string) : aindex P t (.string s) (.int k p) C = (0 ≤ p ∧ optB s.toList[p.toNat]? C) := by
  simp only [aindex, hu, optB]
  cases s.toList[p.toNat]? <;> rfl
theorem ex_tuple (vs : Array Value) : aextract (.tuple vs) i C = optK vs[i]? C := by
  simp only [aextract, optK]
  cases vs[i]? <;> rfl
theorem le_str (s : ByteArray) (hu : P.underlying t = some .string) : alen P t (.string s) h C = C (.int .i64 s.size) := by simp only [alen, hu]
theorem le_sl (p : Option Addr) (m c : Nat) (hu : isSl (P.underlying t) = true) : alen P t (.slice p m c) h C = C (.int .i64 m) := by
  obtain ⟨e, he⟩ := isSl_spec hu; simp only [alen, he]
theorem le_arr (hu : isArr (P.underlying t) = true) : alen P t x h C = C (.int .i64 (arrN (P.underlying t))) := by
  obtain ⟨m, e, he⟩ := isArr_spec hu; simp only [alen, he, arrN]
theorem mm_min (k k' : IntKind) (p q : Int) : aminmax false (.int k p) (.int k' q) C = C (.int k (min p q)) := id rfl
theorem mm_max (k k' : IntKind) (p q : Int) : aminmax true (.int k p) (.int k' q) C = C (.int k (max p q)) := id rfl
def sliceK (x : Value) (lo hi mx : Option Int) (hx : Bool) (k : Option Nat) (C : Value → Prop) : Prop := match x with
  | .string s => (match hi, lo with
    | some p, some q => 0 ≤ q ∧ q ≤ p ∧ p ≤ s.size ∧ C (.string (s.extract q.toNat p.toNat))
    | _, _ => False)
  | .slice a _ cap => (match mx, hi, lo, k with
    | some m, some p, some q, some n => 0 ≤ q ∧ q ≤ p ∧ (hx = true → p ≤ m) ∧ m ≤ (cap : Int) ∧ C (sliceOf a q.toNat p.toNat m.toNat n)
    | _, _, _, _ => False)
  | _ => False
theorem sliceK_str (s : ByteArray) (p q : Int) : sliceK (.string s) (some q) (some p) none false none C = (0 ≤ q ∧ q ≤ p ∧ p ≤ s.size ∧ C (.string (s.extract q.toNat p.toNat))) := id rfl
theorem sliceK_sl (a : Option Addr) (len cap : Nat) (m p q : Int) (hx : Bool) : sliceK (.slice a len cap) (some q) (some p) (some m) hx (some n) C = (0 ≤ q ∧ q ≤ p ∧ (hx = true → p ≤ m) ∧ m ≤ (cap : Int) ∧ C (sliceOf a q.toNat p.toNat m.toNat n)) := id rfl
theorem sl_str (s : ByteArray) (lo hi : Option Value) (hu : P.underlying t = some .string) : aslice P t (.string s) lo hi none C = sliceK (.string s) (bnd lo 0) (bnd hi s.size) none false none C := by
  simp only [aslice, sliceK, hu, true_and, Option.isSome_none]
  cases bnd hi s.size <;> cases bnd lo 0 <;> rfl
theorem upTo_eq (v : Option Value) (p m : Int) : upTo v p m = (v.isSome = true → p ≤ m) := by cases v <;> simp [upTo]
theorem sl_sl (a : Option Addr) (len cap : Nat) (lo hi : Option Value) (hu : isSl (P.underlying t) = true) : aslice P t (.slice a len cap) lo hi none C = sliceK (.slice a len cap) (bnd lo 0) (bnd hi len) (some cap) hi.isSome (tySize P (elT (P.underlying t))) C := by
  obtain ⟨e, he⟩ := isSl_spec hu
  simp only [aslice, he, elT, sliceK, upTo_eq, Option.isSome_none, show bnd none (cap : Int) = some (cap : Int) from rfl]
  generalize bnd lo 0 = x
  generalize bnd hi len = y
  cases tySize P e <;> cases x <;> cases y <;> simp
theorem sl_sl3 (a : Option Addr) (len cap : Nat) (lo : Option Value) (hi mx : Value) (hu : isSl (P.underlying t) = true) : aslice P t (.slice a len cap) lo (some hi) (some mx) C = sliceK (.slice a len cap) (bnd lo 0) (bnd (some hi) len) (bnd (some mx) cap) true (tySize P (elT (P.underlying t))) C := by
  obtain ⟨e, he⟩ := isSl_spec hu
  simp only [aslice, he, elT, sliceK, upTo_eq, Option.isSome_some]
  cases tySize P e <;> cases bnd (some mx) cap <;> cases bnd (some hi) len <;> cases bnd lo 0 <;> simp
theorem mk_slice (k k' : IntKind) (p q : Int) (hu : isSl (P.underlying t) = true) : amake P t (.int k p) (.int k' q) h K = optN (tySize P (elT (P.underlying t))) fun n => optN (tyBytes P (elT (P.underlying t))) fun m => optK (tyZero P (elT (P.underlying t))) fun z =>
    0 ≤ p ∧ p ≤ q ∧ (m : Int) * q ≤ 281474976710656 ∧ q ≤ 9223372036854775807 ∧ K (.slice (some ⟨h.n, 0, none⟩) p.toNat q.toNat) ((h.put h.n (.cells (madeCells z.cells (q.toNat * n)) (elT (P.underlying t)) (0, 0))).to (h.n + 1)) := by
  obtain ⟨e, he⟩ := isSl_spec hu
  simp only [amake, he, elT, optN, optK]
  cases tySize P e <;> cases tyBytes P e <;> cases tyZero P e <;> rfl
theorem cv_int (s' : TypeId) (k : IntKind) (p : Int) (hs : isInt (P.underlying s') = true) (hd : isInt (P.underlying t) = true) : aconv P s' t (.int k p) h K = K (.int (intK (P.underlying t)) ((intK (P.underlying t)).wrap p)) h := by
  obtain ⟨k1, h1⟩ := isInt_spec hs
  obtain ⟨k2, h2⟩ := isInt_spec hd
  simp only [aconv, h1, h2, intK]
theorem cvq_int (s' : TypeId) (k : IntKind) (p : Int) (hs : isInt (P.underlying s') = true) (hd : isInt (P.underlying t) = true) : qconv P s' t (.int k p) h C = C (.int (intK (P.underlying t)) ((intK (P.underlying t)).wrap p)) := by
  obtain ⟨k1, h1⟩ := isInt_spec hs
  obtain ⟨k2, h2⟩ := isInt_spec hd
  simp only [qconv, h1, h2, intK]
theorem cv_bytes (s' : TypeId) (s : ByteArray) (hs : P.underlying s' = some .string) (hd : isSl (P.underlying t) = true) (he : P.underlying (elT (P.underlying t)) = some (.int .u8)) : aconv P s' t (.string s) h K = ∀ cap, s.size ≤ cap →
    K (.slice (some ⟨h.n, 0, none⟩) s.size cap) ((h.put h.n (.cells (byteVals s ++ Array.replicate (cap - s.size) (.int .u8 0)) (elT (P.underlying t)) (cap, cap + 1))).to (h.n + 1)) := by
  obtain ⟨e, h1⟩ := isSl_spec hd
  rw [h1] at he
  simp only [elT] at he
  simp only [aconv, hs, h1, elT, he, true_and]
theorem cv_str (s' : TypeId) (m c : Nat) (hs : isSl (P.underlying s') = true) (he : P.underlying (elT (P.underlying s')) = some (.int .u8)) (hd : P.underlying t = some .string) :
    aconv P s' t (.slice (some ⟨b, o, none⟩) m c) h K = strK (h.f b) o m (fun v => K v h) := by
  obtain ⟨e, h1⟩ := isSl_spec hs
  rw [h1] at he
  simp only [elT] at he
  simp only [aconv, hd, h1, he, true_and, strK, optS]
  generalize h.f b = r
  cases r with
  | none => rfl
  | some ob => cases ob <;> rfl
theorem cv_nil (s' : TypeId) (m c : Nat) (hs : isSl (P.underlying s') = true) (he : P.underlying (elT (P.underlying s')) = some (.int .u8)) (hd : P.underlying t = some .string) :
    aconv P s' t (.slice none m c) h K = K (.string ByteArray.empty) h := by
  obtain ⟨e, h1⟩ := isSl_spec hs
  rw [h1] at he
  simp only [elT] at he
  simp only [aconv, hd, h1, he, true_and]
theorem bnd_none (d : Int) : bnd none d = some d := id rfl
theorem bnd_int (d : Int) (k : IntKind) (p : Int) : bnd (some (.int k p)) d = some p := id rfl
end

/-! ### the same, what follows out of the rules' sight -/
class Cn (α : Type) where
  go : α
abbrev CV := Cn (Value → Prop)
abbrev CH := Cn (Value → Hp → Prop)
def Go1 {α : Type} (F : α → Prop) [C : Cn α] : Prop := F C.go
section
variable (P : Program) [C : CV] (t : TypeId) (h : Hp) (b o n i : Nat) (x y v : Value)
theorem i_ab_add (k : IntKind) (p q : Int) : Go1 (abin P .add t (.int k p) (.int k q)) = C.go (.int k (k.wrap (p + q))) := by
  delta Go1; apply ab_add
theorem i_ab_sub (k : IntKind) (p q : Int) : Go1 (abin P .sub t (.int k p) (.int k q)) = C.go (.int k (k.wrap (p - q))) := by
  delta Go1; apply ab_sub
theorem i_ab_mul (k : IntKind) (p q : Int) : Go1 (abin P .mul t (.int k p) (.int k q)) = C.go (.int k (k.wrap (p * q))) := by
  delta Go1; apply ab_mul
theorem i_ab_quo (k : IntKind) (p q : Int) : Go1 (abin P .quo t (.int k p) (.int k q)) = (q ≠ 0 ∧ C.go (.int k (k.wrap (p.tdiv q)))) := by
  delta Go1; apply ab_quo
theorem i_ab_rem (k : IntKind) (p q : Int) : Go1 (abin P .rem t (.int k p) (.int k q)) = (q ≠ 0 ∧ C.go (.int k (p.tmod q))) := by
  delta Go1; apply ab_rem
theorem i_ab_and (k : IntKind) (p q : Int) : Go1 (abin P .and t (.int k p) (.int k q)) = C.go (.int k (bitsV .and k p q)) := by
  delta Go1; apply ab_and
theorem i_ab_or (k : IntKind) (p q : Int) : Go1 (abin P .or t (.int k p) (.int k q)) = C.go (.int k (bitsV .or k p q)) := by
  delta Go1; apply ab_or
theorem i_ab_xor (k : IntKind) (p q : Int) : Go1 (abin P .xor t (.int k p) (.int k q)) = C.go (.int k (bitsV .xor k p q)) := by
  delta Go1; apply ab_xor
theorem i_ab_andNot (k : IntKind) (p q : Int) : Go1 (abin P .andNot t (.int k p) (.int k q)) = C.go (.int k (bitsV .andNot k p q)) := by
  delta Go1; apply ab_andNot
theorem i_ab_shl (k k' : IntKind) (p q : Int) : Go1 (abin P .shl t (.int k p) (.int k' q)) = (0 ≤ q ∧ C.go (.int k (k.wrap (p * 2 ^ min q.toNat k.bits)))) := by
  delta Go1; apply ab_shl
theorem i_ab_shr (k k' : IntKind) (p q : Int) : Go1 (abin P .shr t (.int k p) (.int k' q)) = (0 ≤ q ∧ C.go (.int k (p.fdiv (2 ^ min q.toNat k.bits)))) := by
  delta Go1; apply ab_shr
theorem i_ab_eql (k : IntKind) (p q : Int) : Go1 (abin P .eql t (.int k p) (.int k q)) = C.go (.bool (decide (p = q))) := by
  delta Go1; apply ab_eql
theorem i_ab_neq (k : IntKind) (p q : Int) : Go1 (abin P .neq t (.int k p) (.int k q)) = C.go (.bool (!decide (p = q))) := by
  delta Go1; apply ab_neq
theorem i_ab_lss (k : IntKind) (p q : Int) : Go1 (abin P .lss t (.int k p) (.int k q)) = C.go (.bool (decide (p < q))) := by
  delta Go1; apply ab_lss
theorem i_ab_leq (k : IntKind) (p q : Int) : Go1 (abin P .leq t (.int k p) (.int k q)) = C.go (.bool (decide (p ≤ q))) := by
  delta Go1; apply ab_leq
theorem i_ab_gtr (k : IntKind) (p q : Int) : Go1 (abin P .gtr t (.int k p) (.int k q)) = C.go (.bool (decide (q < p))) := by
  delta Go1; apply ab_gtr
theorem i_ab_geq (k : IntKind) (p q : Int) : Go1 (abin P .geq t (.int k p) (.int k q)) = C.go (.bool (decide (q ≤ p))) := by
  delta Go1; apply ab_geq
theorem i_ab_sadd (s r : ByteArray) : Go1 (abin P .add t (.string s) (.string r)) = (s.size + r.size ≤ 9223372036854775807 ∧ C.go (.string (s ++ r))) := by
  delta Go1; apply ab_sadd
theorem i_ab_seql (s r : ByteArray) : Go1 (abin P .eql t (.string s) (.string r)) = C.go (.bool (s.toList == r.toList)) := by
  delta Go1; apply ab_seql
theorem i_ab_sneq (s r : ByteArray) : Go1 (abin P .neq t (.string s) (.string r)) = C.go (.bool (!(s.toList == r.toList))) := by
  delta Go1; apply ab_sneq
theorem i_ab_slss (s r : ByteArray) : Go1 (abin P .lss t (.string s) (.string r)) = C.go (.bool (Op.bytesLess s.toList r.toList)) := by
  delta Go1; apply ab_slss
theorem i_ab_sleq (s r : ByteArray) : Go1 (abin P .leq t (.string s) (.string r)) = C.go (.bool (Op.bytesLess s.toList r.toList || s.toList == r.toList)) := by
  delta Go1; apply ab_sleq
theorem i_ab_sgtr (s r : ByteArray) : Go1 (abin P .gtr t (.string s) (.string r)) = C.go (.bool (!(Op.bytesLess s.toList r.toList || s.toList == r.toList))) := by
  delta Go1; apply ab_sgtr
theorem i_ab_sgeq (s r : ByteArray) : Go1 (abin P .geq t (.string s) (.string r)) = C.go (.bool (!(Op.bytesLess s.toList r.toList))) := by
  delta Go1; apply ab_sgeq
theorem i_ab_beql (p q : Bool) (hu : P.underlying t = some .bool) : Go1 (abin P .eql t (.bool p) (.bool q)) = C.go (.bool (p == q)) := by
  delta Go1; apply ab_beql <;> assumption
theorem i_ab_bneq (p q : Bool) (hu : P.underlying t = some .bool) : Go1 (abin P .neq t (.bool p) (.bool q)) = C.go (.bool (!(p == q))) := by
  delta Go1; apply ab_bneq <;> assumption
theorem i_ab_peql (p : Option Addr) (hu : isPtr (P.underlying t) = true) : Go1 (abin P .eql t (.pointer p) (.pointer none)) = C.go (.bool p.isNone) := by
  delta Go1; apply ab_peql <;> assumption
theorem i_ab_pneq (p : Option Addr) (hu : isPtr (P.underlying t) = true) : Go1 (abin P .neq t (.pointer p) (.pointer none)) = C.go (.bool (!p.isNone)) := by
  delta Go1; apply ab_pneq <;> assumption
theorem i_ab_sleql (p : Option Addr) (m c m' c' : Nat) (hu : isSl (P.underlying t) = true) : Go1 (abin P .eql t (.slice p m c) (.slice none m' c')) = C.go (.bool p.isNone) := by
  delta Go1; apply ab_sleql <;> assumption
theorem i_ab_slneq (p : Option Addr) (m c m' c' : Nat) (hu : isSl (P.underlying t) = true) : Go1 (abin P .neq t (.slice p m c) (.slice none m' c')) = C.go (.bool (!p.isNone)) := by
  delta Go1; apply ab_slneq <;> assumption
theorem i_au_not (q : Bool) : Go1 (aun .not (.bool q)) = C.go (.bool (!q)) := by
  delta Go1; apply au_not
theorem i_au_neg (k : IntKind) (p : Int) : Go1 (aun .neg (.int k p)) = C.go (.int k (k.wrap (0 - p))) := by
  delta Go1; apply au_neg
theorem i_au_xor (k : IntKind) (p : Int) : Go1 (aun .xor (.int k p)) = C.go (.int k (bitsV .xor k (if k.signed then -1 else k.max) p)) := by
  delta Go1; apply au_xor
theorem i_le_str (s : ByteArray) (hu : P.underlying t = some .string) : Go1 (alen P t (.string s) h) = C.go (.int .i64 s.size) := by
  delta Go1; apply le_str <;> assumption
theorem i_le_sl (p : Option Addr) (m c : Nat) (hu : isSl (P.underlying t) = true) : Go1 (alen P t (.slice p m c) h) = C.go (.int .i64 m) := by
  delta Go1; apply le_sl <;> assumption
theorem i_le_arr (hu : isArr (P.underlying t) = true) : Go1 (alen P t x h) = C.go (.int .i64 (arrN (P.underlying t))) := by
  delta Go1; apply le_arr <;> assumption
theorem i_mm_min (k k' : IntKind) (p q : Int) : Go1 (aminmax false (.int k p) (.int k' q)) = C.go (.int k (min p q)) := by
  delta Go1; apply mm_min
theorem i_mm_max (k k' : IntKind) (p q : Int) : Go1 (aminmax true (.int k p) (.int k' q)) = C.go (.int k (max p q)) := by
  delta Go1; apply mm_max
theorem i_cvq_int (s' : TypeId) (k : IntKind) (p : Int) (hs : isInt (P.underlying s') = true) (hd : isInt (P.underlying t) = true) : Go1 (qconv P s' t (.int k p) h) = C.go (.int (intK (P.underlying t)) ((intK (P.underlying t)).wrap p)) := by
  delta Go1; apply cvq_int <;> assumption
theorem i_optK (v : Value) : Go1 (optK (some v)) = C.go v := id rfl
theorem i_optL (l : List Value) : Go1 (optL (some l)) = C.go (.agg l.toArray) := id rfl
theorem i_optS (l : List UInt8) : Go1 (optS (some l)) = C.go (.string ⟨l.toArray⟩) := id rfl
theorem i_optB (c : UInt8) : Go1 (optB (some c)) = C.go (.int .u8 c.toNat) := id rfl
theorem i_cellK (c : Array Value) (e : TypeId) (fz : Nat × Nat) : Go1 (cellK (some (.cells c e fz)) o) = Go1 (optK c[o]?) := id rfl
theorem i_aggK (c : Array Value) (e : TypeId) (fz : Nat × Nat) : Go1 (aggK (some (.cells c e fz)) o n) = Go1 (optL (cellsL c o n)) := id rfl
theorem i_strK (c : Array Value) (e : TypeId) (fz : Nat × Nat) : Go1 (strK (some (.cells c e fz)) o n) = Go1 (optS ((cellsL c o n).bind bytesOf)) := id rfl
theorem i_qcall (g : FuncId) (a c d : Array Value) : Go1 (qcall P (.func (.func g) a d) c h) = Go1 (QC P g (a ++ c ++ d) h) := id rfl
theorem i_ld_cell (ha : tyAgg P t = some false) : Go1 (aload P t (.pointer (some ⟨b, o, none⟩)) h) = Go1 (cellK (h.f b) o) := ld_cell P C.go t h b o ha
theorem i_ld_agg (ha : tyAgg P t = some true) : Go1 (aload P t (.pointer (some ⟨b, o, none⟩)) h) = @Go1 _ (optN (tySize P t)) ⟨fun n => Go1 (aggK (h.f b) o n)⟩ := ld_agg P C.go t h b o ha
theorem i_fa_ptr : Go1 (afieldAddr P t (.pointer (some ⟨b, o, none⟩)) i) = @Go1 _ (optN ((tyField P t i).map (·.2))) ⟨fun off => C.go (.pointer (some ⟨b, o + off, none⟩))⟩ := fa_ptr P C.go t b o i
theorem i_f_agg (cs : Array Value) : Go1 (afield P t (.agg cs) i) = @Go1 _ (optN ((tyField P t i).map (·.2))) ⟨fun off => @Go1 _ (optN ((tyField P t i).map (·.1))) ⟨fun t' => Go1 (apart_ P t' cs off)⟩⟩ := f_agg P C.go t i cs
theorem i_part_f (cs : Array Value) (off : Nat) (ha : tyAgg P t = some false) : Go1 (apart_ P t cs off) = Go1 (optK cs[off]?) := part_f P C.go t cs off ha
theorem i_part_t (cs : Array Value) (off : Nat) (ha : tyAgg P t = some true) : Go1 (apart_ P t cs off) = @Go1 _ (optN (tySize P t)) ⟨fun n => C.go (.agg (cs.extract off (off + n)))⟩ := part_t P C.go t cs off ha
theorem i_ia_sl (k : IntKind) (p : Int) (len cap : Nat) (hu : isSl (P.underlying t) = true) : Go1 (aindexAddr P t (.slice (some ⟨b, o, none⟩) len cap) (.int k p)) =
    (0 ≤ p ∧ p < (len : Int) ∧ @Go1 _ (optN (tySize P (elT (P.underlying t)))) ⟨fun n => C.go (.pointer (some ⟨b, o + p.toNat * n, none⟩))⟩) := ia_sl P C.go t b o k p len cap hu
theorem i_ia_arr (k : IntKind) (p : Int) (hu : isArr (P.underlying t) = true) : Go1 (aindexAddr P t (.pointer (some ⟨b, o, none⟩)) (.int k p)) =
    (0 ≤ p ∧ p < (arrN (P.underlying t) : Int) ∧ @Go1 _ (optN (tySize P (elT (P.underlying t)))) ⟨fun n => C.go (.pointer (some ⟨b, o + p.toNat * n, none⟩))⟩) := ia_arr P C.go t b o k p hu
theorem i_ix_arr (k : IntKind) (p : Int) (cs : Array Value) (hu : isArr (P.underlying t) = true) : Go1 (aindex P t (.agg cs) (.int k p)) =
    (0 ≤ p ∧ p < (arrN (P.underlying t) : Int) ∧ @Go1 _ (optN (tySize P (elT (P.underlying t)))) ⟨fun n => Go1 (apart_ P (elT (P.underlying t)) cs (p.toNat * n))⟩) := ix_arr P C.go t k p cs hu
theorem i_ix_str (k : IntKind) (p : Int) (s : ByteArray) (hu : P.underlying t = some .string) : Go1 (aindex P t (.string s) (.int k p)) = (0 ≤ p ∧ Go1 (optB s.toList[p.toNat]?)) := ix_str P C.go t k p s hu
theorem i_ex_tuple (vs : Array Value) : Go1 (aextract (.tuple vs) i) = Go1 (optK vs[i]?) := ex_tuple C.go i vs
theorem i_sliceK_str (s : ByteArray) (p q : Int) : Go1 (sliceK (.string s) (some q) (some p) none false none) = (0 ≤ q ∧ q ≤ p ∧ p ≤ s.size ∧ C.go (.string (s.extract q.toNat p.toNat))) := id rfl
theorem i_sliceK_sl (a : Option Addr) (len cap : Nat) (m p q : Int) (hx : Bool) : Go1 (sliceK (.slice a len cap) (some q) (some p) (some m) hx (some n)) = (0 ≤ q ∧ q ≤ p ∧ (hx = true → p ≤ m) ∧ m ≤ (cap : Int) ∧ C.go (sliceOf a q.toNat p.toNat m.toNat n)) := id rfl
theorem i_sl_str (s : ByteArray) (lo hi : Option Value) (hu : P.underlying t = some .string) : Go1 (aslice P t (.string s) lo hi none) = Go1 (sliceK (.string s) (bnd lo 0) (bnd hi s.size) none false none) := sl_str P C.go t s lo hi hu
theorem i_sl_sl (a : Option Addr) (len cap : Nat) (lo hi : Option Value) (hu : isSl (P.underlying t) = true) : Go1 (aslice P t (.slice a len cap) lo hi none) = Go1 (sliceK (.slice a len cap) (bnd lo 0) (bnd hi len) (some cap) hi.isSome (tySize P (elT (P.underlying t)))) := sl_sl P C.go t a len cap lo hi hu
theorem i_sl_sl3 (a : Option Addr) (len cap : Nat) (lo : Option Value) (hi mx : Value) (hu : isSl (P.underlying t) = true) : Go1 (aslice P t (.slice a len cap) lo (some hi) (some mx)) = Go1 (sliceK (.slice a len cap) (bnd lo 0) (bnd (some hi) len) (bnd (some mx) cap) true (tySize P (elT (P.underlying t)))) := sl_sl3 P C.go t a len cap lo hi mx hu
end
section
variable (P : Program) [K : CH] (t : TypeId) (h : Hp) (b o n i : Nat) (x y v : Value)
theorem i_cv_int (s' : TypeId) (k : IntKind) (p : Int) (hs : isInt (P.underlying s') = true) (hd : isInt (P.underlying t) = true) : Go1 (aconv P s' t (.int k p) h) = K.go (.int (intK (P.underlying t)) ((intK (P.underlying t)).wrap p)) h := by
  delta Go1; apply cv_int <;> assumption
theorem i_cv_bytes (s' : TypeId) (s : ByteArray) (hs : P.underlying s' = some .string) (hd : isSl (P.underlying t) = true) (he : P.underlying (elT (P.underlying t)) = some (.int .u8)) : Go1 (aconv P s' t (.string s) h) = ∀ cap, s.size ≤ cap → K.go (.slice (some ⟨h.n, 0, none⟩) s.size cap) ((h.put h.n (.cells (byteVals s ++ Array.replicate (cap - s.size) (.int .u8 0)) (elT (P.underlying t)) (cap, cap + 1))).to (h.n + 1)) := by
  delta Go1; apply cv_bytes <;> assumption
theorem i_stK (c : Array Value) (e : TypeId) (lo hi : Nat) (l : List Value) : Go1 (stK (some (.cells c e (lo, hi))) b o n l h) = (l.all Value.oneCell' = true ∧ o + n ≤ c.size ∧ (hi ≤ lo ∨ o + n ≤ lo) ∧ K.go undef (h.put b (.cells (writeL c o l) e (lo, hi)))) := id rfl
theorem i_acall (g : FuncId) (a c d : Array Value) : Go1 (acall P (.func (.func g) a d) c h) = Go1 (CallF P g (a ++ c ++ d) h) := id rfl
theorem i_sto (hn : tySize P t = some v.cells.size) : Go1 (astore P t (.pointer (some ⟨b, o, none⟩)) v h) = Go1 (stK (h.f b) b o v.cells.size v.cells.toList h) := sto P t h K.go b o v hn
theorem i_mk_slice (k k' : IntKind) (p q : Int) (hu : isSl (P.underlying t) = true) : Go1 (amake P t (.int k p) (.int k' q) h) = @Go1 _ (optN (tySize P (elT (P.underlying t)))) ⟨fun n => @Go1 _ (optN (tyBytes P (elT (P.underlying t)))) ⟨fun m => @Go1 _ (optK (tyZero P (elT (P.underlying t)))) ⟨fun z =>
    0 ≤ p ∧ p ≤ q ∧ (m : Int) * q ≤ 281474976710656 ∧ q ≤ 9223372036854775807 ∧ K.go (.slice (some ⟨h.n, 0, none⟩) p.toNat q.toNat) ((h.put h.n (.cells (madeCells z.cells (q.toNat * n)) (elT (P.underlying t)) (0, 0))).to (h.n + 1))⟩⟩⟩ := mk_slice P t h K.go k k' p q hu
theorem i_cv_str (s' : TypeId) (m c : Nat) (hs : isSl (P.underlying s') = true) (he : P.underlying (elT (P.underlying s')) = some (.int .u8)) (hd : P.underlying t = some .string) :
    Go1 (aconv P s' t (.slice (some ⟨b, o, none⟩) m c) h) = @Go1 _ (strK (h.f b) o m) ⟨fun v => K.go v h⟩ := cv_str P t h K.go b o s' m c hs he hd
end
theorem i_optN {n : Nat} [G : Cn (Nat → Prop)] : Go1 (optN (some n)) = G.go n := id rfl
end Go.Proofs.Ytaejmcgcfopmkaa
