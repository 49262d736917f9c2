/- The engine: operations on memory. -/
import Derived.Test.YtaejmcgcfopmkaaEngOps
import Derived.LaidEql
namespace Go.Proofs.Ytaejmcgcfopmkaa
open Go Go.RowKit

/-! ### loads and stores -/
def aload (P : Program) (t : TypeId) (a : Value) (h : Hp) (K : Value → Prop) : Prop :=
  match a with
  | .pointer (some ⟨b, o, none⟩) => (match h.f b with
    | some (.cells c _ _) => (match tyAgg P t with
      | some false => (match c[o]? with
        | some v => K v
        | none => False)
      | some true => (match tySize P t with
        | some n => (match cellsL c o n with
          | some l => K (.agg l.toArray)
          | none => False)
        | none => False)
      | none => False)
    | _ => False)
  | _ => False
theorem aload_sound {P : Program} {t : TypeId} {a : Value} {h : Hp} {K : Value → Prop} (hk : aload P t a h K) : PG P (Instr.loadAt t a) h K := by
  unfold aload at hk
  split at hk
  · rename_i b o
    split at hk
    · rename_i c e fz he
      split at hk
      · rename_i ha
        split at hk
        · rename_i v hv
          refine .here (fun w hi => ?_) hk
          have hc := (hi.cell (i := o) he).trans hv
          simp [Instr.loadAt, Instr.sureAddr, loadVar, run_isAgg ha, Go.load, Sem.run, hc]
        · exact hk.elim
      · rename_i ha
        split at hk
        · rename_i n hn
          split at hk
          · rename_i l hl
            refine .here (fun w hi => ?_) hk
            simp [Instr.loadAt, Instr.sureAddr, loadVar, run_isAgg ha, run_sizeOf hn, run_loadCells (P := P) (w := w) (fun i => hi.cell (i := i) he) hl]
          · exact hk.elim
        · exact hk.elim
      · exact hk.elim
    · exact hk.elim
  · exact hk.elim
def astore (P : Program) (t : TypeId) (a v : Value) (h : Hp) (K : KH) : Prop :=
  match a with
  | .pointer (some ⟨b, o, none⟩) => (match h.f b with
    | some (.cells c e fz) => tySize P t = some v.cells.size ∧ (v.cells.toList.all Value.oneCell' = true) ∧ o + v.cells.size ≤ c.size ∧ Free fz o v.cells.size ∧ K undef (h.put b (.cells (writeL c o v.cells.toList) e fz))
    | _ => False)
  | _ => False
theorem astore_sound {P : Program} {t : TypeId} {a v : Value} {h : Hp} {K : KH} (hk : astore P t a v h K) (w : World) (hi : Is w h) :
    ∃ w' h', (Instr.storeAt t a v).run P w = .ok () w' ∧ Is w' h' ∧ Same w w' ∧ K undef h' := by
  unfold astore at hk
  split at hk
  · rename_i b o
    split at hk
    · rename_i c e fz he
      obtain ⟨hs, h1, hb, hf, hk⟩ := hk
      obtain ⟨w', hr, hi', hsame⟩ := run_storeCells (P := P) v.cells.toList w h c o 0 (fun x hx => List.all_eq_true.1 h1 x hx) (by simpa using hb) (by simpa using hf) hi he
      refine ⟨w', _, ?_, hi', hsame, by simpa using hk⟩
      simp [Instr.storeAt, Instr.sureAddr, storeVar, run_sizeOf hs, hr]
    · exact hk.elim
  · exact hk.elim

/-! ### places -/
def afieldAddr (P : Program) (s : TypeId) (a : Value) (i : Nat) (K : Value → Prop) : Prop :=
  match a, tyField P s i with
  | .pointer (some ⟨b, o, none⟩), some (_, off) => K (.pointer (some ⟨b, o + off, none⟩))
  | _, _ => False
theorem tyField_spec {P : Program} {s t : TypeId} {i off : Nat} (h : tyField P s i = some (t, off)) :
    ∃ fs f n, P.underlying s = some (.struct fs) ∧ fs[i]? = some f ∧ f.type = t ∧ f.offset = off ∧ tySize P t = some (n + 1) := by
  unfold tyField at h
  split at h
  · rename_i fs hu
    split at h
    · rename_i f hf
      split at h
      · rename_i n hn
        simp only [Option.some.injEq, Prod.mk.injEq] at h
        obtain ⟨h1, h2⟩ := h
        subst h1 h2
        exact ⟨fs, f, n, hu, hf, rfl, rfl, hn⟩
      · cases h
    · cases h
  · cases h
theorem afieldAddr_sound {P : Program} {s : TypeId} {a : Value} {i : Nat} {h : Hp} {K : Value → Prop} (hk : afieldAddr P s a i K) : PG P (Instr.fieldAt s a i) h K := by
  unfold afieldAddr at hk
  split at hk
  · rename_i b o t off ht
    obtain ⟨fs, f, n, hu, hf, rfl, rfl, hn⟩ := tyField_spec ht
    refine .here (fun w hi => ?_) hk
    simp [Instr.fieldAt, run_underlying hu, hf, Instr.sureAddr, fieldPlace, run_sizeOf hn, add_addr]
  · exact hk.elim
def apart_ (P : Program) (t : TypeId) (cs : Array Value) (off : Nat) (K : Value → Prop) : Prop :=
  match tyAgg P t with
  | some false => (match cs[off]? with
    | some v => K v
    | none => False)
  | some true => (match tySize P t with
    | some n => K (.agg (cs.extract off (off + n)))
    | none => False)
  | none => False
theorem apart_sound {P : Program} {t : TypeId} {cs : Array Value} {off : Nat} {h : Hp} {K : Value → Prop} (hk : apart_ P t cs off K) : PG P (part t cs off) h K := by
  unfold apart_ at hk
  split at hk
  · rename_i ha
    split at hk
    · rename_i v hv
      exact .here (fun w _ => by simp [part, run_isAgg ha, hv]) hk
    · exact hk.elim
  · rename_i ha
    split at hk
    · rename_i n hn
      exact .here (fun w _ => by simp [part, run_isAgg ha, run_sizeOf hn]) hk
    · exact hk.elim
  · exact hk.elim
def afield (P : Program) (s : TypeId) (x : Value) (i : Nat) (K : Value → Prop) : Prop :=
  match x, tyField P s i with
  | .agg cs, some (t, off) => apart_ P t cs off K
  | _, _ => False
theorem afield_sound {P : Program} {s : TypeId} {x : Value} {i : Nat} {h : Hp} {K : Value → Prop} (hk : afield P s x i K) : PG P (Instr.field s x i) h K := by
  unfold afield at hk
  split at hk
  · rename_i cs t off ht
    obtain ⟨fs, f, n, hu, hf, rfl, rfl, hn⟩ := tyField_spec ht
    obtain ⟨v, hv, hr⟩ := apart_sound (h := h) hk
    exact ⟨v, hv, fun w hi => by simpa [Instr.field, run_underlying hu, hf, asAgg] using hr w hi⟩
  · exact hk.elim
def aindexAddr (P : Program) (t : TypeId) (x ix : Value) (K : Value → Prop) : Prop :=
  match ix with
  | .int _ i => (match P.underlying t, x with
    | some (.slice e), .slice (some ⟨b, o, none⟩) len _ => 0 ≤ i ∧ i < (len : Int) ∧ (match tySize P e with
      | some k => K (.pointer (some ⟨b, o + i.toNat * k, none⟩))
      | none => False)
    | some (.array len e), .pointer (some ⟨b, o, none⟩) => 0 ≤ i ∧ i < (len : Int) ∧ (match tySize P e with
      | some k => K (.pointer (some ⟨b, o + i.toNat * k, none⟩))
      | none => False)
    | _, _ => False)
  | _ => False
theorem aindexAddr_sound {P : Program} {t : TypeId} {x ix : Value} {h : Hp} {K : Value → Prop} (hk : aindexAddr P t x ix K) : PG P (Instr.indexAt t x ix) h K := by
  unfold aindexAddr at hk
  split at hk
  · rename_i kk i
    split at hk
    · rename_i e b o len cap hu
      obtain ⟨h0, h1, hk⟩ := hk
      split at hk
      · rename_i k hn
        exact .here (fun w _ => by simp [Instr.indexAt, asIntOf, run_underlying hu, h0, h1, run_sizeOf hn, add_addr]) hk
      · exact hk.elim
    · rename_i len e b o hu
      obtain ⟨h0, h1, hk⟩ := hk
      split at hk
      · rename_i k hn
        exact .here (fun w _ => by simp [Instr.indexAt, asIntOf, run_underlying hu, h0, h1, run_sizeOf hn, add_addr, Instr.sureAddr]) hk
      · exact hk.elim
    · exact hk.elim
  · exact hk.elim
def aindex (P : Program) (t : TypeId) (x ix : Value) (K : Value → Prop) : Prop :=
  match ix with
  | .int _ i => (match P.underlying t, x with
    | some (.array len e), .agg cs => 0 ≤ i ∧ i < (len : Int) ∧ (match tySize P e with
      | some k => apart_ P e cs (i.toNat * k) K
      | none => False)
    | some .string, .string s => 0 ≤ i ∧ (match s.toList[i.toNat]? with
      | some b => K (.int .u8 b.toNat)
      | none => False)
    | _, _ => False)
  | _ => False
theorem bytes_getElem? (s : ByteArray) (i : Nat) : s[i]? = s.toList[i]? := by
  rw [ByteArray.toList_eq]
  by_cases hlt : i < s.size
  · rw [getElem?_pos s i hlt, List.getElem?_eq_getElem (by simpa using hlt)]; rfl
  · rw [getElem?_neg s i hlt, List.getElem?_eq_none (by simpa using hlt)]
theorem aindex_sound {P : Program} {t : TypeId} {x ix : Value} {h : Hp} {K : Value → Prop} (hk : aindex P t x ix K) : PG P (Instr.index t x ix) h K := by
  unfold aindex at hk
  split at hk
  · rename_i kk i
    split at hk
    · rename_i len e cs hu
      obtain ⟨h0, h1, hk⟩ := hk
      split at hk
      · rename_i k hn
        obtain ⟨v, hv, hr⟩ := apart_sound (h := h) hk
        exact ⟨v, hv, fun w hi => by simpa [Instr.index, asIntOf, run_underlying hu, h0, h1, run_sizeOf hn] using hr w hi⟩
      · exact hk.elim
    · rename_i s hu
      obtain ⟨h0, hk⟩ := hk
      split at hk
      · rename_i b hb
        exact .here (fun w _ => by simp [Instr.index, asIntOf, run_underlying hu, h0, bytes_getElem?, hb]) hk
      · exact hk.elim
    · exact hk.elim
  · exact hk.elim
def aextract (x : Value) (i : Nat) (K : Value → Prop) : Prop :=
  match x with
  | .tuple vs => (match vs[i]? with
    | some v => K v
    | none => False)
  | _ => False
theorem aextract_sound {P : Program} {x : Value} {i : Nat} {h : Hp} {K : Value → Prop} (hk : aextract x i K) : PG P (Instr.extract x i) h K := by
  unfold aextract at hk
  split at hk
  · split at hk
    · rename_i v hv
      exact .here (fun w _ => by simp [Instr.extract, hv]) hk
    · exact hk.elim
  · exact hk.elim

/-! ### new memory -/
def anew (e : TypeId) (cs : Array Value) (h : Hp) (K : KH) : Prop := K (.pointer (some ⟨h.n, 0, none⟩)) ((h.put h.n (.cells cs e (0, 0))).to (h.n + 1))
theorem run_newRow {P : Program} (e : TypeId) (cs : Array Value) {w : World} {h : Hp} (hi : Is w h) : (newRow e cs).run P w = .ok ⟨h.n, 0, none⟩ { w with heap := w.heap.push (.cells cs e (0, 0)) } := by
  simp only [newRow, newObj, Sem.run_bind]
  rw [show (Sem.new (.cells cs e) .pure).run P w = .ok w.heap.size { w with heap := w.heap.push (.cells cs e (0, 0)) } from by simp [Sem.run]]
  simp [hi.1]
theorem anew_sound {P : Program} {e : TypeId} {cs : Array Value} {h : Hp} {K : KH} (hk : anew e cs h K) : Gives P (do pure (.pointer (some (← newRow e cs)))) h K := fun w hi =>
  ⟨_, _, _, by simp only [Sem.run_bind, run_newRow e cs hi]; rfl, hi.push _, Same.push _ _, hk⟩
def aalloc (P : Program) (e : TypeId) (h : Hp) (K : KH) : Prop :=
  match tyZero P e with
  | some z => anew e z.cells h K
  | none => False
theorem aalloc_sound {P : Program} {e : TypeId} {h : Hp} {K : KH} (hk : aalloc P e h K) : Gives P (Instr.alloc e true (.tuple #[])) h K := by
  unfold aalloc at hk
  split at hk
  · rename_i z hz
    intro w hi
    obtain ⟨v, w', h', hr, r⟩ := anew_sound hk w hi
    exact ⟨v, w', h', by simpa [Instr.alloc, run_zeroValue hz, newVar] using hr, r⟩
  · exact hk.elim
/-- The cells of an aggregate, its parts laid in. -/
def fillP (place : Nat → Option (Nat × Nat)) (cells : Array Value) : List (Nat × Value) → Option (Array Value)
  | [] => some cells
  | (i, v) :: rest => (match place i with
    | none => none
    | some (off, size) => if v.cells.size = size ∧ off + size ≤ cells.size then fillP place (writeL cells off v.cells.toList) rest else none)
theorem writeL_eq : ∀ (l : List Value) (c : Array Value) (o k : Nat), (l.zipIdx k).foldl (fun cs (x : Value × Nat) => cs.setIfInBounds (o + x.2) x.1) c = writeL c (o + k) l
  | [], c, o, k => rfl
  | x :: l, c, o, k => by
    simp only [List.zipIdx_cons, List.foldl_cons, writeL]
    rw [writeL_eq l _ o (k + 1)]
    rfl
theorem fillP_eq (place : Nat → Option (Nat × Nat)) : ∀ (l : List (Nat × Value)) (cells r : Array Value), fillP place cells l = some r → Instr.fill place cells l = some r
  | [], cells, r, h => h
  | (i, v) :: l, cells, r, h => by
    simp only [fillP] at h
    split at h
    · cases h
    · rename_i off size hp
      split at h
      · rename_i hc
        have ih := fillP_eq place l _ r h
        simp only [Instr.fill, hp]
        rw [if_neg (by rw [hc.1]; simp; omega)]
        have := writeL_eq v.cells.toList cells off 0
        simp only [Nat.add_zero] at this
        rw [← this] at ih
        have e : v.cells.zipIdx.foldl (fun cs (x : Value × Nat) => cs.setIfInBounds (off + x.2) x.1) cells = v.cells.toList.zipIdx.foldl (fun cs (x : Value × Nat) => cs.setIfInBounds (off + x.2) x.1) cells := by
          rw [← Array.foldl_toList]; simp
        rw [← e] at ih
        exact ih
      · cases h
def structPlaces (P : Program) (fs : Array Field) (i : Nat) : Option (Nat × Nat) := match fs[i]? with
  | some f => (tySize P f.type).map fun s => (f.offset, s)
  | none => none
def tyBuild (P : Program) (t : TypeId) (parts : List (Nat × Value)) : Option (Array Value) :=
  match tyZero P t with
  | some z => (match P.underlying t with
    | some (.struct fs) => if (fs.toList.all fun f => (tySize P f.type).isSome) = true then fillP (structPlaces P fs) z.cells parts else none
    | some (.array _ e) => (match tySize P e with
      | some s => fillP (fun i => some (i * s, s)) z.cells parts
      | none => none)
    | _ => none)
  | none => none
theorem run_places {P : Program} (w : World) : ∀ (l : List Field), (l.all fun f => (tySize P f.type).isSome) = true →
    (l.mapM (fun f => (do pure (f.offset, ← sizeOf f.type) : Sem (Nat × Nat)))).run P w = .ok (l.map fun f => (f.offset, (tySize P f.type).getD 0)) w
  | [], _ => by simp
  | f :: l, h => by
    simp only [List.all_cons, Bool.and_eq_true] at h
    obtain ⟨n, hn⟩ := Option.isSome_iff_exists.1 h.1
    rw [List.mapM_cons]
    simp only [Sem.run_bind, run_sizeOf hn, Result.andThen_ok, Sem.run_pure, run_places w l h.2, List.map_cons, hn, Option.getD_some]
theorem tyBuild_sound {P : Program} {t : TypeId} {parts : Array (Nat × Value)} {r : Array Value} (hb : tyBuild P t parts.toList = some r) (w : World) : (Instr.build t parts).run P w = .ok (.agg r) w := by
  unfold tyBuild at hb
  split at hb
  · rename_i z hz
    split at hb
    · rename_i fs hu
      split at hb
      · rename_i hall
        have hp := run_places (P := P) w fs.toList hall
        have hm : (fs.mapM (fun f => (do pure (f.offset, ← sizeOf f.type) : Sem (Nat × Nat)))).run P w = .ok (fs.map fun f => (f.offset, (tySize P f.type).getD 0)) w := by
          rw [Array.mapM_eq_mapM_toList, Sem.run_map, hp]
          simp only [Result.andThen_ok]
          congr 1
          apply Array.ext'
          simp
        have hpl : (fun i => (fs.map fun f => (f.offset, (tySize P f.type).getD 0))[i]?) = structPlaces P fs := by
          funext i
          simp only [structPlaces, Array.getElem?_map]
          cases hf : fs[i]? with
          | none => rfl
          | some f =>
            have : (tySize P f.type).isSome = true := List.all_eq_true.1 hall f (by simpa using Array.mem_of_getElem? hf)
            obtain ⟨n, hn⟩ := Option.isSome_iff_exists.1 this
            simp [hn]
        have hfill := fillP_eq _ _ _ _ hb
        rw [← hpl] at hfill
        simp only [Instr.build, Sem.run_bind, run_zeroValue hz, Result.andThen_ok, run_underlying hu, hm, hfill]
        rfl
      · cases hb
    · rename_i n e hu
      split at hb
      · rename_i s hs
        have hfill := fillP_eq _ _ _ _ hb
        simp only [Instr.build, Sem.run_bind, run_zeroValue hz, Result.andThen_ok, run_underlying hu, run_sizeOf hs, hfill]
        rfl
      · cases hb
    · cases hb
  · cases hb
/-- n copies of a list of cells. -/
def copies (z : List Value) : Nat → List Value
  | 0 => []
  | n + 1 => z ++ copies z n
theorem copies_snoc (z : List Value) : ∀ n, copies z (n + 1) = copies z n ++ z
  | 0 => by simp [copies]
  | n + 1 => by
    show z ++ copies z (n + 1) = (z ++ copies z n) ++ z
    rw [copies_snoc z n, List.append_assoc]
theorem range_mod (z : Array Value) : ∀ n, (List.range (n * z.size)).map (fun i => z[i % z.size]!) = copies z.toList n
  | 0 => by simp [copies]
  | n + 1 => by
    rw [copies_snoc, ← range_mod z n, Nat.succ_mul, List.range_add, List.map_append, List.map_map]
    congr 1
    apply List.ext_getElem
    · simp
    · intro i h1 h2
      have hi : i < z.size := by simpa using h1
      simp [Nat.mod_eq_of_lt hi, hi]
theorem madeCells_copies (z : Array Value) (n : Nat) : madeCells z (n * z.size) = (copies z.toList n).toArray := by
  rw [← range_mod]
  unfold madeCells
  apply Array.ext'
  simp
def tyBuildSlice (P : Program) (t : TypeId) (len : Nat) (parts : List (Nat × Value)) : Option (TypeId × Array Value) :=
  match P.underlying t with
  | some (.slice e) => (match tySize P e, tyZero P e with
    | some s, some z => if len * s ≤ 16777216 ∧ z.cells.size = s then (fillP (fun i => some (i * s, s)) (copies z.cells.toList len).toArray parts).map (e, ·) else none
    | _, _ => none)
  | _ => none
theorem tyBuildSlice_sound {P : Program} {t : TypeId} {len : Nat} {parts : Array (Nat × Value)} {e : TypeId} {r : Array Value} (hb : tyBuildSlice P t len parts.toList = some (e, r)) {h : Hp} {K : KH}
    (hk : K (.slice (some ⟨h.n, 0, none⟩) len len) ((h.put h.n (.cells r e (0, 0))).to (h.n + 1))) : Gives P (Instr.buildSlice t len parts) h K := by
  unfold tyBuildSlice at hb
  split at hb
  · rename_i e' hu
    split at hb
    · rename_i s z hs hz
      split at hb
      · rename_i hle
        simp only [Option.map_eq_some_iff, Prod.mk.injEq] at hb
        obtain ⟨r', hf, rfl, rfl⟩ := hb
        have hfill := fillP_eq _ _ _ _ hf
        intro w hi
        refine ⟨_, _, _, ?_, hi.push _, Same.push _ _, hk⟩
        obtain ⟨hle, hsz⟩ := hle
        simp only [Instr.buildSlice, Sem.run_bind, run_underlying hu, Result.andThen_ok, run_sizeOf hs]
        rw [if_neg (by omega)]
        rw [← madeCells_copies, hsz] at hfill
        by_cases h0 : len * s = 0
        · rw [h0] at hfill ⊢
          have e0 : madeCells z.cells 0 = #[] := by simp [madeCells, Array.range_zero']
          rw [e0] at hfill
          simp only [if_true, Sem.run_bind, Sem.run_pure, Result.andThen_ok, Array.range_zero', Array.map_empty]
          rw [hfill]
          simp only [Sem.run_bind, run_newRow e' r' hi, Result.andThen_ok]
          rfl
        · simp only [madeCells] at hfill
          simp only [h0, if_false, Sem.run_bind, Sem.run_pure, run_zeroValue hz, Result.andThen_ok]
          rw [hfill]
          simp only [Sem.run_bind, run_newRow e' r' hi, Result.andThen_ok]
          rfl
      · cases hb
    · cases hb
  · cases hb
/-! ### two places -/
def aptr (P : Program) (op : BinOp) (t : TypeId) (a b : Addr) (h : Hp) (K : Value → Prop) : Prop :=
  match op, P.underlying t with
  | .eql, some (.pointer e) => (∃ k, tySize P e = some (k + 1)) ∧ (a = b ∨ (∃ ca ta cb tb, h.f a.block = some (.cells ca ta (0, 0)) ∧ h.f b.block = some (.cells cb tb (0, 0)))) ∧ K (.bool (decide (a = b)))
  | .neq, some (.pointer e) => (∃ k, tySize P e = some (k + 1)) ∧ (a = b ∨ (∃ ca ta cb tb, h.f a.block = some (.cells ca ta (0, 0)) ∧ h.f b.block = some (.cells cb tb (0, 0)))) ∧ K (.bool (!decide (a = b)))
  | _, _ => False
def abinH (P : Program) (op : BinOp) (t : TypeId) (x y : Value) (h : Hp) (K : Value → Prop) : Prop :=
  match x, y with
  | .pointer (some a), .pointer (some b) => aptr P op t a b h K
  | x, y => abin P op t x y K
theorem run_sameAddr_of {P : Program} {a b : Addr} {w : World} {h : Hp} (hi : Fits w h) (hc : a = b ∨ (∃ ca ta cb tb, h.f a.block = some (.cells ca ta (0, 0)) ∧ h.f b.block = some (.cells cb tb (0, 0)))) : (sameAddr a b).run P w = .ok (decide (a = b)) w := by
  by_cases e : a = b
  · subst e; simp [sameAddr]
  · obtain ⟨ca, ta, cb, tb, h1, h2⟩ := hc.resolve_left e
    rw [run_sameAddr_other w e (hi _ _ h1) (hi _ _ h2)]
    simp [e]
theorem abinH_sound {P : Program} {op : BinOp} {t : TypeId} {ox oy : Operand} {x y : Value} {h : Hp} {K : Value → Prop} (hb : abinH P op t x y h K) :
    PG P (do eqGuard op t ox oy x y; binOp op t x y) h K := by
  unfold abinH at hb
  split at hb
  · rename_i a b
    have key : ∀ {e k}, P.underlying t = some (.pointer e) → tySize P e = some (k + 1) → (a = b ∨ (∃ ca ta cb tb, h.f a.block = some (.cells ca ta (0, 0)) ∧ h.f b.block = some (.cells cb tb (0, 0)))) → ∀ w, Fits w h → (Op.equal t (.pointer (some a)) (.pointer (some b))).run P w = .ok (decide (a = b)) w := fun hu hs hc w hw => by
      have h : ∀ d, (Op.equalIn (d + 1) t (.pointer (some a)) (.pointer (some b))).run P w = .ok (decide (a = b)) w := fun d => by
        simp [Op.equalIn, run_underlying hu, run_sizeOf hs, run_sameAddr_of hw hc]
      exact h 9999
    unfold aptr at hb
    split at hb
    · rename_i e hu
      obtain ⟨⟨k, hs⟩, hc, hk⟩ := hb
      exact .here (fun w hw => by simp [eqGuard, binOp, key hu hs hc w hw]) hk
    · rename_i e hu
      obtain ⟨⟨k, hs⟩, hc, hk⟩ := hb
      exact .here (fun w hw => by simp [eqGuard, binOp, key hu hs hc w hw]) hk
    · exact hb.elim
  · exact abin_sound hb
end Go.Proofs.Ytaejmcgcfopmkaa
