/- The engine: conversions, slices, append, copy. -/
import Derived.Test.YtaejmcgcfopmkaaEngMem
import Derived.Laws.BytesArg
namespace Go.Proofs.Ytaejmcgcfopmkaa
open Go Go.RowKit

def bytesOf : List Value → Option (List UInt8)
  | [] => some []
  | .int .u8 n :: l => if 0 ≤ n ∧ n < 256 then (bytesOf l).map (UInt8.ofNat n.toNat :: ·) else none
  | _ => none
def byteVals (s : ByteArray) : Array Value := s.data.map fun b => .int .u8 b.toNat
theorem bytesOf_spec : ∀ (l : List Value) (bs : List UInt8), bytesOf l = some bs → ∃ ns : List Int, l = ns.map (Value.int .u8) ∧ bs = ns.map fun n => UInt8.ofNat n.toNat
  | [], bs, h => by injection h with h; subst h; exact ⟨[], rfl, rfl⟩
  | v :: l, bs, h => by
    unfold bytesOf at h
    split at h
    · injection h with h; subst h; rename_i e; cases e
    · rename_i n l' e
      injection e with e1 e2
      subst e1 e2
      split at h
      · simp only [Option.map_eq_some_iff] at h
        obtain ⟨bs', hb, rfl⟩ := h
        obtain ⟨ns, rfl, rfl⟩ := bytesOf_spec l bs' hb
        exact ⟨n :: ns, rfl, rfl⟩
      · cases h
    · cases h
def aconv (P : Program) (src dst : TypeId) (x : Value) (h : Hp) (K : KH) : Prop :=
  match x with
  | .int _ n => (match P.underlying src, P.underlying dst with
    | some (.int _), some (.int k) => K (.int k (k.wrap n)) h
    | _, _ => False)
  | .string s => (match P.underlying src, P.underlying dst with
    | some .string, some .string => K (.string s) h
    | some .string, some (.slice e) => P.underlying e = some (.int .u8) ∧ ∀ cap, s.size ≤ cap →
      K (.slice (some ⟨h.n, 0, none⟩) s.size cap) ((h.put h.n (.cells (byteVals s ++ Array.replicate (cap - s.size) (.int .u8 0)) e (cap, cap + 1))).to (h.n + 1))
    | _, _ => False)
  | .slice base len _ => (match P.underlying src, P.underlying dst with
    | some (.slice e), some .string => P.underlying e = some (.int .u8) ∧ (match base with
      | none => K (.string ByteArray.empty) h
      | some ⟨b, o, none⟩ => (match h.f b with
        | some (.cells c _ _) => (match (cellsL c o len).bind bytesOf with
          | some bs => K (.string ⟨bs.toArray⟩) h
          | none => False)
        | _ => False)
      | _ => False)
    | _, _ => False)
  | _ => False
theorem Is.freeze {w : World} {h : Hp} {b n : Nat} {c : Array Value} {t : TypeId} (hi : Is w h) (e : h.f b = some (.cells c t (0, 0))) :
    Is (w.freeze ⟨b, n, none⟩ 1) (h.put b (.cells c t (n, n + 1))) := by
  have h1 := hi.2 b _ e
  unfold World.freeze
  rw [if_neg (by omega)]
  refine hi.set e (by simp) ?_ (fun x hx => ?_)
  · simp [Array.getElem?_modify, h1]
  · have : ¬ b = x := fun e => hx e.symm
    simp [Array.getElem?_modify, this]
theorem aconv_sound {P : Program} {src dst : TypeId} {x : Value} {h : Hp} {K : KH} (hk : aconv P src dst x h K) : Gives P (convert src dst x) h K := by
  unfold aconv at hk
  split at hk
  · rename_i k n
    split at hk
    · rename_i k1 k2 h1 h2
      exact PG.gives (.here (fun w _ => by simp [convert, run_underlying h1, run_underlying h2, Conv.intToInt]) hk)
    · exact hk.elim
  · rename_i s
    split at hk
    · rename_i h1 h2
      exact PG.gives (.here (fun w _ => by simp [convert, run_underlying h1, run_underlying h2]) hk)
    · rename_i e h1 h2
      obtain ⟨he, hk⟩ := hk
      intro w hi
      let cap := (Question.appendCap s.size 0 e).cut (w.tape w.drawn (.appendCap s.size 0 e))
      have hcap : s.size ≤ cap := Nat.le_add_right _ _
      let w1 : World := { w with drawn := w.drawn + 1 }
      have hi1 : Is w1 h := hi
      let cells := byteVals s ++ Array.replicate (cap - s.size) (.int .u8 0)
      have hsz : cells.size = cap := by
        have : s.size = s.data.size := rfl
        simp only [cells, byteVals, Array.size_append, Array.size_map, Array.size_replicate]
        omega
      have hi2 := hi1.push (.cells cells e (0, 0))
      have hi3 := hi2.freeze (b := h.n) (n := cap) (c := cells) (t := e) (by simp [Hp.to, Hp.put])
      refine ⟨.slice (some ⟨h.n, 0, none⟩) s.size cap, _, _, ?_, hi3, ⟨rfl, rfl, rfl⟩, ?_⟩
      · have hshape : ({ w1 with heap := w1.heap.push (.cells cells e (0, 0)) } : World).shape? h.n = some (e, cap) := by
          have := hi2.2 h.n _ (by simp [Hp.to, Hp.put]; rfl)
          simp only [World.shape?, this, hsz]
        simp only [convert, Sem.run_bind, run_underlying h1, run_underlying h2, Result.andThen_ok, run_underlying he, Conv.stringToBytes]
        rw [show (choose (.appendCap s.size 0 e)).run P w = .ok cap w1 from by simp [choose, Sem.run, Question.forced]; exact ⟨rfl, rfl⟩]
        simp only [Result.andThen_ok]
        rw [show (s.data.map fun b => Value.int .u8 (b.toNat : Int)) = byteVals s from rfl]
        rw [run_newRow e _ hi1]
        simp only [Result.andThen_ok, markStringish, Sem.run_bind]
        have hsh : (Go.shape h.n).run P ({ w1 with heap := w1.heap.push (.cells cells e (0, 0)) } : World) = .ok (some (e, cap)) ({ w1 with heap := w1.heap.push (.cells cells e (0, 0)) } : World) := by simp only [Go.shape, Sem.run, hshape]
        rw [hsh]
        rfl
      · have := hk cap hcap
        rw [to_put, put_put]
        exact this
    · exact hk.elim
  · rename_i base len cap
    split at hk
    · rename_i e h1 h2
      obtain ⟨he, hk⟩ := hk
      split at hk
      · refine PG.gives (.here (fun w _ => ?_) hk)
        exact run_convert_bytes_nil w src e h1 he _ _ dst h2
      · rename_i b o
        split at hk
        · rename_i c t fz hc
          split at hk
          · rename_i bs hb
            refine PG.gives (.here (fun w hi => ?_) hk)
            cases hl : cellsL c o len with
            | none => rw [hl] at hb; cases hb
            | some l =>
              rw [hl] at hb
              obtain ⟨ns, rfl, rfl⟩ := bytesOf_spec l bs hb
              have hload := run_loadCells (P := P) (w := w) (fun i => hi.cell (i := i) hc) hl
              rw [run_convert_bytes_string w src dst e _ _ _ h1 he h2, run_bytesToString w _ _ _ ns hload, foldl_push_bytes]
              simp [ByteArray.empty, ByteArray.emptyWithCapacity]
              rfl
          · exact hk.elim
        · exact hk.elim
      · exact hk.elim
    · exact hk.elim
  · exact hk.elim

/-! ### slicing -/
def bnd (v : Option Value) (d : Int) : Option Int := match v with
  | none => some d
  | some (.int _ i) => some i
  | _ => none
def upTo (v : Option Value) (h m : Int) : Prop := match v with
  | none => True
  | some _ => h ≤ m
def sliceOf (a : Option Addr) (l h m k : Nat) : Value := .slice (if m = l then a else a.map (·.add (l * k))) (h - l) (m - l)
def aslice (P : Program) (t : TypeId) (x : Value) (lo hi mx : Option Value) (K : Value → Prop) : Prop :=
  match x with
  | .string s => P.underlying t = some .string ∧ mx.isSome = false ∧ (match bnd hi s.size, bnd lo 0 with
    | some h, some l => 0 ≤ l ∧ l ≤ h ∧ h ≤ s.size ∧ K (.string (s.extract l.toNat h.toNat))
    | _, _ => False)
  | .slice a len cap => (match P.underlying t with
    | some (.slice e) => (match tySize P e, bnd mx cap, bnd hi len, bnd lo 0 with
      | some k, some m, some h, some l => (mx.isSome = true → hi.isSome = true) ∧ 0 ≤ l ∧ l ≤ h ∧ upTo hi h m ∧ m ≤ (cap : Int) ∧ K (sliceOf a l.toNat h.toNat m.toNat k)
      | _, _, _, _ => False)
    | _ => False)
  | _ => False
theorem bnd_d (v : Value) (d : Int) : bnd (some v) d = bnd (some v) 0 := by cases v <;> rfl
theorem run_bound {P : Program} {v : Value} {i : Int} {y : Nat} {code : BoundsCode} {w : World} (hv : bnd (some v) 0 = some i) (h0 : 0 ≤ i) (h1 : i ≤ (y : Int)) : (Instr.sliceBound v y code).run P w = .ok i.toNat w := by
  unfold bnd at hv
  split at hv
  · rename_i e; cases e
  · rename_i k j e
    injection e with e; injection hv with hv
    subst e hv
    exact run_sliceBound w k j y code h0 h1
  · cases hv
theorem run_bounds {P : Program} {q : Bool} {len cap : Nat} {lo hi mx : Option Value} {m h l : Int} {w : World} (hm : bnd mx cap = some m) (hh : bnd hi len = some h) (hl : bnd lo 0 = some l)
    (hx : mx.isSome = true → hi.isSome = true) (h0 : 0 ≤ l) (h1 : l ≤ h) (h2 : upTo hi h m) (h3 : m ≤ (cap : Int)) :
    (Instr.sliceBounds q len cap lo hi mx).run P w = .ok (l.toNat, h.toNat, m.toNat) w := by
  unfold Instr.sliceBounds
  cases mx with
  | none =>
    injection hm with hm; subst hm
    cases hi with
    | none =>
      injection hh with hh; subst hh
      cases lo with
      | none => injection hl with hl; subst hl; simp
      | some v =>
        simp only [Sem.run_bind, Sem.run_pure, Result.andThen_ok]
        rw [run_bound (i := l) hl h0 h1]; simp
    | some u =>
      have hu : bnd (some u) 0 = some h := by rw [← hh]; exact (bnd_d _ _).symm
      simp only [upTo] at h2
      simp only [Sem.run_bind, Sem.run_pure, Result.andThen_ok]
      rw [run_bound hu (by omega) h2]
      cases lo with
      | none => injection hl with hl; subst hl; simp
      | some v =>
        simp only [Result.andThen_ok, Sem.run_bind, Sem.run_pure]
        rw [run_bound (i := l) hl h0 (by omega)]; simp
  | some x =>
    cases hi with
    | none => simp at hx
    | some u =>
      have hu : bnd (some u) 0 = some h := by rw [← hh]; exact (bnd_d _ _).symm
      have hx' : bnd (some x) 0 = some m := by rw [← hm]; exact (bnd_d _ _).symm
      simp only [upTo] at h2
      simp only [Sem.run_bind, Sem.run_pure, Result.andThen_ok]
      rw [run_bound hx' (by omega) h3]
      simp only [Result.andThen_ok, Sem.run_bind, Sem.run_pure]
      rw [run_bound hu (by omega) (by omega)]
      cases lo with
      | none => injection hl with hl; subst hl; simp
      | some v =>
        simp only [Result.andThen_ok, Sem.run_bind, Sem.run_pure]
        rw [run_bound (i := l) hl h0 (by omega)]; simp
theorem aslice_sound {P : Program} {t : TypeId} {x : Value} {lo hi mx : Option Value} {h : Hp} {K : Value → Prop} (hk : aslice P t x lo hi mx K) : PG P (Instr.sliceAt t x lo hi mx) h K := by
  unfold aslice at hk
  split at hk
  · rename_i s
    obtain ⟨hu, hmx, hk⟩ := hk
    split at hk
    · rename_i hh l e1 e2
      obtain ⟨h0, h1, h2, hk⟩ := hk
      refine .here (fun w _ => ?_) hk
      have := run_bounds (P := P) (q := false) (len := s.size) (cap := s.size) (lo := lo) (hi := hi) (mx := none) (m := s.size) (h := hh) (l := l) (w := w) rfl e1 e2 (by simp) h0 h1 (by unfold upTo; split <;> trivial) (Int.le_refl _)
      simp [Instr.sliceAt, run_underlying hu, Instr.slice, hmx, this]
    · exact hk.elim
  · rename_i a len cap
    split at hk
    · rename_i e hu
      split at hk
      · rename_i k m hh l hs e0 e1 e2
        obtain ⟨hx, h0, h1, h2, h3, hk⟩ := hk
        refine .here (fun w _ => ?_) hk
        have := run_bounds (P := P) (q := true) (w := w) e0 e1 e2 hx h0 h1 h2 h3
        simp [Instr.sliceAt, run_underlying hu, Instr.slice, this, run_sizeOf hs, sliceOf]
      · exact hk.elim
    · exact hk.elim
  · exact hk.elim

/-! ### make -/
def amake (P : Program) (t : TypeId) (len cap : Value) (h : Hp) (K : KH) : Prop :=
  match len, cap with
  | .int _ l, .int _ c => (match P.underlying t with
    | some (.slice e) => (match tySize P e, tyBytes P e, tyZero P e with
      | some k, some by', some z => 0 ≤ l ∧ l ≤ c ∧ (by' : Int) * c ≤ 281474976710656 ∧ c ≤ 9223372036854775807 ∧
        K (.slice (some ⟨h.n, 0, none⟩) l.toNat c.toNat) ((h.put h.n (.cells (madeCells z.cells (c.toNat * k)) e (0, 0))).to (h.n + 1))
      | _, _, _ => False)
    | _ => False)
  | _, _ => False
theorem info_all {P : Program} {t : TypeId} {k b : Nat} {z : Value} (hs : tySize P t = some k) (hb : tyBytes P t = some b) (hz : tyZero P t = some z) : ∃ i : TypeInfo, P.info? t = some i ∧ i.size = k ∧ i.bytes = b ∧ i.zero = some z := by
  unfold tySize at hs; unfold tyBytes at hb; unfold tyZero at hz
  cases hi : P.info? t with
  | none => simp [hi] at hs
  | some i => simp [hi] at hs hb hz; exact ⟨i, rfl, hs, hb, hz⟩
theorem amake_sound {P : Program} {t : TypeId} {len cap : Value} {h : Hp} {K : KH} (hk : amake P t len cap h K) : Gives P (Instr.makeSlice t len cap) h K := by
  unfold amake at hk
  split at hk
  · rename_i k1 l k2 c
    split at hk
    · rename_i e hu
      split at hk
      · rename_i k by' z hs hb hz
        obtain ⟨h0, h1, h2, h3, hk⟩ := hk
        intro w hi
        refine ⟨_, _, _, ?_, hi.push _, Same.push _ _, hk⟩
        obtain ⟨i, e1, e2, e3, e4⟩ := info_all hs hb hz
        have := run_make (P := P) w t e i z hu e1 e4 k1 k2 l c h0 h1 (by rw [e3]; exact h2) h3
        rw [e2, hi.1] at this
        exact this
      · exact hk.elim
    · exact hk.elim
  · exact hk.elim
end Go.Proofs.Ytaejmcgcfopmkaa
