/- The engine: maps whose keys are integers or strings. -/
import Derived.Test.YtaejmcgcfopmkaaEngMem3
namespace Go.Proofs.Ytaejmcgcfopmkaa
open Go Go.RowKit

def simpleKind : TypeDesc → Bool
  | .int _ => true
  | .string => true
  | _ => false
/-- The kind of a map's keys and its elements' type. -/
def mapKind (P : Program) (t : TypeId) : Option (TypeId × TypeDesc × TypeId) := match P.underlying t with
  | some (.map kt et) => (match P.underlying kt with
    | some kd => if simpleKind kd = true then some (kt, kd, et) else none
    | none => none)
  | _ => none
theorem mapKind_spec {P : Program} {t kt et : TypeId} {kd : TypeDesc} (h : mapKind P t = some (kt, kd, et)) : P.underlying t = some (.map kt et) ∧ P.underlying kt = some kd ∧ simpleKind kd = true := by
  unfold mapKind at h
  split at h
  · rename_i a b hu
    split at h
    · rename_i k hk
      split at h
      · rename_i hs
        simp only [Option.some.injEq, Prod.mk.injEq] at h
        obtain ⟨rfl, rfl, rfl⟩ := h
        exact ⟨hu, hk, hs⟩
      · cases h
    · cases h
  · cases h
theorem run_checkKey {P : Program} {kt : TypeId} {kd : TypeDesc} (hk : P.underlying kt = some kd) (hs : simpleKind kd = true) (q : Bool) (v : Value) (w : World) : (Instr.checkKey q 10000 kt v).run P w = .ok () w := by
  have h : ∀ n, (Instr.checkKey q (n + 1) kt v).run P w = .ok () w := fun n => by
    simp only [Instr.checkKey, Sem.run_bind, run_underlying hk, Result.andThen_ok]
    cases kd <;> first | (simp [simpleKind] at hs; done) | simp
  exact h 9999
/-- The first entry of a key. -/
def mfind (kd : TypeDesc) (k : Value) : List MapEntry → Nat → Option (Option (Nat × Value))
  | [], _ => some none
  | e :: es, i => (match Instr.sameNow kd k e.key with
    | some true => some (some (i, e.val))
    | some false => mfind kd k es (i + 1)
    | none => none)
theorem mfind_eq (kd : TypeDesc) (k : Value) : ∀ (l : List MapEntry) (i : Nat), Instr.findNow kd k l i = mfind kd k l i
  | [], _ => rfl
  | e :: es, i => by
    simp only [Instr.findNow, mfind]
    cases Instr.sameNow kd k e.key with
    | none => rfl
    | some q => cases q
                · exact mfind_eq kd k es (i + 1)
                · rfl
theorem run_findKey {P : Program} {kt : TypeId} {kd : TypeDesc} (hk : P.underlying kt = some kd) {k : Value} {l : List MapEntry} {r : Option (Nat × Value)} (h : mfind kd k l 0 = some r) (w : World) : (Instr.findKey kt k l).run P w = .ok r w := by
  simp only [Instr.findKey, Sem.run_bind, run_underlying hk, Result.andThen_ok, mfind_eq, h]
  rfl
def mapRow (h : Hp) (m : Value) : Option (List MapEntry) := match m with
  | .map none => some []
  | .map (some r) => (match h.f r with
    | some (.map es _) => some es.toList
    | _ => none)
  | _ => none
def found (z : Option Value) (ok : Bool) (r : Option (Nat × Value)) : Option Value := match r with
  | some (_, v) => some (if ok then .tuple #[v, .bool true] else v)
  | none => z.map fun z => if ok then .tuple #[z, .bool false] else z
def lookupR (P : Program) (t : TypeId) (m k : Value) (ok : Bool) (h : Hp) : Option Value :=
  (mapKind P t).bind fun x => (mapRow h m).bind fun l => (mfind x.2.1 k l 0).bind fun r => found (tyZero P x.2.2) ok r
def alookup (P : Program) (t : TypeId) (m k : Value) (ok : Bool) (h : Hp) (K : Value → Prop) : Prop := match lookupR P t m k ok h with
  | some v => K v
  | none => False
theorem alookup_sound {P : Program} {t : TypeId} {m k : Value} {ok : Bool} {h : Hp} {K : Value → Prop} (hk : alookup P t m k ok h K) : PG P (Instr.lookup t m k ok) h K := by
  unfold alookup at hk
  split at hk
  · rename_i v hv
    refine .here (fun w hi => ?_) hk
    simp only [lookupR, Option.bind_eq_some_iff] at hv
    obtain ⟨⟨kt, kd, et⟩, hm, l, hl, r, hr, hf⟩ := hv
    obtain ⟨hu, hku, hs⟩ := mapKind_spec hm
    dsimp only at hr hf
    have fin : ∀ es : Array MapEntry, es.toList = l → ((do
        Instr.checkKey es.isEmpty 10000 kt k
        match ← Instr.findKey kt k es.toList with
          | some (_, v) => do
            let x ← pure (v, true)
            pure (if ok then .tuple #[x.1, .bool x.2] else x.1)
          | none => do
            let z ← zeroValue et
            let x ← pure (z, false)
            pure (if ok then .tuple #[x.1, .bool x.2] else x.1)) : Sem Value).run P w = .ok v w := by
      intro es hes
      subst hes
      simp only [run_checkKey hku hs, Result.andThen_ok, run_findKey hku hr, Sem.run_bind]
      unfold found at hf
      split at hf
      · injection hf with hf; subst hf; simp
      · simp only [Option.map_eq_some_iff] at hf
        obtain ⟨z, hz, rfl⟩ := hf
        simp [run_zeroValue hz]
    unfold mapRow at hl
    split at hl
    · injection hl with hl
      have := fin #[] (by simpa using hl)
      simp only [Sem.run_bind] at this
      simp only [Instr.lookup, Sem.run_bind, run_underlying hu, Result.andThen_ok, Sem.run_pure]
      exact this
    · rename_i r'
      split at hl
      · rename_i es cl he
        injection hl with hl
        have := fin es hl
        simp only [Sem.run_bind] at this
        simp only [Instr.lookup, Sem.run_bind, run_underlying hu, Result.andThen_ok, run_getMap hi he, Sem.run_pure]
        exact this
      · cases hl
    · cases hl
  · exact hk.elim
/-- A map's entries, the one at i changed. -/
def chg (k v : Value) : List MapEntry → Nat → List MapEntry
  | [], _ => []
  | e :: es, 0 => { e with key := k, val := v } :: es
  | e :: es, i + 1 => e :: chg k v es i
theorem chg_eq (k v : Value) : ∀ (l : List MapEntry) (i : Nat), l.modify i (fun e : MapEntry => { e with key := k, val := v }) = chg k v l i
  | [], i => by cases i <;> rfl
  | e :: es, 0 => rfl
  | e :: es, i + 1 => by simp [chg, chg_eq k v es i]
def putEs (k v : Value) (es : List MapEntry) (cl : Nat) (r : Option (Nat × Value)) : Obj := match r with
  | some (i, _) => .map (chg k v es i).toArray cl
  | none => .map (es ++ [({ key := k, val := v, born := cl } : MapEntry)]).toArray (cl + 1)
def mapUpdR (P : Program) (t : TypeId) (m k v : Value) (h : Hp) : Option Hp :=
  match m with
  | .map (some r) => (match h.f r with
    | some (.map es cl) => (mapKind P t).bind fun x => (mfind x.2.1 k es.toList 0).map fun q => h.put r (putEs k v es.toList cl q)
    | _ => none)
  | _ => none
def amapUpd (P : Program) (t : TypeId) (m k v : Value) (h : Hp) (K : KH) : Prop := match mapUpdR P t m k v h with
  | some g => K undef g
  | none => False
theorem Is.setMap {w : World} {h : Hp} (hi : Is w h) {r : Nat} {es es' : Array MapEntry} {cl cl' : Nat} (e : h.f r = some (.map es cl)) (P : Program) :
    ∃ w', (setObj r (.map es' cl')).run P w = .ok () w' ∧ Is w' (h.put r (.map es' cl')) ∧ Same w w' := by
  have h1 := hi.2 r _ e
  have hlt : r < w.heap.size := (Array.getElem?_eq_some_iff.1 h1).1
  refine ⟨{ w with heap := w.heap.setIfInBounds r (.map es' cl') }, ?_, hi.set e (by simp) (by simp [hlt]) (fun x hx => ?_), ⟨rfl, rfl, rfl⟩⟩
  · simp [setObj, Sem.run, h1]
  · have : ¬ r = x := fun e => hx e.symm
    simp [Array.getElem?_setIfInBounds_ne this]
theorem bytes_beq (a b : ByteArray) : (a == b) = true ↔ a = b := by
  obtain ⟨x⟩ := a
  obtain ⟨y⟩ := b
  show (ByteArray.mk x).beq (ByteArray.mk y) = true ↔ _
  simp [ByteArray.beq]
theorem sameNow_bits {kd : TypeDesc} {a b : Value} (h : Instr.sameNow kd a b = some true) (n : Nat) : Instr.sameBits n b a = true := by
  unfold Instr.sameNow at h
  split at h
  · split at h
    · rename_i hk; subst hk
      injection h with h
      simp only [beq_iff_eq] at h
      subst h
      simp [Instr.sameBits]
    · cases h
  · injection h with h
    rw [bytes_beq] at h
    subst h
    simp only [Instr.sameBits]
    exact (bytes_beq _ _).2 rfl
  · injection h with h
    simp only [beq_iff_eq] at h
    subst h
    simp [Instr.sameBits]
  · cases h
theorem mfind_same {kd : TypeDesc} {k : Value} : ∀ (l : List MapEntry) (i j : Nat) (v : Value), mfind kd k l i = some (some (j, v)) → i ≤ j ∧ ∃ e, l[j - i]? = some e ∧ Instr.sameNow kd k e.key = some true ∧ e.val = v
  | [], i, j, v, h => by cases h
  | e :: es, i, j, v, h => by
    simp only [mfind] at h
    split at h
    · rename_i hs
      simp only [Option.some.injEq, Prod.mk.injEq] at h
      obtain ⟨rfl, rfl⟩ := h
      exact ⟨Nat.le_refl _, e, by simp, hs, rfl⟩
    · obtain ⟨hle, e', h1, h2, h3⟩ := mfind_same es (i + 1) j v h
      refine ⟨by omega, e', ?_, h2, h3⟩
      obtain ⟨d, rfl⟩ : ∃ d, j = i + 1 + d := ⟨j - (i + 1), by omega⟩
      rw [show i + 1 + d - i = d + 1 from by omega]
      rw [show i + 1 + d - (i + 1) = d from by omega] at h1
      simpa using h1
    · cases h
theorem amapUpd_sound {P : Program} {t : TypeId} {m k v : Value} {h : Hp} {K : KH} (hk : amapUpd P t m k v h K) (w : World) (hi : Is w h) :
    ∃ w' h', (Instr.mapUpdate t m k v).run P w = .ok () w' ∧ Is w' h' ∧ Same w w' ∧ K undef h' := by
  unfold amapUpd at hk
  split at hk
  · rename_i g hg
    unfold mapUpdR at hg
    split at hg
    · rename_i r
      split at hg
      · rename_i es cl he
        simp only [Option.bind_eq_some_iff, Option.map_eq_some_iff] at hg
        obtain ⟨⟨kt, kd, et⟩, hm, q, hq, rfl⟩ := hg
        obtain ⟨hu, hku, hs⟩ := mapKind_spec hm
        dsimp only at hq
        cases q with
        | none =>
          obtain ⟨w', h1, h2, h3⟩ := hi.setMap (es' := (es.toList ++ [({ key := k, val := v, born := cl } : MapEntry)]).toArray) (cl' := cl + 1) he P
          refine ⟨w', _, ?_, h2, h3, hk⟩
          have e : (es.toList ++ [({ key := k, val := v, born := cl } : MapEntry)]).toArray = es.push ({ key := k, val := v, born := cl } : MapEntry) := by
            apply Array.ext'; simp
          rw [e] at h1
          simp only [Instr.mapUpdate, Sem.run_bind, run_underlying hu, Result.andThen_ok, run_getMap hi.fits he, run_checkKey hku hs, run_findKey hku hq, h1]
        | some x =>
          obtain ⟨i, u⟩ := x
          obtain ⟨_, e', he', hsame, _⟩ := mfind_same es.toList 0 i u hq
          obtain ⟨w', h1, h2, h3⟩ := hi.setMap (es' := (chg k v es.toList i).toArray) (cl' := cl) he P
          refine ⟨w', _, ?_, h2, h3, hk⟩
          have e : (chg k v es.toList i).toArray = es.modify i (fun e : MapEntry => { e with key := k, val := v }) := by
            apply Array.ext'; rw [← chg_eq]; simp
          rw [e] at h1
          have hk0 : ((es[i]?).map (·.key)).getD k = e'.key := by
            have : es[i]? = some e' := by simpa using he'
            simp [this]
          have hst : (Instr.keyThatStays e'.key k).run P w = .ok k w := by
            unfold Instr.keyThatStays
            rw [if_pos (sameNow_bits hsame 10000)]
            rfl
          simp only [Instr.mapUpdate, Sem.run_bind, run_underlying hu, Result.andThen_ok, run_getMap hi.fits he, run_checkKey hku hs, run_findKey hku hq, hk0, hst, h1]
      · cases hg
    · cases hg
  · exact hk.elim
theorem amakeMap_sound {P : Program} {t : TypeId} {h : Hp} {K : KH} (hk : K (.map (some h.n)) ((h.put h.n (.map #[] 0)).to (h.n + 1))) : Gives P (Instr.makeMap t none) h K := fun w hi => by
  refine ⟨_, _, _, ?_, hi.push _, Same.push _ _, hk⟩
  simp [Instr.makeMap, newObj, Sem.run, hi.1]
end Go.Proofs.Ytaejmcgcfopmkaa
