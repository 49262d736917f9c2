/- The engine: append, copy, small builtins. -/
import Derived.Test.YtaejmcgcfopmkaaEngMem2
namespace Go.Proofs.Ytaejmcgcfopmkaa
open Go Go.RowKit

def srcCells (h : Hp) (k : Nat) (x : Value) : Option (Nat × List Value) :=
  match x with
  | .slice none n _ => some (n, [])
  | .slice (some ⟨b, o, none⟩) n _ => (match h.f b with
    | some (.cells c _ _) => (cellsL c o (n * k)).map (n, ·)
    | _ => none)
  | .string s => some (s.size, (byteVals s).toList)
  | _ => none
theorem srcCells_len {P : Program} {h : Hp} {k n : Nat} {x : Value} {l : List Value} (e : srcCells h k x = some (n, l)) (w : World) : (Builtin.lenOf x).run P w = .ok n w := by
  unfold srcCells at e
  split at e
  · injection e with e; injection e with e1 e2; subst e1; simp [Builtin.lenOf]
  · split at e
    · simp only [Option.map_eq_some_iff, Prod.mk.injEq] at e
      obtain ⟨_, _, rfl, _⟩ := e
      simp [Builtin.lenOf]
    · cases e
  · injection e with e; injection e with e1 e2; subst e1; simp [Builtin.lenOf]
  · cases e
theorem srcCells_run {P : Program} {h : Hp} {k n : Nat} {x : Value} {l : List Value} (e : srcCells h k x = some (n, l)) {w : World} (hi : Is w h) : (Builtin.firstCells k n x).run P w = .ok l.toArray w := by
  unfold srcCells at e
  split at e
  · injection e with e; injection e with e1 e2; subst e1 e2; simp [Builtin.firstCells]
  · split at e
    · rename_i c t fz hc
      simp only [Option.map_eq_some_iff, Prod.mk.injEq] at e
      obtain ⟨l', hl, rfl, rfl⟩ := e
      exact run_loadCells (P := P) (w := w) (fun i => hi.cell (i := i) hc) hl
    · cases e
  · rename_i s
    injection e with e
    injection e with e1 e2
    subst e1 e2
    have : s.extract 0 s.size = s := by
      obtain ⟨⟨l⟩⟩ := s
      rw [show (ByteArray.mk ⟨l⟩).size = l.length from rfl]
      exact (ByteArray.extract_mk l 0 l.length).trans (by simp)
    simp only [Builtin.firstCells, byteVals, this, Sem.run_pure]
  · cases e
theorem growBy_le (need : Nat) : ∀ (r c : Nat), Builtin.growBy need r c ≤ max c (need + (need + 768) / 4)
  | 0, c => by simp [Builtin.growBy]; omega
  | r + 1, c => by
    simp only [Builtin.growBy]
    split
    · omega
    · have := growBy_le need r (c + (c + 768) / 4)
      omega
theorem nextcap_le (need cap : Nat) (h : cap < need) : Builtin.nextslicecap need cap ≤ 2 * need := by
  unfold Builtin.nextslicecap
  split
  · omega
  · split
    · omega
    · have := growBy_le need 4 cap
      omega
def growK (e : TypeId) (z : Value) (need : Nat) (old new : List Value) (h : Hp) (K : KH) : Prop :=
  ∀ cap, need ≤ cap → K (.slice (some ⟨h.n, 0, none⟩) need cap) ((h.put h.n (.cells (old ++ (new ++ copies z.cells.toList (cap - need))).toArray e (0, 0))).to (h.n + 1))
def stayK (base : Option Addr) (k sLen n sCap : Nat) (new : List Value) (h : Hp) (K : KH) : Prop :=
  match base with
  | none => K (.slice none (sLen + n) sCap) h
  | some ⟨b, o, none⟩ => (match h.f b with
    | some (.cells c e fz) => new.all Value.oneCell' = true ∧ o + sLen * k + new.length ≤ c.size ∧ Free fz (o + sLen * k) new.length ∧
      K (.slice (some ⟨b, o, none⟩) (sLen + n) sCap) (h.put b (.cells (writeL c (o + sLen * k) new) e fz))
    | _ => False)
  | _ => False
def aappend (P : Program) (t tx : TypeId) (s x : Value) (h : Hp) (K : KH) : Prop :=
  match s with
  | .slice base sLen sCap => ∃ e dx k by' z n new, P.underlying t = some (.slice e) ∧ P.underlying tx = some dx ∧ (∀ q, dx ≠ .int q) ∧ tySize P e = some k ∧ tyBytes P e = some by' ∧ tyZero P e = some z ∧
    z.cells.size = k ∧ 0 < by' ∧ srcCells h k x = some (n, new) ∧
    (sLen + n ≤ sCap → stayK base k sLen n sCap new h K) ∧
    (sCap < sLen + n → (sLen + n) * by' ≤ 140737488355328 ∧ ∃ old, srcCells h k s = some (sLen, old) ∧ growK e z (sLen + n) old new h K)
  | _ => False
theorem aappend_sound {P : Program} {t tx ty : TypeId} {s x : Value} {h : Hp} {K : KH} (hk : aappend P t tx s x h K) : Gives P (Builtin.append_ #[t, tx] ty #[s, x]) h K := by
  unfold aappend at hk
  split at hk
  · rename_i base sLen sCap
    obtain ⟨e, dx, k, by', z, n, new, hu, hx, hni, hs, hb, hz, hzs, hb0, hsrc, hin, hout⟩ := hk
    obtain ⟨i, e1, e2, e3, e4⟩ := info_all hs hb hz
    intro w hi
    have hlen := srcCells_len (P := P) hsrc w
    have hcells := srcCells_run (P := P) hsrc hi
    by_cases hle : sLen + n ≤ sCap
    · have hst := hin hle
      unfold stayK at hst
      split at hst
      · refine ⟨_, w, h, ?_, hi, Same.refl w, hst⟩
        simp only [Builtin.append_]
        simp [run_underlying hu, run_underlying hx, run_sizeOf hs]
        cases dx <;> first | (exact (hni _ rfl).elim) | simp [hlen, hle, hcells]
      · rename_i b o
        split at hst
        · rename_i c e' fz hc
          obtain ⟨h1, h2, h3, hst⟩ := hst
          obtain ⟨w', hr, hi', hsame⟩ := run_storeCells (P := P) new w h c (o + sLen * k) 0 (fun v hv => List.all_eq_true.1 h1 v hv) (by simpa using h2) (by simpa using h3) hi hc
          refine ⟨_, w', _, ?_, hi', hsame, by simpa using hst⟩
          simp only [Builtin.append_]
          simp [run_underlying hu, run_underlying hx, run_sizeOf hs]
          cases dx <;> first | (exact (hni _ rfl).elim) | simp [hlen, hle, hcells, add_addr, hr]
        · exact hst.elim
      · exact hst.elim
    · obtain ⟨hby, old, ho, hg⟩ := hout (by omega)
      obtain ⟨cap, hcd⟩ : ∃ cap, (Question.appendCap (sLen + n) sCap e).cut (w.tape w.drawn (.appendCap (sLen + n) sCap e)) = cap := ⟨_, rfl⟩
      have hcap : sLen + n ≤ cap := by rw [← hcd]; exact Nat.le_add_right _ _
      have hi1 : Is w.drew h := hi
      have hff : (Question.appendCap (sLen + n) sCap e).forced = false := rfl
      have hcells1 := srcCells_run (P := P) hsrc hi1
      have hold1 := srcCells_run (P := P) ho hi1
      refine ⟨_, _, _, ?_, hi1.push _, ⟨rfl, rfl, rfl⟩, hg cap hcap⟩
      have hn1 : ¬ (sLen + n ≤ sCap) := hle
      have hn2 : ¬ ((((sLen + n : Nat) : Int) > IntKind.i64.max) ∧ (False ∨ i.bytes = 0)) := by
        intro hh
        rcases hh.2 with hh | hh
        · exact hh
        · omega
      have hmul : Builtin.nextslicecap (sLen + n) sCap * i.bytes ≤ 281474976710656 := by
        have := nextcap_le (sLen + n) sCap (by omega)
        have h2 := Nat.mul_le_mul_right i.bytes this
        rw [e3] at h2 ⊢
        rw [Nat.mul_assoc] at h2
        omega
      have hask : ∀ m, (askRoom m).run P w.drew = .ok () w.drew := fun m => by unfold askRoom; split <;> simp [mark, Sem.run]
      have hzc : Builtin.zeroCells z.cells (cap - (sLen + n)) = (copies z.cells.toList (cap - (sLen + n))).toArray := by
        rw [← madeCells_copies]; rfl
      have hti : ∀ w', (typeInfo e).run P w' = .ok i w' := fun w' => by simp [typeInfo, e1]
      have hn3 : ¬ (i.bytes = 0) := by omega
      have hn4 : ¬ (281474976710656 < Builtin.nextslicecap (sLen + n) sCap * i.bytes) := by omega
      simp only [Builtin.append_]
      simp [run_underlying hu, run_underlying hx, run_sizeOf hs]
      cases dx <;> first
        | (exact (hni _ rfl).elim)
        | (simp [hlen, hn1, hti, hn3, hn4, hff, hcd, hask, hcells1, hold1, run_zeroValue hz, hzc]
           rw [run_newRow e _ hi1]
           simp)
  · exact hk.elim
def firstC (h : Hp) (k n : Nat) (x : Value) : Option (List Value) :=
  match x with
  | .slice none _ _ => some []
  | .slice (some ⟨b, o, none⟩) _ _ => (match h.f b with
    | some (.cells c _ _) => cellsL c o (n * k)
    | _ => none)
  | .string s => some ((s.toList.take n).map fun b => .int .u8 b.toNat)
  | _ => none
def lenV : Value → Option Nat
  | .slice _ n _ => some n
  | .string s => some s.size
  | _ => none
def acopy (P : Program) (t : TypeId) (d x : Value) (h : Hp) (K : KH) : Prop :=
  match d with
  | .slice base dLen _ => (match P.underlying t, lenV x with
    | some (.slice e), some m => (match tySize P e with
      | some k => (match firstC h k (min m dLen) x with
        | some l => (match base with
          | none => K (.int .i64 (min m dLen : Nat)) h
          | some ⟨b, o, none⟩ => (match h.f b with
            | some (.cells c e' fz) => l.all Value.oneCell' = true ∧ o + l.length ≤ c.size ∧ Free fz o l.length ∧ K (.int .i64 (min m dLen : Nat)) (h.put b (.cells (writeL c o l) e' fz))
            | _ => False)
          | _ => False)
        | none => False)
      | none => False)
    | _, _ => False)
  | _ => False
theorem firstC_run {P : Program} {h : Hp} {k n : Nat} {x : Value} {l : List Value} (e : firstC h k n x = some l) {w : World} (hi : Fits w h) : (Builtin.firstCells k n x).run P w = .ok l.toArray w := by
  unfold firstC at e
  split at e
  · injection e with e; subst e; simp [Builtin.firstCells]
  · split at e
    · rename_i c t fz hc
      exact run_loadCells (P := P) (w := w) (fun i => hi.cell (i := i) hc) e
    · cases e
  · rename_i s
    injection e with e
    subst e
    obtain ⟨⟨l⟩⟩ := s
    have h1 : (ByteArray.mk ⟨l⟩).extract 0 n = ByteArray.mk (l.take n).toArray := (ByteArray.extract_mk l 0 n).trans (by simp)
    have h2 : (ByteArray.mk ⟨l⟩).toList = l := ByteArray.toList_mk l
    simp only [Builtin.firstCells, h1, h2, Sem.run_pure]
    congr 1
    apply Array.ext'
    simp
  · cases e
theorem acopy_sound {P : Program} {t : TypeId} {ats : Array TypeId} {ty : TypeId} {d x : Value} {h : Hp} {K : KH} (ht : ats[0]? = some t) (hk : acopy P t d x h K) : Gives P (Builtin.copy_ ats ty #[d, x]) h K := by
  unfold acopy at hk
  split at hk
  · rename_i base dLen dCap
    split at hk
    · rename_i e m hu hl
      have hlen : ∀ w, (Builtin.lenOf x).run P w = .ok m w := fun w => by
        unfold lenV at hl
        split at hl <;> first | (injection hl with hl; subst hl; simp [Builtin.lenOf]) | cases hl
      split at hk
      · rename_i k hs
        split at hk
        · rename_i l hf
          split at hk
          · refine PG.gives (.here (fun w hi => ?_) hk)
            have hfc := firstC_run (P := P) hf hi
            simp [Builtin.copy_, ht, run_underlying hu, hlen, run_sizeOf hs, show Nat.min m dLen = min m dLen from rfl, hfc, goInt]
          · rename_i b o
            split at hk
            · rename_i c e' fz hc
              obtain ⟨h1, h2, h3, hk⟩ := hk
              intro w hi
              obtain ⟨w', hr, hi', hsame⟩ := run_storeCells (P := P) l w h c o 0 (fun v hv => List.all_eq_true.1 h1 v hv) (by simpa using h2) (by simpa using h3) hi hc
              refine ⟨_, w', _, ?_, hi', hsame, by simpa using hk⟩
              have hfc := firstC_run (P := P) hf hi.fits
              simp [Builtin.copy_, ht, run_underlying hu, hlen, run_sizeOf hs, show Nat.min m dLen = min m dLen from rfl, hfc, hr, goInt]
            · exact hk.elim
          · exact hk.elim
        · exact hk.elim
      · exact hk.elim
    · exact hk.elim
  · exact hk.elim
def alen (P : Program) (t : TypeId) (x : Value) (h : Hp) (K : Value → Prop) : Prop :=
  match P.underlying t, x with
  | some .string, .string s => K (.int .i64 s.size)
  | some (.slice _), .slice _ n _ => K (.int .i64 n)
  | some (.array n _), _ => K (.int .i64 n)
  | some (.map _ _), .map none => K (.int .i64 0)
  | some (.map _ _), .map (some r) => (match h.f r with
    | some (.map es _) => K (.int .i64 es.size)
    | _ => False)
  | _, _ => False
theorem run_getMap {P : Program} {w : World} {h : Hp} (hi : Fits w h) {r : Nat} {es : Array MapEntry} {cl : Nat} (e : h.f r = some (.map es cl)) : (getObj r).run P w = .ok (.map es cl) w := by
  have h1 := hi r _ e
  simp [getObj, Sem.run, h1]
theorem alen_sound {P : Program} {t ty : TypeId} {x : Value} {h : Hp} {K : Value → Prop} (hk : alen P t x h K) : PG P (Builtin.len_ #[t] ty #[x]) h K := by
  unfold alen at hk
  split at hk
  · rename_i s hu; exact .here (fun w _ => by simp [Builtin.len_, run_underlying hu, goInt]) hk
  · rename_i e a n c hu; exact .here (fun w _ => by simp [Builtin.len_, run_underlying hu, goInt]) hk
  · rename_i n e hu; exact .here (fun w _ => by simp [Builtin.len_, run_underlying hu, goInt]) hk
  · rename_i k e hu; exact .here (fun w _ => by simp [Builtin.len_, run_underlying hu, goInt]) hk
  · rename_i k e r hu
    split at hk
    · rename_i es cl he
      exact .here (fun w hi => by simp only [Builtin.len_]; simp [run_underlying hu, goInt, run_getMap hi he]) hk
    · exact hk.elim
  · exact hk.elim
def aminmax (mx : Bool) (x y : Value) (K : Value → Prop) : Prop :=
  match x, y with
  | .int k a, .int _ b => K (.int k (if mx then max a b else min a b))
  | _, _ => False
theorem amin_sound {P : Program} {ats : Array TypeId} {ty : TypeId} {x y : Value} {h : Hp} {K : Value → Prop} (hk : aminmax false x y K) : PG P (Builtin.min_ ats ty #[x, y]) h K := by
  unfold aminmax at hk
  split at hk
  · rename_i k a k' b
    refine .here (fun w _ => ?_) hk
    have : (if b < a then b else a) = min a b := by omega
    simp [Builtin.min_, Builtin.min2, this]
  · exact hk.elim
theorem amax_sound {P : Program} {ats : Array TypeId} {ty : TypeId} {x y : Value} {h : Hp} {K : Value → Prop} (hk : aminmax true x y K) : PG P (Builtin.max_ ats ty #[x, y]) h K := by
  unfold aminmax at hk
  split at hk
  · rename_i k a k' b
    refine .here (fun w _ => ?_) hk
    have : (if b > a then b else a) = max a b := by omega
    simp [Builtin.max_, Builtin.max2, this]
  · exact hk.elim
end Go.Proofs.Ytaejmcgcfopmkaa
