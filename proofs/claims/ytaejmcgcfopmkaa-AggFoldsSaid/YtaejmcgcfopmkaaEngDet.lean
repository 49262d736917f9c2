/- The engine: the quiet operations yield one value; more of what follows is more. -/
import Derived.Test.YtaejmcgcfopmkaaEngCode
namespace Go.Proofs.Ytaejmcgcfopmkaa
open Go Go.RowKit
section
variable {P : Program} {C C' : Value → Prop}
/-- A transformer that is 'one value, under a condition'. -/
structure One (F : (Value → Prop) → Prop) : Prop where
  mono : ∀ {C C' : Value → Prop}, (∀ v, C v → C' v) → F C → F C'
  both : ∀ {C C' : Value → Prop}, F C → F C' → ∃ u, C u ∧ C' u ∧ F (fun v => v = u)
theorem One.det {F : (Value → Prop) → Prop} (hf : One F) {C : Value → Prop} (h : F C) : ∃ u, C u ∧ ∀ C' : Value → Prop, C' u → F C' := by
  obtain ⟨u, h1, _, h2⟩ := hf.both h h
  exact ⟨u, h1, fun C' hc => hf.mono (fun v (hv : v = u) => by rw [hv]; exact hc) h2⟩
theorem One.ap (v : Value) : One (fun C => C v) := ⟨fun h k => h _ k, fun h k => ⟨v, h, k, rfl⟩⟩
theorem One.false : One (fun _ => False) := ⟨fun _ h => h.elim, fun h => h.elim⟩
theorem One.and {p : Prop} {F : (Value → Prop) → Prop} (hf : One F) : One (fun C => p ∧ F C) :=
  ⟨fun h k => ⟨k.1, hf.mono h k.2⟩, fun h k => let ⟨u, h1, h2, h3⟩ := hf.both h.2 k.2; ⟨u, h1, h2, h.1, h3⟩⟩
theorem One.opt {α : Type} (r : Option α) {F : α → (Value → Prop) → Prop} (hf : ∀ a, One (F a)) : One (fun C => match r with | some a => F a C | none => False) := by
  cases r with
  | none => exact One.false
  | some a => exact hf a
theorem one_bin (op : BinOp) (t : TypeId) (x y : Value) : One (abin P op t x y) := by
  unfold abin
  cases x <;> cases y <;> try exact One.false
  case int.int => cases op <;> first | exact .and (.and (.ap _)) | exact .and (.ap _)
  case string.string => cases op <;> first | exact .and (.ap _) | exact .ap _ | exact .false
  case bool.bool => cases op <;> first | exact .and (.ap _) | exact .false
  case pointer.pointer p q =>
    cases q with
    | some a => exact .false
    | none =>
      cases op <;> try exact One.false
      all_goals (cases P.underlying t with
        | none => exact .false
        | some d => cases d <;> first | exact .ap _ | exact .false)
  case slice.slice p n c q n' c' =>
    cases q with
    | some a => exact .false
    | none =>
      cases op <;> try exact One.false
      all_goals (cases P.underlying t with
        | none => exact .false
        | some d => cases d <;> first | exact .ap _ | exact .false)
  case agg.agg xs ys =>
    dsimp only
    cases aggEq P t xs ys with
    | none => cases op <;> exact .false
    | some q => cases op <;> first | exact .ap _ | exact .false
theorem one_binH (op : BinOp) (t : TypeId) (x y : Value) (h : Hp) : One (abinH P op t x y h) := by
  unfold abinH
  split
  · unfold aptr
    split
    · exact .and (.and (.ap _))
    · exact .and (.and (.ap _))
    · exact .false
  · exact one_bin _ _ _ _
theorem one_un (op : UnOp) (x : Value) : One (aun op x) := by
  unfold aun
  cases op <;> cases x <;> first | exact .ap _ | exact .false
theorem one_load (t : TypeId) (a : Value) (h : Hp) : One (aload P t a h) := by
  unfold aload
  split
  · rename_i b o
    cases h.f b with
    | none => exact .false
    | some x =>
      cases x <;> try exact One.false
      rename_i c e fz
      cases tyAgg P t with
      | none => exact .false
      | some q =>
        cases q
        · dsimp only
          cases c[o]? <;> first | exact .false | exact .ap _
        · dsimp only
          cases tySize P t with
          | none => exact .false
          | some n =>
            dsimp only
            cases cellsL c o n <;> first | exact .false | exact .ap _
  · exact .false
theorem one_fieldAddr (s : TypeId) (a : Value) (i : Nat) : One (afieldAddr P s a i) := by
  unfold afieldAddr
  split
  · exact .ap _
  · exact .false
theorem one_part (t : TypeId) (cs : Array Value) (off : Nat) : One (apart_ P t cs off) := by
  unfold apart_
  cases tyAgg P t with
  | none => exact .false
  | some q =>
    cases q
    · dsimp only
      cases cs[off]? <;> first | exact .false | exact .ap _
    · dsimp only
      cases tySize P t <;> first | exact .false | exact .ap _
theorem one_field (s : TypeId) (x : Value) (i : Nat) : One (afield P s x i) := by
  unfold afield
  split
  · exact one_part _ _ _
  · exact .false
theorem one_indexAddr (t : TypeId) (x ix : Value) : One (aindexAddr P t x ix) := by
  unfold aindexAddr
  split
  · split
    · refine .and (.and ?_)
      cases tySize P _ <;> first | exact .false | exact .ap _
    · refine .and (.and ?_)
      cases tySize P _ <;> first | exact .false | exact .ap _
    · exact .false
  · exact .false
theorem one_index (t : TypeId) (x ix : Value) : One (aindex P t x ix) := by
  unfold aindex
  split
  · split
    · refine .and (.and ?_)
      cases tySize P _ <;> first | exact .false | exact one_part _ _ _
    · refine .and ?_
      rename_i i _ _ s _
      cases s.toList[i.toNat]? <;> first | exact .false | exact .ap _
    · exact .false
  · exact .false
theorem one_extract (x : Value) (i : Nat) : One (aextract x i) := by
  unfold aextract
  split
  · rename_i vs
    cases vs[i]? <;> first | exact .false | exact .ap _
  · exact .false
theorem one_len (t : TypeId) (x : Value) (h : Hp) : One (alen P t x h) := by
  unfold alen
  split
  · exact .ap _
  · exact .ap _
  · exact .ap _
  · exact .ap _
  · split
    · exact .ap _
    · exact .false
  · exact .false
theorem one_mm (q : Bool) (x y : Value) : One (aminmax q x y) := by
  unfold aminmax
  split
  · exact .ap _
  · exact .false
theorem one_lookup (t : TypeId) (m k : Value) (ok : Bool) (h : Hp) : One (alookup P t m k ok h) := by
  unfold alookup
  cases lookupR P t m k ok h <;> first | exact .false | exact .ap _
theorem one_slice (t : TypeId) (x : Value) (lo hi mx : Option Value) : One (aslice P t x lo hi mx) := by
  unfold aslice
  split
  · refine .and (.and ?_)
    split
    · exact .and (.and (.and (.ap _)))
    · exact .false
  · split
    · split
      · exact .and (.and (.and (.and (.and (.ap _)))))
      · exact .false
    · exact .false
  · exact .false
theorem one_pure (o : Op) (ρ : Env) (h : Hp) : One (apure P o ρ h) := by
  unfold apure
  split
  · exact .ap _
  · exact .ap _
  · split
    · exact .ap _
    · exact .false
  · split
    · exact .ap _
    · exact .false
  · exact one_load _ _ _
  · split
    · exact .ap _
    · exact .ap _
    · exact .false
  · exact one_binH _ _ _ _ _
  · exact one_un _ _
  · exact .ap _
  · exact one_slice _ _ _ _ _
  · exact one_fieldAddr _ _ _
  · exact one_field _ _ _
  · exact one_indexAddr _ _ _
  · exact one_index _ _ _
  · exact one_extract _ _
  · exact one_lookup _ _ _ _ _
  · split
    · unfold qbuiltin
      split
      · exact one_len _ _ _
      · exact one_mm _ _ _
      · exact one_mm _ _ _
      · exact .false
    · exact .false
  · exact .false
end
/-- More of what follows is more. -/
structure Mono (F : KH → Prop) : Prop where
  mono : ∀ {K K' : KH}, (∀ v h, K v h → K' v h) → F K → F K'
section
variable {P : Program}
theorem Mono.ap (v : Value) (h : Hp) : Mono (fun K => K v h) := ⟨fun m k => m _ _ k⟩
theorem Mono.false : Mono (fun _ => False) := ⟨fun _ h => h.elim⟩
theorem Mono.and {p : Prop} {F : KH → Prop} (hf : Mono F) : Mono (fun K => p ∧ F K) := ⟨fun h k => ⟨k.1, hf.mono h k.2⟩⟩
theorem Mono.opt {α : Type} (r : Option α) {F : α → KH → Prop} (hf : ∀ a, Mono (F a)) : Mono (fun K => match r with | some a => F a K | none => False) := by
  cases r with
  | none => exact Mono.false
  | some a => exact hf a
theorem One.toMono {F : (Value → Prop) → Prop} (hf : One F) (h : Hp) : Mono (fun K => F fun v => K v h) := ⟨fun m k => hf.mono (fun v hv => m v h hv) k⟩
theorem mono_conv (s d : TypeId) (x : Value) (h : Hp) : Mono (aconv P s d x h) := ⟨fun {K K'} m k => by
  unfold aconv at *
  split at k
  · split at k
    · exact m _ _ k
    · exact k.elim
  · split at k
    · exact m _ _ k
    · exact ⟨k.1, fun cap hc => m _ _ (k.2 cap hc)⟩
    · exact k.elim
  · split at k
    · refine ⟨k.1, ?_⟩
      have k2 := k.2
      split at k2
      · exact m _ _ k2
      · split at k2
        · split at k2
          · exact m _ _ k2
          · exact k2.elim
        · exact k2.elim
      · exact k2.elim
    · exact k.elim
  · exact k.elim⟩
theorem mono_store (t : TypeId) (a v : Value) (h : Hp) : Mono (astore P t a v h) := by
  unfold astore
  split
  · split
    · exact .and (.and (.and (.and (.ap _ _))))
    · exact .false
  · exact .false
theorem mono_make (t : TypeId) (l c : Value) (h : Hp) : Mono (amake P t l c h) := by
  unfold amake
  split
  · split
    · split
      · exact .and (.and (.and (.and (.ap _ _))))
      · exact .false
    · exact .false
  · exact .false
theorem mono_copy (t : TypeId) (d x : Value) (h : Hp) : Mono (acopy P t d x h) := by
  unfold acopy
  split
  · split
    · split
      · split
        · split
          · exact .ap _ _
          · split
            · exact .and (.and (.and (.ap _ _)))
            · exact .false
          · exact .false
        · exact .false
      · exact .false
    · exact .false
  · exact .false
theorem mono_append (t u : TypeId) (s x : Value) (h : Hp) : Mono (aappend P t u s x h) := ⟨fun {K K'} m k => by
  unfold aappend at *
  split at k
  · obtain ⟨e, dx, k1, by', z, n, new, h1, h2, h3, h4, h5, h6, h7, h8, h9, h10, h11⟩ := k
    refine ⟨e, dx, k1, by', z, n, new, h1, h2, h3, h4, h5, h6, h7, h8, h9, fun hl => ?_, fun hl => ?_⟩
    · have := h10 hl
      unfold stayK at *
      split at this
      · exact m _ _ this
      · split at this
        · exact ⟨this.1, this.2.1, this.2.2.1, m _ _ this.2.2.2⟩
        · exact this.elim
      · exact this.elim
    · obtain ⟨a1, old, a2, a3⟩ := h11 hl
      exact ⟨a1, old, a2, fun cap hc => m _ _ (a3 cap hc)⟩
  · exact k.elim⟩
theorem mono_appendW (t u : TypeId) (s x : Value) (h : Hp) : Mono (fun K => aappend P t u s x h (Weak K)) := ⟨fun m k => (mono_append t u s x h).mono (fun v g ⟨g', hs, hk⟩ => ⟨g', hs, m _ _ hk⟩) k⟩
theorem mono_call (f : Value) (args : Array Value) (h : Hp) : Mono (acall P f args h) := ⟨fun {K K'} m k => by
  unfold acall at *
  split at k
  · exact ⟨k.1, k.2.mono m⟩
  · exact k.elim⟩
theorem mono_loud (o : Op) (ρ : Env) (h : Hp) : Mono (aloud P o ρ h) := by
  unfold aloud
  split
  · unfold aalloc
    split
    · exact .ap _ _
    · exact .false
  · exact .ap _ _
  · split
    · exact .ap _ _
    · exact .false
  · exact mono_store _ _ _ _
  · exact mono_conv _ _ _ _
  · exact mono_make _ _ _ _
  · exact .ap _ _
  · unfold amapUpd
    split
    · exact .ap _ _
    · exact .false
  · unfold amapUpd
    split
    · exact .ap _ _
    · exact .false
  · split
    · unfold lbuiltin
      split
      · exact mono_appendW _ _ _ _ _
      · exact mono_copy _ _ _ _
      · exact .false
    · exact mono_call _ _ _
    · exact .false
  · exact .false
theorem mono_step (o : Op) (ρ : Env) (h : Hp) : Mono (astep P o ρ h) := by
  unfold astep
  split
  · exact mono_loud _ _ _
  · exact (one_pure _ _ _).toMono h
end
end Go.Proofs.Ytaejmcgcfopmkaa
