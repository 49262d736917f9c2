/- A law's arguments, opened. -/
import Derived.Test.YtaejmcgcfopmkaaEvN
import Derived.ChangeMaps5
import Derived.Deep.Slices
namespace Go.Proofs.Ytaejmcgcfopmkaa
open Go Go.RowKit Go.ChangeShapes Go.WideShapes
section
variable {H : Type} {enc : TypeId × Value → H} {P : Program} {w : World} {base : Nat} {sp : Nat → Bool} {held : Bool}
theorem mapM_ints {e : TypeId} {k : IntKind} (he : P.underlying e = some (.int k)) {m c : Nat} {cs : List Value} : ∀ (L : List Nat) (xs : List (DataW H × List MemPlace)), L.mapM (fun i => DataW.trod enc P w base sp held m e ((cs.drop (i * c)).take c)) = some xs →
    (∀ i ∈ L, ∃ n, (cs.drop (i * c)).take c = [.int k n]) ∧ ∀ x ∈ xs, x.2 = []
  | [], xs, h => by
    simp at h
    subst h
    simp
  | i :: L, xs, h => by
    rw [List.mapM_cons] at h
    simp only [bind, Option.bind_eq_some_iff, pure, Option.some.injEq] at h
    obtain ⟨y, hy, ys, hys, rfl⟩ := h
    obtain ⟨h1, h2⟩ := mapM_ints he L ys hys
    obtain ⟨a, ea, rfl, wa⟩ := DataW.trod_int he hy
    refine ⟨fun j hj => ?_, fun x hx => ?_⟩
    · rcases List.mem_cons.1 hj with rfl | hj
      · exact ⟨a, ea⟩
      · exact h1 j hj
    · rcases List.mem_cons.1 hx with rfl | hx
      · rfl
      · exact h2 x hx
def intOf : Value → Int
  | .int _ n => n
  | _ => 0
/-- An array of numbers. -/
theorem open_intarr {r : Reach} {b0 n : Nat} {t e : TypeId} {k : IntKind} {v : Value} {d : DataW H} {ps : List MemPlace} (hu : P.underlying t = some (.array n e)) (he : P.underlying e = some (.int k)) (h1 : P.cellsOf e = 1) (hs : P.cellsOf t = n)
    (hval : Value.okWide P w r b0 t v) (hd : DataW.Trod enc P w base sp held t v d ps) : ∃ zs : List Int, zs.length = n ∧ v = .agg (zs.map (Value.int k)).toArray ∧ ps = [] := by
  simp only [Value.okWide, hu] at hval
  obtain ⟨cs, rfl, hsz, _⟩ := hval
  rw [hs] at hsz
  obtain ⟨fuel, hf⟩ := hd
  cases fuel with
  | zero => simp [DataW.trod] at hf
  | succ m =>
    rw [DataW.trod_step] at hf
    unfold DataW.trodStep at hf
    simp only [hu, Value.cells] at hf
    rw [if_pos (by rw [hs]; simpa using hsz)] at hf
    simp only [Option.map_eq_some_iff] at hf
    obtain ⟨ys, hy, e1⟩ := hf
    obtain ⟨q1, q2⟩ := mapM_ints he _ ys hy
    simp only [Prod.mk.injEq] at e1
    refine ⟨cs.toList.map intOf, by simpa using hsz, ?_, ?_⟩
    · congr 1
      apply Array.ext
      · simp
      · intro i hi hi2
        obtain ⟨z, hz⟩ := q1 i (by simp; omega)
        rw [h1, Nat.mul_one] at hz
        have : cs.toList[i]? = some (.int k z) := by
          have h3 : ((cs.toList.drop i).take 1)[0]? = some (.int k z) := by rw [hz]; rfl
          simpa [List.getElem?_take, List.getElem?_drop] using h3
        have h4 : cs[i] = .int k z := by
          have := this
          rw [Array.getElem?_toList, Array.getElem?_eq_getElem hi] at this
          injection this
        simp [h4, intOf]
    · rw [← e1.2]
      simp only [List.flatMap_eq_nil_iff]
      exact q2
theorem len2 {zs : List Int} (h : zs.length = 2) : ∃ a b, zs = [a, b] := by
  match zs, h with
  | [a, b], _ => exact ⟨a, b, rfl⟩
theorem len3 {zs : List Int} (h : zs.length = 3) : ∃ a b c, zs = [a, b, c] := by
  match zs, h with
  | [a, b, c], _ => exact ⟨a, b, c, rfl⟩
theorem vr_ints {φ : Ph} {k : IntKind} (zs : List Int) : VR φ (.agg (zs.map (AV.si k))) (.agg (zs.map (Value.int k)).toArray) := .agg (by simpa using VRs.map (fun z => VR.si k z) zs)
theorem vr_string {φ : Ph} (s : ByteArray) : VR φ (.ss (s.data.toList.map UInt8.toNat)) (.string s) := by
  have h : VR φ (.ss (s.data.toList.map UInt8.toNat)) (.string (vstr (s.data.toList.map UInt8.toNat))) := .ss fun x hx => by
    simp only [List.mem_map] at hx
    obtain ⟨c, _, rfl⟩ := hx
    exact UInt8.toNat_lt c
  rwa [vstr_data] at h
end
end Go.Proofs.Ytaejmcgcfopmkaa
