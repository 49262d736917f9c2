/- Letters, as known functions. -/
import Derived.Test.YtaejmcgcfopmkaaAggC
import Derived.Test.YtaejmcgcfopmkaaEvW
namespace Go.Proofs.Ytaejmcgcfopmkaa
open Go Go.RowKit
def lowC (c : Nat) : Nat := if 65 ≤ c ∧ c ≤ 90 then c + 32 else c
def sLow (s : List Nat) : List Nat := s.map lowC
theorem lowC_lt {c : Nat} (h : c < 256) : lowC c < 256 := by unfold lowC; split <;> omega
theorem sLow_lt {s : List Nat} (h : ∀ x ∈ s, x < 256) : ∀ x ∈ sLow s, x < 256 := fun x hx => by
  simp only [sLow, List.mem_map] at hx
  obtain ⟨c, hc, rfl⟩ := hx
  exact lowC_lt (h c hc)
/-- The first ones changed. -/
def lowTo (s : List Nat) (i : Nat) : List Nat := sLow (s.take i) ++ s.drop i
theorem lowTo_len (s : List Nat) (i : Nat) : (lowTo s i).length = s.length := by simp [lowTo, sLow]; omega
theorem lowTo_at {s : List Nat} {i : Nat} (h : i < s.length) : (lowTo s i)[i]? = some s[i] := by
  unfold lowTo
  rw [List.getElem?_append_right (by simp [sLow]; omega)]
  simp [sLow, List.getElem?_eq_getElem h, Nat.min_eq_left (Nat.le_of_lt h)]
abbrev bytesA (s : List Nat) : List AV := s.map fun c : Nat => .si .u8 (Int.ofNat c)
theorem setL_map {s : List Nat} {i c : Nat} (h : i < s.length) : setL (bytesA s) i [.si .u8 (Int.ofNat c)] = some (bytesA (s.set i c)) := by
  induction s generalizing i with
  | nil => simp at h
  | cons x s ih =>
    cases i with
    | zero => cases s <;> rfl
    | succ i =>
      have := ih (i := i) (by simpa using h)
      simp only [bytesA, List.map_cons, setL] at this ⊢
      rw [this]; rfl
theorem lowTo_succ {s : List Nat} {i : Nat} (h : i < s.length) : (lowTo s i).set i (lowC s[i]) = lowTo s (i + 1) := by
  unfold lowTo sLow
  rw [List.set_append_right _ _ (by simp; omega)]
  simp only [List.length_map, List.length_take, Nat.min_eq_left (Nat.le_of_lt h), Nat.sub_self]
  rw [List.drop_eq_getElem_cons h, List.set_cons_zero, List.take_succ_eq_append_getElem h, List.map_append, List.append_assoc]
  rfl
theorem set_same {α : Type} {l : List α} {i : Nat} {x : α} (h : l[i]? = some x) : l.set i x = l := by
  apply List.ext_getElem?
  intro j
  rw [List.getElem?_set]
  split
  · rename_i e
    subst e
    split
    · exact h.symm
    · rename_i h2
      rw [List.getElem?_eq_none (by omega)] at h; cases h
  · rfl
noncomputable abbrev lowSt (s : List Nat) (i : Nat) : AE × AH := (mkE [(3, .sy 0 0 s.length s.length 1), (8, .sy 0 0 s.length s.length 1), (9, .si .i64 s.length), (10, .si .i64 i)], mkH [(0, .cells (bytesA (lowTo s i)) false)])
set_option maxRecDepth 100000 in
theorem n_lower : NatP 32 (natS fun s => .ss (sLow s)) := natS_ok (d := 1) evP_ok (fun _ => rfl) fun s hs hl => by
  conv => whnf
  refine Ask.mk _ rfl ?_
  conv => whnf
  refine LoopP.mk (_root_.Fin (s.length + 1)) 1 (fun a => lowSt s a.val) (fun a => s.length - a.val) 0 ?_ ?_
  · refine Cov.of (fun b => b) (Nat.zero_le _) (fun b hb => rfl) ?_ ?_ ?_
    · intro x hx
      simp only [List.mem_cons, List.not_mem_nil, or_false] at hx
      rcases hx with rfl | rfl | rfl | rfl
      · exact .sy (by decide) rfl
      · exact .sy (by decide) rfl
      · exact .int rfl
      · exact .int rfl
    · intro x hx
      simp only [List.mem_cons, List.not_mem_nil, or_false] at hx
      subst hx
      refine ⟨Nat.zero_lt_one, _, rfl, ?_⟩
      exact SubO.maps fun c => .int rfl
    · intro x hx y hy
      simp only [List.mem_cons, List.not_mem_nil, or_false] at hx hy
      subst hx hy
      exact fun _ => rfl
  · intro a
    conv => whnf
    have ha := a.isLt
    have low_cov : ∀ {i : Nat} {σ : AE} {H : AH}, mk (getq (pa 3) σ) = .sy 0 0 s.length s.length 1 → mk (getq (pa 8) σ) = .sy 0 0 s.length s.length 1 → mk (getq (pa 9) σ) = .si .i64 s.length → mk (getq (pa 10) σ) = .si .i64 i → H.get 0 = some (.cells (bytesA (lowTo s i)) false) → Cov 0 σ H 1 ((lowSt s i).1, (lowSt s i).2, 1) := fun {i σ H} e1 e2 e3 e4 e5 => by
      refine Cov.of (fun b => b) (Nat.zero_le _) (fun b hb => rfl) ?_ ?_ ?_
      · intro x hx
        simp only [List.mem_cons, List.not_mem_nil, or_false] at hx
        rcases hx with rfl | rfl | rfl | rfl
        · exact .sy (by decide) e1
        · exact .sy (by decide) e2
        · exact .int e3
        · exact .int e4
      · intro x hx
        simp only [List.mem_cons, List.not_mem_nil, or_false] at hx
        subst hx
        exact ⟨Nat.zero_lt_one, _, e5, SubO.maps fun c => .int rfl⟩
      · intro x hx y hy
        simp only [List.mem_cons, List.not_mem_nil, or_false] at hx hy
        subst hx hy
        exact fun _ => rfl
    refine Fork.dec (fun h1 => ?_) (fun h1 => ?_)
    · have h2 : a.val < s.length := by omega
      obtain ⟨c, hc⟩ : ∃ c, s[a.val] = c := ⟨_, rfl⟩
      have hw : IntKind.i64.wrap ((a.val : Int) + 1) = ((a.val + 1 : Nat) : Int) := by rw [wrap_i64_of (by omega) (by omega)]; omega
      conv => whnf
      refine Idx.mk a.val rfl h2 ?_
      conv => whnf
      refine optP_of (a := .si .u8 (Int.ofNat c)) ?_ ?_
      · show nth (bytesA (lowTo s a.val)) (0 + a.val * 1) = _
        rw [nth_eq, Nat.zero_add, Nat.mul_one, List.getElem?_map, lowTo_at h2, hc]; rfl
      conv => whnf
      refine Fork.dec (fun h3 => ?_) (fun h3 => ?_)
      · conv => whnf
        refine Fork.dec (fun h4 => ?_) (fun h4 => ?_)
        · conv => whnf
          refine Idx.mk a.val rfl h2 ?_
          conv => whnf
          refine optP_of (a := bytesA (lowTo s (a.val + 1))) ?_ ?_
          · have hc3 : lowC s[a.val] = c + 32 := by
              rw [hc]; unfold lowC
              have h5 : (65 : Int) ≤ (c : Int) := h3
              have h6 : (c : Int) ≤ 90 := h4
              rw [if_pos (by omega)]
            have hw8 : IntKind.u8.wrap (Int.ofNat c + 32) = Int.ofNat (c + 32) := by
              have h6 : (c : Int) ≤ 90 := h4
              rw [IntKind.wrap_u8]; simp only [Int.ofNat_eq_natCast]; omega
            show setL (bytesA (lowTo s a.val)) (0 + a.val * 1) [.si .u8 (IntKind.u8.wrap (Int.ofNat c + 32))] = _
            rw [hw8, Nat.zero_add, Nat.mul_one, setL_map (by rw [lowTo_len]; exact h2), ← hc3, lowTo_succ h2]
          · conv => whnf
            refine ⟨⟨a.val + 1, by omega⟩, by show s.length - (a.val + 1) < s.length - a.val; omega, low_cov rfl rfl rfl (congrArg (AV.si IntKind.i64) hw) rfl⟩
        · conv => whnf
          refine ⟨⟨a.val + 1, by omega⟩, by show s.length - (a.val + 1) < s.length - a.val; omega, low_cov rfl rfl rfl (congrArg (AV.si IntKind.i64) hw) ?_⟩
          have h6 : ¬ (c : Int) ≤ 90 := h4
          have hc3 : lowTo s (a.val + 1) = lowTo s a.val := by
            rw [← lowTo_succ h2]
            have : lowC s[a.val] = s[a.val] := by rw [hc]; unfold lowC; rw [if_neg (by omega)]
            rw [this]; exact set_same (lowTo_at h2)
          rw [hc3]; rfl
      · conv => whnf
        refine ⟨⟨a.val + 1, by omega⟩, by show s.length - (a.val + 1) < s.length - a.val; omega, low_cov rfl rfl rfl (congrArg (AV.si IntKind.i64) hw) ?_⟩
        have h6 : ¬ (65 : Int) ≤ (c : Int) := h3
        have hc3 : lowTo s (a.val + 1) = lowTo s a.val := by
          rw [← lowTo_succ h2]
          have : lowC s[a.val] = s[a.val] := by rw [hc]; unfold lowC; rw [if_neg (by omega)]
          rw [this]; exact set_same (lowTo_at h2)
        rw [hc3]; rfl
    · have h2 : a.val = s.length := by omega
      conv => whnf
      refine Ask.mk _ (conv_str rfl rfl rfl rfl rfl (subL_all (by simp [lowTo_len])) (ebytes_map (s := lowTo s a.val) ?_)) ?_
      · rw [h2]; simpa [lowTo] using sLow_lt hs
      · conv => whnf
        rw [h2]; simp [lowTo]; rfl
end Go.Proofs.Ytaejmcgcfopmkaa
