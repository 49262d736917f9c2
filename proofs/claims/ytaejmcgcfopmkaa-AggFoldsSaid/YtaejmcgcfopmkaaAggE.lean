/- Great letters, as a known function. -/
import Derived.Test.YtaejmcgcfopmkaaAggD
namespace Go.Proofs.Ytaejmcgcfopmkaa
open Go Go.RowKit
def upC (c : Nat) : Nat := if 97 ≤ c ∧ c ≤ 122 then c - 32 else c
def sUp (s : List Nat) : List Nat := s.map upC
theorem upC_lt {c : Nat} (h : c < 256) : upC c < 256 := by unfold upC; split <;> omega
theorem sUp_lt {s : List Nat} (h : ∀ x ∈ s, x < 256) : ∀ x ∈ sUp s, x < 256 := fun x hx => by
  simp only [sUp, List.mem_map] at hx
  obtain ⟨c, hc, rfl⟩ := hx
  exact upC_lt (h c hc)
theorem sUp_take {s : List Nat} {i : Nat} (h : i < s.length) : sUp (s.take (i + 1)) = sUp (s.take i) ++ [upC s[i]] := by
  unfold sUp
  rw [List.take_succ_eq_append_getElem h, List.map_append]; rfl
noncomputable abbrev upSt (s : List Nat) : Nat → AE × AH
  | 0 => (mkE [(0, .ss s), (3, .nsl), (4, .si .i64 0)], mkH [])
  | i + 1 => (mkE [(0, .ss s), (3, .sy 0 0 (i + 1) (i + 1) 1), (4, .si .i64 (i + 1 : Nat))], mkH [(0, .cells (bytesA (sUp (s.take (i + 1)))) true)])
theorem up_cov {s : List Nat} {i n j : Nat} {σ : AE} {H : AH} (e0 : mk (getq (pa 0) σ) = .ss s) (e1 : mk (getq (pa 3) σ) = .sy j 0 (i + 1) (i + 1) 1) (e2 : mk (getq (pa 4) σ) = .si .i64 (i + 1 : Nat)) (e3 : H.get j = some (.cells (bytesA (sUp (s.take (i + 1)))) true)) : Cov 0 σ H n ((upSt s (i + 1)).1, (upSt s (i + 1)).2, 1) := by
  refine Cov.of (fun _ => j) (Nat.zero_le _) (fun b hb => (Nat.not_lt_zero b hb).elim) ?_ ?_ ?_
  · intro x hx
    simp only [List.mem_cons, List.not_mem_nil, or_false] at hx
    rcases hx with rfl | rfl | rfl
    · exact .str e0
    · exact .sy (by decide) e1
    · exact .int e2
  · intro x hx
    simp only [List.mem_cons, List.not_mem_nil, or_false] at hx
    subst hx
    exact ⟨Nat.zero_lt_one, _, e3, SubO.maps fun c => .int rfl⟩
  · intro x hx y hy
    simp only [List.mem_cons, List.not_mem_nil, or_false] at hx hy
    subst hx hy
    exact fun _ => rfl
theorem up_e1 {c : Nat} (h3 : (97 : Int) ≤ Int.ofNat c) (h4 : Int.ofNat c ≤ 122) : IntKind.u8.wrap (IntKind.u8.wrap (Int.ofNat c - 97) + 65) = Int.ofNat (upC c) := by
  simp only [Int.ofNat_eq_natCast] at h3 h4 ⊢
  unfold upC
  rw [if_pos (by omega), IntKind.wrap_u8, IntKind.wrap_u8]; omega
theorem up_e2 {c : Nat} (h : ¬ (97 : Int) ≤ Int.ofNat c ∨ ¬ Int.ofNat c ≤ 122) : Int.ofNat c = Int.ofNat (upC c) := by
  simp only [Int.ofNat_eq_natCast] at h ⊢
  unfold upC
  rw [if_neg (by omega)]
set_option maxRecDepth 100000 in
set_option maxHeartbeats 4000000 in
theorem n_upper : NatP 33 (natS fun s => .ss (sUp s)) := natS_ok (d := 1) evP_ok (fun _ => rfl) fun s hs hl => by
  conv => whnf
  refine LoopP.mk (_root_.Fin (s.length + 1)) 1 (fun a => upSt s a.val) (fun a => s.length - a.val) 0 ?_ ?_
  · refine Cov.of (fun b => b) (Nat.zero_le _) (fun b hb => rfl) ?_ ?_ ?_
    · intro x hx
      simp only [List.mem_cons, List.not_mem_nil, or_false] at hx
      rcases hx with rfl | rfl | rfl
      · exact .str rfl
      · exact .same rfl
      · exact .int rfl
    · intro x hx; cases hx
    · intro x hx; cases hx
  · intro ⟨i, hi⟩
    cases i with
    | zero =>
      conv => whnf
      refine Fork.dec (fun h1 => ?_) (fun h1 => ?_)
      · have h2 : 0 < s.length := by omega
        obtain ⟨c, hc⟩ : ∃ c, s[0] = c := ⟨_, rfl⟩
        conv => whnf
        refine Idx.mk 0 rfl h2 ?_
        refine Ask.mk c (by rw [nth_eq, List.getElem?_eq_getElem h2, hc]) ?_
        conv => whnf
        refine Fork.dec (fun h3 => ?_) (fun h3 => ?_)
        · conv => whnf
          refine Fork.dec (fun h4 => ?_) (fun h4 => ?_)
          · skip
            conv => whnf
            refine ⟨⟨1, by omega⟩, by show s.length - 1 < s.length - 0; omega, up_cov (j := 2) rfl rfl rfl ?_⟩
            rw [sUp_take (by omega), hc]
            refine Eq.trans ?_ (congrArg (fun v => some (AO.cells [AV.si .u8 v] true)) (up_e1 h3 h4))
            rfl
          · skip
            conv => whnf
            refine ⟨⟨1, by omega⟩, by show s.length - 1 < s.length - 0; omega, up_cov (j := 2) rfl rfl rfl ?_⟩
            rw [sUp_take (by omega), hc]
            refine Eq.trans ?_ (congrArg (fun v => some (AO.cells [AV.si .u8 v] true)) (up_e2 (.inr h4)))
            rfl
        · skip
          conv => whnf
          refine ⟨⟨1, by omega⟩, by show s.length - 1 < s.length - 0; omega, up_cov (j := 2) rfl rfl rfl ?_⟩
          rw [sUp_take (by omega), hc]
          refine Eq.trans ?_ (congrArg (fun v => some (AO.cells [AV.si .u8 v] true)) (up_e2 (.inl h3)))
          rfl
      · conv => whnf
        have : s = [] := List.eq_nil_of_length_eq_zero (by omega)
        subst this; rfl
    | succ i =>
      conv => whnf
      refine Fork.dec (fun h1 => ?_) (fun h1 => ?_)
      · have h2 : i + 1 < s.length := by omega
        obtain ⟨c, hc⟩ : ∃ c, s[i + 1] = c := ⟨_, rfl⟩
        have hw : IntKind.i64.wrap (((i + 1 : Nat) : Int) + 1) = ((i + 1 + 1 : Nat) : Int) := by rw [wrap_i64_of (by omega) (by omega)]; omega
        conv => whnf
        refine Idx.mk (i + 1) rfl h2 ?_
        refine Ask.mk c (by rw [nth_eq, List.getElem?_eq_getElem h2, hc]) ?_
        conv => whnf
        refine Fork.dec (fun h3 => ?_) (fun h3 => ?_)
        · conv => whnf
          refine Fork.dec (fun h4 => ?_) (fun h4 => ?_)
          · skip
            conv => whnf
            refine Ask.mk _ (app_grow (k := 0) (by' := 1) (m := 1) (sn := i + 1) (c := i + 1) rfl rfl rfl rfl rfl rfl rfl rfl (by decide) rfl rfl rfl (by omega) (by omega) (subL_all (by simp [sUp]; omega))) ?_
            conv => whnf
            refine ⟨⟨i + 2, by omega⟩, by show s.length - (i + 2) < s.length - (i + 1); omega, up_cov (i := i + 1) (j := 2) rfl rfl (congrArg (AV.si IntKind.i64) hw) ?_⟩
            rw [sUp_take (i := i + 1) (by omega), hc]
            simp only [bytesA, List.map_append, List.map_cons, List.map_nil]
            exact congrArg (fun v => some (AO.cells (bytesA (sUp (s.take (i + 1))) ++ [AV.si .u8 v]) true)) (up_e1 h3 h4)
          · skip
            conv => whnf
            refine Ask.mk _ (app_grow (k := 0) (by' := 1) (m := 1) (sn := i + 1) (c := i + 1) rfl rfl rfl rfl rfl rfl rfl rfl (by decide) rfl rfl rfl (by omega) (by omega) (subL_all (by simp [sUp]; omega))) ?_
            conv => whnf
            refine ⟨⟨i + 2, by omega⟩, by show s.length - (i + 2) < s.length - (i + 1); omega, up_cov (i := i + 1) (j := 2) rfl rfl (congrArg (AV.si IntKind.i64) hw) ?_⟩
            rw [sUp_take (i := i + 1) (by omega), hc]
            simp only [bytesA, List.map_append, List.map_cons, List.map_nil]
            exact congrArg (fun v => some (AO.cells (bytesA (sUp (s.take (i + 1))) ++ [AV.si .u8 v]) true)) (up_e2 (.inr h4))
        · skip
          conv => whnf
          refine Ask.mk _ (app_grow (k := 0) (by' := 1) (m := 1) (sn := i + 1) (c := i + 1) rfl rfl rfl rfl rfl rfl rfl rfl (by decide) rfl rfl rfl (by omega) (by omega) (subL_all (by simp [sUp]; omega))) ?_
          conv => whnf
          refine ⟨⟨i + 2, by omega⟩, by show s.length - (i + 2) < s.length - (i + 1); omega, up_cov (i := i + 1) (j := 2) rfl rfl (congrArg (AV.si IntKind.i64) hw) ?_⟩
          rw [sUp_take (i := i + 1) (by omega), hc]
          simp only [bytesA, List.map_append, List.map_cons, List.map_nil]
          exact congrArg (fun v => some (AO.cells (bytesA (sUp (s.take (i + 1))) ++ [AV.si .u8 v]) true)) (up_e2 (.inl h3))
      · have h2 : i + 1 = s.length := by omega
        conv => whnf
        refine Ask.mk _ (conv_str rfl rfl rfl rfl rfl (subL_all (by simp [sUp]; omega)) (ebytes_map (s := sUp (s.take (i + 1))) ?_)) ?_
        · rw [h2]; simpa using sUp_lt hs
        · conv => whnf
          exact (congrArg AV.ss (by rw [h2, List.take_length]) : AV.ss (sUp (s.take (i + 1))) = AV.ss (sUp s))
end Go.Proofs.Ytaejmcgcfopmkaa
