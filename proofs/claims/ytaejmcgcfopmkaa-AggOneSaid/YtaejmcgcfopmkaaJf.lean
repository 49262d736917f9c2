/- Texts of our own, joined: the engine, the machine that runs code, and what is known of the functions. -/
import Derived.Test.YtaejmcgcfopmkaaJe
import Derived.ChangeMaps5
import Derived.Deep.Slices
import Derived.Deep.SlicePairs
import Derived.SizedLaws
namespace Go.Proofs.Ytaejmcgcfopmkaa
open Go Go.RowKit
def lowC (c : Nat) : Nat := if 65 ≤ c ∧ c ≤ 90 then c + 32 else c
def sLow (s : List Nat) : List Nat := s.map lowC
theorem lowC_lt {c : Nat} (h : c < 256) : lowC c < 256 := by unfold lowC; split <;> omega
theorem sLow_lt {s : List Nat} (h : ∀ x ∈ s, x < 256) : ∀ x ∈ sLow s, x < 256 := fun x hx => by
  simp only [sLow, List.mem_map] at hx
  obtain ⟨c, hc, rfl⟩ := hx
  exact lowC_lt (h c hc)
/-- The first ones changed. -/
def lowTo (s : List Nat) (i : Nat) : List Nat := sLow (s.take i) ++ s.drop i
theorem lowTo_len (s : List Nat) (i : Nat) : (lowTo s i).length = s.length := by simp [lowTo, sLow]; omega
theorem lowTo_at {s : List Nat} {i : Nat} (h : i < s.length) : (lowTo s i)[i]? = some s[i] := by
  unfold lowTo
  rw [List.getElem?_append_right (by simp [sLow]; omega)]
  simp [sLow, List.getElem?_eq_getElem h, Nat.min_eq_left (Nat.le_of_lt h)]
abbrev bytesA (s : List Nat) : List AV := s.map fun c : Nat => .si .u8 (Int.ofNat c)
theorem setL_map {s : List Nat} {i c : Nat} (h : i < s.length) : setL (bytesA s) i [.si .u8 (Int.ofNat c)] = some (bytesA (s.set i c)) := by
  induction s generalizing i with
  | nil => simp at h
  | cons x s ih =>
    cases i with
    | zero => cases s <;> rfl
    | succ i =>
      have := ih (i := i) (by simpa using h)
      simp only [bytesA, List.map_cons, setL] at this ⊢
      rw [this]; rfl
theorem lowTo_succ {s : List Nat} {i : Nat} (h : i < s.length) : (lowTo s i).set i (lowC s[i]) = lowTo s (i + 1) := by
  unfold lowTo sLow
  rw [List.set_append_right _ _ (by simp; omega)]
  simp only [List.length_map, List.length_take, Nat.min_eq_left (Nat.le_of_lt h), Nat.sub_self]
  rw [List.drop_eq_getElem_cons h, List.set_cons_zero, List.take_succ_eq_append_getElem h, List.map_append, List.append_assoc]
  rfl
theorem set_same {α : Type} {l : List α} {i : Nat} {x : α} (h : l[i]? = some x) : l.set i x = l := by
  apply List.ext_getElem?
  intro j
  rw [List.getElem?_set]
  split
  · rename_i e
    subst e
    split
    · exact h.symm
    · rename_i h2
      rw [List.getElem?_eq_none (by omega)] at h; cases h
  · rfl
noncomputable abbrev lowSt (s : List Nat) (i : Nat) : AE × AH := (mkE [(3, .sy 0 0 s.length s.length 1), (8, .sy 0 0 s.length s.length 1), (9, .si .i64 s.length), (10, .si .i64 i)], mkH [(0, .cells (bytesA (lowTo s i)) false)])
set_option maxRecDepth 100000 in
theorem n_lower : NatP 32 (natS fun s => .ss (sLow s)) := natS_ok (d := 1) evP_ok (fun _ => rfl) fun s hs hl => by
  conv => whnf
  refine Ask.mk _ rfl ?_
  conv => whnf
  refine LoopP.mk (_root_.Fin (s.length + 1)) 1 (fun a => lowSt s a.val) (fun a => s.length - a.val) 0 ?_ ?_
  · refine Cov.of (fun b => b) (Nat.zero_le _) (fun b hb => rfl) ?_ ?_ ?_
    · intro x hx
      simp only [List.mem_cons, List.not_mem_nil, or_false] at hx
      rcases hx with rfl | rfl | rfl | rfl
      · exact .sy (by decide) rfl
      · exact .sy (by decide) rfl
      · exact .int rfl
      · exact .int rfl
    · intro x hx
      simp only [List.mem_cons, List.not_mem_nil, or_false] at hx
      subst hx
      refine ⟨Nat.zero_lt_one, _, rfl, ?_⟩
      exact SubO.maps fun c => .int rfl
    · intro x hx y hy
      simp only [List.mem_cons, List.not_mem_nil, or_false] at hx hy
      subst hx hy
      exact fun _ => rfl
  · intro a
    conv => whnf
    have ha := a.isLt
    have low_cov : ∀ {i : Nat} {σ : AE} {H : AH}, mk (getq (pa 3) σ) = .sy 0 0 s.length s.length 1 → mk (getq (pa 8) σ) = .sy 0 0 s.length s.length 1 → mk (getq (pa 9) σ) = .si .i64 s.length → mk (getq (pa 10) σ) = .si .i64 i → H.get 0 = some (.cells (bytesA (lowTo s i)) false) → Cov 0 σ H 1 ((lowSt s i).1, (lowSt s i).2, 1) := fun {i σ H} e1 e2 e3 e4 e5 => by
      refine Cov.of (fun b => b) (Nat.zero_le _) (fun b hb => rfl) ?_ ?_ ?_
      · intro x hx
        simp only [List.mem_cons, List.not_mem_nil, or_false] at hx
        rcases hx with rfl | rfl | rfl | rfl
        · exact .sy (by decide) e1
        · exact .sy (by decide) e2
        · exact .int e3
        · exact .int e4
      · intro x hx
        simp only [List.mem_cons, List.not_mem_nil, or_false] at hx
        subst hx
        exact ⟨Nat.zero_lt_one, _, e5, SubO.maps fun c => .int rfl⟩
      · intro x hx y hy
        simp only [List.mem_cons, List.not_mem_nil, or_false] at hx hy
        subst hx hy
        exact fun _ => rfl
    refine Fork.dec (fun h1 => ?_) (fun h1 => ?_)
    · have h2 : a.val < s.length := by omega
      obtain ⟨c, hc⟩ : ∃ c, s[a.val] = c := ⟨_, rfl⟩
      have hw : IntKind.i64.wrap ((a.val : Int) + 1) = ((a.val + 1 : Nat) : Int) := by rw [wrap_i64_of (by omega) (by omega)]; omega
      conv => whnf
      refine Idx.mk a.val rfl h2 ?_
      conv => whnf
      refine optP_of (a := .si .u8 (Int.ofNat c)) ?_ ?_
      · show nth (bytesA (lowTo s a.val)) (0 + a.val * 1) = _
        rw [nth_eq, Nat.zero_add, Nat.mul_one, List.getElem?_map, lowTo_at h2, hc]; rfl
      conv => whnf
      refine Fork.dec (fun h3 => ?_) (fun h3 => ?_)
      · conv => whnf
        refine Fork.dec (fun h4 => ?_) (fun h4 => ?_)
        · conv => whnf
          refine Idx.mk a.val rfl h2 ?_
          conv => whnf
          refine optP_of (a := bytesA (lowTo s (a.val + 1))) ?_ ?_
          · have hc3 : lowC s[a.val] = c + 32 := by
              rw [hc]; unfold lowC
              have h5 : (65 : Int) ≤ (c : Int) := h3
              have h6 : (c : Int) ≤ 90 := h4
              rw [if_pos (by omega)]
            have hw8 : IntKind.u8.wrap (Int.ofNat c + 32) = Int.ofNat (c + 32) := by
              have h6 : (c : Int) ≤ 90 := h4
              rw [IntKind.wrap_u8]; simp only [Int.ofNat_eq_natCast]; omega
            show setL (bytesA (lowTo s a.val)) (0 + a.val * 1) [.si .u8 (IntKind.u8.wrap (Int.ofNat c + 32))] = _
            rw [hw8, Nat.zero_add, Nat.mul_one, setL_map (by rw [lowTo_len]; exact h2), ← hc3, lowTo_succ h2]
          · conv => whnf
            refine ⟨⟨a.val + 1, by omega⟩, by show s.length - (a.val + 1) < s.length - a.val; omega, low_cov rfl rfl rfl (congrArg (AV.si IntKind.i64) hw) rfl⟩
        · conv => whnf
          refine ⟨⟨a.val + 1, by omega⟩, by show s.length - (a.val + 1) < s.length - a.val; omega, low_cov rfl rfl rfl (congrArg (AV.si IntKind.i64) hw) ?_⟩
          have h6 : ¬ (c : Int) ≤ 90 := h4
          have hc3 : lowTo s (a.val + 1) = lowTo s a.val := by
            rw [← lowTo_succ h2]
            have : lowC s[a.val] = s[a.val] := by rw [hc]; unfold lowC; rw [if_neg (by omega)]
            rw [this]; exact set_same (lowTo_at h2)
          rw [hc3]; rfl
      · conv => whnf
        refine ⟨⟨a.val + 1, by omega⟩, by show s.length - (a.val + 1) < s.length - a.val; omega, low_cov rfl rfl rfl (congrArg (AV.si IntKind.i64) hw) ?_⟩
        have h6 : ¬ (65 : Int) ≤ (c : Int) := h3
        have hc3 : lowTo s (a.val + 1) = lowTo s a.val := by
          rw [← lowTo_succ h2]
          have : lowC s[a.val] = s[a.val] := by rw [hc]; unfold lowC; rw [if_neg (by omega)]
          rw [this]; exact set_same (lowTo_at h2)
        rw [hc3]; rfl
    · have h2 : a.val = s.length := by omega
      conv => whnf
      refine Ask.mk _ (conv_str rfl rfl rfl rfl rfl (subL_all (by simp [lowTo_len])) (ebytes_map (s := lowTo s a.val) ?_)) ?_
      · rw [h2]; simpa [lowTo] using sLow_lt hs
      · conv => whnf
        rw [h2]; simp [lowTo]; rfl
end Go.Proofs.Ytaejmcgcfopmkaa
namespace Go.Proofs.Ytaejmcgcfopmkaa
open Go Go.RowKit
def upC (c : Nat) : Nat := if 97 ≤ c ∧ c ≤ 122 then c - 32 else c
def sUp (s : List Nat) : List Nat := s.map upC
theorem upC_lt {c : Nat} (h : c < 256) : upC c < 256 := by unfold upC; split <;> omega
theorem sUp_lt {s : List Nat} (h : ∀ x ∈ s, x < 256) : ∀ x ∈ sUp s, x < 256 := fun x hx => by
  simp only [sUp, List.mem_map] at hx
  obtain ⟨c, hc, rfl⟩ := hx
  exact upC_lt (h c hc)
theorem sUp_take {s : List Nat} {i : Nat} (h : i < s.length) : sUp (s.take (i + 1)) = sUp (s.take i) ++ [upC s[i]] := by
  unfold sUp
  rw [List.take_succ_eq_append_getElem h, List.map_append]; rfl
noncomputable abbrev upSt (s : List Nat) : Nat → AE × AH
  | 0 => (mkE [(0, .ss s), (3, .nsl), (4, .si .i64 0)], mkH [])
  | i + 1 => (mkE [(0, .ss s), (3, .sy 0 0 (i + 1) (i + 1) 1), (4, .si .i64 (i + 1 : Nat))], mkH [(0, .cells (bytesA (sUp (s.take (i + 1)))) true)])
theorem up_cov {s : List Nat} {i n j : Nat} {σ : AE} {H : AH} (e0 : mk (getq (pa 0) σ) = .ss s) (e1 : mk (getq (pa 3) σ) = .sy j 0 (i + 1) (i + 1) 1) (e2 : mk (getq (pa 4) σ) = .si .i64 (i + 1 : Nat)) (e3 : H.get j = some (.cells (bytesA (sUp (s.take (i + 1)))) true)) : Cov 0 σ H n ((upSt s (i + 1)).1, (upSt s (i + 1)).2, 1) := by
  refine Cov.of (fun _ => j) (Nat.zero_le _) (fun b hb => (Nat.not_lt_zero b hb).elim) ?_ ?_ ?_
  · intro x hx
    simp only [List.mem_cons, List.not_mem_nil, or_false] at hx
    rcases hx with rfl | rfl | rfl
    · exact .str e0
    · exact .sy (by decide) e1
    · exact .int e2
  · intro x hx
    simp only [List.mem_cons, List.not_mem_nil, or_false] at hx
    subst hx
    exact ⟨Nat.zero_lt_one, _, e3, SubO.maps fun c => .int rfl⟩
  · intro x hx y hy
    simp only [List.mem_cons, List.not_mem_nil, or_false] at hx hy
    subst hx hy
    exact fun _ => rfl
theorem up_e1 {c : Nat} (h3 : (97 : Int) ≤ Int.ofNat c) (h4 : Int.ofNat c ≤ 122) : IntKind.u8.wrap (IntKind.u8.wrap (Int.ofNat c - 97) + 65) = Int.ofNat (upC c) := by
  simp only [Int.ofNat_eq_natCast] at h3 h4 ⊢
  unfold upC
  rw [if_pos (by omega), IntKind.wrap_u8, IntKind.wrap_u8]; omega
theorem up_e2 {c : Nat} (h : ¬ (97 : Int) ≤ Int.ofNat c ∨ ¬ Int.ofNat c ≤ 122) : Int.ofNat c = Int.ofNat (upC c) := by
  simp only [Int.ofNat_eq_natCast] at h ⊢
  unfold upC
  rw [if_neg (by omega)]
set_option maxRecDepth 100000 in
set_option maxHeartbeats 4000000 in
theorem n_upper : NatP 33 (natS fun s => .ss (sUp s)) := natS_ok (d := 1) evP_ok (fun _ => rfl) fun s hs hl => by
  conv => whnf
  refine LoopP.mk (_root_.Fin (s.length + 1)) 1 (fun a => upSt s a.val) (fun a => s.length - a.val) 0 ?_ ?_
  · refine Cov.of (fun b => b) (Nat.zero_le _) (fun b hb => rfl) ?_ ?_ ?_
    · intro x hx
      simp only [List.mem_cons, List.not_mem_nil, or_false] at hx
      rcases hx with rfl | rfl | rfl
      · exact .str rfl
      · exact .same rfl
      · exact .int rfl
    · intro x hx; cases hx
    · intro x hx; cases hx
  · intro ⟨i, hi⟩
    cases i with
    | zero =>
      conv => whnf
      refine Fork.dec (fun h1 => ?_) (fun h1 => ?_)
      · have h2 : 0 < s.length := by omega
        obtain ⟨c, hc⟩ : ∃ c, s[0] = c := ⟨_, rfl⟩
        conv => whnf
        refine Idx.mk 0 rfl h2 ?_
        refine Ask.mk c (by rw [nth_eq, List.getElem?_eq_getElem h2, hc]) ?_
        conv => whnf
        refine Fork.dec (fun h3 => ?_) (fun h3 => ?_)
        · conv => whnf
          refine Fork.dec (fun h4 => ?_) (fun h4 => ?_)
          · skip
            conv => whnf
            refine ⟨⟨1, by omega⟩, by show s.length - 1 < s.length - 0; omega, up_cov (j := 2) rfl rfl rfl ?_⟩
            rw [sUp_take (by omega), hc]
            refine Eq.trans ?_ (congrArg (fun v => some (AO.cells [AV.si .u8 v] true)) (up_e1 h3 h4))
            rfl
          · skip
            conv => whnf
            refine ⟨⟨1, by omega⟩, by show s.length - 1 < s.length - 0; omega, up_cov (j := 2) rfl rfl rfl ?_⟩
            rw [sUp_take (by omega), hc]
            refine Eq.trans ?_ (congrArg (fun v => some (AO.cells [AV.si .u8 v] true)) (up_e2 (.inr h4)))
            rfl
        · skip
          conv => whnf
          refine ⟨⟨1, by omega⟩, by show s.length - 1 < s.length - 0; omega, up_cov (j := 2) rfl rfl rfl ?_⟩
          rw [sUp_take (by omega), hc]
          refine Eq.trans ?_ (congrArg (fun v => some (AO.cells [AV.si .u8 v] true)) (up_e2 (.inl h3)))
          rfl
      · conv => whnf
        have : s = [] := List.eq_nil_of_length_eq_zero (by omega)
        subst this; rfl
    | succ i =>
      conv => whnf
      refine Fork.dec (fun h1 => ?_) (fun h1 => ?_)
      · have h2 : i + 1 < s.length := by omega
        obtain ⟨c, hc⟩ : ∃ c, s[i + 1] = c := ⟨_, rfl⟩
        have hw : IntKind.i64.wrap (((i + 1 : Nat) : Int) + 1) = ((i + 1 + 1 : Nat) : Int) := by rw [wrap_i64_of (by omega) (by omega)]; omega
        conv => whnf
        refine Idx.mk (i + 1) rfl h2 ?_
        refine Ask.mk c (by rw [nth_eq, List.getElem?_eq_getElem h2, hc]) ?_
        conv => whnf
        refine Fork.dec (fun h3 => ?_) (fun h3 => ?_)
        · conv => whnf
          refine Fork.dec (fun h4 => ?_) (fun h4 => ?_)
          · skip
            conv => whnf
            refine Ask.mk _ (app_grow (k := 0) (by' := 1) (m := 1) (sn := i + 1) (c := i + 1) rfl rfl rfl rfl rfl rfl rfl rfl (by decide) rfl rfl rfl (by omega) (by omega) (subL_all (by simp [sUp]; omega))) ?_
            conv => whnf
            refine ⟨⟨i + 2, by omega⟩, by show s.length - (i + 2) < s.length - (i + 1); omega, up_cov (i := i + 1) (j := 2) rfl rfl (congrArg (AV.si IntKind.i64) hw) ?_⟩
            rw [sUp_take (i := i + 1) (by omega), hc]
            simp only [bytesA, List.map_append, List.map_cons, List.map_nil]
            exact congrArg (fun v => some (AO.cells (bytesA (sUp (s.take (i + 1))) ++ [AV.si .u8 v]) true)) (up_e1 h3 h4)
          · skip
            conv => whnf
            refine Ask.mk _ (app_grow (k := 0) (by' := 1) (m := 1) (sn := i + 1) (c := i + 1) rfl rfl rfl rfl rfl rfl rfl rfl (by decide) rfl rfl rfl (by omega) (by omega) (subL_all (by simp [sUp]; omega))) ?_
            conv => whnf
            refine ⟨⟨i + 2, by omega⟩, by show s.length - (i + 2) < s.length - (i + 1); omega, up_cov (i := i + 1) (j := 2) rfl rfl (congrArg (AV.si IntKind.i64) hw) ?_⟩
            rw [sUp_take (i := i + 1) (by omega), hc]
            simp only [bytesA, List.map_append, List.map_cons, List.map_nil]
            exact congrArg (fun v => some (AO.cells (bytesA (sUp (s.take (i + 1))) ++ [AV.si .u8 v]) true)) (up_e2 (.inr h4))
        · skip
          conv => whnf
          refine Ask.mk _ (app_grow (k := 0) (by' := 1) (m := 1) (sn := i + 1) (c := i + 1) rfl rfl rfl rfl rfl rfl rfl rfl (by decide) rfl rfl rfl (by omega) (by omega) (subL_all (by simp [sUp]; omega))) ?_
          conv => whnf
          refine ⟨⟨i + 2, by omega⟩, by show s.length - (i + 2) < s.length - (i + 1); omega, up_cov (i := i + 1) (j := 2) rfl rfl (congrArg (AV.si IntKind.i64) hw) ?_⟩
          rw [sUp_take (i := i + 1) (by omega), hc]
          simp only [bytesA, List.map_append, List.map_cons, List.map_nil]
          exact congrArg (fun v => some (AO.cells (bytesA (sUp (s.take (i + 1))) ++ [AV.si .u8 v]) true)) (up_e2 (.inl h3))
      · have h2 : i + 1 = s.length := by omega
        conv => whnf
        refine Ask.mk _ (conv_str rfl rfl rfl rfl rfl (subL_all (by simp [sUp]; omega)) (ebytes_map (s := sUp (s.take (i + 1))) ?_)) ?_
        · rw [h2]; simpa using sUp_lt hs
        · conv => whnf
          exact (congrArg AV.ss (by rw [h2, List.take_length]) : AV.ss (sUp (s.take (i + 1))) = AV.ss (sUp s))
end Go.Proofs.Ytaejmcgcfopmkaa
namespace Go.Proofs.Ytaejmcgcfopmkaa
open Go Go.RowKit
def pk (f : Int → Bool) : Int := if f 1 = true then 1 else if f 2 = true then 2 else if f 3 = true then 3 else if f 4 = true then 4 else if f 5 = true then 5 else if f 6 = true then 6 else if f 7 = true then 7 else 0
def pkE (f : Int → Bool) : Int := if pk f = 0 then 17 else 0
noncomputable def aIs (s : List Nat) (k : Int) : Bool := beqL (sName k) (sLow s)
noncomputable def rIs (s : List Nat) (k : Int) : Bool := beqL (sUp (sName k)) (sUp s)
noncomputable def FD : FuncId → EP := withS 32 (natS fun s => .ss (sLow s)) (withS 33 (natS fun s => .ss (sUp s)) (withS 15 (nat1s sName) (withS 16 (nat1s sName) FC)))
theorem FD_ok : TabP FD := withS_ok (withS_ok (withS_ok (withS_ok FC_ok n_name sing1s) n_rname sing1s) n_upper singS) n_lower singS
theorem leafT {a b c d : Int} (h : c = a) (k : d = b) : AV.tup [.si .i64 a, .si .i64 b] = .tup [.si .i64 c, .si .i64 d] := by rw [h, k]
set_option maxHeartbeats 4000000 in
set_option maxRecDepth 100000 in
theorem n_rparse : NatP 13 (natS fun s => .tup [.int .i64 (pk (rIs s)), .int .i64 (pkE (rIs s))]) := natS_ok (d := 2) FD_ok (fun _ => rfl) fun s hs hl => by
  conv => whnf
  refine LoopP.roll 9 ?_
  repeat' (conv => whnf
           first | refine Fork.dec (fun _ => ?_) (fun _ => ?_) | refine Fork.sb (fun _ => ?_) (fun _ => ?_) | refine And.intro hl ?_ | refine And.intro (by decide) ?_ | refine leafT ?_ ?_)
  all_goals
    have w2 : IntKind.i64.wrap (1 + 1) = 2 := rfl
    have w3 : IntKind.i64.wrap (2 + 1) = 3 := rfl
    have w4 : IntKind.i64.wrap (3 + 1) = 4 := rfl
    have w5 : IntKind.i64.wrap (4 + 1) = 5 := rfl
    have w6 : IntKind.i64.wrap (5 + 1) = 6 := rfl
    have w7 : IntKind.i64.wrap (6 + 1) = 7 := rfl
    simp only [w2, w3, w4, w5, w6, w7] at *
    simp [pk, pkE, rIs, *]
set_option maxHeartbeats 4000000 in
set_option maxRecDepth 100000 in
theorem n_parse : NatP 12 (natS fun s => .tup [.int .i64 (pk (aIs s)), .int .i64 (pkE (aIs s))]) := natS_ok (d := 2) FD_ok (fun _ => rfl) fun s hs hl => by
  conv => whnf
  refine LoopP.roll 9 ?_
  conv => whnf
  refine Fork.sb (fun h => absurd h (by decide)) (fun _ => ?_)
  conv => whnf
  refine Fork.sb (fun _ => ?_) (fun h => absurd h (by decide))
  conv => whnf
  refine And.intro hl ?_
  conv => whnf
  refine Fork.sb (fun h => ?_) (fun h => ?_)
  · have e1 : aIs s 1 = true := h
    have r : pk (aIs s) = 1 := by simp [pk, *]
    have q : pkE (aIs s) = 0 := by simp [pkE, r]
    conv => whnf
    exact leafT r q
  have e1 : aIs s 1 = false := h
  clear h
  conv => whnf
  refine Fork.sb (fun _ => ?_) (fun h => absurd h (by decide))
  conv => whnf
  refine And.intro hl ?_
  conv => whnf
  refine Fork.sb (fun h => ?_) (fun h => ?_)
  · have e2 : aIs s 2 = true := h
    have r : pk (aIs s) = 2 := by simp [pk, *]
    have q : pkE (aIs s) = 0 := by simp [pkE, r]
    conv => whnf
    exact leafT r q
  have e2 : aIs s 2 = false := h
  clear h
  conv => whnf
  refine Fork.sb (fun _ => ?_) (fun h => absurd h (by decide))
  conv => whnf
  refine And.intro hl ?_
  conv => whnf
  refine Fork.sb (fun h => ?_) (fun h => ?_)
  · have e3 : aIs s 3 = true := h
    have r : pk (aIs s) = 3 := by simp [pk, *]
    have q : pkE (aIs s) = 0 := by simp [pkE, r]
    conv => whnf
    exact leafT r q
  have e3 : aIs s 3 = false := h
  clear h
  conv => whnf
  refine Fork.sb (fun _ => ?_) (fun h => absurd h (by decide))
  conv => whnf
  refine And.intro hl ?_
  conv => whnf
  refine Fork.sb (fun h => ?_) (fun h => ?_)
  · have e4 : aIs s 4 = true := h
    have r : pk (aIs s) = 4 := by simp [pk, *]
    have q : pkE (aIs s) = 0 := by simp [pkE, r]
    conv => whnf
    exact leafT r q
  have e4 : aIs s 4 = false := h
  clear h
  conv => whnf
  refine Fork.sb (fun _ => ?_) (fun h => absurd h (by decide))
  conv => whnf
  refine And.intro hl ?_
  conv => whnf
  refine Fork.sb (fun h => ?_) (fun h => ?_)
  · have e5 : aIs s 5 = true := h
    have r : pk (aIs s) = 5 := by simp [pk, *]
    have q : pkE (aIs s) = 0 := by simp [pkE, r]
    conv => whnf
    exact leafT r q
  have e5 : aIs s 5 = false := h
  clear h
  conv => whnf
  refine Fork.sb (fun _ => ?_) (fun h => absurd h (by decide))
  conv => whnf
  refine And.intro hl ?_
  conv => whnf
  refine Fork.sb (fun h => ?_) (fun h => ?_)
  · have e6 : aIs s 6 = true := h
    have r : pk (aIs s) = 6 := by simp [pk, *]
    have q : pkE (aIs s) = 0 := by simp [pkE, r]
    conv => whnf
    exact leafT r q
  have e6 : aIs s 6 = false := h
  clear h
  conv => whnf
  refine Fork.sb (fun _ => ?_) (fun h => absurd h (by decide))
  conv => whnf
  refine And.intro hl ?_
  conv => whnf
  refine Fork.sb (fun h => ?_) (fun h => ?_)
  · have e7 : aIs s 7 = true := h
    have r : pk (aIs s) = 7 := by simp [pk, *]
    have q : pkE (aIs s) = 0 := by simp [pkE, r]
    conv => whnf
    exact leafT r q
  have e7 : aIs s 7 = false := h
  clear h
  have r : pk (aIs s) = 0 := by simp [pk, *]
  have q : pkE (aIs s) = 17 := by simp [pkE, r]
  conv => whnf
  exact leafT r q
end Go.Proofs.Ytaejmcgcfopmkaa
namespace Go.Proofs.Ytaejmcgcfopmkaa
open Go Go.RowKit
set_option maxRecDepth 100000 in
theorem n_rright : NatP 36 (nat2b sCan) := nat2b_ok (d := 1) evP_ok fun s a H n κ hk => by
  repeat' (conv => whnf
           first | refine Fork.dec (fun _ => ?_) (fun _ => ?_) | refine Fork.ndec (fun _ => ?_) (fun _ => ?_) | refine leafB hk ?_)
  all_goals simp [sCan, *]
noncomputable def FE : FuncId → EP := withS 36 (nat2b sCan) FD
theorem FE_ok : TabP FE := withS_ok FD_ok n_rright sing2b
set_option maxRecDepth 100000 in
theorem n_rstart : NatP 18 (nat3 sStart) := nat3_ok (d := 2) FE_ok fun t s a H n κ hk => by
  repeat' (conv => whnf
           first | refine Fork.dec (fun _ => ?_) (fun _ => ?_) | refine Fork.ndec (fun _ => ?_) (fun _ => ?_) | refine Fork.sb (fun _ => ?_) (fun _ => ?_) | refine Fork.nsb (fun _ => ?_) (fun _ => ?_) | refine And.intro ?_ ?_ | refine leafI hk ?_)
  · rename_i h1
    simp [sStart, sCan, h1]
  · rename_i h2 h1
    unfold sStart
    rw [if_neg (by omega)]
  · rename_i h3 h2 h1
    unfold sStart
    rw [if_neg (by simp only [sTime, decide_eq_true_eq]; omega)]
  · omega
  · rename_i h3 h2 h1
    have hq := Int.ediv_nonneg (show 0 ≤ t - a by omega) (show 0 ≤ s by omega)
    have hm := Int.emod_add_mul_ediv (t - a) s
    have hm1 := Int.emod_nonneg (t - a) (show s ≠ 0 by omega)
    have hm2 := Int.emod_lt_of_pos (t - a) (show 0 < s by omega)
    have hsq := Int.mul_nonneg (show 0 ≤ s by omega) hq
    have hle : (t - a) / s ≤ s * ((t - a) / s) := by
      have := Int.mul_le_mul_of_nonneg_right (show 1 ≤ s by omega) hq
      omega
    rw [wrap_i64_of (x := t - a) (by omega) (by omega), Int.tdiv_eq_ediv_of_nonneg (by omega), Int.mul_comm ((IntKind.i64.wrap ((t - a) / s))) s, wrap_i64_of (x := (t - a) / s) (by omega) (by omega), wrap_i64_of (x := s * ((t - a) / s)) (by omega) (by omega), wrap_i64_of (by omega) (by omega)]
    simp only [sStart, sCan, sTime, decide_eq_true_eq]
    rw [if_pos (by omega)]
    omega
noncomputable def FG : FuncId → EP := withS 18 (nat3 sStart) FE
theorem FG_ok : TabP FG := withS_ok FE_ok n_rstart sing3
set_option maxRecDepth 100000 in
theorem n_rend : NatP 20 (nat3 sEnd) := nat3_ok (d := 2) FG_ok fun b s a H n κ hk => by
  repeat' (conv => whnf
           first | refine Fork.dec (fun _ => ?_) (fun _ => ?_) | refine Fork.ndec (fun _ => ?_) (fun _ => ?_) | refine Fork.sb (fun _ => ?_) (fun _ => ?_) | refine Fork.nsb (fun _ => ?_) (fun _ => ?_) | refine And.intro ?_ ?_ | refine leafI hk ?_)
  all_goals
    have hb := sStart_bounds (t := b) (s := s) (a := a)
    unfold sEnd
    simp only [sCan, sTime, decide_eq_true_eq]
  · rw [if_neg (by omega)]
  · rw [if_neg (by omega)]
  · rw [if_neg (by omega)]
  · rw [if_pos (by omega), if_pos (by omega)]
  · rw [if_pos (by omega), if_neg (by omega), wrap_i64_of (by omega) (by omega)]
end Go.Proofs.Ytaejmcgcfopmkaa
namespace Go.Proofs.Ytaejmcgcfopmkaa
open Go Go.RowKit
theorem letter {a b : Nat} (h1 : 97 ≤ a) (h2 : a ≤ 122) : Nat.beq a (lowC b) = Nat.beq (upC a) (upC b) := by
  have key : a = lowC b ↔ upC a = upC b := by
    have e : upC a = a - 32 := by unfold upC; rw [if_pos ⟨h1, h2⟩]
    rw [e]
    unfold lowC upC
    split <;> split <;> omega
  rw [Bool.eq_iff_iff, Nat.beq_eq, Nat.beq_eq]
  exact key
theorem alike : ∀ (l s : List Nat), (∀ x ∈ l, 97 ≤ x ∧ x ≤ 122) → beqL l (sLow s) = beqL (sUp l) (sUp s)
  | [], [], _ => rfl
  | [], _ :: _, _ => rfl
  | _ :: _, [], _ => rfl
  | a :: l, b :: s, h => by
    have h1 := h a List.mem_cons_self
    have ih := alike l s fun x hx => h x (List.mem_cons_of_mem _ hx)
    have e := letter (b := b) h1.1 h1.2
    simp only [sLow, sUp, List.map_cons, beqL] at ih ⊢
    rw [e, ih]
theorem sName_letters (k : Int) : ∀ x ∈ sName k, 97 ≤ x ∧ x ≤ 122 := by
  unfold sName
  repeat' split
  all_goals simp
theorem is_same (s : List Nat) : aIs s = rIs s := funext fun k => alike _ _ (sName_letters k)
end Go.Proofs.Ytaejmcgcfopmkaa
namespace Go.Proofs.Ytaejmcgcfopmkaa
open Go Go.RowKit
def d_tachographlaw06AggTells : DT := [(5, [(some 0, [0]), (none, [25]), (some 1, [0]), (none, [27]), (some 0, [28]), (some 0, [26, 29]), (some 0, [30]), (some 0, [0, 31]), (none, [32, 31]), (some 1, [0, 31]), (none, [34, 31]), (some 0, [33, 35, 31]), (some 0, [31, 36]), (some 0, [37]), (some 0, [7, 38]), (some 0, [9, 38]), (some 0, [39, 40, 38]), (some 0, [38, 41]), (some 0, [42]), (some 0, [8, 43]), (some 0, [10, 43]), (some 0, [44, 45, 43]), (some 0, [43, 46]), (some 0, [47]), (some 0, [5, 48]), (some 0, [49, 48]), (some 0, [5, 48]), (some 0, [51, 48]), (some 0, [5, 48]), (some 0, [53, 48]), (none, [50, 52, 54, 48]), (some 1, [5, 48]), (some 2, [56, 48]), (some 3, [5, 48]), (some 4, [58, 48]), (some 5, [5, 48]), (some 6, [60, 48]), (none, [57, 59, 61, 48]), (some 0, [55, 62, 48]), (some 0, [48, 63]), (some 0, [64]), (some 0, [5, 65]), (some 0, [66, 65]), (some 0, [5, 65]), (some 0, [68, 65]), (some 0, [5, 65]), (some 0, [70, 65]), (none, [67, 69, 71, 65]), (some 1, [5, 65]), (some 2, [73, 65]), (some 3, [5, 65]), (some 4, [75, 65]), (some 5, [5, 65]), (some 6, [77, 65]), (none, [74, 76, 78, 65]), (some 0, [72, 79, 65]), (some 0, [65, 80]), (some 0, [81]), (none, [82]), (some 0, [82, 83]), (some 0, [84])])]
noncomputable def FH : FuncId → EP := withD 3 d_tachographlaw06AggTells (withS 20 (nat3 sEnd) (withS 13 (natS fun s => .tup [.int .i64 (pk (rIs s)), .int .i64 (pkE (rIs s))]) (withS 12 (natS fun s => .tup [.int .i64 (pk (aIs s)), .int .i64 (pkE (aIs s))]) FG)))
theorem FH_ok : TabP FH := withD_ok (withS_ok (withS_ok (withS_ok FG_ok n_parse singS) n_rparse singS) n_rend sing3) (by kernel_rfl) (by kernel_rfl)
theorem beqL_refl : ∀ l : List Nat, beqL l l = true
  | [] => rfl
  | a :: l => by
    unfold beqL
    rw [show Nat.beq a a = true from Nat.beq_refl a]
    exact beqL_refl l
theorem right_name (k : Int) : sRight k = !beqL (sName k) [] := by
  unfold sRight sName
  repeat' split
  all_goals first | (subst_vars; rfl) | (rw [decide_eq_false (by omega)]; rfl)
set_option maxHeartbeats 4000000 in
set_option maxRecDepth 100000 in
theorem w_aggTells (k : Int) (s : List Nat) (x y z : Int) : callT FH 3 3 [.si .i64 k, .ss s, .agg [.si .i64 x, .si .i64 y, .si .i64 z]] .nil 0 fun v _ _ => v = .bool true ∨ v = .sb true := by
  conv => whnf
  refine Fork.dec (fun h1 => ?_) (fun h1 => ?_)
  · conv => whnf
    exact .inl rfl
  · have hl : s.length ≤ 1000000 := by omega
    repeat' (conv => whnf
             first | refine Fork.dec (fun _ => ?_) (fun _ => ?_) | refine Fork.ndec (fun _ => ?_) (fun _ => ?_) | refine Fork.sb (fun _ => ?_) (fun _ => ?_) | refine Fork.nsb (fun _ => ?_) (fun _ => ?_) | refine And.intro hl ?_ | exact .inl rfl)
    all_goals
      exfalso
      have e1 := right_name k
      have e2 := beqL_refl (sName k)
      have e3 := is_same s
      first
        | (rename_i q; exact q rfl)
        | (rename_i q; exact q (by rw [e3]))
        | (rename_i q; rw [e2] at q; cases q)
        | (rename_i q; exact q e1)
end Go.Proofs.Ytaejmcgcfopmkaa
namespace Go.Proofs.Ytaejmcgcfopmkaa
open Go Go.RowKit
section
variable {φ : Ph} {H : AH} {n : Nat} {h0 hp : Hp}
/-- What lies at a place, seen from anywhere. -/
def RoAt (hp : Hp) (p : Pl) (l : List AV) : Prop := ∃ c t fz, hp.f p.B = some (.cells c t fz) ∧ l.length ≤ p.T ∧ p.s + p.T ≤ c.size ∧ ∀ ψ, CR ψ c p.s l
def ph1 (p : Pl) : Ph := fun b => if b = 0 then some p else none
def ph2 (p q : Pl) : Ph := fun b => if b = 0 then some p else if b = 1 then some q else none
theorem HR.ro1 (hw : Wf hp) {p : Pl} {l : List AV} (h : RoAt hp p l) : HR (ph1 p) (mkH [(0, .ro l)]) 1 hp hp := by
  obtain ⟨c, t, fz, h1, h2, h3, h4⟩ := h
  refine ⟨fun b q e => ?_, fun b o e => ?_, fun b b' o o' q q' e _ hw' => ?_, fun b o e => ⟨hw b o e, e⟩, Nat.le_refl _⟩
  · simp only [ph1] at e
    split at e
    · injection e with e; subst e; exact ⟨by omega, hw _ _ h1⟩
    · cases e
  · have hm := mkH_get e
    simp only [List.mem_cons, List.not_mem_nil, or_false] at hm
    injection hm with e1 e2
    subst e1 e2
    exact ⟨p, _, rfl, h1, h1, c, t, fz, rfl, h2, h3, h4 _⟩
  · have hm := mkH_get e
    simp only [List.mem_cons, List.not_mem_nil, or_false] at hm
    injection hm with e1 e2
    subst e2
    cases hw'
theorem HR.ro2 (hw : Wf hp) {p q : Pl} {l m : List AV} (h : RoAt hp p l) (k : RoAt hp q m) : HR (ph2 p q) (mkH [(0, .ro l), (1, .ro m)]) 2 hp hp := by
  obtain ⟨c, t, fz, h1, h2, h3, h4⟩ := h
  obtain ⟨c', t', fz', k1, k2, k3, k4⟩ := k
  have mem : ∀ b o, (mkH [(0, AO.ro l), (1, AO.ro m)]).get b = some o → (b = 0 ∧ o = .ro l) ∨ (b = 1 ∧ o = .ro m) := fun b o e => by
    have hm := mkH_get e
    simp only [List.mem_cons, List.not_mem_nil, or_false] at hm
    rcases hm with hm | hm
    · injection hm with e1 e2; exact .inl ⟨e1, e2⟩
    · injection hm with e1 e2; exact .inr ⟨e1, e2⟩
  refine ⟨fun b r e => ?_, fun b o e => ?_, fun b b' o o' r r' e _ hw' => ?_, fun b o e => ⟨hw b o e, e⟩, Nat.le_refl _⟩
  · simp only [ph2] at e
    split at e
    · injection e with e; subst e; exact ⟨by omega, hw _ _ h1⟩
    · split at e
      · injection e with e; subst e; exact ⟨by omega, hw _ _ k1⟩
      · cases e
  · rcases mem b o e with ⟨rfl, rfl⟩ | ⟨rfl, rfl⟩
    · exact ⟨p, _, rfl, h1, h1, c, t, fz, rfl, h2, h3, h4 _⟩
    · exact ⟨q, _, rfl, k1, k1, c', t', fz', rfl, k2, k3, k4 _⟩
  · rcases mem b o e with ⟨_, rfl⟩ | ⟨_, rfl⟩ <;> cases hw'
theorem HR.ro0 (hw : Wf hp) : HR (fun _ => none) .nil 0 hp hp := start_none hw
/-- A run on a small memory, all other memory being its base: only its value is kept. -/
theorem smallN {F : FuncId → EP} (hF : TabP F) {d : Nat} {f : FuncId} {args0 : List AV} {H0 : AH} {n0 : Nat} {v : AV} (hv : flat v = true) (h : callT F d f args0 H0 n0 fun u _ _ => mkT u = mkT v)
    {vs : Array Value} {κ : PK} {K : KH} (hs : κ (mkT v) H n) (hr : HR φ H n h0 hp) (hk : ThenP φ h0 κ K) (hic : isCall Try.prog f = true) {φ0 : Ph} (hr0 : Wf hp → HR φ0 H0 n0 hp hp) (hargs : VRs φ0 args0 vs.toList) : CallF Try.prog f vs hp K := by
  have key : Wf hp → CallF Try.prog f vs hp K := fun hw => callT_sound (by kernel_rfl) hF d f args0 H0 n0 _ h φ0 hp hp vs K (hr0 hw) hargs fun ψ u H' n' w g _ hg hu he => by
    have hg2 : HR φ H n h0 g := hr.grow (fun b o hb => (hg.base b o hb).2) hg.size
    have h3 : VR φ (mkT v) w := (flat_VR (φ := ψ) (flat_mkT hv) (he ▸ hu.mkT))
    exact hk φ _ H n w g (PLe.refl _) hg2 h3 hs
  exact ⟨hic, fun w hi => (key hi.wf).2 w hi⟩
/-- Cells that are known, looked at from a place of their own. -/
theorem RoAt.of (hr : HR φ H n h0 hp) {b o m : Nat} {l r s : List AV} {p : Pl} (hb : H.get b = some (.ro l) ∨ ∃ z, H.get b = some (.cells l z)) (hpb : φ b = some p) (hs : subL l o m = some r) (hm : r.map mk = s.map mk) (hf : s.all flat.flat1 = true) : RoAt hp ⟨p.B, p.s + o, m⟩ s := by
  have key : ∃ c t fz, hp.f p.B = some (.cells c t fz) ∧ l.length ≤ p.T ∧ p.s + p.T ≤ c.size ∧ CR φ c p.s l := by
    rcases hb with hb | ⟨z, hb⟩
    · obtain ⟨ob, _, h2, c, t, fz, rfl, h3, h4, h5⟩ := hr.of hb hpb
      exact ⟨c, t, fz, h2, h3, h4, h5⟩
    · obtain ⟨ob, _, h2, c, t, fz, rfl, h3, h4, _, _, h5⟩ := hr.of hb hpb
      exact ⟨c, t, fz, h2, h3, h4, h5⟩
  obtain ⟨c, t, fz, h1, h2, h3, h4⟩ := key
  obtain ⟨h5, h6⟩ := subL_spec hs
  have hlen : s.length = m := by
    have := congrArg List.length hm
    simp only [List.length_map] at this
    rw [← this, h6]
    simp; omega
  refine ⟨c, t, fz, h1, by simp only; omega, by simp only; omega, fun ψ i a hi => ?_⟩
  have hi2 := (List.getElem?_eq_some_iff.1 hi).1
  have h7 : ∃ a', r[i]? = some a' ∧ mk a' = mk a := by
    have e := congrArg (fun x : List AV => x[i]?) hm
    simp only [List.getElem?_map, hi, Option.map_some] at e
    rw [Option.map_eq_some_iff] at e
    exact e
  obtain ⟨a', h8, h9⟩ := h7
  have h10 : l[o + i]? = some a' := by
    rw [h6] at h8
    rw [List.getElem?_take, if_pos (by omega), List.getElem?_drop] at h8
    exact h8
  obtain ⟨v, h11, h12⟩ := h4 (o + i) a' h10
  refine ⟨v, by simp only; rw [Nat.add_assoc]; exact h11, ?_⟩
  have h13 : VR φ (mk a) v := h9 ▸ h12.mk
  have h14 : flat.flat1 a = true := List.all_eq_true.1 hf a (List.mem_of_getElem? hi)
  exact flat1_VR h14 (by cases a <;> first | exact h13 | cases h14)
end
end Go.Proofs.Ytaejmcgcfopmkaa
namespace Go.Proofs.Ytaejmcgcfopmkaa
open Go Go.RowKit Go.ChangeShapes Go.WideShapes
section
variable {H : Type} {enc : TypeId × Value → H} {P : Program} {w : World} {base : Nat} {sp : Nat → Bool} {held : Bool}
theorem mapM_ints {e : TypeId} {k : IntKind} (he : P.underlying e = some (.int k)) {m c : Nat} {cs : List Value} : ∀ (L : List Nat) (xs : List (DataW H × List MemPlace)), L.mapM (fun i => DataW.trod enc P w base sp held m e ((cs.drop (i * c)).take c)) = some xs →
    (∀ i ∈ L, ∃ n, (cs.drop (i * c)).take c = [.int k n] ∧ (Lit.int k n).wf = true) ∧ ∀ x ∈ xs, x.2 = []
  | [], xs, h => by
    simp at h
    subst h
    simp
  | i :: L, xs, h => by
    rw [List.mapM_cons] at h
    simp only [bind, Option.bind_eq_some_iff, pure, Option.some.injEq] at h
    obtain ⟨y, hy, ys, hys, rfl⟩ := h
    obtain ⟨h1, h2⟩ := mapM_ints he L ys hys
    obtain ⟨a, ea, rfl, wa⟩ := DataW.trod_int he hy
    refine ⟨fun j hj => ?_, fun x hx => ?_⟩
    · rcases List.mem_cons.1 hj with rfl | hj
      · exact ⟨a, ea, wa⟩
      · exact h1 j hj
    · rcases List.mem_cons.1 hx with rfl | hx
      · rfl
      · exact h2 x hx
def intOf : Value → Int
  | .int _ n => n
  | _ => 0
/-- An array of numbers. -/
theorem open_intarr {r : Reach} {b0 n : Nat} {t e : TypeId} {k : IntKind} {v : Value} {d : DataW H} {ps : List MemPlace} (hu : P.underlying t = some (.array n e)) (he : P.underlying e = some (.int k)) (h1 : P.cellsOf e = 1) (hs : P.cellsOf t = n)
    (hval : Value.okWide P w r b0 t v) (hd : DataW.Trod enc P w base sp held t v d ps) : ∃ zs : List Int, zs.length = n ∧ v = .agg (zs.map (Value.int k)).toArray ∧ ps = [] ∧ ∀ z ∈ zs, (Lit.int k z).wf = true := by
  simp only [Value.okWide, hu] at hval
  obtain ⟨cs, rfl, hsz, _⟩ := hval
  rw [hs] at hsz
  obtain ⟨fuel, hf⟩ := hd
  cases fuel with
  | zero => simp [DataW.trod] at hf
  | succ m =>
    rw [DataW.trod_step] at hf
    unfold DataW.trodStep at hf
    simp only [hu, Value.cells] at hf
    rw [if_pos (by rw [hs]; simpa using hsz)] at hf
    simp only [Option.map_eq_some_iff] at hf
    obtain ⟨ys, hy, e1⟩ := hf
    obtain ⟨q1, q2⟩ := mapM_ints he _ ys hy
    simp only [Prod.mk.injEq] at e1
    have hcell : ∀ i (hi : i < cs.size), ∃ z, cs[i] = .int k z ∧ (Lit.int k z).wf = true := fun i hi => by
      obtain ⟨z, hz, hwf⟩ := q1 i (by simp; omega)
      rw [h1, Nat.mul_one] at hz
      have : cs.toList[i]? = some (.int k z) := by
        have h3 : ((cs.toList.drop i).take 1)[0]? = some (.int k z) := by rw [hz]; rfl
        simpa [List.getElem?_take, List.getElem?_drop] using h3
      refine ⟨z, ?_, hwf⟩
      rw [Array.getElem?_toList, Array.getElem?_eq_getElem hi] at this
      injection this
    refine ⟨cs.toList.map intOf, by simpa using hsz, ?_, ?_, fun z hz => ?_⟩
    · congr 1
      apply Array.ext
      · simp
      · intro i hi hi2
        obtain ⟨z, h4, _⟩ := hcell i hi
        simp [h4, intOf]
    · rw [← e1.2]
      simp only [List.flatMap_eq_nil_iff]
      exact q2
    · simp only [List.mem_map, Array.mem_toList_iff] at hz
      obtain ⟨v, hv, rfl⟩ := hz
      obtain ⟨i, hi, e⟩ := Array.mem_iff_getElem.1 hv
      obtain ⟨z, h4, h5⟩ := hcell i hi
      rw [← e, h4]
      exact h5
theorem u8_rng {z : Int} (h : (Lit.int .u8 z).wf = true) : 0 ≤ z ∧ z ≤ 255 := by
  simp [Lit.wf, IntKind.min, IntKind.max, IntKind.signed, IntKind.bits] at h
  omega
theorem len2 {zs : List Int} (h : zs.length = 2) : ∃ a b, zs = [a, b] := by
  match zs, h with
  | [a, b], _ => exact ⟨a, b, rfl⟩
theorem len3 {zs : List Int} (h : zs.length = 3) : ∃ a b c, zs = [a, b, c] := by
  match zs, h with
  | [a, b, c], _ => exact ⟨a, b, c, rfl⟩
theorem vr_ints {φ : Ph} {k : IntKind} (zs : List Int) : VR φ (.agg (zs.map (AV.si k))) (.agg (zs.map (Value.int k)).toArray) := .agg (by simpa using VRs.map (fun z => VR.si k z) zs)
theorem vr_string {φ : Ph} (s : ByteArray) : VR φ (.ss (s.data.toList.map UInt8.toNat)) (.string s) := by
  have h : VR φ (.ss (s.data.toList.map UInt8.toNat)) (.string (vstr (s.data.toList.map UInt8.toNat))) := .ss fun x hx => by
    simp only [List.mem_map] at hx
    obtain ⟨c, _, rfl⟩ := hx
    exact UInt8.toNat_lt c
  rwa [vstr_data] at h
end
end Go.Proofs.Ytaejmcgcfopmkaa
namespace Go.Proofs.Ytaejmcgcfopmkaa
open Go Go.RowKit
/-! ### samples -/
abbrev Smp := List (Int × Int)
def smp (L : Smp) : List AV := L.flatMap fun x => [.si .i64 x.1, .si .i64 x.2]
theorem smp_length (L : Smp) : (smp L).length = L.length * 2 := by
  induction L with
  | nil => rfl
  | cons x L ih => simp only [smp, List.flatMap_cons, List.length_append, List.length_cons, List.length_nil] at ih ⊢; omega
theorem smp_flat (L : Smp) : (smp L).all flat.flat1 = true := by
  induction L with
  | nil => rfl
  | cons x L ih => exact ih
theorem smp_map (L : Smp) : (smp L).map mk = smp L := by
  induction L with
  | nil => rfl
  | cons x L ih =>
    show mk (.si .i64 x.1) :: mk (.si .i64 x.2) :: (smp L).map mk = _
    rw [ih]; rfl
theorem smp_drop : ∀ (L : Smp) (i : Nat), (smp L).drop (i * 2) = smp (L.drop i)
  | L, 0 => by simp
  | [], i + 1 => by simp [smp]
  | x :: L, i + 1 => by
    rw [show (i + 1) * 2 = i * 2 + 2 from by omega]
    exact smp_drop L i
theorem smp_at {L : Smp} {i : Nat} (h : i < L.length) : (smp L).drop (i * 2) = .si .i64 L[i].1 :: .si .i64 L[i].2 :: smp (L.drop (i + 1)) := by
  rw [smp_drop, List.drop_eq_getElem_cons h]; rfl
theorem smp_sub {L : Smp} {i o : Nat} (h : i < L.length) (ho : o = i * 2) : subL (smp L) o 2 = some [.si .i64 L[i].1, .si .i64 L[i].2] := by
  subst ho
  unfold subL
  rw [Nat.ble_eq_true_of_le (by rw [smp_length]; omega), smp_at h]; rfl
theorem smp_nth0 {L : Smp} {i o : Nat} (h : i < L.length) (ho : o = i * 2) : nth (smp L) o = some (.si .i64 L[i].1) := by
  subst ho
  have := congrArg (fun l => l[0]?) (smp_at h)
  simp only [List.getElem?_drop, Nat.add_zero, List.getElem?_cons_zero] at this
  rw [nth_eq, this]
theorem smp_nth1 {L : Smp} {i o : Nat} (h : i < L.length) (ho : o = i * 2 + 1) : nth (smp L) o = some (.si .i64 L[i].2) := by
  subst ho
  have := congrArg (fun l => l[1]?) (smp_at h)
  simp only [List.getElem?_drop, List.getElem?_cons_succ, List.getElem?_cons_zero] at this
  rw [nth_eq, this]
/-- A slice that holds these samples. -/
def SmpAt (H : AH) (a : AV) (L : Smp) : Prop := (hd a = .nsl ∧ L = []) ∨ ∃ b o c k l r, hd a = .sl b o L.length c k ∧ (H.get b = some (.ro l) ∨ ∃ z, H.get b = some (.cells l z)) ∧ subL l o (L.length * 2) = some r ∧ r.map mk = smp L ∧ L.length ≤ c
/-! ### rows of numbers -/
def ints (V : List Int) : List AV := V.map fun v => .si .i64 v
theorem ints_flat (V : List Int) : (ints V).all flat.flat1 = true := by
  induction V with
  | nil => rfl
  | cons x L ih => exact ih
theorem ints_map (V : List Int) : (ints V).map mk = ints V := by simp [ints, mk, Function.comp_def]
theorem ints_length (V : List Int) : (ints V).length = V.length := by simp [ints]
theorem ints_nth {V : List Int} {i o : Nat} (h : i < V.length) (ho : o = i) : nth (ints V) o = some (.si .i64 V[i]) := by
  subst ho
  rw [nth_eq, ints, List.getElem?_map, List.getElem?_eq_getElem h]; rfl
def IntAt (H : AH) (a : AV) (V : List Int) : Prop := (hd a = .nsl ∧ V = []) ∨ ∃ b o c k l r, hd a = .sl b o V.length c k ∧ (H.get b = some (.ro l) ∨ ∃ z, H.get b = some (.cells l z)) ∧ subL l o V.length = some r ∧ r.map mk = ints V
theorem eix_of {ix : AV} {k : IntKind} {i : Int} {j len : Nat} (h : ix = .int k i) (hi : i = (j : Int)) (lt : j < len) : eix ix len = some j := by
  subst h hi
  unfold eix
  have : Nat.blt j len = true := by rw [Nat.blt_eq]; exact lt
  simp only [Int.ofNat_eq_natCast, this]
theorem foldl_take {α β : Type} {f : β → α → β} {l : List α} {b : β} {i : Nat} (h : i < l.length) : (l.take (i + 1)).foldl f b = f ((l.take i).foldl f b) l[i] := by
  rw [List.take_succ_eq_append_getElem h, List.foldl_append]; rfl
def vals (L : Smp) : List Int := L.map (·.2)
theorem vals_take {L : Smp} {i : Nat} (h : i < L.length) : vals (L.take (i + 1)) = vals (L.take i) ++ [L[i].2] := by
  unfold vals
  rw [List.take_succ_eq_append_getElem h, List.map_append]; rfl
theorem vals_len {L : Smp} {i : Nat} (h : i ≤ L.length) : (vals (L.take i)).length = i := by simp [vals]; omega
theorem ints_snoc (W : List Int) (v : Int) : (ints W ++ [AV.si .i64 v]).map mk = ints (W ++ [v]) := by simp [ints, mk, Function.comp_def]
theorem eslice_to {P : Program} {t e : TypeId} {es b o n c j : Nat} {i : Int} {kk : IntKind} (hu : P.underlying t = some (.slice e)) (hs : tySize P e = some es) (hi : i = (j : Int)) (hj : j ≤ c) : eslice P t (.sl b o n c 0) none (some (.int kk i)) none = some (.sl b o j c 0) := by
  subst hi
  have e1 : ebnd (some (AV.int kk (j : Int))) n = some j := rfl
  simp only [eslice, hu, hs, e1]
  simp only [ebnd]
  rw [if_pos ⟨Nat.zero_le _, hj, Nat.le_refl _⟩]
  simp
theorem smp_take : ∀ (L : Smp) (i : Nat), (smp L).take (i * 2) = smp (L.take i)
  | L, 0 => by simp [smp]
  | [], i + 1 => by simp [smp]
  | x :: L, i + 1 => by
    rw [show (i + 1) * 2 = i * 2 + 2 from by omega]
    show AV.si .i64 x.1 :: AV.si .i64 x.2 :: (smp L).take (i * 2) = _
    rw [smp_take L i]; rfl
theorem smp_sub0 {L : Smp} {j : Nat} (h : j ≤ L.length) : subL (smp L) 0 ((L.take j).length * 2) = some (smp (L.take j)) := by
  have : (L.take j).length = j := by rw [List.length_take]; omega
  rw [this]
  unfold subL
  rw [Nat.ble_eq_true_of_le (by rw [smp_length]; omega)]
  simp [smp_take]
theorem smp_whole (L : Smp) : subL (smp L) 0 (L.length * 2) = some (smp L) := subL_all (smp_length L)
/-- A function of a number and samples. -/
def natKS (B : Nat) (f : Int → Smp → AV) (args : List AV) (H : AH) (n : Nat) (κ : PK) : Prop := match args with
  | [x, l] => asI x fun k => ∃ L, SmpAt H l L ∧ L.length ≤ B ∧ κ (mkT (f k L)) H n
  | _ => False
theorem singKS {B : Nat} {f : Int → Smp → AV} : SingG (natKS B f) := .pure fun args H n κ hs => by
  unfold natKS at *
  split at hs
  · obtain ⟨k, ⟨L, h1, h2, h3⟩, k1⟩ := asI_sing hs
    exact ⟨_, h3, fun κ' h => k1 _ ⟨L, h1, h2, h⟩⟩
  · exact hs.elim
theorem natKS_ok {B : Nat} {F : FuncId → EP} (hF : TabP F) {d : Nat} {f : FuncId} {g : Int → Smp → AV} (hic : isCall Try.prog f = true) (hg : ∀ k L, flat (g k L) = true) (h0 : ∀ k, callT F d f [.si .i64 k, .nsl] .nil 0 fun u _ _ => mkT u = mkT (g k []))
    (h1 : ∀ k L cap, L.length ≤ B → callT F d f [.si .i64 k, .sl 0 0 L.length cap 0] (mkH [(0, .ro (smp L))]) 1 fun u _ _ => mkT u = mkT (g k L)) : NatP f (natKS B g) := fun args H n κ hs φ h0' hp vs K hr hargs hk => by
  unfold natKS at hs
  split at hs
  · obtain ⟨x, y, rfl, e1, e2⟩ := vs2 hargs
    obtain ⟨k, e1, L, hS, hL, hs2⟩ := asI_si e1 hs
    rcases hS with ⟨ey, rfl⟩ | ⟨b, o, c, kk, l, r, ey, hb, hsub, hmk, _⟩
    · exact smallN hF (hg k []) (h0 k) hs2 hr hk hic HR.ro0 (.cons (e1 : VR _ (.si .i64 k) x) (.cons (by have := e2.hd; rw [ey] at this; rw [this.nsl_inv]; exact .nsl) .nil))
    · have e3 := e2.hd
      rw [ey] at e3
      obtain ⟨p, C, hpb, rfl, _, _⟩ := e3.sl_inv
      have hro := RoAt.of (s := smp L) hr hb hpb hsub (by rw [hmk, smp_map]) (smp_flat L)
      exact smallN hF (hg k L) (h1 k L C hL) hs2 hr hk hic (fun hw => HR.ro1 hw hro) (.cons (by rw [e1.si_inv]; exact .si _ _) (.cons (.sl (p := ⟨p.B, p.s + o, L.length * 2⟩) (b := 0) (o := 0) (C := C) rfl (fun _ => rfl) (fun q => absurd rfl q)) .nil))
  · exact hs.elim
def natKI (f : Int → List Int → AV) (args : List AV) (H : AH) (n : Nat) (κ : PK) : Prop := match args with
  | [x, l] => asI x fun k => ∃ V, IntAt H l V ∧ V.length ≤ 9223372036854775807 ∧ κ (mkT (f k V)) H n
  | _ => False
theorem singKI {f : Int → List Int → AV} : SingG (natKI f) := .pure fun args H n κ hs => by
  unfold natKI at *
  split at hs
  · obtain ⟨k, ⟨L, h1, h2, h3⟩, k1⟩ := asI_sing hs
    exact ⟨_, h3, fun κ' h => k1 _ ⟨L, h1, h2, h⟩⟩
  · exact hs.elim
theorem natKI_ok {F : FuncId → EP} (hF : TabP F) {d : Nat} {f : FuncId} {g : Int → List Int → AV} (hic : isCall Try.prog f = true) (hg : ∀ k L, flat (g k L) = true) (h0 : ∀ k, callT F d f [.si .i64 k, .nsl] .nil 0 fun u _ _ => mkT u = mkT (g k []))
    (h1 : ∀ k V cap, V.length ≤ 9223372036854775807 → callT F d f [.si .i64 k, .sl 0 0 V.length cap 0] (mkH [(0, .ro (ints V))]) 1 fun u _ _ => mkT u = mkT (g k V)) : NatP f (natKI g) := fun args H n κ hs φ h0' hp vs K hr hargs hk => by
  unfold natKI at hs
  split at hs
  · obtain ⟨x, y, rfl, e1, e2⟩ := vs2 hargs
    obtain ⟨k, e1, V, hS, hL, hs2⟩ := asI_si e1 hs
    rcases hS with ⟨ey, rfl⟩ | ⟨b, o, c, kk, l, r, ey, hb, hsub, hmk⟩
    · exact smallN hF (hg k []) (h0 k) hs2 hr hk hic HR.ro0 (.cons (e1 : VR _ (.si .i64 k) x) (.cons (by have := e2.hd; rw [ey] at this; rw [this.nsl_inv]; exact .nsl) .nil))
    · have e3 := e2.hd
      rw [ey] at e3
      obtain ⟨p, C, hpb, rfl, _, _⟩ := e3.sl_inv
      have hro := RoAt.of (s := ints V) hr hb hpb hsub (by rw [hmk, ints_map]) (ints_flat V)
      exact smallN hF (hg k V) (h1 k V C hL) hs2 hr hk hic (fun hw => HR.ro1 hw hro) (.cons (by rw [e1.si_inv]; exact .si _ _) (.cons (.sl (p := ⟨p.B, p.s + o, V.length⟩) (b := 0) (o := 0) (C := C) rfl (fun _ => rfl) (fun q => absurd rfl q)) .nil))
  · exact hs.elim
end Go.Proofs.Ytaejmcgcfopmkaa
namespace Go.Proofs.Ytaejmcgcfopmkaa
open Go Go.RowKit
def pCap (a b : Int) : Int := sCap a b
def rOver (a b : Int) : Bool := decide (0 < b ∧ IntKind.i64.wrap (9223372036854775807 - b) < a ∨ b < 0 ∧ a < IntKind.i64.wrap (-9223372036854775808 - b))
def rCap (a b : Int) : Int := if rOver a b = true then (if 0 < b then 9223372036854775807 else -9223372036854775808) else IntKind.i64.wrap (a + b)
set_option maxRecDepth 100000 in
theorem n_pcap : NatP 39 (nat2i pCap) := nat2i_ok (d := 2) evP_ok fun a b H n κ hk => by
  repeat' (conv => whnf
           first | refine Fork.dec (fun _ => ?_) (fun _ => ?_) | refine Fork.ndec (fun _ => ?_) (fun _ => ?_) | refine Fork.sb (fun _ => ?_) (fun _ => ?_) | refine Fork.nsb (fun _ => ?_) (fun _ => ?_) | refine leafI hk ?_)
  all_goals
    simp only [pCap, sCap, sOver, decide_eq_true_eq]
    split
    · first | (split <;> omega) | omega
    · omega
set_option maxRecDepth 100000 in
theorem n_rcap : NatP 47 (nat2i rCap) := nat2i_ok (d := 2) evP_ok fun a b H n κ hk => by
  repeat' (conv => whnf
           first | refine Fork.dec (fun _ => ?_) (fun _ => ?_) | refine Fork.ndec (fun _ => ?_) (fun _ => ?_) | refine Fork.sb (fun _ => ?_) (fun _ => ?_) | refine Fork.nsb (fun _ => ?_) (fun _ => ?_) | refine leafI hk ?_)
  all_goals
    simp only [rCap, rOver, decide_eq_true_eq]
    split
    · first | (split <;> omega) | omega
    · omega
structure SS where
  n : Int
  sum : Int
  least : Int
  great : Int
  first : Int
  last : Int
def stateCells (k : Int) (s : SS) : List AV := [.si .i64 k, .si .i64 s.n, .si .i64 s.sum, .si .i64 s.least, .si .i64 s.great, .si .i64 s.first, .si .i64 s.last, .si .i64 0]
def stateCellsK (k : Int) (s : SS) : List AV := [.int .i64 k, .si .i64 s.n, .si .i64 s.sum, .si .i64 s.least, .si .i64 s.great, .si .i64 s.first, .si .i64 s.last, .si .i64 0]
def aWide (s : SS) : Int := if IntKind.i64.wrap (s.great - s.least) < 0 then 9223372036854775807 else IntKind.i64.wrap (s.great - s.least)
def aVal (k : Int) (s : SS) : Int := if k = 1 then s.sum else if k = 2 then s.least else if k = 3 then s.great else if k = 4 then s.n else if k = 5 then s.first else if k = 6 then s.last else aWide s
def aTold (k : Int) (s : SS) : AV := .tup [.int .i64 (if s.n = 0 then 0 else aVal k s), .bool (!decide (s.n = 0))]
noncomputable def FJ : FuncId → EP := withD 24 [] (withD 46 [] (withS 39 (nat2i pCap) (withS 47 (nat2i rCap) FH)))
theorem FJ_ok : TabP FJ := withD_ok (withD_ok (withS_ok (withS_ok FH_ok n_rcap sing2i) n_pcap sing2i) (by kernel_rfl) (by kernel_rfl)) (by kernel_rfl) (by kernel_rfl)
theorem told0 {k : Int} {s : SS} (h : s.n = 0) : AV.tup [.si .i64 0, .sb false] = mkT (aTold k s) := by simp [aTold, mkT, mk, h]
theorem told1 {k : Int} {s : SS} (h : ¬ s.n = 0) {w : Int} (hw : aVal k s = w) : AV.tup [.si .i64 w, .sb true] = mkT (aTold k s) := by simp [aTold, mkT, mk, h, hw]
set_option maxHeartbeats 4000000 in
set_option maxRecDepth 100000 in
theorem value_run (k : Int) (h1 : 1 ≤ k) (h2 : k ≤ 7) (s : SS) : callT FJ 3 25 [.ptr 0 0] (mkH [(0, .ro (stateCellsK k s))]) 1 fun u _ _ => mkT u = mkT (aTold k s) := by
  obtain ⟨sn, ssum, sl, sg, sf, sla⟩ := s
  rcases kinds (k := k) (by omega) (by omega) with rfl | rfl | rfl | rfl | rfl | rfl | rfl
  all_goals
    repeat' (conv => whnf
             first | refine Fork.dec (fun _ => ?_) (fun _ => ?_) | (refine told0 ?_; assumption) | (refine told1 ?_ rfl; assumption) | (refine told1 ?_ (w := _) ?_))
    all_goals first
      | assumption
      | (show aWide _ = _
         unfold aWide
         first | rw [if_pos (by assumption)] | rw [if_neg (by assumption)])
end Go.Proofs.Ytaejmcgcfopmkaa
namespace Go.Proofs.Ytaejmcgcfopmkaa
open Go Go.RowKit
/-! ### a state's value, known -/
def StateAt (H : AH) (b : Nat) (k : Int) (s : SS) : Prop := ∃ l, (H.get b = some (.ro l) ∨ ∃ z, H.get b = some (.cells l z)) ∧ l.map mk = stateCells k s
def natVal (args : List AV) (H : AH) (n : Nat) (κ : PK) : Prop := match args with
  | [a] => (a = .nil ∧ κ (.tup [.si .i64 0, .sb false]) H n) ∨ ∃ k s b, a = .ptr b 0 ∧ StateAt H b k s ∧ 1 ≤ k ∧ k ≤ 7 ∧ κ (mkT (aTold k s)) H n
  | _ => False
theorem singVal : SingG natVal := .pure fun args H n κ hs => by
  unfold natVal at *
  split at hs
  · rcases hs with ⟨h1, h2⟩ | ⟨k, s, b, h1, h2, h3, h4, h5⟩
    · exact ⟨_, h2, fun κ' h => .inl ⟨h1, h⟩⟩
    · exact ⟨_, h5, fun κ' h => .inr ⟨k, s, b, h1, h2, h3, h4, h⟩⟩
  · exact hs.elim
set_option maxRecDepth 100000 in
theorem value_nil : callT FJ 3 25 [.nil] .nil 0 fun u _ _ => mkT u = mkT (.tup [.int .i64 0, .bool false]) := by
  conv => whnf
  rfl
theorem n_value : NatP 25 natVal := fun args H n κ hs φ h0 hp vs K hr hargs hk => by
  unfold natVal at hs
  split at hs
  · obtain ⟨x, rfl, h1⟩ := vs1 hargs
    rcases hs with ⟨rfl, h2⟩ | ⟨k, s, b, rfl, ⟨l, hb, hl⟩, h3, h4, h5⟩
    · exact smallN (v := .tup [.int .i64 0, .bool false]) FJ_ok rfl value_nil h2 hr hk (by kernel_rfl) HR.ro0 (.cons (by rw [h1.nil_inv]; exact .nil) .nil)
    · obtain ⟨p, hpb, rfl⟩ := h1.ptr_inv
      have hlen : l.length = 8 := by simpa [stateCells] using congrArg List.length hl
      have hro := RoAt.of (s := stateCellsK k s) hr hb hpb (subL_all hlen) (by rw [hl]; rfl) rfl
      exact smallN FJ_ok (v := aTold k s) rfl (value_run k h3 h4 s) h5 hr hk (by kernel_rfl) (fun hw => HR.ro1 hw hro) (.cons (.ptr (p := ⟨p.B, p.s + 0, 8⟩) (b := 0) (o := 0) rfl) .nil)
  · exact hs.elim
noncomputable def FK : FuncId → EP := withS 25 natVal FJ
theorem FK_ok : TabP FK := withS_ok FJ_ok n_value singVal
/-! ### numbers added -/
def aAdd (s : SS) (v : Int) : SS := if s.n = 0 then ⟨IntKind.i64.wrap (s.n + 1), pCap s.sum v, min v v, max v v, v, v⟩ else ⟨IntKind.i64.wrap (s.n + 1), pCap s.sum v, min s.least v, max s.great v, s.first, v⟩
def ss0 : SS := ⟨0, 0, 0, 0, 0, 0⟩
def aAll (L : Smp) : SS := L.foldl (fun s x => aAdd s x.2) ss0
theorem aAll_take {L : Smp} {i : Nat} (h : i < L.length) : aAll (L.take (i + 1)) = aAdd (aAll (L.take i)) L[i].2 := by
  unfold aAll
  rw [List.take_succ_eq_append_getElem h, List.foldl_append]; rfl
def aNum (k : Int) (L : Smp) : Int := if sRight k = true then (if (aAll L).n = 0 then 0 else aVal k (aAll L)) else 0
def aHas (k : Int) (L : Smp) : Bool := sRight k && !decide ((aAll L).n = 0)
def aFold (k : Int) (L : Smp) : AV := .tup [.int .i64 (aNum k L), .bool (aHas k L)]
theorem aFold_pos {k : Int} {L : Smp} (h : sRight k = true) : aFold k L = aTold k (aAll L) := by simp [aFold, aNum, aHas, aTold, h]
theorem aFold_neg {k : Int} {L : Smp} (h : sRight k = false) : aFold k L = .tup [.int .i64 0, .bool false] := by simp [aFold, aNum, aHas, h]
/-! ### the walk -/
noncomputable def foldSt (k : Int) (L : Smp) (cap i : Nat) : AE × AH := (mkE [(6, .ptr 1 0), (15, .sl 0 0 L.length cap 0), (16, .si .i64 L.length), (17, .si .i64 i)], mkH [(0, .ro (smp L)), (1, .cells (stateCells k (aAll (L.take i))) true)])
theorem fold_cov {k : Int} {L : Smp} {cap i p n : Nat} {σ : AE} {H : AH} {l : List AV} (hp : p ≤ 2) (e6 : getq (pa 6) σ = .ptr 1 0) (e15 : mk (getq (pa 15) σ) = .sy 0 0 L.length cap 0) (e16 : mk (getq (pa 16) σ) = .si .i64 L.length) (e17 : mk (getq (pa 17) σ) = .si .i64 i)
    (h0 : H.get 0 = some (.ro (smp L))) (h1 : H.get 1 = some (.cells l true)) (h2 : l.map mk = stateCells k (aAll (L.take i))) : Cov p σ H n ((foldSt k L cap i).1, (foldSt k L cap i).2, 2) := by
  refine Cov.of (fun b => b) hp (fun b hb => rfl) ?_ ?_ ?_
  · intro x hx
    simp only [List.mem_cons, List.not_mem_nil, or_false] at hx
    rcases hx with rfl | rfl | rfl | rfl
    · exact .ptr (by decide) e6
    · exact .sl (by decide) e15
    · exact .int e16
    · exact .int e17
  · intro x hx
    simp only [List.mem_cons, List.not_mem_nil, or_false] at hx
    rcases hx with rfl | rfl
    · exact ⟨by simp, _, h0, SubO.ro_mk (smp_flat L) rfl⟩
    · exact ⟨by simp, _, h1, SubO.cells_mk rfl h2 (fun q => q)⟩
  · intro x hx y hy
    simp only [List.mem_cons, List.not_mem_nil, or_false] at hx hy
    rcases hx with rfl | rfl <;> rcases hy with rfl | rfl <;> exact fun q => q
noncomputable def foldSt0 (L : Smp) (cap i : Nat) : AE × AH := (mkE [(6, .nil), (15, .sl 0 0 L.length cap 0), (16, .si .i64 L.length), (17, .si .i64 i)], mkH [(0, .ro (smp L))])
theorem fold_cov0 {L : Smp} {cap i p n : Nat} {σ : AE} {H : AH} (hp : p ≤ 1) (e6 : getq (pa 6) σ = .nil) (e15 : mk (getq (pa 15) σ) = .sy 0 0 L.length cap 0) (e16 : mk (getq (pa 16) σ) = .si .i64 L.length) (e17 : mk (getq (pa 17) σ) = .si .i64 i)
    (h0 : H.get 0 = some (.ro (smp L))) : Cov p σ H n ((foldSt0 L cap i).1, (foldSt0 L cap i).2, 1) := by
  refine Cov.of (fun b => b) hp (fun b hb => rfl) ?_ ?_ ?_
  · intro x hx
    simp only [List.mem_cons, List.not_mem_nil, or_false] at hx
    rcases hx with rfl | rfl | rfl | rfl
    · exact .flat rfl (congrArg mk e6)
    · exact .sl (by decide) e15
    · exact .int e16
    · exact .int e17
  · intro x hx
    simp only [List.mem_cons, List.not_mem_nil, or_false] at hx
    subst hx
    exact ⟨by simp, _, h0, SubO.ro_mk (smp_flat L) rfl⟩
  · intro x hx y hy
    simp only [List.mem_cons, List.not_mem_nil, or_false] at hx hy
    subst hx hy
    exact fun q => q
theorem eight {a1 a2 a3 a4 a5 a6 a7 a8 b1 b2 b3 b4 b5 b6 b7 b8 : AV} (h1 : mk a1 = b1) (h2 : mk a2 = b2) (h3 : mk a3 = b3) (h4 : mk a4 = b4) (h5 : mk a5 = b5) (h6 : mk a6 = b6) (h7 : mk a7 = b7) (h8 : mk a8 = b8) :
    List.map mk [a1, a2, a3, a4, a5, a6, a7, a8] = [b1, b2, b3, b4, b5, b6, b7, b8] := by subst h1 h2 h3 h4 h5 h6 h7 h8; rfl
theorem right_pos {k : Int} (h : sRight k = true) : 1 ≤ k ∧ k ≤ 7 := by simpa only [sRight, decide_eq_true_eq] using h
set_option maxHeartbeats 4000000 in
set_option maxRecDepth 100000 in
theorem fold_run (k : Int) (L : Smp) (cap : Nat) (hL : L.length ≤ 9223372036854775807) : callT FK 3 22 [.si .i64 k, .sl 0 0 L.length cap 0] (mkH [(0, .ro (smp L))]) 1 fun u _ _ => mkT u = mkT (aFold k L) := by
  conv => whnf
  refine Fork.nsb (fun hr => ?_) (fun hr => ?_)
  · conv => whnf
    refine LoopP.mk (_root_.Fin (L.length + 1)) 1 (fun a => foldSt0 L cap a.val) (fun a => L.length - a.val) 0 ?_ ?_
    · exact fold_cov0 (i := 0) (by decide) rfl rfl rfl rfl rfl
    · intro ⟨i, hi⟩
      conv => whnf
      refine Fork.dec (fun h1 => ?_) (fun h1 => ?_)
      · have h2 : i < L.length := Int.ofNat_lt.1 h1
        have hw : IntKind.i64.wrap ((i : Int) + 1) = ((i + 1 : Nat) : Int) := by rw [wrap_i64_of (by omega) (by omega)]; omega
        conv => whnf
        refine Idx.mk i rfl h2 ?_
        conv => whnf
        refine optP_of (smp_sub h2 (by show 0 + i * 2 = i * 2; omega)) ?_
        have hlt : L.length - (i + 1) < L.length - i := by omega
        conv => whnf
        exact ⟨⟨i + 1, by omega⟩, hlt, fold_cov0 (Nat.le_refl 1) rfl rfl rfl (congrArg (AV.si IntKind.i64) hw) rfl⟩
      · conv => whnf
        refine .inl ⟨rfl, ?_⟩
        conv => whnf
        exact (show mkT _ = AV.tup [.si .i64 0, .sb false] from rfl).trans (by rw [aFold_neg hr]; rfl)
  · have hk := right_pos hr
    conv => whnf
    refine LoopP.mk (_root_.Fin (L.length + 1)) 2 (fun a => foldSt k L cap a.val) (fun a => L.length - a.val) 0 ?_ ?_
    · exact fold_cov (i := 0) (by decide) rfl rfl rfl rfl rfl rfl rfl
    · intro ⟨i, hi⟩
      conv => whnf
      refine Fork.dec (fun h1 => ?_) (fun h1 => ?_)
      · have h2 : i < L.length := Int.ofNat_lt.1 h1
        have hw : IntKind.i64.wrap ((i : Int) + 1) = ((i + 1 : Nat) : Int) := by rw [wrap_i64_of (by omega) (by omega)]; omega
        conv => whnf
        refine Idx.mk i rfl h2 ?_
        conv => whnf
        refine optP_of (smp_sub h2 (by show 0 + i * 2 = i * 2; omega)) ?_
        have hlt : L.length - (i + 1) < L.length - i := by omega
        conv => whnf
        refine Fork.ndec (fun h3 => absurd (show (0 : Int) < k by omega) h3) (fun h3 => ?_)
        conv => whnf
        refine Fork.dec (fun h4 => ?_) (fun h4 => ?_)
        · conv => whnf
          refine ⟨⟨i + 1, by omega⟩, hlt, fold_cov (l := _) (Nat.le_succ 1) rfl rfl rfl (congrArg (AV.si IntKind.i64) hw) rfl rfl ?_⟩
          exact Eq.trans rfl (congrArg (stateCells k) ((aAll_take h2).trans (if_pos h4)).symm)
        · conv => whnf
          refine ⟨⟨i + 1, by omega⟩, hlt, fold_cov (l := _) (Nat.le_succ 1) rfl rfl rfl (congrArg (AV.si IntKind.i64) hw) rfl rfl ?_⟩
          exact Eq.trans rfl (congrArg (stateCells k) ((aAll_take h2).trans (if_neg h4)).symm)
      · conv => whnf
        have h2 : i = L.length := by have : ¬ (i : Int) < L.length := h1; omega
        subst h2
        refine .inr ⟨k, aAll (L.take L.length), 1, rfl, ⟨_, .inr ⟨_, rfl⟩, rfl⟩, hk.1, hk.2, ?_⟩
        conv => whnf
        rw [List.take_length]
        rw [aFold_pos hr]
        rfl
set_option maxHeartbeats 4000000 in
set_option maxRecDepth 100000 in
theorem fold_nil (k : Int) : callT FK 3 22 [.si .i64 k, .nsl] .nil 0 fun u _ _ => mkT u = mkT (aFold k []) := by
  conv => whnf
  refine Fork.nsb (fun hr => ?_) (fun hr => ?_)
  · conv => whnf
    refine LoopP.roll 1 ?_
    conv => whnf
    refine .inl ⟨rfl, ?_⟩
    conv => whnf
    exact (show mkT _ = AV.tup [.si .i64 0, .sb false] from rfl).trans (by rw [aFold_neg hr]; rfl)
  · have hk := right_pos hr
    conv => whnf
    refine LoopP.roll 1 ?_
    conv => whnf
    refine .inr ⟨k, ss0, 0, rfl, ⟨_, .inr ⟨_, rfl⟩, rfl⟩, hk.1, hk.2, ?_⟩
    conv => whnf
    exact (show mkT _ = mkT (aTold k ss0) from rfl).trans (congrArg mkT (aFold_pos (L := []) hr).symm)
theorem n_fold : NatP 22 (natKS 9223372036854775807 aFold) := natKS_ok FK_ok (by kernel_rfl) (fun k L => rfl) fold_nil fold_run
end Go.Proofs.Ytaejmcgcfopmkaa
namespace Go.Proofs.Ytaejmcgcfopmkaa
open Go Go.RowKit
noncomputable def FL : FuncId → EP := withD 37 [] (withS 22 (natKS 9223372036854775807 aFold) FK)
theorem FL_ok : TabP FL := withD_ok (withS_ok FK_ok n_fold singKS) (by kernel_rfl) (by kernel_rfl)
/-! ### what numbers make -/
def rWide (least most : Int) : Int := if 0 ≤ least ∨ most < 0 ∨ most ≤ IntKind.i64.wrap (9223372036854775807 + least) then IntKind.i64.wrap (most - least) else 9223372036854775807
def rVal (k x : Int) (r : List Int) : Int := if k = 1 then r.foldl rCap x else if k = 2 then r.foldl min x else if k = 3 then r.foldl max x else if k = 4 then (r.length + 1 : Nat) else if k = 5 then x else if k = 6 then (x :: r)[r.length]'(by simp) else rWide (r.foldl min x) (r.foldl max x)
def rNum (k : Int) (V : List Int) : Int := if sRight k = true then (match V with
  | [] => 0
  | x :: r => rVal k x r) else 0
def rHas (k : Int) (V : List Int) : Bool := sRight k && !V.isEmpty
def rTold (k : Int) (V : List Int) : AV := .tup [.int .i64 (rNum k V), .bool (rHas k V)]
theorem name_empty {k : Int} (h : beqL (sName k) [] = true) : sRight k = false := by rw [right_name, h]; rfl
theorem name_full {k : Int} (h : beqL (sName k) [] = false) : sRight k = true := by rw [right_name, h]; rfl
theorem rTold_neg {k : Int} {V : List Int} (h : sRight k = false) : rTold k V = .tup [.int .i64 0, .bool false] := by simp [rTold, rNum, rHas, h]
theorem rTold_nil {k : Int} : rTold k [] = .tup [.int .i64 0, .bool false] := by simp [rTold, rNum, rHas]
theorem rTold_pos {k x : Int} {r : List Int} (h : sRight k = true) : rTold k (x :: r) = .tup [.int .i64 (rVal k x r), .bool true] := by simp [rTold, rNum, rHas, h]
theorem leafR {k x w : Int} {r : List Int} (hr : sRight k = true) (h : rVal k x r = w) : AV.tup [.si .i64 w, .sb true] = mkT (rTold k (x :: r)) := by rw [rTold_pos hr, ← h]; rfl
/-! ### the walk -/
noncomputable def valSt (k x : Int) (r : List Int) (cap i : Nat) : AE × AH := (mkE [(0, .si .i64 k), (1, .sl 0 0 (r.length + 1) cap 0), (6, .si .i64 ((r.take i).foldl rCap x)), (7, .si .i64 ((r.take i).foldl min x)), (8, .si .i64 ((r.take i).foldl max x)), (9, .si .i64 (i + 1 : Nat))], mkH [(0, .ro (ints (x :: r)))])
theorem val_cov {k x : Int} {r : List Int} {cap i p n : Nat} {σ : AE} {H : AH} (hp : p ≤ 1) (e0 : mk (getq (pa 0) σ) = .si .i64 k) (e1 : mk (getq (pa 1) σ) = .sy 0 0 (r.length + 1) cap 0) (e6 : mk (getq (pa 6) σ) = .si .i64 ((r.take i).foldl rCap x))
    (e7 : mk (getq (pa 7) σ) = .si .i64 ((r.take i).foldl min x)) (e8 : mk (getq (pa 8) σ) = .si .i64 ((r.take i).foldl max x)) (e9 : mk (getq (pa 9) σ) = .si .i64 (i + 1 : Nat)) (h0 : H.get 0 = some (.ro (ints (x :: r)))) : Cov p σ H n ((valSt k x r cap i).1, (valSt k x r cap i).2, 1) := by
  refine Cov.of (fun b => b) hp (fun b hb => rfl) ?_ ?_ ?_
  · intro x hx
    simp only [List.mem_cons, List.not_mem_nil, or_false] at hx
    rcases hx with rfl | rfl | rfl | rfl | rfl | rfl
    · exact .int e0
    · exact .sl (by decide) e1
    · exact .int e6
    · exact .int e7
    · exact .int e8
    · exact .int e9
  · intro x hx
    simp only [List.mem_cons, List.not_mem_nil, or_false] at hx
    subst hx
    exact ⟨by simp, _, h0, SubO.ro_mk (ints_flat _) rfl⟩
  · intro x hx y hy
    simp only [List.mem_cons, List.not_mem_nil, or_false] at hx hy
    subst hx hy
    exact fun q => q
set_option maxRecDepth 100000 in
theorem values_nil (k : Int) : callT FL 3 37 [.si .i64 k, .nsl] .nil 0 fun u _ _ => mkT u = mkT (rTold k []) := by
  rw [rTold_nil]
  conv => whnf
  refine Fork.sb (fun h1 => ?_) (fun h1 => ?_)
  · conv => whnf
    rfl
  · conv => whnf
    rfl
set_option maxHeartbeats 4000000 in
set_option maxRecDepth 100000 in
theorem values_run (k : Int) (V : List Int) (cap : Nat) (hV : V.length ≤ 9223372036854775807) : callT FL 3 37 [.si .i64 k, .sl 0 0 V.length cap 0] (mkH [(0, .ro (ints V))]) 1 fun u _ _ => mkT u = mkT (rTold k V) := by
  rcases V with _ | ⟨x, r⟩
  · rw [rTold_nil]
    conv => whnf
    refine Fork.sb (fun h1 => ?_) (fun h1 => ?_)
    · conv => whnf
      rfl
    · conv => whnf
      rfl
  · conv => whnf
    refine Fork.sb (fun h1 => ?_) (fun h1 => ?_)
    · rw [rTold_neg (name_empty h1)]
      conv => whnf
      rfl
    · have hr := name_full h1
      have hk := right_pos hr
      simp only [List.length_cons] at hV
      conv => whnf
      refine LoopP.mk (_root_.Fin (r.length + 1)) 1 (fun a => valSt k x r cap a.val) (fun a => r.length - a.val) 0 ?_ ?_
      · exact val_cov (i := 0) (Nat.le_refl 1) rfl rfl rfl rfl rfl rfl rfl
      · intro ⟨i, hi⟩
        conv => whnf
        refine Fork.dec (fun h2 => ?_) (fun h2 => ?_)
        · have h2 : ((i + 1 : Nat) : Int) < ((r.length + 1 : Nat) : Int) := h2
          have h3 : i < r.length := by omega
          have hlt : r.length - (i + 1) < r.length - i := by omega
          have hw : IntKind.i64.wrap (((i + 1 : Nat) : Int) + 1) = ((i + 1 + 1 : Nat) : Int) := by rw [wrap_i64_of (x := ((i + 1 : Nat) : Int) + 1) (by omega) (by omega)]; omega
          have hat : nth (ints (x :: r)) (0 + (i + 1) * 1) = some (.si .i64 r[i]) := ints_nth (V := x :: r) (i := i + 1) (by simp; omega) (by omega)
          conv => whnf
          refine Idx.mk (i + 1) rfl (by omega) ?_
          conv => whnf
          refine optP_of hat ?_
          conv => whnf
          refine Idx.mk (i + 1) rfl (by omega) ?_
          conv => whnf
          refine optP_of hat ?_
          conv => whnf
          refine Idx.mk (i + 1) rfl (by omega) ?_
          conv => whnf
          refine optP_of hat ?_
          conv => whnf
          exact ⟨⟨i + 1, by omega⟩, hlt, val_cov (Nat.le_refl 1) rfl rfl (congrArg (AV.si .i64) (foldl_take (f := rCap) (b := x) h3).symm) (congrArg (AV.si .i64) (foldl_take (f := min) (b := x) h3).symm) (congrArg (AV.si .i64) (foldl_take (f := max) (b := x) h3).symm) (congrArg (AV.si .i64) hw) rfl⟩
        · have h2 : ¬ ((i + 1 : Nat) : Int) < ((r.length + 1 : Nat) : Int) := h2
          have h3 : i = r.length := by omega
          subst h3
          obtain ⟨j, hj⟩ : ∃ j : Nat, k = (j : Int) + 1 := ⟨(k - 1).toNat, by omega⟩
          have hkw : IntKind.i64.wrap (k - 1) = (j : Int) := by rw [wrap_i64_of (by omega) (by omega)]; omega
          have hlw : IntKind.i64.wrap (((r.length + 1 : Nat) : Int) - 1) = (r.length : Int) := by rw [wrap_i64_of (by omega) (by omega)]; omega
          have htk : r.take r.length = r := List.take_length
          repeat' (conv => whnf
                   first | refine Fork.dec (fun _ => ?_) (fun _ => ?_) | refine optP_of (eix_of rfl hlw (Nat.lt_succ_self _)) ?_ | refine optP_of (ints_nth (V := x :: r) (i := r.length) (by simp) (by show 0 + r.length * 1 = r.length; omega)) ?_ | refine Idx.mk j hkw (by show j < 7; omega) ?_)
          all_goals
            have hj7 : j = 0 ∨ j = 1 ∨ j = 2 ∨ j = 3 ∨ j = 4 ∨ j = 5 ∨ j = 6 := by omega
            rcases hj7 with rfl | rfl | rfl | rfl | rfl | rfl | rfl
            all_goals (conv => whnf)
            all_goals refine (show mkT _ = AV.tup [.si .i64 _, .sb true] from rfl).trans (leafR hr ?_)
          all_goals
            subst hj
            simp only [List.take_length] at *
            first
              | rfl
              | (show rWide _ _ = _
                 unfold rWide
                 first | (rw [if_pos]; omega) | (rw [if_neg]; omega))
theorem n_rvalues : NatP 37 (natKI rTold) := natKI_ok FL_ok (by kernel_rfl) (fun k V => rfl) values_nil values_run
end Go.Proofs.Ytaejmcgcfopmkaa
namespace Go.Proofs.Ytaejmcgcfopmkaa
open Go Go.RowKit
noncomputable def FM : FuncId → EP := withS 37 (natKI rTold) FL
theorem FM_ok : TabP FM := withS_ok FL_ok n_rvalues singKI
noncomputable abbrev rfoldSt (k : Int) (L : Smp) (cap : Nat) : Nat → AE × AH
  | 0 => (mkE [(0, .si .i64 k), (1, .sl 0 0 L.length cap 0), (6, .nsl), (7, .si .i64 0)], mkH [(0, .ro (smp L))])
  | i + 1 => (mkE [(0, .si .i64 k), (1, .sl 0 0 L.length cap 0), (6, .sl 1 0 (i + 1) (i + 1) 1), (7, .si .i64 (i + 1 : Nat))], mkH [(0, .ro (smp L)), (1, .cells (ints (vals (L.take (i + 1)))) true)])
theorem rfold_cov {k : Int} {L : Smp} {cap i n p : Nat} {σ : AE} {H : AH} {l : List AV} (hp : p ≤ 1) (e0 : mk (getq (pa 0) σ) = .si .i64 k) (e1 : mk (getq (pa 1) σ) = .sy 0 0 L.length cap 0) (e6 : mk (getq (pa 6) σ) = .sy 3 0 (i + 1) (i + 1) 1) (e7 : mk (getq (pa 7) σ) = .si .i64 (i + 1 : Nat))
    (h0 : H.get 0 = some (.ro (smp L))) (h1 : H.get 3 = some (.cells l true)) (h2 : l.map mk = ints (vals (L.take (i + 1)))) : Cov p σ H n ((rfoldSt k L cap (i + 1)).1, (rfoldSt k L cap (i + 1)).2, 2) := by
  refine Cov.of (fun b => if b = 0 then 0 else 3) (by omega) (fun b hb => by rw [if_pos (by omega)]; omega) ?_ ?_ ?_
  · intro x hx
    simp only [List.mem_cons, List.not_mem_nil, or_false] at hx
    rcases hx with rfl | rfl | rfl | rfl
    · exact .int e0
    · exact .sl (by decide) e1
    · exact .sl (by decide) e6
    · exact .int e7
  · intro x hx
    simp only [List.mem_cons, List.not_mem_nil, or_false] at hx
    rcases hx with rfl | rfl
    · exact ⟨by simp, _, h0, SubO.ro_mk (smp_flat L) rfl⟩
    · exact ⟨by simp, _, h1, SubO.cells_mk (ints_flat _) (by rw [h2, ints_map]) (fun q => q)⟩
  · intro x hx y hy
    simp only [List.mem_cons, List.not_mem_nil, or_false] at hx hy
    rcases hx with rfl | rfl <;> rcases hy with rfl | rfl <;> simp
theorem rfold_cov0 {k : Int} {L : Smp} {cap n p : Nat} {σ : AE} {H : AH} (hp : p ≤ 1) (e0 : mk (getq (pa 0) σ) = .si .i64 k) (e1 : mk (getq (pa 1) σ) = .sy 0 0 L.length cap 0) (e6 : mk (getq (pa 6) σ) = .nsl) (e7 : mk (getq (pa 7) σ) = .si .i64 0)
    (h0 : H.get 0 = some (.ro (smp L))) : Cov p σ H n ((rfoldSt k L cap 0).1, (rfoldSt k L cap 0).2, 2) := by
  refine Cov.of (fun b => b) (by omega) (fun b hb => rfl) ?_ ?_ ?_
  · intro x hx
    simp only [List.mem_cons, List.not_mem_nil, or_false] at hx
    rcases hx with rfl | rfl | rfl | rfl
    · exact .int e0
    · exact .sl (by decide) e1
    · exact .flat rfl e6
    · exact .int e7
  · intro x hx
    simp only [List.mem_cons, List.not_mem_nil, or_false] at hx
    subst hx
    exact ⟨by simp, _, h0, SubO.ro_mk (smp_flat L) rfl⟩
  · intro x hx y hy
    simp only [List.mem_cons, List.not_mem_nil, or_false] at hx hy
    subst hx hy
    exact fun q => q
def rFold (k : Int) (L : Smp) : AV := rTold k (vals L)
set_option maxRecDepth 100000 in
theorem rfold_nil (k : Int) : callT FM 3 23 [.si .i64 k, .nsl] .nil 0 fun u _ _ => mkT u = mkT (rFold k []) := by
  conv => whnf
  refine LoopP.roll 1 ?_
  conv => whnf
  refine ⟨[], .inl ⟨rfl, rfl⟩, by decide, ?_⟩
  conv => whnf
  rfl
set_option maxHeartbeats 4000000 in
set_option maxRecDepth 100000 in
theorem rfold_run (k : Int) (L : Smp) (cap : Nat) (hL : L.length ≤ 8796093022208) : callT FM 3 23 [.si .i64 k, .sl 0 0 L.length cap 0] (mkH [(0, .ro (smp L))]) 1 fun u _ _ => mkT u = mkT (rFold k L) := by
  conv => whnf
  refine LoopP.mk (_root_.Fin (L.length + 1)) 2 (fun a => rfoldSt k L cap a.val) (fun a => L.length - a.val) 0 ?_ ?_
  · exact rfold_cov0 (Nat.le_refl 1) rfl rfl rfl rfl rfl
  · intro ⟨i, hi⟩
    cases i with
    | zero =>
      conv => whnf
      refine Fork.dec (fun h1 => ?_) (fun h1 => ?_)
      · have h2 : 0 < L.length := Int.ofNat_lt.1 h1
        have hlt : L.length - 1 < L.length - 0 := by omega
        conv => whnf
        refine Idx.mk 0 rfl h2 ?_
        conv => whnf
        refine optP_of (smp_nth1 h2 rfl) ?_
        conv => whnf
        refine ⟨⟨1, by omega⟩, hlt, rfold_cov (i := 0) (Nat.le_refl 1) rfl rfl rfl rfl rfl rfl ?_⟩
        exact Eq.trans rfl (congrArg ints (vals_take h2).symm)
      · have h2 : L = [] := List.eq_nil_of_length_eq_zero (by have : ¬ (0 : Int) < (L.length : Int) := h1; omega)
        subst h2
        conv => whnf
        refine ⟨[], .inl ⟨rfl, rfl⟩, by decide, ?_⟩
        conv => whnf
        rfl
    | succ i =>
      conv => whnf
      refine Fork.dec (fun h1 => ?_) (fun h1 => ?_)
      · have h2 : i + 1 < L.length := Int.ofNat_lt.1 h1
        have hlt : L.length - (i + 2) < L.length - (i + 1) := by omega
        have hw : IntKind.i64.wrap (((i + 1 : Nat) : Int) + 1) = ((i + 1 + 1 : Nat) : Int) := by rw [wrap_i64_of (x := ((i + 1 : Nat) : Int) + 1) (by omega) (by omega)]; omega
        conv => whnf
        refine Idx.mk (i + 1) rfl h2 ?_
        conv => whnf
        refine optP_of (smp_nth1 h2 (by show 0 + (i + 1) * 2 + 1 = (i + 1) * 2 + 1; omega)) ?_
        conv => whnf
        refine optP_of (app_grow (k := 0) (by' := 8) (m := 1) (sn := i + 1) (c := i + 1) rfl rfl rfl rfl rfl rfl rfl rfl (by decide) rfl rfl rfl (by omega) (by omega) (subL_all (by rw [ints_length, vals_len (by omega)]; omega))) ?_
        conv => whnf
        refine ⟨⟨i + 2, by omega⟩, hlt, rfold_cov (i := i + 1) (Nat.le_refl 1) rfl rfl rfl (congrArg (AV.si .i64) hw) rfl rfl ?_⟩
        refine Eq.trans ?_ (congrArg ints (vals_take h2).symm)
        exact ints_snoc _ _
      · have h2 : i + 1 = L.length := by have : ¬ ((i + 1 : Nat) : Int) < (L.length : Int) := h1; omega
        have hv : (vals (L.take (i + 1))).length = i + 1 := vals_len (by omega)
        have hL' : L.take (i + 1) = L := by rw [h2, List.take_length]
        conv => whnf
        refine ⟨vals (L.take (i + 1)), .inr ⟨1, 0, i + 1, 1, _, _, (show _ = AV.sl 1 0 (i + 1) (i + 1) 1 from rfl).trans (by rw [hv]), .inr ⟨_, rfl⟩, subL_all (ints_length _), ints_map _⟩, by omega, ?_⟩
        conv => whnf
        exact (show mkT _ = mkT (rTold k (vals (L.take (i + 1)))) from rfl).trans (by rw [hL']; rfl)
theorem n_rfold : NatP 23 (natKS 8796093022208 rFold) := natKS_ok FM_ok (by kernel_rfl) (fun k V => rfl) rfold_nil rfold_run
end Go.Proofs.Ytaejmcgcfopmkaa
namespace Go.Proofs.Ytaejmcgcfopmkaa
open Go Go.RowKit Go.ChangeShapes Go.WideShapes
def In64 (x : Int) : Prop := -9223372036854775808 ≤ x ∧ x ≤ 9223372036854775807
theorem rowAt_le {P : Program} {fits : TypeId → Bool} : ∀ (d : Nat) (e : TypeId) (count off n : Nat), rowAt P fits d e count off n = true → off ≤ count * P.cellsOf e
  | 0, e, count, off, n, h => by simp [rowAt] at h
  | d + 1, e, count, off, n, h => by
    unfold rowAt at h
    simp only at h
    split at h
    · cases h
    · rename_i hs
      have h0 := Nat.div_add_mod off (P.cellsOf e)
      have h1 := Nat.mod_lt off (Nat.pos_of_ne_zero hs)
      generalize off / P.cellsOf e = q at *
      generalize off % P.cellsOf e = m at *
      simp only [Bool.or_eq_true, Bool.and_eq_true, beq_iff_eq, decide_eq_true_eq] at h
      rcases h with ⟨⟨h2, h3⟩, _⟩ | ⟨h2, _⟩
      · have : P.cellsOf e * q ≤ P.cellsOf e * count := Nat.mul_le_mul_left _ (by omega)
        rw [Nat.mul_comm count]; omega
      · have : P.cellsOf e * (q + 1) ≤ P.cellsOf e * count := Nat.mul_le_mul_left _ (by omega)
        rw [Nat.mul_add, Nat.mul_one] at this
        rw [Nat.mul_comm count]; omega
theorem liesAt_le {P : Program} : ∀ (d : Nat) (e : TypeId) (count off : Nat) (u : TypeId) (n : Nat), liesAt P d e count off u n = true → off ≤ count * P.cellsOf e
  | 0, e, count, off, u, n, h => by simp [liesAt] at h
  | d + 1, e, count, off, u, n, h => by
    unfold liesAt at h
    simp only [Bool.or_eq_true] at h
    rcases h with h | h
    · exact rowAt_le _ _ _ _ _ h
    · split at h
      · exact liesAt_le d _ _ _ _ _ h
      · cases h
section
variable {H : Type} {enc : TypeId × Value → H} {P : Program} {W : World} {sp : Nat → Bool} {held : Bool}
theorem okWide_slice_at {r : Reach} {b0 : Nat} {t e : TypeId} {v : Value} (ht : P.underlying t = some (.slice e)) (hval : Value.okWide P W r b0 t v) : v = .slice none 0 0 ∨ ∃ b off len cap c u fz, v = .slice (some ⟨b, off, none⟩) len cap ∧ W.heap[b]? = some (.cells c u fz) ∧ off ≤ c.size := by
  simp only [Value.okWide, ht, Cell.okWide, Cell.ok] at hval
  split at hval
  all_goals first | (rename_i h _; cases h; done) | (rename_i h; cases h; done) | skip
  · exact .inl rfl
  · rename_i a len cap _
    obtain ⟨b, off, spot⟩ := a
    obtain ⟨_, _, _, h2, row, cells, h3, h4⟩ := hval
    change spot = none at h2
    change W.shape? b = _ at h3
    change liesAt _ _ _ _ off _ _ = true at h4
    subst h2
    unfold World.shape? at h3
    split at h3
    · rename_i c u fz hb
      injection h3 with h3
      injection h3 with h5 h6
      subst h5 h6
      refine .inr ⟨b, off, len, cap, c, _, fz, rfl, hb, ?_⟩
      exact Nat.le_trans (liesAt_le _ _ _ _ _ _ h4) (Nat.div_mul_le_self _ _)
    · cases h3
  · exact hval.elim
theorem cell_at {b off : Nat} {c : Array Value} {u : TypeId} {fz : Nat × Nat} (hb : W.heap[b]? = some (.cells c u fz)) {i : Nat} {v : Value} (h : W.cell? ((⟨b, off, none⟩ : Addr).add i) = some v) : c[off + i]? = some v := by
  have e : (⟨b, off, none⟩ : Addr).add i = ⟨b, off + i, none⟩ := by
    unfold Addr.add
    split
    · rename_i h0; subst h0; rfl
    · rfl
  rw [e] at h
  unfold World.cell? at h
  simp only [hb] at h
  simpa using h
/-- A slice of samples: two numbers each. -/
theorem open_samples {b0 : Nat} {t e : TypeId} {f0 f1 : Field} {v : Value} {d : DataW H} {ps : List MemPlace} (ht : P.underlying t = some (.slice e)) (he : P.underlying e = some (.struct #[f0, f1]))
    (ce : P.cellsOf e = 2) (o0 : f0.offset = 0) (o1 : f1.offset = 1) (c0 : P.cellsOf f0.type = 1) (c1 : P.cellsOf f1.type = 1) (hf0 : P.underlying f0.type = some (.int .i64)) (hf1 : P.underlying f1.type = some (.int .i64))
    (hval : Value.okWide P W .any b0 t v) (hd : DataW.Trod enc P W 0 (fun _ => true) held t v d ps) :
    (v = .slice none 0 0) ∨ ∃ (b off cap : Nat) (L : Smp) (D0 D1 : Nat → DataW H) (E : List (DataW H)), v = .slice (some ⟨b, off, none⟩) L.length cap ∧ L.length ≤ cap ∧ cap ≤ 9223372036854775807 ∧ RoAt (wholeHp W) ⟨b, off, L.length * 2⟩ (smp L) ∧ (∀ x ∈ L, In64 x.1 ∧ In64 x.2) ∧
      d = .slice ((List.range L.length).map fun i => .agg [D0 i, D1 i]) E := by
  obtain ⟨fuel, hf⟩ := hd
  rcases okWide_slice_at ht hval with rfl | ⟨b, off, len, cap, c, u, fz, rfl, hb, hoff⟩
  · exact .inl rfl
  right
  rcases Go.Deep.open_slice_pairs ht he ce o0 o1 c0 c1 hf with ⟨h0, _⟩ | ⟨a, len', cap', m, n, V0, V1, D0, D1, P0, P1, h1, h2, h3, h4, h5, h6, h7⟩
  · simp [Value.cells] at h0
  simp only [Value.cells, List.cons.injEq, Value.slice.injEq, Option.some.injEq, and_true] at h1
  obtain ⟨rfl, rfl, rfl⟩ := h1
  have h5 : m = cap := by simpa using h5
  subst h5
  let L : Smp := (List.range len).map fun i => (intOf (V0 i), intOf (V1 i))
  have hlen : L.length = len := by simp [L]
  have hat : ∀ i (h : i < L.length), L[i] = (intOf (V0 i), intOf (V1 i)) := fun i h => by simp [L]
  have hint : ∀ i, i < len → ∃ x y, V0 i = .int .i64 x ∧ V1 i = .int .i64 y ∧ In64 x ∧ In64 y := fun i hi => by
    obtain ⟨_, _, g3, g4⟩ := h7 i (by omega)
    obtain ⟨x, hx, _, wx⟩ := DataW.trod_int hf0 g3
    obtain ⟨y, hy, _, wy⟩ := DataW.trod_int hf1 g4
    simp only [List.cons.injEq, and_true] at hx hy
    refine ⟨x, y, hx, hy, ?_, ?_⟩
    · simp [Lit.wf, IntKind.min, IntKind.max, IntKind.signed, IntKind.bits] at wx; unfold In64; omega
    · simp [Lit.wf, IntKind.min, IntKind.max, IntKind.signed, IntKind.bits] at wy; unfold In64; omega
  refine ⟨b, off, m, L, D0, D1, (List.range (m - len)).map fun j => .agg [D0 (len + j), D1 (len + j)], by rw [hlen], by omega, by unfold maxLen at h4; omega, ?_, ?_, ?_⟩
  · refine ⟨c, u, fz, hb, Nat.le_of_eq (smp_length L), ?_, ?_⟩
    · simp only [hlen]
      cases hl : len with
      | zero => omega
      | succ k =>
        obtain ⟨_, g2, _, _⟩ := h7 k (by omega)
        have := cell_at hb g2
        have := (Array.getElem?_eq_some_iff.1 this).1
        omega
    · intro ψ i a hi
      have hi2 := (List.getElem?_eq_some_iff.1 hi).1
      rw [smp_length, hlen] at hi2
      obtain ⟨j, q, hj, hq⟩ : ∃ j q, i = j * 2 + q ∧ q < 2 := ⟨i / 2, i % 2, by omega, by omega⟩
      have hjl : j < len := by omega
      have hjL : j < L.length := by omega
      obtain ⟨x, y, hx, hy, _, _⟩ := hint j hjl
      obtain ⟨g1, g2, _, _⟩ := h7 j (by omega)
      rcases (show q = 0 ∨ q = 1 by omega) with rfl | rfl
      · have e1 := smp_nth0 hjL (o := i) (by omega)
        rw [nth_eq, hi] at e1
        injection e1 with e1
        subst e1
        refine ⟨V0 j, ?_, ?_⟩
        · have := cell_at hb g1
          rw [hj]; exact this
        · rw [hat j hjL, hx]; exact .si _ _
      · have e1 := smp_nth1 hjL (o := i) (by omega)
        rw [nth_eq, hi] at e1
        injection e1 with e1
        subst e1
        refine ⟨V1 j, ?_, ?_⟩
        · have := cell_at hb g2
          rw [hj]; exact this
        · rw [hat j hjL, hy]; exact .si _ _
  · intro x hx
    simp only [L, List.mem_map, List.mem_range] at hx
    obtain ⟨i, hi, rfl⟩ := hx
    obtain ⟨x, y, hx, hy, g1, g2⟩ := hint i hi
    rw [hx, hy]
    exact ⟨g1, g2⟩
  · simp only [Prod.mk.injEq] at h6
    rw [h6.1, hlen]
end
theorem sized_len {H : Type} {P : Program} {ts : List TypeId} {ds : List (DataW H)} (h : (DataW.weightsEach P ts ds).all (· ≤ reachBytes) = true) {j n : Nat} {t e : TypeId} {F : Nat → DataW H} {E : List (DataW H)} (ht : ts[j]? = some t) (hd : ds[j]? = some (.slice ((List.range n).map F) E)) (hu : P.underlying t = some (.slice e)) (hb : P.bytesOf e = 16) : n ≤ 8796093022208 := by
  have := sized_slice h ht hd hu
  rw [hb, List.length_map, List.length_range] at this
  unfold reachBytes at this
  omega
/-- A law that the machine finds true, its arguments in memory. -/
theorem evP_callsM {F : FuncId → EP} (hF : TabP F) {d : Nat} {f : FuncId} {args : List AV} {H0 : AH} {n0 : Nat} {φ0 : Ph} {vs : Array Value} (he : callT F d f args H0 n0 fun v _ _ => v = .bool true ∨ v = .sb true) (w : World)
    (hr0 : HR φ0 H0 n0 (wholeHp w) (wholeHp w)) (hargs : VRs φ0 args vs.toList) : Calls Try.prog f vs w fun e w' => e = .returned (.bool true) ∧ Below w.heap.size w w' := by
  have hs := callT_sound (by kernel_rfl) hF d f args H0 n0 _ he _ (wholeHp w) (wholeHp w) vs (fun v g => v = .bool true ∧ (wholeHp w).n ≤ g.n ∧ ∀ b o, (wholeHp w).f b = some o → g.f b = some o) hr0 hargs
    (fun ψ v H n u g _ hg hu hv => ⟨by rcases hv with rfl | rfl; exact hu.bool_inv; exact hu.sb_inv, hg.size, fun b o hb => (hg.base b o hb).2⟩)
  refine (hs.2 w (wholeHp_is w)).mono fun e' w' ⟨v, g, h1, h2, h3, h4, h5, h6⟩ => ?_
  subst h1 h4
  refine ⟨rfl, h3.1, h3.2.1, h3.2.2, ?_, fun b hb => ?_⟩
  · rw [h2.1]; exact h5
  · have := h6 b _ (show (wholeHp w).f b = some w.heap[b] from Array.getElem?_eq_getElem hb)
    rw [h2.2 b _ this, Array.getElem?_eq_getElem hb]
end Go.Proofs.Ytaejmcgcfopmkaa
namespace Go.Proofs.Ytaejmcgcfopmkaa
open Go Go.RowKit

theorem wrap_lt {x : Int} (h1 : -18446744073709551616 ≤ x) (h2 : x < -9223372036854775808) : IntKind.i64.wrap x = x + 18446744073709551616 := by
  rw [IntKind.wrap_i64]; omega
theorem wrap_gt {x : Int} (h1 : x ≤ 18446744073709551615) (h2 : 9223372036854775807 < x) : IntKind.i64.wrap x = x - 18446744073709551616 := by
  rw [IntKind.wrap_i64]; omega
theorem sum_cases {x : Int} (h1 : -18446744073709551616 ≤ x) (h2 : x ≤ 18446744073709551615) : (In64 x ∧ IntKind.i64.wrap x = x) ∨ (x < -9223372036854775808 ∧ IntKind.i64.wrap x = x + 18446744073709551616) ∨ (9223372036854775807 < x ∧ IntKind.i64.wrap x = x - 18446744073709551616) := by
  unfold In64
  by_cases a : x < -9223372036854775808
  · exact .inr (.inl ⟨a, wrap_lt h1 a⟩)
  · by_cases b : 9223372036854775807 < x
    · exact .inr (.inr ⟨b, wrap_gt h2 b⟩)
    · exact .inl ⟨by omega, wrap_i64_of (by omega) (by omega)⟩
theorem cap_eq {a b : Int} (ha : In64 a) (hb : In64 b) : pCap a b = rCap a b ∧ In64 (rCap a b) := by
  unfold In64 at *
  have h := sum_cases (x := a + b) (by omega) (by omega)
  have h2 := sum_cases (x := 9223372036854775807 - b) (by omega) (by omega)
  have h3 := sum_cases (x := -9223372036854775808 - b) (by omega) (by omega)
  unfold In64 at h h2 h3
  simp only [pCap, sCap, rCap, sOver, rOver, decide_eq_true_eq]
  generalize IntKind.i64.wrap (a + b) = w at *
  generalize IntKind.i64.wrap (9223372036854775807 - b) = w2 at *
  generalize IntKind.i64.wrap (-9223372036854775808 - b) = w3 at *
  refine ⟨?_, ?_⟩
  · split <;> split <;> first | rfl | omega | (split <;> omega)
  · split
    · split <;> omega
    · omega
theorem cap_0 {x : Int} (h : In64 x) : pCap 0 x = x := by
  unfold In64 at h
  simp only [pCap, sCap, sOver, decide_eq_true_eq]
  rw [wrap_i64_of (x := 0 + x) (by omega) (by omega), if_neg (by omega)]
  omega
/-- The state behind some numbers. -/
def ssOf (x : Int) (r : List Int) : SS := ⟨(r.length : Int) + 1, r.foldl rCap x, r.foldl min x, r.foldl max x, x, (x :: r)[r.length]'(by simp)⟩
def aNums (V : List Int) : SS := V.foldl aAdd ss0
theorem aAll_vals (L : Smp) : aAll L = aNums (vals L) := by
  unfold aAll aNums vals
  rw [List.foldl_map]
theorem in_fold {x : Int} (hx : In64 x) : ∀ {r : List Int}, (∀ y ∈ r, In64 y) → In64 (r.foldl rCap x)
  | [], _ => hx
  | y :: r, h => in_fold (x := rCap x y) (cap_eq hx (h y List.mem_cons_self)).2 fun z hz => h z (List.mem_cons_of_mem _ hz)
theorem ssOf_step {x v : Int} {r : List Int} (hx : In64 x) (hr : ∀ y ∈ r, In64 y) (hv : In64 v) (hl : r.length < 4611686018427387904) : aAdd (ssOf x r) v = ssOf x (r ++ [v]) := by
  unfold aAdd
  rw [if_neg (by simp only [ssOf]; omega)]
  simp only [ssOf, List.foldl_append, List.foldl_cons, List.foldl_nil, List.length_append, List.length_cons, List.length_nil]
  rw [(cap_eq (in_fold hx hr) hv).1, wrap_i64_of (by omega) (by omega)]
  congr 1 <;> first | (simp; done) | omega
theorem aNums_of {x : Int} (hx : In64 x) : ∀ (n : Nat) (r : List Int), r.length = n → (∀ y ∈ r, In64 y) → r.length < 4611686018427387904 → aNums (x :: r) = ssOf x r
  | 0, r, hn, _, _ => by
    have : r = [] := List.eq_nil_of_length_eq_zero hn
    subst this
    show aAdd ss0 x = _
    unfold aAdd
    rw [if_pos (show ss0.n = 0 from rfl)]
    simp only [ss0, ssOf]
    rw [cap_0 hx, wrap_i64_of (by omega) (by omega)]
    simp
  | n + 1, r, hn, hr, hl => by
    obtain ⟨s, v, rfl⟩ : ∃ s v, r = s ++ [v] := ⟨r.dropLast, r.getLast (by intro q; subst q; simp at hn), (List.dropLast_concat_getLast _).symm⟩
    simp only [List.length_append, List.length_cons, List.length_nil] at hn hl
    have ih := aNums_of hx n s (by omega) (fun y hy => hr y (by simp [hy])) (by omega)
    rw [← ssOf_step hx (fun y hy => hr y (by simp [hy])) (hr v (by simp)) (by omega), ← ih]
    unfold aNums
    rw [← List.cons_append, List.foldl_append]; rfl
theorem min_le {x : Int} : ∀ (r : List Int), (∀ y ∈ r, In64 y) → In64 x → r.foldl min x ≤ r.foldl max x ∧ In64 (r.foldl min x) ∧ In64 (r.foldl max x) := by
  have key : ∀ (r : List Int) (a b : Int), a ≤ b → In64 a → In64 b → (∀ y ∈ r, In64 y) → r.foldl min a ≤ r.foldl max b ∧ In64 (r.foldl min a) ∧ In64 (r.foldl max b) := by
    intro r
    induction r with
    | nil => exact fun a b h h1 h2 _ => ⟨h, h1, h2⟩
    | cons y r ih =>
      intro a b h h1 h2 hr
      have hy := hr y List.mem_cons_self
      unfold In64 at h1 h2 hy
      exact ih (min a y) (max b y) (by omega) (by unfold In64; omega) (by unfold In64; omega) fun z hz => hr z (List.mem_cons_of_mem _ hz)
  exact fun r hr hx => key r x x (Int.le_refl _) hx hx hr
theorem wide_eq {l g : Int} (h : l ≤ g) (hl : In64 l) (hg : In64 g) : (if IntKind.i64.wrap (g - l) < 0 then 9223372036854775807 else IntKind.i64.wrap (g - l)) = rWide l g := by
  unfold rWide
  unfold In64 at *
  have h1 := sum_cases (x := g - l) (by omega) (by omega)
  have h2 := sum_cases (x := 9223372036854775807 + l) (by omega) (by omega)
  unfold In64 at h1 h2
  generalize IntKind.i64.wrap (g - l) = w at *
  generalize IntKind.i64.wrap (9223372036854775807 + l) = w2 at *
  split <;> split <;> omega
theorem num_eq {k : Int} {L : Smp} (hL : ∀ x ∈ L, In64 x.2) (hl : L.length < 4611686018427387904) : aNum k L = rNum k (vals L) ∧ aHas k L = rHas k (vals L) ∧ (aAll L).n = (L.length : Int) := by
  have hv : ∀ y ∈ vals L, In64 y := fun y hy => by
    simp only [vals, List.mem_map] at hy
    obtain ⟨x, hx, rfl⟩ := hy
    exact hL x hx
  have hlen : (vals L).length = L.length := by simp [vals]
  simp only [aNum, aHas, rNum, rHas, aAll_vals]
  rw [← hlen] at hl ⊢
  generalize vals L = V at *
  cases V with
  | nil => simp [aNums, ss0]
  | cons x r =>
    simp only [List.length_cons] at hl
    have hx := hv x List.mem_cons_self
    have hr : ∀ y ∈ r, In64 y := fun y hy => hv y (List.mem_cons_of_mem _ hy)
    rw [aNums_of hx r.length r rfl hr (by omega)]
    have hn : ¬ (ssOf x r).n = 0 := by simp only [ssOf]; omega
    have hm := min_le r hr hx
    have hw := wide_eq hm.1 hm.2.1 hm.2.2
    refine ⟨?_, by simp [hn], by simp [ssOf]⟩
    by_cases hk : sRight k = true
    · rw [if_pos hk, if_pos hk, if_neg hn]
      show aVal k (ssOf x r) = rVal k x r
      have hw2 : aWide (ssOf x r) = rWide (r.foldl min x) (r.foldl max x) := hw
      unfold aVal rVal
      rw [hw2]; rfl
    · rw [if_neg hk, if_neg hk]
end Go.Proofs.Ytaejmcgcfopmkaa
namespace Go.Proofs.Ytaejmcgcfopmkaa
open Go Go.RowKit
noncomputable def FN : FuncId → EP := withS 23 (natKS 8796093022208 rFold) FM
theorem FN_ok : TabP FN := withS_ok FM_ok n_rfold singKS
noncomputable def lawFSt (k : Int) (L : Smp) (cap : Nat) (a : Int) (b : Bool) (c : Int) (d : Bool) (i : Nat) : AE × AH :=
  (mkE [(0, .si .i64 k), (1, .sy 0 0 L.length cap 0), (5, .ptr 1 0), (7, .si .i64 a), (8, .sb b), (9, .si .i64 c), (10, .sb d), (11, .si .i64 i)], mkH [(0, .ro (smp L)), (1, .cells (stateCells k (aAll (L.take i))) true)])
theorem lawF_cov {k : Int} {L : Smp} {cap : Nat} {a : Int} {b : Bool} {c : Int} {d : Bool} {i p n : Nat} {σ : AE} {H : AH} {l : List AV} (hp : p ≤ 2) (e0 : mk (getq (pa 0) σ) = .si .i64 k) (e1 : mk (getq (pa 1) σ) = .sy 0 0 L.length cap 0) (e5 : getq (pa 5) σ = .ptr 1 0)
    (e7 : mk (getq (pa 7) σ) = .si .i64 a) (e8 : mk (getq (pa 8) σ) = .sb b) (e9 : mk (getq (pa 9) σ) = .si .i64 c) (e10 : mk (getq (pa 10) σ) = .sb d) (e11 : mk (getq (pa 11) σ) = .si .i64 i)
    (h0 : H.get 0 = some (.ro (smp L))) (h1 : H.get 1 = some (.cells l true)) (h2 : l.map mk = stateCells k (aAll (L.take i))) : Cov p σ H n ((lawFSt k L cap a b c d i).1, (lawFSt k L cap a b c d i).2, 2) := by
  refine Cov.of (fun b => b) hp (fun b hb => rfl) ?_ ?_ ?_
  · intro x hx
    simp only [List.mem_cons, List.not_mem_nil, or_false] at hx
    rcases hx with rfl | rfl | rfl | rfl | rfl | rfl | rfl | rfl
    · exact .int e0
    · exact .sy (by decide) e1
    · exact .ptr (by decide) e5
    · exact .int e7
    · exact .bool e8
    · exact .int e9
    · exact .bool e10
    · exact .int e11
  · intro x hx
    simp only [List.mem_cons, List.not_mem_nil, or_false] at hx
    rcases hx with rfl | rfl
    · exact ⟨by simp, _, h0, SubO.ro_mk (smp_flat L) rfl⟩
    · exact ⟨by simp, _, h1, SubO.cells_mk rfl h2 (fun q => q)⟩
  · intro x hx y hy
    simp only [List.mem_cons, List.not_mem_nil, or_false] at hx hy
    rcases hx with rfl | rfl <;> rcases hy with rfl | rfl <;> exact fun q => q
theorem aAdd_0 {s : SS} {v : Int} (h : s.n = 0) : aAdd s v = ⟨IntKind.i64.wrap (s.n + 1), pCap s.sum v, min v v, max v v, v, v⟩ := if_pos h
theorem aAdd_1 {s : SS} {v : Int} (h : ¬ s.n = 0) : aAdd s v = ⟨IntKind.i64.wrap (s.n + 1), pCap s.sum v, min s.least v, max s.great v, s.first, v⟩ := if_neg h
theorem fold_facts {k : Int} {L : Smp} {i : Nat} (hr : sRight k = true) (hL : ∀ x ∈ L, In64 x.2) (hi : i + 1 ≤ L.length) (hl : L.length ≤ 8796093022208) :
    (if (aAll (L.take (i + 1))).n = 0 then 0 else aVal k (aAll (L.take (i + 1)))) = rNum k (vals (L.take (i + 1))) ∧ (!decide ((aAll (L.take (i + 1))).n = 0)) = rHas k (vals (L.take (i + 1))) ∧ (aAll (L.take (i + 1))).n = ((i + 1 : Nat) : Int) := by
  have hlen : (L.take (i + 1)).length = i + 1 := by rw [List.length_take]; omega
  obtain ⟨h1, h2, h3⟩ := num_eq (k := k) (L := L.take (i + 1)) (fun x hx => hL x (List.mem_of_mem_take hx)) (by omega)
  rw [hlen] at h3
  refine ⟨?_, ?_, h3⟩
  · rw [← h1]; unfold aNum; rw [if_pos hr]
  · rw [← h2]; unfold aHas; rw [hr]; rfl
set_option maxHeartbeats 4000000 in
set_option maxRecDepth 100000 in
theorem w_aggFolds (k : Int) (L : Smp) (cap : Nat) (hin : ∀ x ∈ L, In64 x.1 ∧ In64 x.2) (hl : L.length ≤ 8796093022208) (hc : L.length ≤ cap) : callT FN 4 4 [.si .i64 k, .sy 0 0 L.length cap 0] (mkH [(0, .ro (smp L))]) 1 fun v _ _ => v = .bool true ∨ v = .sb true := by
  have hL : ∀ x ∈ L, In64 x.2 := fun x hx => (hin x hx).2
  obtain ⟨q1, q2, _⟩ := num_eq (k := k) (L := L) hL (by omega)
  conv => whnf
  refine Fork.nsb (fun hr => ?_) (fun hr => ?_)
  · conv => whnf
    refine Fork.ndec (fun h => absurd (by have e := right_name k; rw [hr] at e; rw [show beqL (sName k) (List.map UInt8.toNat (ByteArray.mk #[]).data.toList) = beqL (sName k) [] from rfl, ← e]; rfl) h) (fun _ => ?_)
    conv => whnf
    refine ⟨L, .inr ⟨0, 0, cap, 0, smp L, smp L, rfl, .inl rfl, smp_whole L, smp_map L, hc⟩, by omega, ?_⟩
    conv => whnf
    refine ⟨L, .inr ⟨0, 0, cap, 0, smp L, smp L, rfl, .inl rfl, smp_whole L, smp_map L, hc⟩, hl, ?_⟩
    conv => whnf
    refine LoopP.roll 1 ?_
    repeat' (conv => whnf
             first | refine Fork.dec (fun _ => ?_) (fun h => absurd q1 h) | refine Fork.dec (fun _ => ?_) (fun h => absurd q2 h) | refine Fork.dec (fun _ => ?_) (fun _ => ?_) | refine Fork.ndec (fun _ => ?_) (fun _ => ?_) | exact .inl rfl)
  · have hk := right_pos hr
    conv => whnf
    refine Fork.ndec (fun h => absurd (by have e := right_name k; rw [hr] at e; rw [show beqL (sName k) (List.map UInt8.toNat (ByteArray.mk #[]).data.toList) = beqL (sName k) [] from rfl, ← e]; rfl) h) (fun _ => ?_)
    conv => whnf
    refine ⟨L, .inr ⟨0, 0, cap, 0, smp L, smp L, rfl, .inl rfl, smp_whole L, smp_map L, hc⟩, by omega, ?_⟩
    conv => whnf
    refine ⟨L, .inr ⟨0, 0, cap, 0, smp L, smp L, rfl, .inl rfl, smp_whole L, smp_map L, hc⟩, hl, ?_⟩
    conv => whnf
    refine LoopP.mk (_root_.Fin (L.length + 1)) 2 (fun a => lawFSt k L cap (aNum k L) (aHas k L) (rNum k (vals L)) (rHas k (vals L)) a.val) (fun a => L.length - a.val) 0 ?_ ?_
    · exact lawF_cov (i := 0) (Nat.le_succ 1) rfl rfl rfl rfl rfl rfl rfl rfl rfl rfl rfl
    · intro ⟨i, hi⟩
      conv => whnf
      refine Fork.dec (fun h1 => ?_) (fun h1 => ?_)
      · have h2 : i < L.length := Int.ofNat_lt.1 h1
        have hw : IntKind.i64.wrap ((i : Int) + 1) = ((i + 1 : Nat) : Int) := by rw [wrap_i64_of (by omega) (by omega)]; omega
        have hlt : L.length - (i + 1) < L.length - i := by omega
        obtain ⟨f1, f2, f3⟩ := fold_facts (k := k) hr hL (show i + 1 ≤ L.length by omega) hl
        conv => whnf
        refine Fork.dec (fun h3 => ?_) (fun h3 => ?_)
        · conv => whnf
          refine Idx.mk i rfl h2 ?_
          conv => whnf
          refine optP_of (smp_nth1 h2 (by show 0 + i * 2 + 1 = i * 2 + 1; omega)) ?_
          conv => whnf
          refine Fork.ndec (fun h => absurd (show (0 : Int) < k by omega) h) (fun _ => ?_)
          conv => whnf
          have hlt2 : (L.take (i + 1)).length = i + 1 := by rw [List.length_take]; omega
          have f4 : IntKind.i64.wrap ((aAll (L.take i)).n + 1) = ((i + 1 : Nat) : Int) := by
            rw [← f3, aAll_take h2]
            unfold aAdd
            split <;> rfl
          have ha : ∀ (l : List AV), l.map mk = stateCells k (aAdd (aAll (L.take i)) L[i].2) → l.map mk = stateCells k (aAll (L.take (i + 1))) := fun l e => e.trans (congrArg (stateCells k) (aAll_take h2).symm)
          refine Fork.dec (fun h4 => ?_) (fun h4 => ?_)
          all_goals
            conv => whnf
            refine .inr ⟨k, aAll (L.take (i + 1)), 1, rfl, ⟨_, .inr ⟨_, rfl⟩, ha _ ?_⟩, hk.1, hk.2, ?_⟩
            · first | exact Eq.trans rfl (congrArg (stateCells k) (aAdd_0 h4).symm) | exact Eq.trans rfl (congrArg (stateCells k) (aAdd_1 h4).symm)
            conv => whnf
            refine Ask.mk _ (eslice_to (es := 2) rfl rfl hw (by omega)) ?_
            conv => whnf
            refine ⟨L.take (i + 1), .inr ⟨0, 0, cap, 0, smp L, smp (L.take (i + 1)), ?_, .inl rfl, smp_sub0 (by omega), smp_map _, by omega⟩, by omega, ?_⟩
            · exact (show _ = AV.sl 0 0 (i + 1) cap 0 from rfl).trans (by rw [hlt2])
            conv => whnf
            refine Fork.ndec (fun h => absurd f1 h) (fun _ => ?_)
            conv => whnf
            refine Fork.nsb (fun h => absurd h (by rw [show (_ == _) = true from beq_iff_eq.2 f2]; decide)) (fun _ => ?_)
            conv => whnf
            refine Fork.ndec (fun h => absurd (f4.trans hw.symm) h) (fun _ => ?_)
            conv => whnf
            refine ⟨⟨i + 1, by omega⟩, hlt, lawF_cov (Nat.le_succ 1) rfl rfl rfl rfl rfl rfl rfl (congrArg (AV.si IntKind.i64) hw) rfl rfl (ha _ ?_)⟩
            first | exact Eq.trans rfl (congrArg (stateCells k) (aAdd_0 h4).symm) | exact Eq.trans rfl (congrArg (stateCells k) (aAdd_1 h4).symm)
        · repeat' (conv => whnf
                   first | refine Fork.dec (fun _ => ?_) (fun h => absurd q1 h) | refine Fork.dec (fun _ => ?_) (fun h => absurd q2 h) | refine Fork.dec (fun _ => ?_) (fun _ => ?_) | refine Fork.ndec (fun _ => ?_) (fun _ => ?_) | exact .inl rfl)
      · repeat' (conv => whnf
                 first | refine Fork.dec (fun _ => ?_) (fun h => absurd q1 h) | refine Fork.dec (fun _ => ?_) (fun h => absurd q2 h) | refine Fork.dec (fun _ => ?_) (fun _ => ?_) | refine Fork.ndec (fun _ => ?_) (fun _ => ?_) | exact .inl rfl)
set_option maxHeartbeats 4000000 in
set_option maxRecDepth 100000 in
theorem w_aggFolds0 (k : Int) : callT FN 4 4 [.si .i64 k, .nsl] .nil 0 fun v _ _ => v = .bool true ∨ v = .sb true := by
  obtain ⟨q1, q2, _⟩ := num_eq (k := k) (L := []) (fun x hx => by cases hx) (by decide)
  conv => whnf
  refine Fork.nsb (fun hr => ?_) (fun hr => ?_)
  all_goals
    conv => whnf
    refine Fork.ndec (fun h => absurd (by have e := right_name k; rw [hr] at e; rw [show beqL (sName k) (List.map UInt8.toNat (ByteArray.mk #[]).data.toList) = beqL (sName k) [] from rfl, ← e]; rfl) h) (fun _ => ?_)
    conv => whnf
    refine ⟨[], .inl ⟨rfl, rfl⟩, by decide, ?_⟩
    conv => whnf
    refine ⟨[], .inl ⟨rfl, rfl⟩, by decide, ?_⟩
    conv => whnf
    refine LoopP.roll 1 ?_
    repeat' (conv => whnf
             first | refine Fork.dec (fun _ => ?_) (fun h => absurd q1 h) | refine Fork.dec (fun _ => ?_) (fun h => absurd q2 h) | refine Fork.dec (fun _ => ?_) (fun _ => ?_) | refine Fork.ndec (fun _ => ?_) (fun _ => ?_) | exact .inl rfl)
end Go.Proofs.Ytaejmcgcfopmkaa
namespace Go.Proofs.Ytaejmcgcfopmkaa
open Go Go.RowKit
section
variable {φ : Ph} {H : AH} {n : Nat} {h0 h : Hp}
/-- A block that another run made, under a name of ours. -/
theorem HR.add (hr : HR φ H n h0 h) {q : Pl} {o : AO} {ob : Obj} (hq0 : h0.f q.B = none) (hqn : q.B < h.n) (hq : h.f q.B = some ob) (ho : OR (PNew φ n q) q o ob) (hw : o.own = true) (hfr : ∀ b o p, H.get b = some o → φ b = some p → o.own = true → p.B ≠ q.B) (d : Nat) : HR (PNew φ n q) (H.set (some o) d n) (n + 1) h0 h := by
  refine ⟨fun x r hx => ?_, fun x r hx => ?_, fun x y r r' px py hx hy hwx hwy hpx hpy e => ?_, hr.base, hr.size⟩
  · simp only [PNew] at hx
    split at hx
    · injection hx with hx; subst hx; exact ⟨by omega, hqn⟩
    · have := hr.dom x r hx; omega
  · rcases PM.get_set d _ n x r hx with ⟨rfl, h2⟩ | ⟨h1, h2⟩
    · injection h2 with h2
      subst h2
      exact ⟨_, ob, PNew_same _ _ _, by rw [AO.under_own hw]; exact hq0, hq, ho⟩
    · obtain ⟨px, obx, h5, h6, h7, h8⟩ := hr.live x r h2
      exact ⟨px, obx, hr.ple _ _ _ h5, h6, h7, h8.mono (hr.ple _)⟩
  · have cs : ∀ z r pz, (H.set (some o) d n).get z = some r → PNew φ n q z = some pz → (z = n ∧ pz = q) ∨ (z ≠ n ∧ H.get z = some r ∧ φ z = some pz) := fun z r pz hz hpz => by
      rcases PM.get_set d _ n z r hz with ⟨rfl, _⟩ | ⟨h1, h2⟩
      · rw [PNew_same] at hpz; injection hpz with hpz; exact .inl ⟨rfl, hpz.symm⟩
      · simp only [PNew, if_neg h1] at hpz
        exact .inr ⟨h1, h2, hpz⟩
    rcases cs x r px hx hpx with ⟨a1, a2⟩ | ⟨a1, a2, a3⟩ <;> rcases cs y r' py hy hpy with ⟨b1, b2⟩ | ⟨b1, b2, b3⟩
    · omega
    · exact (hfr y r' py b2 b3 hwy (by rw [← e, a2])).elim
    · exact (hfr x r px a2 a3 hwx (by rw [e, b2])).elim
    · exact hr.inj x y r r' px py a2 b2 hwx hwy a3 b3 e
theorem CR.mk_flat {ψ χ : Ph} {c : Array Value} {s : Nat} {l m : List AV} (h : CR ψ c s l) (e : l.map mk = m.map mk) (hf : m.all flat.flat1 = true) : CR χ c s m := fun i a hi => by
  have e2 := congrArg (fun x : List AV => x[i]?) e
  simp only [List.getElem?_map, hi, Option.map_some] at e2
  rw [Option.map_eq_some_iff] at e2
  obtain ⟨a', h1, h2⟩ := e2
  obtain ⟨v, h3, h4⟩ := h i a' h1
  have h14 : flat.flat1 a = true := List.all_eq_true.1 hf a (List.mem_of_getElem? hi)
  have h13 : VR ψ (mk a) v := h2 ▸ h4.mk
  exact ⟨v, h3, flat1_VR h14 (by cases a <;> first | exact h13 | cases h14)⟩
/-- What a run on a small memory yields: no row, or a new one. -/
def NewRow (R : Smp) (u : AV) (H' : AH) : Prop := (R = [] ∧ u = .nsl) ∨ (R ≠ [] ∧ ∃ b c l, u = .sl b 0 R.length c 2 ∧ R.length ≤ c ∧ H'.get b = some (.cells l true) ∧ l.map mk = smp R)
def RowP (R : Smp) (H : AH) (n : Nat) (κ : PK) : Prop := (R = [] → κ .nsl H n) ∧ (R ≠ [] → (H.get n = none ∧ n < 1000000) ∧ κ (.sl n 0 R.length R.length 2) (H.set (some (.cells (smp R) true)) depthH n) (n + 1))
theorem smallNew {F : FuncId → EP} (hF : TabP F) {d : Nat} {f : FuncId} {args0 : List AV} {H0 : AH} {n0 : Nat} {R : Smp} (hrun : callT F d f args0 H0 n0 fun u H' _ => NewRow R u H')
    {vs : Array Value} {κ : PK} {K : KH} (hs : RowP R H n κ) (hr : HR φ H n h0 h) (hk : ThenP φ h0 κ K) (hic : isCall Try.prog f = true) {φ0 : Ph} (hr0 : Wf h → HR φ0 H0 n0 h h) (hargs : VRs φ0 args0 vs.toList) : CallF Try.prog f vs h K := by
  have key : Wf h → CallF Try.prog f vs h K := fun hw => callT_sound (by kernel_rfl) hF d f args0 H0 n0 _ hrun φ0 h h vs K (hr0 hw) hargs fun ψ u H' n' w g _ hg hu he => by
    have hg2 : HR φ H n h0 g := hr.grow (fun b o hb => (hg.base b o hb).2) hg.size
    rcases he with ⟨h1, rfl⟩ | ⟨h1, b, c, l, rfl, hc, hb, hl⟩
    · exact hk φ _ H n w g (PLe.refl _) hg2 (by rw [hu.nsl_inv]; exact .nsl) (hs.1 h1)
    · obtain ⟨q, C, hqb, rfl, _, hC⟩ := hu.sl_inv
      obtain ⟨ob, hq0, hq1, hor⟩ := hg.of hb hqb
      obtain ⟨hC1, hC2⟩ := hC (by decide)
      have hq0 : h.f q.B = none := hq0
      have hh0 : h0.f q.B = none := by
        cases hx : h0.f q.B with
        | none => rfl
        | some o => have := (hr.base _ _ hx).2; rw [hq0] at this; cases this
      obtain ⟨cc, t, fz, rfl, o1, o2, o3, o4, o5⟩ := hor
      have hor' : OR (PNew φ n q) q (.cells (smp R) true) (.cells cc t fz) := by
        have hlen : l.length = (smp R).length := by have := congrArg List.length hl; simpa using this
        exact ⟨cc, t, fz, rfl, by omega, o2, o3, o4, o5.mk_flat (by rw [hl, smp_map]) (smp_flat R)⟩
      have hnew := hg2.add hh0 (hg.dom _ _ hqb).2 hq1 hor' rfl (fun b' o' p' e1 e2 _ e3 => by
        obtain ⟨p2, ob2, f1, _, f2, _⟩ := hr.live b' o' e1
        rw [e2] at f1
        injection f1 with f1
        subst f1
        rw [e3, hq0] at f2
        cases f2) depthH
      refine hk _ _ _ _ _ g (hr.ple q) hnew ?_ (hs.2 h1).2
      exact .sl (p := q) (PNew_same _ _ _) (fun k => by cases k) (fun _ => ⟨by omega, hC2⟩)
  exact ⟨hic, fun w hi => (key hi.wf).2 w hi⟩
end
/-- A function of three numbers and samples that yields samples. -/
def natB (B : Nat) (f : Int → Int → Int → Smp → Smp) (args : List AV) (H : AH) (n : Nat) (κ : PK) : Prop := match args with
  | [x, y, z, l] => asI x fun k => asI y fun s => asI z fun a => ∃ L, SmpAt H l L ∧ L.length ≤ B ∧ RowP (f k s a L) H n κ
  | _ => False
theorem PM.get_set_ne {α : Type} {v : Option α} {x : α} : ∀ (f : Nat) (t : PM α) (n m : Nat), n + 1 < 2 ^ f → m ≠ n → t.get m = some x → (PM.set v f t n).get m = some x
  | 0, t, n, m, h, _, _ => by simp at h
  | f + 1, .nil, n, m, h, hm, e => by cases e
  | f + 1, .node l u r, 0, m, h, hm, e => by
    cases m with
    | zero => exact absurd rfl hm
    | succ m =>
      show (PM.node l v r).get (m + 1) = some x
      rw [PM.get_succ] at e ⊢
      exact e
  | f + 1, .node l u r, n + 1, m, h, hm, e => by
    have hp : (PM.node l u r).set v (f + 1) (n + 1) = (Nat.rec (.node (PM.set v f l (n / 2)) u r) (fun _ _ => .node l u (PM.set v f r (n / 2))) (n % 2) : PM α) := rfl
    have h2 : n / 2 + 1 < 2 ^ f := by rw [Nat.pow_succ] at h; omega
    rcases Nat.mod_two_eq_zero_or_one n with q | q <;> rw [q] at hp
    · have hp : (PM.node l u r).set v (f + 1) (n + 1) = .node (PM.set v f l (n / 2)) u r := hp
      rw [hp]
      cases m with
      | zero => exact e
      | succ m =>
        rw [PM.get_succ] at e ⊢
        split
        · rename_i hq
          rw [if_pos hq] at e
          exact PM.get_set_ne f l (n / 2) (m / 2) h2 (by omega) e
        · rename_i hq
          rw [if_neg hq] at e
          exact e
    · have hp : (PM.node l u r).set v (f + 1) (n + 1) = .node l u (PM.set v f r (n / 2)) := hp
      rw [hp]
      cases m with
      | zero => exact e
      | succ m =>
        rw [PM.get_succ] at e ⊢
        split
        · rename_i hq
          rw [if_pos hq] at e
          exact e
        · rename_i hq
          rw [if_neg hq] at e
          exact PM.get_set_ne f r (n / 2) (m / 2) h2 (by omega) e
theorem RowP.sing {R : Smp} {H : AH} {n : Nat} {κ : PK} (h : RowP R H n κ) : ∃ v H' n', κ v H' n' ∧ GrowsA H H' ∧ n ≤ n' ∧ ∀ κ' : PK, κ' v H' n' → RowP R H n κ' := by
  by_cases hR : R = []
  · exact ⟨_, H, n, h.1 hR, .refl _, Nat.le_refl _, fun κ' k => ⟨fun _ => k, fun q => absurd hR q⟩⟩
  · obtain ⟨⟨h1, h2⟩, h3⟩ := h.2 hR
    refine ⟨_, _, _, h3, fun b o hb => ?_, Nat.le_succ _, fun κ' k => ⟨fun q => absurd q hR, fun _ => ⟨⟨h1, h2⟩, k⟩⟩⟩
    refine PM.get_set_ne _ _ _ _ ?_ (fun q => by rw [q, h1] at hb; cases hb) hb
    have : (1000001 : Nat) < 2 ^ depthH := by show 1000001 < 2 ^ 40; decide
    omega
theorem singB {B : Nat} {f : Int → Int → Int → Smp → Smp} : SingG (natB B f) := fun args H n κ hs => by
  unfold natB at *
  split at hs
  · obtain ⟨x, h1, k1⟩ := asI_sing hs
    obtain ⟨y, h2, k2⟩ := asI_sing h1
    obtain ⟨z, ⟨L, h3, h4, h5⟩, k3⟩ := asI_sing h2
    obtain ⟨v, H', n', h6, h7, h8, h9⟩ := h5.sing
    exact ⟨v, H', n', h6, h7, h8, fun κ' k => k1 _ (k2 _ (k3 _ ⟨L, h3, h4, h9 κ' k⟩))⟩
  · exact hs.elim
theorem natB_ok {B : Nat} {F : FuncId → EP} (hF : TabP F) {d : Nat} {f : FuncId} {g : Int → Int → Int → Smp → Smp} (hic : isCall Try.prog f = true) (h0 : ∀ k s a, callT F d f [.si .i64 k, .si .i64 s, .si .i64 a, .nsl] .nil 0 fun u H' _ => NewRow (g k s a []) u H')
    (h1 : ∀ k s a L cap, L.length ≤ B → L.length ≤ cap → callT F d f [.si .i64 k, .si .i64 s, .si .i64 a, .sy 0 0 L.length cap 0] (mkH [(0, .ro (smp L))]) 1 fun u H' _ => NewRow (g k s a L) u H') : NatP f (natB B g) := fun args H n κ hs φ h0' hp vs K hr hargs hk => by
  unfold natB at hs
  split at hs
  · obtain ⟨v1, l1, e1, hv1, t1⟩ := hargs.cons_inv
    obtain ⟨v2, l2, e2, hv2, t2⟩ := t1.cons_inv
    obtain ⟨v3, l3, e3, hv3, t3⟩ := t2.cons_inv
    obtain ⟨v4, l4, e4, hv4, t4⟩ := t3.cons_inv
    have e5 := t4.nil_inv
    subst e5 e4 e3 e2
    obtain ⟨k, hv1, hs⟩ := asI_si hv1 hs
    obtain ⟨s, hv2, hs⟩ := asI_si hv2 hs
    obtain ⟨a, hv3, L, hS, hL, hs2⟩ := asI_si hv3 hs
    rcases hS with ⟨ey, rfl⟩ | ⟨b, o, c, kk, l, r, ey, hb, hsub, hmk, hlc⟩
    · have e6 := hv4.hd
      rw [ey] at e6
      refine smallNew hF (h0 k s a) hs2 hr hk hic HR.ro0 ?_
      rw [e1]
      exact .cons (by rw [hv1.si_inv]; exact .si _ _) (.cons (by rw [hv2.si_inv]; exact .si _ _) (.cons (by rw [hv3.si_inv]; exact .si _ _) (.cons (by rw [e6.nsl_inv]; exact .nsl) .nil)))
    · have e6 := hv4.hd
      rw [ey] at e6
      obtain ⟨p, C, hpb, rfl, hC0, hC1⟩ := e6.sl_inv
      have hlC : L.length ≤ C := by
        by_cases hk0 : kk = 0
        · rw [hC0 hk0]; exact hlc
        · exact Nat.le_trans hlc (hC1 hk0).1
      have hro := RoAt.of (s := smp L) hr hb hpb hsub (by rw [hmk, smp_map]) (smp_flat L)
      refine smallNew hF (h1 k s a L C hL hlC) hs2 hr hk hic (fun hw => HR.ro1 hw hro) ?_
      rw [e1]
      exact .cons (by rw [hv1.si_inv]; exact .si _ _) (.cons (by rw [hv2.si_inv]; exact .si _ _) (.cons (by rw [hv3.si_inv]; exact .si _ _) (.cons (.sy (p := ⟨p.B, p.s + o, L.length * 2⟩) (b := 0) (o := 0) (C := C) rfl (fun _ => rfl) (fun q => absurd rfl q)) .nil)))
  · exact hs.elim
end Go.Proofs.Ytaejmcgcfopmkaa
namespace Go.Proofs.Ytaejmcgcfopmkaa
open Go Go.RowKit
structure BK where
  pre : Smp
  b : Int
  v : Int
  s : SS
def BK.out (c : BK) : Smp := c.pre ++ [(c.b, c.v)]
def aV (k : Int) (s : SS) : Int := if s.n = 0 then 0 else aVal k s
def bkNew (k : Int) (pre : Smp) (b x : Int) : BK := ⟨pre, b, aV k (aAdd ss0 x), aAdd ss0 x⟩
def bkSame (k : Int) (c : BK) (x : Int) : BK := ⟨c.pre, c.b, aV k (aAdd c.s x), aAdd c.s x⟩
def bkStep (k sz al : Int) (c : BK) (x : Int × Int) : BK := if c.b = sStart x.1 sz al then bkSame k c x.2 else bkNew k c.out (sStart x.1 sz al) x.2
def bkAll (k sz al : Int) (x : Int × Int) (r : Smp) : BK := r.foldl (bkStep k sz al) (bkNew k [] (sStart x.1 sz al) x.2)
def bkOk (L : Smp) : Bool := L.all fun x => sTime x.1
def bkA (k sz al : Int) (L : Smp) : Smp := if sRight k = true ∧ sCan sz al = true ∧ bkOk L = true then (match L with
  | [] => []
  | x :: r => (bkAll k sz al x r).out) else []
theorem bkA_pos {k sz al : Int} {x : Int × Int} {r : Smp} (h1 : sRight k = true) (h2 : sCan sz al = true) (h3 : bkOk (x :: r) = true) : bkA k sz al (x :: r) = (bkAll k sz al x r).out := if_pos ⟨h1, h2, h3⟩
theorem bkA_neg {k sz al : Int} {L : Smp} (h : sRight k = false ∨ sCan sz al = false ∨ bkOk L = false) : bkA k sz al L = [] := if_neg (by rcases h with h | h | h <;> simp [h])
theorem bkA_nil {k sz al : Int} : bkA k sz al [] = [] := by unfold bkA; split <;> rfl
theorem bkOk_no {L : Smp} {i : Nat} (h : i < L.length) (ht : sTime L[i].1 = false) : bkOk L = false := by
  cases hb : bkOk L with
  | false => rfl
  | true =>
    have := List.all_eq_true.1 hb _ (List.getElem_mem h)
    simp only [ht] at this
    cases this
theorem bkAll_take {k sz al : Int} {x : Int × Int} {r : Smp} {i : Nat} (h : i < r.length) : bkAll k sz al x (r.take (i + 1)) = bkStep k sz al (bkAll k sz al x (r.take i)) r[i] := foldl_take h
theorem bkStep_same {k sz al : Int} {c : BK} {x : Int × Int} (h : c.b = sStart x.1 sz al) : bkStep k sz al c x = bkSame k c x.2 := if_pos h
theorem bkStep_new {k sz al : Int} {c : BK} {x : Int × Int} (h : ¬ c.b = sStart x.1 sz al) : bkStep k sz al c x = bkNew k c.out (sStart x.1 sz al) x.2 := if_neg h
theorem bkOk_take {L : Smp} {i : Nat} (h : i < L.length) (h1 : bkOk (L.take i) = true) (h2 : sTime L[i].1 = true) : bkOk (L.take (i + 1)) = true := by
  unfold bkOk at *
  rw [List.take_succ_eq_append_getElem h, List.all_append, h1]
  simp [h2]
theorem bk_fold_len {k sz al : Int} : ∀ (r : Smp) (c : BK), (r.foldl (bkStep k sz al) c).pre.length ≤ c.pre.length + r.length
  | [], _ => Nat.le_refl _
  | y :: r, c => by
    have h1 := bk_fold_len (k := k) (sz := sz) (al := al) r (bkStep k sz al c y)
    have h2 : (bkStep k sz al c y).pre.length ≤ c.pre.length + 1 := by
      unfold bkStep
      split
      · exact Nat.le_succ _
      · simp [bkNew, BK.out]
    simp only [List.foldl_cons, List.length_cons]
    omega
theorem bk_len {k sz al : Int} {x : Int × Int} (r : Smp) : (bkAll k sz al x r).pre.length ≤ r.length := by
  have := bk_fold_len (k := k) (sz := sz) (al := al) r (bkNew k [] (sStart x.1 sz al) x.2)
  simp only [bkNew, List.length_nil, Nat.zero_add] at this
  exact this
/-! ### cells -/
theorem end_nth0 {xs : List AV} {a c : AV} {o : Nat} (h : o = xs.length) : nth (xs ++ [a, c]) o = some a := by
  subst h; rw [nth_eq]; simp
theorem end_set {a c w : AV} : ∀ {xs : List AV} {o : Nat}, o = xs.length + 1 → setL (xs ++ [a, c]) o [w] = some (xs ++ [a, w])
  | [], o, h => by subst h; rfl
  | x :: xs, o, h => by
    obtain ⟨q, rfl⟩ : ∃ q, o = q + 1 := ⟨o - 1, by simp at h; omega⟩
    have := end_set (a := a) (c := c) (w := w) (xs := xs) (o := q) (by simp at h; omega)
    simp only [List.cons_append, setL, this, Option.map_some]
def endC (pre : Smp) (b v : Int) : List AV := smp pre ++ [.si .i64 b, .si .i64 v]
theorem endC_eq (pre : Smp) (b v : Int) : endC pre b v = smp (pre ++ [(b, v)]) := by simp [endC, smp]
theorem endC_flat (pre : Smp) (b v : Int) : (endC pre b v).all flat.flat1 = true := by rw [endC_eq]; exact smp_flat _
theorem endC_map (pre : Smp) (b v : Int) : (endC pre b v).map mk = smp (pre ++ [(b, v)]) := by rw [endC_eq, smp_map]
theorem endC_len (pre : Smp) (b v : Int) : (endC pre b v).length = (pre.length + 1) * 2 := by rw [endC_eq, smp_length]; simp
/-! ### the walk -/
noncomputable def FP : FuncId → EP := FN
theorem FP_ok : TabP FP := FN_ok
noncomputable def bkC (k sz al : Int) (L : Smp) (cap : Nat) (c : BK) (i : Nat) : AE × AH :=
  (mkE [(0, .si .i64 k), (1, .si .i64 sz), (2, .si .i64 al), (9, .sl 1 0 (c.pre.length + 1) (c.pre.length + 1) 2), (10, .ptr 2 0), (24, .sl 0 0 L.length cap 0), (25, .si .i64 L.length), (26, .si .i64 (i + 1 : Nat))],
   mkH [(0, .ro (smp L)), (1, .cells (endC c.pre c.b c.v) true), (2, .cells (stateCells k c.s) true)])
noncomputable abbrev bkSt (k sz al : Int) (x : Int × Int) (r : Smp) (cap : Nat) : Nat → AE × AH
  | 0 => (mkE [(0, .si .i64 k), (1, .si .i64 sz), (2, .si .i64 al), (9, .nsl), (10, .nil), (24, .sl 0 0 (r.length + 1) cap 0), (25, .si .i64 (r.length + 1 : Nat)), (26, .si .i64 0)], mkH [(0, .ro (smp (x :: r)))])
  | i + 1 => bkC k sz al (x :: r) cap (bkAll k sz al x (r.take i)) i
theorem bk_cov {k sz al : Int} {L : Smp} {cap i p n : Nat} {c : BK} {σ : AE} {H : AH} {l s : List AV} (j1 j2 : Nat) (hj : j1 ≠ 0 ∧ j2 ≠ 0 ∧ j1 ≠ j2) (hp : p ≤ 1) (e0 : mk (getq (pa 0) σ) = .si .i64 k) (e1 : mk (getq (pa 1) σ) = .si .i64 sz) (e2 : mk (getq (pa 2) σ) = .si .i64 al)
    (e9 : mk (getq (pa 9) σ) = .sy j1 0 (c.pre.length + 1) (c.pre.length + 1) 2) (e10 : getq (pa 10) σ = .ptr j2 0) (e24 : mk (getq (pa 24) σ) = .sy 0 0 L.length cap 0) (e25 : mk (getq (pa 25) σ) = .si .i64 L.length) (e26 : mk (getq (pa 26) σ) = .si .i64 (i + 1 : Nat))
    (h0 : H.get 0 = some (.ro (smp L))) (h1 : H.get j1 = some (.cells l true)) (hl : l.map mk = smp c.out) (h2 : H.get j2 = some (.cells s true)) (hs : s.map mk = stateCells k c.s) : Cov p σ H n ((bkC k sz al L cap c i).1, (bkC k sz al L cap c i).2, 3) := by
  refine Cov.of (fun b => if b = 0 then 0 else if b = 1 then j1 else j2) (by omega) (fun b hb => by rw [if_pos (by omega)]; omega) ?_ ?_ ?_
  · intro x hx
    simp only [List.mem_cons, List.not_mem_nil, or_false] at hx
    rcases hx with rfl | rfl | rfl | rfl | rfl | rfl | rfl | rfl
    · exact .int e0
    · exact .int e1
    · exact .int e2
    · exact .sl (by decide) e9
    · exact .ptr (by decide) e10
    · exact .sl (by decide) e24
    · exact .int e25
    · exact .int e26
  · intro x hx
    simp only [List.mem_cons, List.not_mem_nil, or_false] at hx
    rcases hx with rfl | rfl | rfl
    · exact ⟨by simp, _, h0, SubO.ro_mk (smp_flat L) rfl⟩
    · exact ⟨by simp, _, h1, SubO.cells_mk (endC_flat _ _ _) (by rw [hl, endC_map]; rfl) (fun q => q)⟩
    · exact ⟨by simp, _, h2, SubO.cells_mk rfl hs (fun q => q)⟩
  · intro x hx y hy
    simp only [List.mem_cons, List.not_mem_nil, or_false] at hx hy
    rcases hx with rfl | rfl | rfl <;> rcases hy with rfl | rfl | rfl <;> simp <;> omega
theorem bk_at {k sz al : Int} {x : Int × Int} {r : Smp} {cap i p n : Nat} {c : BK} {σ : AE} {H : AH} (hc : bkAll k sz al x (r.take (i + 1)) = c) (h : Cov p σ H n ((bkC k sz al (x :: r) cap c (i + 1)).1, (bkC k sz al (x :: r) cap c (i + 1)).2, 3)) :
    Cov p σ H n ((bkSt k sz al x r cap (i + 2)).1, (bkSt k sz al x r cap (i + 2)).2, 3) := by subst hc; exact h
theorem bk_cov0 {k sz al : Int} {x : Int × Int} {r : Smp} {cap p n : Nat} {σ : AE} {H : AH} (hp : p ≤ 1) (e0 : mk (getq (pa 0) σ) = .si .i64 k) (e1 : mk (getq (pa 1) σ) = .si .i64 sz) (e2 : mk (getq (pa 2) σ) = .si .i64 al)
    (e9 : getq (pa 9) σ = .nsl) (e10 : getq (pa 10) σ = .nil) (e24 : mk (getq (pa 24) σ) = .sy 0 0 (r.length + 1) cap 0) (e25 : mk (getq (pa 25) σ) = .si .i64 (r.length + 1 : Nat)) (e26 : mk (getq (pa 26) σ) = .si .i64 0)
    (h0 : H.get 0 = some (.ro (smp (x :: r)))) : Cov p σ H n ((bkSt k sz al x r cap 0).1, (bkSt k sz al x r cap 0).2, 3) := by
  refine Cov.of (fun b => b) (by omega) (fun b hb => rfl) ?_ ?_ ?_
  · intro x hx
    simp only [List.mem_cons, List.not_mem_nil, or_false] at hx
    rcases hx with rfl | rfl | rfl | rfl | rfl | rfl | rfl | rfl
    · exact .int e0
    · exact .int e1
    · exact .int e2
    · exact .flat rfl (congrArg mk e9)
    · exact .flat rfl (congrArg mk e10)
    · exact .sl (by decide) e24
    · exact .int e25
    · exact .int e26
  · intro x hx
    simp only [List.mem_cons, List.not_mem_nil, or_false] at hx
    subst hx
    exact ⟨by simp, _, h0, SubO.ro_mk (smp_flat _) rfl⟩
  · intro x hx y hy
    simp only [List.mem_cons, List.not_mem_nil, or_false] at hx hy
    subst hx hy
    exact fun q => q
theorem aTold_aV {k : Int} {s : SS} : mkT (aTold k s) = .tup [.si .i64 (aV k s), .sb (!decide (s.n = 0))] := rfl
theorem snoc_map (o : Smp) (b v : Int) {l : List AV} (h : l.map mk = smp o) : (l ++ [AV.si .i64 b, AV.si .i64 v]).map mk = smp (o ++ [(b, v)]) := by
  rw [List.map_append, h]; simp [smp, mk]
set_option maxHeartbeats 8000000 in
set_option maxRecDepth 100000 in
theorem bk_run (k sz al : Int) (L : Smp) (cap : Nat) (hL : L.length ≤ 1000000) (_ : L.length ≤ cap) : callT FP 4 28 [.si .i64 k, .si .i64 sz,   .si .i64 al, .sy 0 0 L.length cap 0] (mkH [(0, .ro (smp L))]) 1 fun u H' _ => NewRow (bkA k sz al L) u H' := by
  conv => whnf
  refine Fork.nsb (fun hr => ?_) (fun hr => ?_)
  · conv => whnf
    exact .inl ⟨bkA_neg (.inl hr), rfl⟩
  have hk := right_pos hr
  conv => whnf
  refine Fork.nsb (fun hc => ?_) (fun hc => ?_)
  · conv => whnf
    exact .inl ⟨bkA_neg (.inr (.inl hc)), rfl⟩
  rcases L with _ | ⟨x, r⟩
  · conv => whnf
    refine LoopP.roll 1 ?_
    conv => whnf
    refine Fork.dec (fun h => absurd h (by decide)) (fun _ => ?_)
    conv => whnf
    exact .inl ⟨bkA_nil, rfl⟩
  simp only [List.length_cons] at hL
  conv => whnf
  refine LoopP.mk { i : Nat // i < r.length + 2 ∧ bkOk ((x :: r).take i) = true } 3 (fun a => bkSt k sz al x r cap a.val) (fun a => r.length + 1 - a.val) ⟨0, by omega, rfl⟩ ?_ ?_
  · exact bk_cov0 (Nat.le_refl 1) rfl rfl rfl rfl rfl rfl rfl rfl rfl
  · intro ⟨i, hi, hok⟩
    cases i with
    | zero =>
      conv => whnf
      refine Fork.dec (fun h1 => ?_) (fun h1 => absurd (show (0 : Int) < ((r.length + 1 : Nat) : Int) by omega) h1)
      have hlt : r.length + 1 - 1 < r.length + 1 - 0 := by omega
      have h2 : 0 < (x :: r).length := Nat.succ_pos _
      conv => whnf
      refine Idx.mk 0 rfl (Nat.succ_pos _) ?_
      conv => whnf
      refine Fork.nsb (fun ht => ?_) (fun ht => ?_)
      · conv => whnf
        exact .inl ⟨bkA_neg (.inr (.inr (bkOk_no h2 ht))), rfl⟩
      conv => whnf
      refine Fork.nsb (fun h => absurd h (by rw [hr]; decide)) (fun _ => ?_)
      conv => whnf
      refine Fork.ndec (fun h => absurd (show (0 : Int) < k by omega) h) (fun _ => ?_)
      conv => whnf
      refine .inr ⟨k, aAdd ss0 x.2, 6, rfl, ⟨_, .inr ⟨_, rfl⟩, ?_⟩, hk.1, hk.2, ?_⟩
      · exact Eq.trans rfl (congrArg (stateCells k) (aAdd_0 (s := ss0) (v := x.2) rfl).symm)
      conv => whnf
      refine ⟨⟨1, by omega, bkOk_take h2 hok ht⟩, hlt, bk_cov (i := 0) (c := bkAll k sz al x (r.take 0)) 5 6 (by decide) (Nat.le_refl 1) rfl rfl rfl rfl rfl rfl rfl rfl rfl rfl ?_ rfl ?_⟩
      · exact Eq.trans rfl (show smp [(sStart x.1 sz al, aV k (aAdd ss0 x.2))] = _ from rfl)
      · exact Eq.trans rfl (congrArg (stateCells k) (aAdd_0 (s := ss0) (v := x.2) rfl).symm)
    | succ i =>
      conv => whnf
      refine Fork.dec (fun h1 => ?_) (fun h1 => ?_)
      · have h1 : ((i + 1 : Nat) : Int) < ((r.length + 1 : Nat) : Int) := h1
        have h2 : i + 1 < (x :: r).length := by simp only [List.length_cons]; omega
        have h3 : i < r.length := by omega
        have hlt : r.length + 1 - (i + 2) < r.length + 1 - (i + 1) := by omega
        have hw : IntKind.i64.wrap (((i + 1 : Nat) : Int) + 1) = ((i + 1 + 1 : Nat) : Int) := by rw [wrap_i64_of (x := ((i + 1 : Nat) : Int) + 1) (by omega) (by omega)]; omega
        have hpl : (bkAll k sz al x (r.take i)).pre.length ≤ i := Nat.le_trans (bk_len _) (by rw [List.length_take]; omega)
        have hlw : IntKind.i64.wrap ((((bkAll k sz al x (r.take i)).pre.length + 1 : Nat) : Int) - 1) = ((bkAll k sz al x (r.take i)).pre.length : Int) := by rw [wrap_i64_of (by omega) (by omega)]; omega
        have hlw2 : IntKind.i64.wrap ((((bkAll k sz al x (r.take i)).pre.length + 1 + 1 : Nat) : Int) - 1) = (((bkAll k sz al x (r.take i)).pre.length + 1 : Nat) : Int) := by rw [wrap_i64_of (by omega) (by omega)]; omega
        conv => whnf
        refine Idx.mk (i + 1) rfl h2 ?_
        conv => whnf
        refine optP_of (smp_sub h2 (by show 0 + (i + 1) * 2 = (i + 1) * 2; omega)) ?_
        conv => whnf
        refine Fork.nsb (fun ht => ?_) (fun ht => ?_)
        · conv => whnf
          exact .inl ⟨bkA_neg (.inr (.inr (bkOk_no h2 ht))), rfl⟩
        conv => whnf
        refine optP_of (eix_of rfl hlw (Nat.lt_succ_self _)) ?_
        conv => whnf
        refine optP_of (end_nth0 (by rw [smp_length]; show 0 + _ * 2 + 0 = _; omega)) ?_
        conv => whnf
        refine Fork.ndec (fun h4 => ?_) (fun h4 => ?_)
        · conv => whnf
          refine optP_of (app_grow (k := 1) (by' := 16) (m := 1) (sn := (bkAll k sz al x (r.take i)).pre.length + 1) (c := (bkAll k sz al x (r.take i)).pre.length + 1) rfl rfl rfl rfl rfl rfl rfl rfl (by decide) rfl rfl rfl (by omega) (by omega) (subL_all (endC_len _ _ _))) ?_
          conv => whnf
          refine Fork.nsb (fun h => absurd h (by rw [hr]; decide)) (fun _ => ?_)
          conv => whnf
          refine Fork.ndec (fun h => absurd (show (0 : Int) < k by omega) h) (fun _ => ?_)
          conv => whnf
          refine .inr ⟨k, aAdd ss0 r[i].2, 6, rfl, ⟨_, .inr ⟨_, rfl⟩, ?_⟩, hk.1, hk.2, ?_⟩
          · exact Eq.trans rfl (congrArg (stateCells k) (aAdd_0 (s := ss0) (v := r[i].2) rfl).symm)
          conv => whnf
          refine optP_of (eix_of rfl hlw2 (Nat.lt_succ_self _)) ?_
          conv => whnf
          refine optP_of (end_set (xs := endC (bkAll k sz al x (r.take i)).pre (bkAll k sz al x (r.take i)).b (bkAll k sz al x (r.take i)).v) (by rw [endC_len]; show 0 + (_ + 1) * 2 + 1 = _; omega)) ?_
          conv => whnf
          refine ⟨⟨i + 2, by omega, bkOk_take h2 hok ht⟩, hlt, bk_at ((bkAll_take h3).trans (bkStep_new h4)) (bk_cov (i := i + 1) 5 6 (by decide) (Nat.le_refl 1) rfl rfl rfl ?_ rfl rfl rfl (congrArg (AV.si .i64) hw) rfl rfl (snoc_map _ _ _ (endC_map _ _ _)) rfl ?_)⟩
          · exact (show mk _ = AV.sy 5 0 ((bkAll k sz al x (r.take i)).pre.length + 1 + 1) ((bkAll k sz al x (r.take i)).pre.length + 1 + 1) 2 from rfl).trans (by simp [bkNew, BK.out])
          · exact Eq.trans rfl (congrArg (stateCells k) (aAdd_0 (s := ss0) (v := r[i].2) rfl).symm)
        · refine Fork.ndec (fun h => absurd (show (0 : Int) < k by omega) h) (fun _ => ?_)
          conv => whnf
          refine Fork.dec (fun h5 => ?_) (fun h5 => ?_)
          all_goals
            conv => whnf
            refine .inr ⟨k, aAdd (bkAll k sz al x (r.take i)).s r[i].2, 2, rfl, ⟨_, .inr ⟨_, rfl⟩, ?_⟩, hk.1, hk.2, ?_⟩
            · first | exact Eq.trans rfl (congrArg (stateCells k) (aAdd_0 h5).symm) | exact Eq.trans rfl (congrArg (stateCells k) (aAdd_1 h5).symm)
            conv => whnf
            refine optP_of (eix_of rfl hlw (Nat.lt_succ_self _)) ?_
            conv => whnf
            refine optP_of (end_set (xs := smp (bkAll k sz al x (r.take i)).pre) (by rw [smp_length]; show 0 + _ * 2 + 1 = _; omega)) ?_
            conv => whnf
            refine ⟨⟨i + 2, by omega, bkOk_take h2 hok ht⟩, hlt, bk_at ((bkAll_take h3).trans (bkStep_same h4)) (bk_cov (i := i + 1) 1 2 (by decide) (Nat.le_refl 1) rfl rfl rfl rfl rfl rfl rfl (congrArg (AV.si .i64) hw) rfl rfl (endC_map _ _ _) rfl ?_)⟩
            first | exact Eq.trans rfl (congrArg (stateCells k) (aAdd_0 h5).symm) | exact Eq.trans rfl (congrArg (stateCells k) (aAdd_1 h5).symm)
      · conv => whnf
        have h1 : ¬ ((i + 1 : Nat) : Int) < ((r.length + 1 : Nat) : Int) := h1
        have h3 : i = r.length := by omega
        subst h3
        have e1 : r.take r.length = r := List.take_length
        rw [show (x :: r).take (r.length + 1) = x :: r from by rw [List.take_succ_cons, e1]] at hok
        have e2 : bkA k sz al (x :: r) = (bkAll k sz al x (r.take r.length)).out := by rw [bkA_pos hr hc hok, e1]
        refine .inr ⟨by rw [e2]; simp [BK.out], 1, (bkAll k sz al x (r.take r.length)).pre.length + 1, _, ?_, ?_, rfl, (endC_map _ _ _).trans (congrArg smp e2.symm)⟩
        · exact (show _ = AV.sl 1 0 ((bkAll k sz al x (r.take r.length)).pre.length + 1) ((bkAll k sz al x (r.take r.length)).pre.length + 1) 2 from rfl).trans (by rw [e2]; simp [BK.out])
        · rw [e2]; simp [BK.out]
set_option maxHeartbeats 4000000 in
set_option maxRecDepth 100000 in
theorem bk_nil (k sz al : Int) : callT FP 4 28 [.si .i64 k, .si .i64 sz, .si .i64 al, .nsl] .nil 0 fun u H' _ => NewRow (bkA k sz al []) u H' := by
  conv => whnf
  refine Fork.nsb (fun hr => ?_) (fun hr => ?_)
  · conv => whnf
    exact .inl ⟨bkA_nil, rfl⟩
  conv => whnf
  refine Fork.nsb (fun hc => ?_) (fun hc => ?_)
  · conv => whnf
    exact .inl ⟨bkA_nil, rfl⟩
  conv => whnf
  refine LoopP.roll 1 ?_
  conv => whnf
  exact .inl ⟨bkA_nil, rfl⟩
theorem n_buckets : NatP 28 (natB 1000000 bkA) := natB_ok FP_ok (by kernel_rfl) bk_nil bk_run
end Go.Proofs.Ytaejmcgcfopmkaa
namespace Go.Proofs.Ytaejmcgcfopmkaa
open Go Go.RowKit
noncomputable def FQ : FuncId → EP := withD 27 [] (withS 28 (natB 1000000 bkA) FP)
theorem FQ_ok : TabP FQ := withD_ok (withS_ok FP_ok n_buckets singB) (by kernel_rfl) (by kernel_rfl)
/-- A function of two rows of samples that yields a truth. -/
def natSS (B : Nat) (f : Smp → Smp → Bool) (args : List AV) (H : AH) (n : Nat) (κ : PK) : Prop := match args with
  | [x, y] => ∃ L M, SmpAt H x L ∧ SmpAt H y M ∧ L.length ≤ B ∧ M.length ≤ B ∧ κ (.sb (f L M)) H n
  | _ => False
theorem singSS {B : Nat} {f : Smp → Smp → Bool} : SingG (natSS B f) := .pure fun args H n κ hs => by
  unfold natSS at *
  split at hs
  · obtain ⟨L, M, h1, h2, h3, h4, h5⟩ := hs
    exact ⟨_, h5, fun κ' h => ⟨L, M, h1, h2, h3, h4, h⟩⟩
  · exact hs.elim
theorem natSS_ok {B : Nat} {F : FuncId → EP} (hF : TabP F) {d : Nat} {f : FuncId} {g : Smp → Smp → Bool} (hic : isCall Try.prog f = true) (h00 : callT F d f [.nsl, .nsl] .nil 0 fun u _ _ => mkT u = mkT (.bool (g [] [])))
    (h01 : ∀ M cap, M.length ≤ B → callT F d f [.nsl, .sy 0 0 M.length cap 0] (mkH [(0, .ro (smp M))]) 1 fun u _ _ => mkT u = mkT (.bool (g [] M)))
    (h10 : ∀ L cap, L.length ≤ B → callT F d f [.sy 0 0 L.length cap 0, .nsl] (mkH [(0, .ro (smp L))]) 1 fun u _ _ => mkT u = mkT (.bool (g L [])))
    (h11 : ∀ L M c1 c2, L.length ≤ B → M.length ≤ B → callT F d f [.sy 0 0 L.length c1 0, .sy 1 0 M.length c2 0] (mkH [(0, .ro (smp L)), (1, .ro (smp M))]) 2 fun u _ _ => mkT u = mkT (.bool (g L M))) : NatP f (natSS B g) := fun args H n κ hs φ h0' hp vs K hr hargs hk => by
  unfold natSS at hs
  split at hs
  · obtain ⟨x, y, rfl, e1, e2⟩ := vs2 hargs
    obtain ⟨L, M, hS, hT, hL, hM, hs2⟩ := hs
    have e1 := e1.hd
    have e2 := e2.hd
    rcases hS with ⟨ex, rfl⟩ | ⟨b, o, c, kk, l, r, ex, hb, hsub, hmk, _⟩ <;> rcases hT with ⟨ey, rfl⟩ | ⟨b', o', c', kk', l', r', ey, hb', hsub', hmk', _⟩
    · rw [ex] at e1
      rw [ey] at e2
      exact smallN (v := .bool (g [] [])) hF rfl h00 hs2 hr hk hic HR.ro0 (.cons (by rw [e1.nsl_inv]; exact .nsl) (.cons (by rw [e2.nsl_inv]; exact .nsl) .nil))
    · rw [ex] at e1
      rw [ey] at e2
      obtain ⟨p, C, hpb, rfl, _, _⟩ := e2.sl_inv
      have hro := RoAt.of (s := smp M) hr hb' hpb hsub' (by rw [hmk', smp_map]) (smp_flat M)
      exact smallN (v := .bool (g [] M)) hF rfl (h01 M C hM) hs2 hr hk hic (fun hw => HR.ro1 hw hro) (.cons (by rw [e1.nsl_inv]; exact .nsl) (.cons (.sy (p := ⟨p.B, p.s + o', M.length * 2⟩) (b := 0) (o := 0) (C := C) rfl (fun _ => rfl) (fun q => absurd rfl q)) .nil))
    · rw [ex] at e1
      rw [ey] at e2
      obtain ⟨p, C, hpb, rfl, _, _⟩ := e1.sl_inv
      have hro := RoAt.of (s := smp L) hr hb hpb hsub (by rw [hmk, smp_map]) (smp_flat L)
      exact smallN (v := .bool (g L [])) hF rfl (h10 L C hL) hs2 hr hk hic (fun hw => HR.ro1 hw hro) (.cons (.sy (p := ⟨p.B, p.s + o, L.length * 2⟩) (b := 0) (o := 0) (C := C) rfl (fun _ => rfl) (fun q => absurd rfl q)) (.cons (by rw [e2.nsl_inv]; exact .nsl) .nil))
    · rw [ex] at e1
      rw [ey] at e2
      obtain ⟨p, C, hpb, rfl, _, _⟩ := e1.sl_inv
      obtain ⟨p', C', hpb', rfl, _, _⟩ := e2.sl_inv
      have hro := RoAt.of (s := smp L) hr hb hpb hsub (by rw [hmk, smp_map]) (smp_flat L)
      have hro' := RoAt.of (s := smp M) hr hb' hpb' hsub' (by rw [hmk', smp_map]) (smp_flat M)
      exact smallN (v := .bool (g L M)) hF rfl (h11 L M C C' hL hM) hs2 hr hk hic (fun hw => HR.ro2 hw hro hro')
        (.cons (.sy (p := ⟨p.B, p.s + o, L.length * 2⟩) (b := 0) (o := 0) (C := C) rfl (fun _ => rfl) (fun q => absurd rfl q)) (.cons (.sy (p := ⟨p'.B, p'.s + o', M.length * 2⟩) (b := 1) (o := 0) (C := C') rfl (fun _ => rfl) (fun q => absurd rfl q)) .nil))
  · exact hs.elim
theorem plan39 : eqPlan Try.prog 39 = some [(0, 0), (0, 1)] := by kernel_rfl
theorem ebin_agg2 {P : Program} {t : TypeId} {H : AH} {a b c d : Int} (hp : eqPlan P t = some [(0, 0), (0, 1)]) : ebin P .neq t (.agg [.int .i64 a, .int .i64 b]) (.agg [.int .i64 c, .int .i64 d]) H = some (.bool (!(decide (a = c) && (decide (b = d) && true)))) := by
  simp [ebin, hp, eplan, nth, qbool]
def sameS (L M : Smp) : Bool := decide (L = M)
noncomputable def sameSt (L M : Smp) (c1 c2 i : Nat) : AE × AH := (mkE [(0, .sy 0 0 L.length c1 0), (1, .sy 1 0 M.length c2 0), (5, .si .i64 i)], mkH [(0, .ro (smp L)), (1, .ro (smp M))])
theorem same_cov {L M : Smp} {c1 c2 i p n : Nat} {σ : AE} {H : AH} (hp : p ≤ 2) (e0 : mk (getq (pa 0) σ) = .sy 0 0 L.length c1 0) (e1 : mk (getq (pa 1) σ) = .sy 1 0 M.length c2 0) (e5 : mk (getq (pa 5) σ) = .si .i64 i)
    (h0 : H.get 0 = some (.ro (smp L))) (h1 : H.get 1 = some (.ro (smp M))) : Cov p σ H n ((sameSt L M c1 c2 i).1, (sameSt L M c1 c2 i).2, 2) := by
  refine Cov.of (fun b => b) hp (fun b hb => rfl) ?_ ?_ ?_
  · intro x hx
    simp only [List.mem_cons, List.not_mem_nil, or_false] at hx
    rcases hx with rfl | rfl | rfl
    · exact .sy (by decide) e0
    · exact .sy (by decide) e1
    · exact .int e5
  · intro x hx
    simp only [List.mem_cons, List.not_mem_nil, or_false] at hx
    rcases hx with rfl | rfl
    · exact ⟨by simp, _, h0, SubO.ro_mk (smp_flat L) rfl⟩
    · exact ⟨by simp, _, h1, SubO.ro_mk (smp_flat M) rfl⟩
  · intro x hx y hy
    simp only [List.mem_cons, List.not_mem_nil, or_false] at hx hy
    rcases hx with rfl | rfl <;> rcases hy with rfl | rfl <;> exact fun q => q
theorem same_no {L M : Smp} (h : L ≠ M) : AV.sb false = mkT (.bool (sameS L M)) := by simp [sameS, h, mkT, mk]
theorem same_yes {L M : Smp} (h : L = M) : AV.sb true = mkT (.bool (sameS L M)) := by simp [sameS, h, mkT, mk]
set_option maxHeartbeats 4000000 in
set_option maxRecDepth 100000 in
theorem same_run (L M : Smp) (c1 c2 : Nat) (hL : L.length ≤ 1000000) (hM : M.length ≤ 1000000) : callT FQ 3 27 [.sy 0 0 L.length c1 0, .sy 1 0 M.length c2 0] (mkH [(0, .ro (smp L)), (1, .ro (smp M))]) 2 fun u _ _ => mkT u = mkT (.bool (sameS L M)) := by
  conv => whnf
  refine Fork.ndec (fun h1 => ?_) (fun h1 => ?_)
  · conv => whnf
    exact (show mkT _ = AV.sb false from rfl).trans (same_no fun e => h1 (by rw [e]))
  have hlen : L.length = M.length := by have : (L.length : Int) = (M.length : Int) := h1; omega
  conv => whnf
  refine LoopP.mk { i : Nat // i < L.length + 1 ∧ L.take i = M.take i } 2 (fun a => sameSt L M c1 c2 a.val) (fun a => L.length - a.val) ⟨0, by omega, rfl⟩ ?_ ?_
  · exact same_cov (i := 0) (Nat.le_refl 2) rfl rfl rfl rfl rfl
  · intro ⟨i, hi, he⟩
    conv => whnf
    refine Fork.dec (fun h2 => ?_) (fun h2 => ?_)
    · have h3 : i < L.length := Int.ofNat_lt.1 h2
      have h4 : i < M.length := by omega
      have hlt : L.length - (i + 1) < L.length - i := by omega
      have hw : IntKind.i64.wrap ((i : Int) + 1) = ((i + 1 : Nat) : Int) := by rw [wrap_i64_of (x := (i : Int) + 1) (by omega) (by omega)]; omega
      conv => whnf
      refine Idx.mk i rfl h3 ?_
      conv => whnf
      refine optP_of (smp_sub h3 (by show 0 + i * 2 = i * 2; omega)) ?_
      conv => whnf
      refine Idx.mk i rfl h4 ?_
      conv => whnf
      refine optP_of (smp_sub h4 (by show 0 + i * 2 = i * 2; omega)) ?_
      conv => whnf
      refine optP_of (ebin_agg2 plan39) ?_
      conv => whnf
      refine Fork.nsb (fun h5 => ?_) (fun h5 => ?_)
      · conv => whnf
        refine (show mkT _ = AV.sb false from rfl).trans (same_no fun e => ?_)
        subst e
        have h5 : (decide (L[i].1 = L[i].1) && (decide (L[i].2 = L[i].2) && true)) = false := h5
        simp at h5
      · conv => whnf
        have h5 : (decide (L[i].1 = M[i].1) && (decide (L[i].2 = M[i].2) && true)) = true := h5
        simp only [Bool.and_true, Bool.and_eq_true, decide_eq_true_eq] at h5
        refine ⟨⟨i + 1, by omega, ?_⟩, hlt, same_cov (Nat.le_refl 2) rfl rfl (congrArg (AV.si .i64) hw) rfl rfl⟩
        rw [List.take_succ_eq_append_getElem h3, List.take_succ_eq_append_getElem h4, he, Prod.ext h5.1 h5.2]
    · conv => whnf
      have h3 : i = L.length := by have : ¬ (i : Int) < (L.length : Int) := h2; omega
      subst h3
      refine (show mkT _ = AV.sb true from rfl).trans (same_yes ?_)
      rw [List.take_length, hlen, List.take_length] at he
      exact he
set_option maxHeartbeats 4000000 in
set_option maxRecDepth 100000 in
theorem same_00 : callT FQ 3 27 [.nsl, .nsl] .nil 0 fun u _ _ => mkT u = mkT (.bool (sameS [] [])) := by
  conv => whnf
  refine LoopP.roll 1 ?_
  conv => whnf
  rfl
set_option maxHeartbeats 4000000 in
set_option maxRecDepth 100000 in
theorem same_01 (M : Smp) (cap : Nat) : callT FQ 3 27 [.nsl, .sy 0 0 M.length cap 0] (mkH [(0, .ro (smp M))]) 1 fun u _ _ => mkT u = mkT (.bool (sameS [] M)) := by
  conv => whnf
  refine Fork.ndec (fun h1 => ?_) (fun h1 => ?_)
  · conv => whnf
    exact (show mkT _ = AV.sb false from rfl).trans (same_no fun e => h1 (by rw [← e]; rfl))
  · conv => whnf
    have h2 : M = [] := List.eq_nil_of_length_eq_zero (by have : (0 : Int) = (M.length : Int) := h1; omega)
    subst h2
    refine LoopP.roll 1 ?_
    conv => whnf
    rfl
set_option maxHeartbeats 4000000 in
set_option maxRecDepth 100000 in
theorem same_10 (L : Smp) (cap : Nat) : callT FQ 3 27 [.sy 0 0 L.length cap 0, .nsl] (mkH [(0, .ro (smp L))]) 1 fun u _ _ => mkT u = mkT (.bool (sameS L [])) := by
  conv => whnf
  refine Fork.ndec (fun h1 => ?_) (fun h1 => ?_)
  · conv => whnf
    exact (show mkT _ = AV.sb false from rfl).trans (same_no fun e => h1 (by rw [e]; rfl))
  · conv => whnf
    have h2 : L = [] := List.eq_nil_of_length_eq_zero (by have : (L.length : Int) = (0 : Int) := h1; omega)
    subst h2
    refine LoopP.roll 1 ?_
    conv => whnf
    refine Fork.dec (fun h => absurd h (by decide)) (fun _ => ?_)
    conv => whnf
    rfl
theorem n_same : NatP 27 (natSS 1000000 sameS) := natSS_ok FQ_ok (by kernel_rfl) same_00 (fun M cap _ => same_01 M cap) (fun L cap _ => same_10 L cap) same_run
end Go.Proofs.Ytaejmcgcfopmkaa
