/- Texts of our own, joined: the engine, the machine that runs code, and what is known of the functions. -/
import Derived.Test.YtckcicalbjmgbaaRows
import Derived.WalkKit
import Derived.Deep.Quiet
import Derived.ProofKit
import Derived.Laws.StructEq
import Derived.LaidEql
import Derived.Laws.BytesArg
import Derived.Maps.RangeRun
import Derived.Scope
import Derived.Laws.Strings
import Derived.Laws.Strings2
import Derived.Below
import Derived.Carry
import Derived.OpenShut
import Derived.ChangeMaps5
import Derived.Deep.Slices
import Derived.Deep.SlicePairs
import Derived.SizedLaws
import Derived.Laws.BitsAllLaws
import Derived.Test.YtckcicalbjmgbaaJc
set_option linter.unusedSimpArgs false
set_option linter.unusedVariables false
set_option maxHeartbeats 16000000
set_option maxRecDepth 100000
namespace Go.Proofs.Ytckcicalbjmgbaa
open Go Go.RowKit
def sW : Nat → Nat → List Nat
  | 0, _ => []
  | f + 1, k => if k < 10 then [48 + k] else sW f (k / 10) ++ [48 + k % 10]
def sY (z : Int) : List Nat := if z < 0 then 45 :: sW 20 z.natAbs else sW 20 z.natAbs
def dgo : Nat → Nat → List Nat → List Nat
  | 0, _, l => l
  | f + 1, k, l => if k = 0 ∧ l ≠ [] then l else dgo f (k / 10) ((48 + k % 10) :: l)
theorem oo {f : Nat} {l : List Nat} (h : l ≠ []) : dgo f 0 l = l := by
  cases f with
  | zero => rfl
  | succ f => unfold dgo; rw [if_pos ⟨rfl, h⟩]
theorem BR : ∀ (f k : Nat) (l : List Nat), k < 10 ^ (f + 1) → (k ≠ 0 ∨ l = []) → dgo (f + 2) k l = sW (f + 1) k ++ l := by
  intro f
  induction f with
  | zero =>
    intro k l h h0
    have hk : k < 10 := by simpa using h
    unfold dgo sW
    rw [if_neg (fun q => h0.elim (fun n => n q.1) (fun e => q.2 e)), if_pos hk, show k / 10 = 0 by omega, oo (by simp), show k % 10 = k by omega]
    rfl
  | succ f ih =>
    intro k l h h0
    unfold dgo sW
    rw [if_neg (fun q => h0.elim (fun n => n q.1) (fun e => q.2 e))]
    by_cases hk : k < 10
    · rw [if_pos hk, show k / 10 = 0 by omega, oo (by simp), show k % 10 = k by omega]
      rfl
    · rw [if_neg hk, ih (k / 10) _ (by rw [Nat.pow_succ] at h; omega) (.inl (by omega)), List.append_assoc]
      rfl
theorem yG {z : Int} (h : fP z) : z.natAbs < 10 ^ 20 := by unfold fP at h; omega
def pgo : Nat → List Nat → Int → Int → Option Int
  | _, [], n, _ => some n
  | i, c :: r, n, sg => if 48 ≤ c ∧ c ≤ 57 then pgo (i + 1) r (W64 (W64 (10 * n) + W64 (sg * ((c : Int) - 48)))) sg else if i = 0 ∧ c = 45 then pgo (i + 1) r n (-1) else none
def ak (s : List Nat) : Int × Int := match pgo 0 s 0 1 with
  | some n => if sY n = s then (n, 0) else (0, 16)
  | none => (0, 16)
end Go.Proofs.Ytckcicalbjmgbaa
namespace Go.Proofs.Ytckcicalbjmgbaa
open Go Go.RowKit
theorem Dc : RTy 50 50 1 1 := ⟨_, _, _, rfl, rfl, (fun q h => by cases h), rfl, rfl, rfl, rfl, by decide, by decide⟩
theorem sZ (s : List Nat) : (cf s).all lz = true := by
  rw [List.all_eq_true]
  intro y hy
  have := List.all_eq_true.1 (gH s) y hy
  cases y <;> first | rfl | cases this
theorem uw (s : List Nat) : aV (cf s) 0 (s.length * 1) = some (cf s) := dg (by rw [cm, Nat.mul_one])
theorem s0 (s : List Nat) : aV (cf s) 0 s.length = some (cf s) := dg (cm s)
theorem yH {s : List Nat} {i o : Nat} (h : i < s.length) (ho : o = i) : nth (cf s) o = some (.si .u8 (Int.ofNat s[i])) := by
  subst ho
  rw [dV]
  simp only [cf, List.getElem?_map, List.getElem?_eq_getElem h]; rfl
theorem yI {m : Int} (h : fP m) : AV.si .u8 (IntKind.u8.wrap (IntKind.i64.wrap (48 + max (m.tmod 10) (IntKind.i64.wrap (0 - m.tmod 10))))) = .si .u8 (Int.ofNat (48 + m.natAbs % 10)) := by
  unfold fP at h
  have h1 : m.tmod 10 = if m < 0 then -((m.natAbs % 10 : Nat) : Int) else ((m.natAbs % 10 : Nat) : Int) := by
    split
    · rename_i hn
      rw [show m = -((m.natAbs : Nat) : Int) by omega, Int.neg_tmod]
      simp [Int.tmod]
    · rename_i hn
      rw [show m = ((m.natAbs : Nat) : Int) by omega]
      simp [Int.tmod]
  have h2 : m.natAbs % 10 < 10 := Nat.mod_lt _ (by decide)
  have h3 : IntKind.i64.wrap (0 - m.tmod 10) = -(m.tmod 10) := (jc (by unfold fP; split at h1 <;> omega)).trans (by omega)
  have h4 : max (m.tmod 10) (-(m.tmod 10)) = ((m.natAbs % 10 : Nat) : Int) := by
    split at h1 <;> (rw [h1]; omega)
  rw [h3, h4]
  have h5 : IntKind.i64.wrap (48 + ((m.natAbs % 10 : Nat) : Int)) = ((48 + m.natAbs % 10 : Nat) : Int) := (jc (by unfold fP; omega)).trans (by omega)
  rw [h5]
  congr 1
  simp [IntKind.wrap, IntKind.bits, IntKind.signed]
  omega
theorem s4 {m : Int} (h : fP m) : IntKind.i64.wrap (m.tdiv 10) = m.tdiv 10 ∧ fP (m.tdiv 10) ∧ (m.tdiv 10).natAbs = m.natAbs / 10 := by
  have h1 : (m.tdiv 10).natAbs = m.natAbs / 10 := by rw [Int.natAbs_tdiv]; rfl
  unfold fP at h
  have h2 : fP (m.tdiv 10) := by unfold fP; omega
  exact ⟨jc h2, h2, h1⟩
noncomputable def dgt (z : Int) (m : Int) (D : List Nat) : AE × AH := (mkE [(0, .si .i64 (z)), (3, .rw 0 0 D.length 1 0), (4, .si .i64 (m))], mkH [(0, .cells (cf (D)) true)])
theorem rn {z : Int} {m : Int} {D : List Nat} {p n : Nat} {σ : AE} {H : AH} (j0 : Nat) (hp : p ≤ 0) (e0 : mk (aC (pa 0) σ) = .si .i64 (z)) (e3 : aX H 1 (fun b => if b = 0 then j0 else b) (aC (pa 3) σ) (.rw 0 0 D.length 1 0)) (e4 : mk (aC (pa 4) σ) = .si .i64 (m)) (h0 : (∃ l, H.get j0 = some (.cells l true) ∧ l.map mk = cf (D)) ∨ ((D) = [] ∧ n ≤ j0)) : Cov p σ H n ((dgt z m D).1, (dgt z m D).2, 1) := by
  refine Cov.ofR (fun b => if b = 0 then j0 else b) (by omega) (fun b hb => by repeat' rw [if_neg (by omega)]) ?_ ?_ ?_
  · intro x hx
    simp only [List.mem_cons, List.not_mem_nil, or_false] at hx
    rcases hx with rfl | rfl | rfl
    · exact .int e0
    · exact e3
    · exact .int e4
  · intro x hx
    simp only [List.mem_cons, List.not_mem_nil, or_false] at hx
    subst hx
    exact ⟨by simp, h0.elim (fun ⟨l, h, g⟩ => .inl ⟨_, h, cW.bZ (gH _) (by rw [g, dh]) (fun q => q)⟩) (fun h => .inr ⟨by rw [h.1]; rfl, h.2⟩)⟩
  · intro x hx y hy
    simp only [List.mem_cons, List.not_mem_nil, or_false] at hx hy
    subst hx hy
    exact fun q => rfl
noncomputable def KDg : FuncId → EP := cw 9 [] evP
theorem BS : bu KDg := aF aQ (by kernel_rfl) (by kernel_rfl)
def DgI (z : Int) (x : Nat × Int × List Nat) : Prop := fP x.2.1 ∧ x.2.1.natAbs < 10 ^ x.1 ∧ dgo (x.1 + 1) x.2.1.natAbs x.2.2 = sW 20 z.natAbs ∧ x.2.2.length + x.1 ≤ 20 ∧ (∀ c ∈ x.2.2, c < 256) ∧ (x.2.2 = [] → x.1 = 20)
theorem DgI.step {z m : Int} {f : Nat} {l : List Nat} (h : DgI z (f, m, l)) (hc : m ≠ 0 ∨ l.length = 0) : 1 ≤ f ∧ DgI z (f - 1, m.tdiv 10, (48 + m.natAbs % 10) :: l) := by
  obtain ⟨h1, h2, h3, h4, h5, h6⟩ := h
  dsimp only at h1 h2 h3 h4 h5 h6
  have hf : 1 ≤ f := by
    rcases Nat.eq_zero_or_pos f with q | q
    · subst q
      rcases hc with hc | hc
      · simp at h2; omega
      · have := h6 (List.eq_nil_of_length_eq_zero hc); omega
    · exact q
  obtain ⟨g, rfl⟩ : ∃ g, f = g + 1 := ⟨f - 1, by omega⟩
  obtain ⟨d1, d2, d3⟩ := s4 h1
  refine ⟨hf, d2, ?_, ?_, ?_, ?_, fun q => by cases q⟩
  · show (m.tdiv 10).natAbs < 10 ^ g
    rw [d3]; rw [Nat.pow_succ] at h2; omega
  · show dgo (g + 1) (m.tdiv 10).natAbs _ = _
    rw [d3, ← h3]
    conv => rhs; unfold dgo
    rw [if_neg (fun q => hc.elim (fun n => n (Int.natAbs_eq_zero.1 q.1)) (fun e => q.2 (List.eq_nil_of_length_eq_zero e)))]
  · show ((48 + m.natAbs % 10) :: l).length + (g + 1 - 1) ≤ 20
    simp; omega
  · intro c hc
    rcases List.mem_cons.1 hc with rfl | hc
    · omega
    · exact h5 c hc
theorem DgI.stop {z m : Int} {f : Nat} {l : List Nat} (h : DgI z (f, m, l)) (h0 : m = 0) (hl : ¬ l.length = 0) : l = sW 20 z.natAbs := by
  obtain ⟨h1, h2, h3, _⟩ := h
  dsimp only at h3
  rw [h0] at h3
  rw [← h3]
  exact (oo (fun e => hl (by rw [e]; rfl))).symm
theorem BT (z : Int) (hz : fP z) : ao KDg 3 9 [.si .i64 z] .nil 0 fun u _ _ => mkT u = mkT (.ss (sY z)) := by
  conv => whnf
  refine cV.mk { x : Nat × Int × List Nat // DgI z x } 1 (fun x => dgt z x.val.2.1 x.val.2.2) (fun x => x.val.1) ⟨(20, z, []), hz, yG hz, BR 19 _ _ (yG hz) (.inr rfl) |>.trans (List.append_nil _), Nat.le_refl _, (fun c h => by cases h), fun _ => rfl⟩ ?_ ?_
  · exact rn (j0 := 0) (Nat.le_refl 0) rfl (.C9 rfl) rfl (.inr ⟨rfl, Nat.le_refl _⟩)
  · intro ⟨(f, m, l), hI⟩
    have hm : fP m := hI.1
    have hll : l.length ≤ 20 := by have := hI.2.2.2.1; dsimp only at this; omega
    have hb256 : ∀ c ∈ l, c < 256 := hI.2.2.2.2.1
    have hrow := uw l
    have hbig : (1 + l.length) * 1 ≤ 140737488355328 := by omega
    have hlen : 1 + l.length = ((48 + m.natAbs % 10) :: l).length := by simp; omega
    have hby := yI hm
    have hcell : ([AV.si .u8 (IntKind.u8.wrap (IntKind.i64.wrap (48 + max (m.tmod 10) (IntKind.i64.wrap (0 - m.tmod 10)))))] ++ cf l).map mk = cf ((48 + m.natAbs % 10) :: l) := by
      rw [hby, List.map_append, dh]; rfl
    have hmt : AV.si .i64 (IntKind.i64.wrap (m.tdiv 10)) = .si .i64 (m.tdiv 10) := by rw [(s4 hm).1]
    have go : ∀ hc : m ≠ 0 ∨ l.length = 0, f - 1 < f := fun hc => by have := (hI.step hc).1; omega
    conv => whnf
    refine ah.fO (fun h0 => ?_) (fun h0 => ?_)
    · have hst := hI.step (.inl h0)
      conv => whnf
      refine gu.grow 1 1 _ _ _ _ _ _ Dc (.rw (.inr ⟨_, rfl⟩) hrow) (by rw [cm, Nat.mul_one]) (sZ l) (.sl rfl rfl (Nat.le_refl _) (Nat.le_refl _)) hbig ?_
      conv => whnf
      exact ⟨⟨(f - 1, m.tdiv 10, (48 + m.natAbs % 10) :: l), hst.2⟩, go (.inl h0), rn (j0 := 2) (Nat.le_refl 0) rfl (aX.rw (by decide) rfl (hn := hlen)) hmt (.inl ⟨_, rfl, hcell⟩)⟩
    · conv => whnf
      refine ah.dec (fun h1 => ?_) (fun h1 => ?_)
      · have h1 : l.length = 0 := by exact Int.ofNat_inj.1 h1
        have hst := hI.step (.inr h1)
        conv => whnf
        refine gu.grow 1 1 _ _ _ _ _ _ Dc (.rw (.inr ⟨_, rfl⟩) hrow) (by rw [cm, Nat.mul_one]) (sZ l) (.sl rfl rfl (Nat.le_refl _) (Nat.le_refl _)) hbig ?_
        conv => whnf
        exact ⟨⟨(f - 1, m.tdiv 10, (48 + m.natAbs % 10) :: l), hst.2⟩, go (.inr h1), rn (j0 := 2) (Nat.le_refl 0) rfl (aX.rw (by decide) rfl (hn := hlen)) hmt (.inl ⟨_, rfl, hcell⟩)⟩
      · have h1 : ¬ l.length = 0 := fun q => h1 (by exact Int.ofNat_inj.2 q)
        have hl := hI.stop h0 h1
        have hbyt : eG (cf l) = some l := jf hb256
        have hwh := s0 l
        have hadd : ([45] : List Nat).length + l.length ≤ 9223372036854775807 := by simp; omega
        conv => whnf
        refine ah.dec (fun hn => ?_) (fun hn => ?_)
        · have e : mkT (AV.ss ([45] ++ l)) = mkT (.ss (sY z)) := by unfold sY; rw [if_pos hn, hl]; rfl
          conv => whnf
          refine BB.mk _ _ _ _ _ _ _ _ rfl (by decide) ⟨_, rfl, rfl, rfl⟩ (.inr ⟨_, rfl⟩) hwh hbyt ?_
          conv => whnf
          refine ⟨hadd, ?_⟩
          conv => whnf
          exact e
        · have e : mkT (AV.ss l) = mkT (.ss (sY z)) := by unfold sY; rw [if_neg hn, hl]
          conv => whnf
          refine BB.mk _ _ _ _ _ _ _ _ rfl (by decide) ⟨_, rfl, rfl, rfl⟩ (.inr ⟨_, rfl⟩) hwh hbyt ?_
          conv => whnf
          exact e
def yJ (args : List AV) (H : AH) (n : Nat) (κ : PK) : Prop := match args with
  | [x] => ∃ z : Int, mk x = .si .i64 z ∧ fP z ∧ κ (.ss (sY z)) H n
  | _ => False
theorem yK : aA 9 yJ := fun args H n κ hs φ h0' hp vs K hr hargs hk => by
  unfold yJ at hs
  split at hs
  · obtain ⟨x, rfl, e1⟩ := vs1 hargs
    obtain ⟨z, hx, h1, hs⟩ := hs
    exact kl BS (v := .ss (sY z)) rfl (BT z h1) hs hr hk (by kernel_rfl) HR.ro0 (.cons (df rfl (hx ▸ e1.mk)) .nil)
  · exact hs.elim
theorem Dd {c : Nat} (h1 : 48 ≤ c) (h2 : c ≤ 57) : IntKind.i64.wrap (IntKind.u8.wrap (Int.ofNat c - 48)) = (c : Int) - 48 := by
  have e : IntKind.u8.wrap (Int.ofNat c - 48) = (c : Int) - 48 := by
    simp [IntKind.wrap, IntKind.bits, IntKind.signed]
    omega
  rw [e]
  exact jc (by unfold fP; omega)
noncomputable def nmt (s : List Nat) (m : Int) (g : Int) (i : Nat) : AE × AH := (mkE [(0, .ss (s)), (4, .si .i64 (m)), (5, .si .i64 (g)), (9, .sy 0 0 s.length s.length 1), (10, .si .i64 (((s.length : Nat) : Int))), (11, .si .i64 (((i : Nat) : Int)))], mkH [(0, .cells (cf (s)) false)])
theorem rp {s : List Nat} {m : Int} {g : Int} {i : Nat} {p n : Nat} {σ : AE} {H : AH} {l0 : List AV} (hp : p ≤ 0) (e0 : mk (aC (pa 0) σ) = .ss (s)) (e4 : mk (aC (pa 4) σ) = .si .i64 (m)) (e5 : mk (aC (pa 5) σ) = .si .i64 (g)) (e9 : mk (aC (pa 9) σ) = .sy 0 0 s.length s.length 1) (e10 : mk (aC (pa 10) σ) = .si .i64 (((s.length : Nat) : Int))) (e11 : mk (aC (pa 11) σ) = .si .i64 (((i : Nat) : Int))) (h0 : H.get 0 = some (.cells l0 false)) (g0 : l0.map mk = cf (s)) : Cov p σ H n ((nmt s m g i).1, (nmt s m g i).2, 1) := by
  refine Cov.ofR (fun b => b) (by omega) (fun b hb => rfl) ?_ ?_ ?_
  · intro x hx
    simp only [List.mem_cons, List.not_mem_nil, or_false] at hx
    rcases hx with rfl | rfl | rfl | rfl | rfl | rfl
    · exact .str e0
    · exact .int e4
    · exact .int e5
    · exact .sy (by decide) e9
    · exact .int e10
    · exact .int e11
  · intro x hx
    simp only [List.mem_cons, List.not_mem_nil, or_false] at hx
    subst hx
    exact ⟨by simp, .inl ⟨_, h0, cW.bZ (gH _) (by rw [g0, dh]) (fun q => q)⟩⟩
  · intro x hx y hy
    simp only [List.mem_cons, List.not_mem_nil, or_false] at hx hy
    subst hx hy
    exact fun q => rfl
noncomputable def KNm : FuncId → EP := aB 9 yJ evP
theorem BU : bu KNm := ai aQ yK
theorem drop_cons {s : List Nat} {i : Nat} (h : i < s.length) : s.drop i = s[i] :: s.drop (i + 1) := List.drop_eq_getElem_cons h
theorem BV (s : List Nat) (hs : ∀ c ∈ s, c < 256) (hl : s.length ≤ 1000000) : ao KNm 3 18 [.ss s] .nil 0 fun u _ _ => mkT u = mkT (.tup [.si .i64 (ak s).1, .si .i64 (ak s).2]) := by
  have key : ∀ {x y : Int}, ak s = (x, y) → mkT (.tup [.si .i64 x, .si .i64 y]) = mkT (.tup [.si .i64 (ak s).1, .si .i64 (ak s).2]) := fun e => by rw [e]
  conv => whnf
  refine Ask.mk (.sl 0 0 s.length s.length 1, _, 1) rfl ?_
  conv => whnf
  refine cV.mk { x : Nat × Int × Int // x.1 ≤ s.length ∧ fP x.2.1 ∧ pgo x.1 (s.drop x.1) x.2.1 x.2.2 = pgo 0 s 0 1 } 1 (fun x => nmt s x.val.2.1 x.val.2.2 x.val.1) (fun x => s.length - x.val.1) ⟨(0, 0, 1), Nat.zero_le _, (show fP 0 by unfold fP; omega), rfl⟩ ?_ ?_
  · exact rp (Nat.le_refl 0) rfl rfl rfl rfl rfl rfl rfl (by simp [cf, mk])
  · intro ⟨(i, m, g), hi, hm, hp⟩
    dsimp only at hi hm hp
    conv => whnf
    refine ah.dec (fun h => ?_) (fun h => ?_)
    · have hi2 : i < s.length := by exact Int.ofNat_lt.1 h
      have hc := hs _ (List.getElem_mem hi2)
      have hi1 : IntKind.i64.wrap ((i : Int) + 1) = ((i + 1 : Nat) : Int) := jc ⟨by omega, by omega⟩
      have hlt : s.length - (i + 1) < s.length - i := by omega
      rw [drop_cons hi2, pgo] at hp
      have hno : ¬ (48 ≤ s[i] ∧ s[i] ≤ 57) → pgo 0 s 0 1 = if i = 0 ∧ s[i] = 45 then pgo (i + 1) (s.drop (i + 1)) m (-1) else none := fun q => by rw [← hp, if_neg q]
      have hbad : ¬ (48 ≤ s[i] ∧ s[i] ≤ 57) → ¬ (i = 0 ∧ s[i] = 45) → mkT (.tup [.si .i64 0, .si .i64 16]) = mkT (.tup [.si .i64 (ak s).1, .si .i64 (ak s).2]) := fun q1 q2 => key (by unfold ak; rw [hno q1, if_neg q2])
      conv => whnf
      refine Idx.mk i rfl hi2 ?_
      conv => whnf
      refine aP (yH hi2 (show 0 + i * 1 = i by omega)) ?_
      conv => whnf
      refine ah.dec (fun h1 => ?_) (fun h1 => ?_)
      · have h1 : 48 ≤ s[i] := by exact Int.ofNat_le.1 h1
        conv => whnf
        refine ah.dec (fun h2 => ?_) (fun h2 => ?_)
        · have h2 : s[i] ≤ 57 := by exact Int.ofNat_le.1 h2
          have hp2 : pgo (i + 1) (s.drop (i + 1)) (W64 (W64 (10 * m) + W64 (g * ((s[i] : Int) - 48)))) g = pgo 0 s 0 1 := by rw [← hp, if_pos ⟨h1, h2⟩]
          have hv : AV.si .i64 (IntKind.i64.wrap (IntKind.i64.wrap (10 * m) + IntKind.i64.wrap (g * IntKind.i64.wrap (IntKind.u8.wrap (Int.ofNat s[i] - 48))))) = .si .i64 (W64 (W64 (10 * m) + W64 (g * ((s[i] : Int) - 48)))) := by rw [Dd h1 h2]
          conv => whnf
          exact ⟨⟨(i + 1, W64 (W64 (10 * m) + W64 (g * ((s[i] : Int) - 48))), g), hi2, BK _, hp2⟩, hlt, rp (Nat.le_refl 0) rfl hv rfl rfl rfl (congrArg (AV.si .i64) hi1) rfl (dh s)⟩
        · have h2 : ¬ s[i] ≤ 57 := fun q => h2 (by exact Int.ofNat_le.2 q)
          have q1 : ¬ (48 ≤ s[i] ∧ s[i] ≤ 57) := fun q => h2 q.2
          have q2 : ¬ (i = 0 ∧ s[i] = 45) := fun q => by omega
          have hbad := hbad q1 q2
          conv => whnf
          refine ah.dec (fun h0 => ?_) (fun h0 => ?_)
          · conv => whnf
            refine ah.dec (fun h45 => absurd (show s[i] = 45 by exact Int.ofNat_inj.1 h45) (by omega)) (fun h45 => ?_)
            conv => whnf
            exact hbad
          · conv => whnf
            exact hbad
      · have h1 : ¬ 48 ≤ s[i] := fun q => h1 (by exact Int.ofNat_le.2 q)
        have q1 : ¬ (48 ≤ s[i] ∧ s[i] ≤ 57) := fun q => h1 q.1
        conv => whnf
        refine ah.dec (fun h0 => ?_) (fun h0 => ?_)
        · have h0 : i = 0 := by exact Int.ofNat_inj.1 h0
          conv => whnf
          refine ah.dec (fun h45 => ?_) (fun h45 => ?_)
          · have h45 : s[i] = 45 := by exact Int.ofNat_inj.1 h45
            have hp2 : pgo (i + 1) (s.drop (i + 1)) m (-1) = pgo 0 s 0 1 := by rw [hno q1, if_pos ⟨h0, h45⟩]
            conv => whnf
            exact ⟨⟨(i + 1, m, -1), hi2, hm, hp2⟩, hlt, rp (Nat.le_refl 0) rfl rfl rfl rfl rfl (congrArg (AV.si .i64) hi1) rfl (dh s)⟩
          · have hbad := hbad q1 (fun q => h45 (by exact Int.ofNat_inj.2 q.2))
            conv => whnf
            exact hbad
        · have hbad := hbad q1 (fun q => h0 (by exact Int.ofNat_inj.2 q.1))
          conv => whnf
          exact hbad
    · have hi3 : i = s.length := by have : ¬ i < s.length := fun q => h (Int.ofNat_lt.2 q); omega
      have hp2 : pgo 0 s 0 1 = some m := by rw [← hp, hi3, List.drop_length]; rfl
      conv => whnf
      refine ⟨m, rfl, hm, ?_⟩
      conv => whnf
      refine ah.nsb (fun he => ?_) (fun he => ?_)
      · have e := key (x := 0) (y := 16) (by unfold ak; rw [hp2]; dsimp only; rw [if_neg (fun q => by rw [bp.2 q] at he; cases he)])
        conv => whnf
        exact e
      · have e := key (x := m) (y := 0) (by unfold ak; rw [hp2]; dsimp only; rw [if_pos (bp.1 he)])
        conv => whnf
        exact e
def vl (args : List AV) (H : AH) (n : Nat) (κ : PK) : Prop := match args with
  | [x] => ∃ s, mk x = .ss s ∧ (∀ c ∈ s, c < 256) ∧ s.length ≤ 1000000 ∧ κ (.tup [.si .i64 (ak s).1, .si .i64 (ak s).2]) H n
  | _ => False
theorem s5 : aA 18 vl := fun args H n κ hs φ h0' hp vs K hr hargs hk => by
  unfold vl at hs
  split at hs
  · obtain ⟨x, rfl, e1⟩ := vs1 hargs
    obtain ⟨s, hx, h1, h2, hs⟩ := hs
    exact kl BU (v := .tup [.si .i64 (ak s).1, .si .i64 (ak s).2]) rfl (BV s h1 h2) hs hr hk (by kernel_rfl) HR.ro0 (.cons (df rfl (hx ▸ e1.mk)) .nil)
  · exact hs.elim
end Go.Proofs.Ytckcicalbjmgbaa
namespace Go.Proofs.Ytckcicalbjmgbaa
open Go Go.RowKit
def aq (L : List (List Nat)) : List AV := L.map AV.ss
theorem gf (L : List (List Nat)) : (aq L).length = L.length := by simp [aq]
theorem bL (L : List (List Nat)) : (aq L).all flat.flat1 = true := by
  induction L with
  | nil => rfl
  | cons x L ih => exact ih
theorem an (L : List (List Nat)) : (aq L).map mk = aq L := by simp [aq, mk]
theorem pQ (L : List (List Nat)) (x : List Nat) : aq L ++ [.ss x] = aq (L ++ [x]) := by simp [aq]
def aS (L : List (List Nat × List Nat)) : List AV := L.flatMap fun x => [.ss x.1, .ss x.2]
theorem mA (L : List (List Nat × List Nat)) : (aS L).length = L.length * 2 := by
  induction L with
  | nil => rfl
  | cons x L ih => simp only [aS, List.flatMap_cons, List.length_append, List.length_cons, List.length_nil] at ih ⊢; omega
theorem dJ (L : List (List Nat × List Nat)) : (aS L).all flat.flat1 = true := by
  induction L with
  | nil => rfl
  | cons x L ih => exact ih
theorem aO (L : List (List Nat × List Nat)) : (aS L).map mk = aS L := by
  induction L with
  | nil => rfl
  | cons x L ih =>
    simp only [aS, List.flatMap_cons, List.map_append] at ih ⊢
    rw [ih]; rfl
theorem wO (L : List (List Nat × List Nat)) (x : List Nat × List Nat) : aS L ++ [.ss x.1, .ss x.2] = aS (L ++ [x]) := by simp [aS]
structure Rd where
  ws : List (List Nat)
  e : Int
  nm : Int
  ks : List (List Nat)
  ts : List Int
  vs : List Int
  ret : Int
  siz : Int
  pol : Int
  ls : List (List Nat × List Nat)
  lbd : Bool
  fr : Int
  to : Int
  kd : Int
  bk : Int
  al : Int
  q : Qry
  fs : List (List Nat)
  gr : List Nat
  rd : Int
def cmC (k t v l q f : AV) (R : Rd) : List AV := [.si .i64 R.nm, k, t, v, .si .i64 R.ret, .si .i64 R.siz, .si .i64 R.pol, l, .sb R.lbd, .si .i64 R.fr, .si .i64 R.to, .si .i64 R.kd, .si .i64 R.bk, .si .i64 R.al,
  .si .i64 R.q.f, .si .i64 R.q.t, .sb R.q.back, .si .i64 R.q.count, .si .i64 R.q.kind, .si .i64 R.q.size, .si .i64 R.q.align, .sb R.q.empty, q, .sb R.q.kY, .si .i64 R.q.low, .si .i64 R.q.high, f, .ss R.gr, .si .i64 R.rd]
def rdC (k t v l q f : Nat) (R : Rd) : List AV := .fr R.ws.length 1 (aq R.ws) :: .si .i64 R.e :: cmC (.rw k 0 R.ks.length 1 0) (.rw t 0 R.ts.length 1 0) (.rw v 0 R.vs.length 1 0) (.rw l 0 R.ls.length 2 0) (.rw q 0 R.q.times.length 1 0) (.rw f 0 R.fs.length 1 0) R
def rdO (R : Rd) : List AO := [.cells (rdC 1 2 3 4 5 6 R) true, .cells (aq R.ks) true, .cells (ints R.ts) true, .cells (ints R.vs) true, .cells (aS R.ls) true, .cells (ints R.q.times) true, .cells (aq R.fs) true]
structure ux (H : AH) (n r k t v l q f : Nat) (R : Rd) : Prop where
  nd : [r, k, t, v, l, q, f].Nodup
  lt : r < n ∧ k < n ∧ t < n ∧ v < n ∧ l < n ∧ q < n ∧ f < n
  hr : H.get r = some (.cells (rdC k t v l q f R) true)
  hk : H.get k = some (.cells (aq R.ks) true)
  ht : H.get t = some (.cells (ints R.ts) true)
  hv : H.get v = some (.cells (ints R.vs) true)
  hl : H.get l = some (.cells (aS R.ls) true)
  hq : H.get q = some (.cells (ints R.q.times) true)
  hf : H.get f = some (.cells (aq R.fs) true)
theorem vm {r k t v l q f n : Nat} (R : Rd) : en (bw [r, k, t, v, l, q, f] n) (rdC 1 2 3 4 5 6 R) = rdC k t v l q f R := rfl
theorem ux.Bg {H : AH} {n r k t v l q f : Nat} {R : Rd} (h : ux H n r k t v l q f R) : iy H n [r, k, t, v, l, q, f] (rdO R) :=
  ⟨h.nd, rfl, fun i s o h1 h2 => by
    obtain ⟨l0, l1, l2, l3, l4, l5, l6⟩ := h.lt
    match i, h1, h2 with
    | 0, h1, h2 => injection h1 with h1; injection h2 with h2; subst h1 h2; exact ⟨l0, by rw [eK, vm]; exact h.hr, .inr rfl⟩
    | 1, h1, h2 => injection h1 with h1; injection h2 with h2; subst h1 h2; exact ⟨l1, by rw [eK, cp _ _ (bL _)]; exact h.hk, .inr rfl⟩
    | 2, h1, h2 => injection h1 with h1; injection h2 with h2; subst h1 h2; exact ⟨l2, by rw [eK, cp _ _ (aT _)]; exact h.ht, .inr rfl⟩
    | 3, h1, h2 => injection h1 with h1; injection h2 with h2; subst h1 h2; exact ⟨l3, by rw [eK, cp _ _ (aT _)]; exact h.hv, .inr rfl⟩
    | 4, h1, h2 => injection h1 with h1; injection h2 with h2; subst h1 h2; exact ⟨l4, by rw [eK, cp _ _ (dJ _)]; exact h.hl, .inr rfl⟩
    | 5, h1, h2 => injection h1 with h1; injection h2 with h2; subst h1 h2; exact ⟨l5, by rw [eK, cp _ _ (aT _)]; exact h.hq, .inr rfl⟩
    | 6, h1, h2 => injection h1 with h1; injection h2 with h2; subst h1 h2; exact ⟨l6, by rw [eK, cp _ _ (bL _)]; exact h.hf, .inr rfl⟩⟩
theorem bX.vn {H : AH} {n b : Nat} {l : List AV} {z : Bool} (hb : H.get b = some (.cells l z)) : bX H n (H.set (some (.cells (l.map Go.Proofs.Ytckcicalbjmgbaa.mk) z)) ab b) n := fun φ h0 h hr => hr.yz hb (by simp) fun i a' hi => by
  rw [List.getElem?_map, Option.map_eq_some_iff] at hi
  obtain ⟨a, h1, rfl⟩ := hi
  exact ⟨a, h1, fun v hv => hv.mk⟩
def RdK (v : AV) (R : Rd) : PK := fun u H' _ => u = v ∧ PM.get H' 0 = some (.cells (rdC 1 2 3 4 5 6 R) true) ∧ PM.get H' 1 = some (.cells (aq R.ks) true) ∧ PM.get H' 2 = some (.cells (ints R.ts) true) ∧ PM.get H' 3 = some (.cells (ints R.vs) true) ∧ PM.get H' 4 = some (.cells (aS R.ls) true) ∧ PM.get H' 5 = some (.cells (ints R.q.times) true) ∧ PM.get H' 6 = some (.cells (aq R.fs) true)
theorem PM.yL {α : Type} {v : α} {t : PM α} : (PM.set (some v) ab t 0).get 0 = some v := by cases t <;> rfl
theorem eO {u v : AV} {H' : AH} {n' : Nat} {R : Rd} {l : List AV} (hv : VTo u v) (h0 : PM.get H' 0 = some (.cells l true)) (hm : l.map mk = rdC 1 2 3 4 5 6 R) (r1 : PM.get H' 1 = some (.cells (aq R.ks) true)) (r2 : PM.get H' 2 = some (.cells (ints R.ts) true)) (r3 : PM.get H' 3 = some (.cells (ints R.vs) true)) (r4 : PM.get H' 4 = some (.cells (aS R.ls) true)) (r5 : PM.get H' 5 = some (.cells (ints R.q.times) true)) (r6 : PM.get H' 6 = some (.cells (aq R.fs) true)) : ∃ v2 H2 n2, VTo u v2 ∧ bX H' n' H2 n2 ∧ RdK v R v2 H2 n2 :=
  ⟨v, _, n', hv, bX.vn h0, rfl, by rw [hm]; exact PM.yL, PM.aw _ _ _ _ (by decide) (by decide) r1, PM.aw _ _ _ _ (by decide) (by decide) r2, PM.aw _ _ _ _ (by decide) (by decide) r3, PM.aw _ _ _ _ (by decide) (by decide) r4, PM.aw _ _ _ _ (by decide) (by decide) r5, PM.aw _ _ _ _ (by decide) (by decide) r6⟩
noncomputable def uy (H : AH) (r k t v l q f : Nat) (R' : Rd) : AH := PM.set (some (.cells (rdC k t v l q f R') true)) ab (PM.set (some (.cells (aq R'.ks) true)) ab (PM.set (some (.cells (ints R'.ts) true)) ab (PM.set (some (.cells (ints R'.vs) true)) ab (PM.set (some (.cells (aS R'.ls) true)) ab (PM.set (some (.cells (ints R'.q.times) true)) ab (PM.set (some (.cells (aq R'.fs) true)) ab H f) q) l) v) t) k) r
def bo (ok : Rd → Prop) (A : List AV → Prop) (F : Rd → AV × Rd) (args : List AV) (H : AH) (n : Nat) (κ : PK) : Prop := match args with
  | x :: ar => ∃ (r k t v l q f : Nat) (R : Rd), x = .ptr r 0 ∧ A ar ∧ ux H n r k t v l q f R ∧ ok R ∧ κ (F R).1 (uy H r k t v l q f (F R).2) n
  | _ => False
theorem c6 {f : FuncId} {run : List AV → AH → Nat → PK → Prop} (hrun : aA f run) (hic : dT Try.prog f = true) {ok : Rd → Prop} {A : List AV → Prop} {ar0 : List AV} {F : Rd → AV × Rd} (hA : ∀ ar, A ar → ∀ (φ : Ph) (vs : List Value), VRs φ ar vs → VRs φ ar0 vs) (has : ∀ r, en r ar0 = ar0)
    (hv : ∀ R, ltV 7 (F R).1 = true ∧ ∀ r, ren r (F R).1 = (F R).1) (h : ∀ R, ok R → post run (.ptr 0 0 :: ar0) (mkH (c9 (rdO R) 0)) 7 (RdK (F R).1 (F R).2)) : aA f (bo ok A F) := fun args H n κ hs φ h0' hp vs K hr hargs hk => by
  unfold bo at hs
  split at hs
  · rename_i x ar
    obtain ⟨r, k, t, v, l, q, f, R, rfl, ha, hR, hok, hs⟩ := hs
    obtain ⟨v1, us, e1, e2, e3⟩ := hargs.cons_inv
    have hargs' : VRs φ (en (bw [r, k, t, v, l, q, f] n) (.ptr 0 0 :: ar0)) vs.toList := by
      show VRs φ (ren _ _ :: en _ ar0) vs.toList
      rw [has, e1]
      exact .cons e2 (hA ar ha φ us e3)
    refine rm (S := [r, k, t, v, l, q, f]) (O := rdO R) (args0 := .ptr 0 0 :: ar0) (aA.post hrun) hic hr hR.Bg hargs' hk (h R hok) fun u H' n' ⟨g0, g1, g2, g3, g4, g5, g6, g7⟩ => ?_
    subst g0
    refine ⟨7, lV [r, k, t, v, l, q, f] n H [(0, some (.cells (rdC 1 2 3 4 5 6 (F R).2) true)), (1, some (.cells (aq (F R).2.ks) true)), (2, some (.cells (ints (F R).2.ts) true)), (3, some (.cells (ints (F R).2.vs) true)), (4, some (.cells (aS (F R).2.ls) true)), (5, some (.cells (ints (F R).2.q.times) true)), (6, some (.cells (aq (F R).2.fs) true))], Nat.le_refl _, jJ.put (Nat.le_refl _) rfl (fun x hx o ho => ?_), (hv R).1, ?_⟩
    · simp only [List.mem_cons, List.not_mem_nil, or_false] at hx
      rcases hx with rfl | rfl | rfl | rfl | rfl | rfl | rfl
      · injection ho with ho; subst ho; exact ⟨g1, rfl, rfl⟩
      · injection ho with ho; subst ho; exact ⟨g2, rfl, cK _ _ (bL _)⟩
      · injection ho with ho; subst ho; exact ⟨g3, rfl, cK _ _ (aT _)⟩
      · injection ho with ho; subst ho; exact ⟨g4, rfl, cK _ _ (aT _)⟩
      · injection ho with ho; subst ho; exact ⟨g5, rfl, cK _ _ (dJ _)⟩
      · injection ho with ho; subst ho; exact ⟨g6, rfl, cK _ _ (aT _)⟩
      · injection ho with ho; subst ho; exact ⟨g7, rfl, cK _ _ (bL _)⟩
    · rw [(hv R).2]
      have e : lV [r, k, t, v, l, q, f] n H [(0, some (.cells (rdC 1 2 3 4 5 6 (F R).2) true)), (1, some (.cells (aq (F R).2.ks) true)), (2, some (.cells (ints (F R).2.ts) true)), (3, some (.cells (ints (F R).2.vs) true)), (4, some (.cells (aS (F R).2.ls) true)), (5, some (.cells (ints (F R).2.q.times) true)), (6, some (.cells (aq (F R).2.fs) true))] = uy H r k t v l q f (F R).2 := by
        simp only [lV, Option.map_some, eK, vm, cp _ _ (bL _), cp _ _ (aT _), cp _ _ (dJ _)]
        rfl
      rw [e]; exact hs
  · exact hs.elim
end Go.Proofs.Ytckcicalbjmgbaa
namespace Go.Proofs.Ytckcicalbjmgbaa
open Go Go.RowKit
def loC (c : Nat) : Nat := if 65 ≤ c ∧ c ≤ 90 then c + 32 else c
def loF (s : List Nat) : List Nat := s.map loC
def fR (s : List Nat) (i : Nat) : List Nat := (s.take i).map loC ++ s.drop i
theorem ji (s : List Nat) (i : Nat) : (fR s i).length = s.length := by simp [fR]; omega
theorem vo {s : List Nat} {i : Nat} (h : i < s.length) : (fR s i)[i]? = some s[i] := by
  unfold fR
  rw [List.getElem?_append_right (by simp; omega), List.getElem?_drop]
  simp [Nat.min_eq_left (Nat.le_of_lt h), h]
theorem pR {s : List Nat} {i : Nat} (h : i < s.length) : fR s (i + 1) = (fR s i).set i (loC s[i]) := by
  unfold fR
  rw [List.take_succ_eq_append_getElem h, List.map_append, List.set_append, if_neg (by simp; omega)]
  have hd := List.drop_eq_getElem_cons h
  have hz : i - (List.map loC (List.take i s)).length = 0 := by simp; omega
  rw [hz, hd, List.append_assoc]; rfl
theorem wP {s : List Nat} {i : Nat} (h : i < s.length) (e : loC s[i] = s[i]) : fR s (i + 1) = fR s i := by
  rw [pR h, e]
  apply List.ext_getElem?
  intro j
  by_cases hj : j = i
  · subst hj; rw [vo h]; simp [ji, h]
  · rw [List.getElem?_set_ne (Ne.symm hj)]
theorem yM (s : List Nat) : fR s s.length = loF s := by simp [fR, loF]
theorem BW {s : List Nat} (h : ∀ c ∈ s, c < 256) : ∀ c ∈ loF s, c < 256 := fun c hc => by
  obtain ⟨a, ha, rfl⟩ := List.mem_map.1 hc
  have := h a ha
  unfold loC
  split <;> omega
noncomputable def lob (s : List Nat) (i : Nat) : AE × AH := (mkE [(3, .sy 0 0 s.length s.length 1), (8, .sy 0 0 s.length s.length 1), (9, .si .i64 (((s.length : Nat) : Int))), (10, .si .i64 (((i : Nat) : Int)))], mkH [(0, .cells (cf (fR s i)) false)])
theorem mY {s : List Nat} {i : Nat} {p n : Nat} {σ : AE} {H : AH} {l0 : List AV} (hp : p ≤ 0) (e3 : mk (aC (pa 3) σ) = .sy 0 0 s.length s.length 1) (e8 : mk (aC (pa 8) σ) = .sy 0 0 s.length s.length 1) (e9 : mk (aC (pa 9) σ) = .si .i64 (((s.length : Nat) : Int))) (e10 : mk (aC (pa 10) σ) = .si .i64 (((i : Nat) : Int))) (h0 : H.get 0 = some (.cells l0 false)) (g0 : l0.map mk = cf (fR s i)) : Cov p σ H n ((lob s i).1, (lob s i).2, 1) := by
  refine Cov.ofR (fun b => b) (by omega) (fun b hb => rfl) ?_ ?_ ?_
  · intro x hx
    simp only [List.mem_cons, List.not_mem_nil, or_false] at hx
    rcases hx with rfl | rfl | rfl | rfl
    · exact .sy (by decide) e3
    · exact .sy (by decide) e8
    · exact .int e9
    · exact .int e10
  · intro x hx
    simp only [List.mem_cons, List.not_mem_nil, or_false] at hx
    subst hx
    exact ⟨by simp, .inl ⟨_, h0, cW.bZ (gH _) (by rw [g0, dh]) (fun q => q)⟩⟩
  · intro x hx y hy
    simp only [List.mem_cons, List.not_mem_nil, or_false] at hx hy
    subst hx hy
    exact fun q => rfl
noncomputable def KLo : FuncId → EP := cw 78 [] evP
theorem BX : bu KLo := aF aQ (by kernel_rfl) (by kernel_rfl)
theorem BY (s : List Nat) (hs : ∀ c ∈ s, c < 256) (hl : s.length ≤ 1000000) : ao KLo 3 78 [.ss s] .nil 0 fun u _ _ => mkT u = mkT (.ss (loF s)) := by
  conv => whnf
  refine Ask.mk (.sl 0 0 s.length s.length 1, _, 1) rfl ?_
  conv => whnf
  refine cV.mk { i : Nat // i ≤ s.length } 1 (fun i => lob s i.val) (fun i => s.length - i.val) ⟨0, Nat.zero_le _⟩ ?_ ?_
  · exact mY (Nat.le_refl 0) rfl rfl rfl rfl rfl (by simp [fR, cf, mk])
  · intro ⟨i, hi⟩
    have hsub : aV (cf (fR s i)) 0 (s.length * 1) = some (cf (fR s i)) := dg (by rw [cm, ji, Nat.mul_one])
    conv => whnf
    refine ah.dec (fun h => ?_) (fun h => ?_)
    · have hi2 : i < s.length := by exact Int.ofNat_lt.1 h
      have hc := hs _ (List.getElem_mem hi2)
      have hi1 : IntKind.i64.wrap ((i : Int) + 1) = ((i + 1 : Nat) : Int) := jc ⟨by omega, by omega⟩
      have hnth : nth (cf (fR s i)) (0 + i * 1) = some (.si .u8 (Int.ofNat s[i])) := by
        rw [dV, Nat.zero_add, Nat.mul_one]
        simp only [cf, List.getElem?_map, vo hi2]; rfl
      have hset : 65 ≤ s[i] → s[i] ≤ 90 → fg (cf (fR s i)) (0 + i * 1) [.si .u8 (IntKind.u8.wrap (Int.ofNat s[i] + 32))] = some (cf (fR s (i + 1))) := fun h1 h2 => by
        rw [Nat.zero_add, Nat.mul_one, om _ _ _ (by rw [cm, ji]; exact hi2)]
        have e : IntKind.u8.wrap (Int.ofNat s[i] + 32) = Int.ofNat (loC s[i]) := by
          unfold loC; rw [if_pos ⟨h1, h2⟩]
          simp [IntKind.wrap, IntKind.bits, IntKind.signed]
          omega
        rw [e, sU, ← pR hi2]
      have hsame : ¬ (65 ≤ s[i] ∧ s[i] ≤ 90) → (cf (fR s i)).map mk = cf (fR s (i + 1)) := fun q => by
        rw [wP hi2 (by unfold loC; rw [if_neg q]), dh]
      conv => whnf
      refine Idx.mk i rfl hi2 ?_
      conv => whnf
      refine aP hnth ?_
      conv => whnf
      refine ah.dec (fun h1 => ?_) (fun h1 => ?_)
      · have h1 : 65 ≤ s[i] := by exact Int.ofNat_le.1 h1
        conv => whnf
        refine ah.dec (fun h2 => ?_) (fun h2 => ?_)
        · have h2 : s[i] ≤ 90 := by exact Int.ofNat_le.1 h2
          conv => whnf
          refine Idx.mk i rfl hi2 ?_
          conv => whnf
          refine aP (hset h1 h2) ?_
          conv => whnf
          exact ⟨⟨i + 1, hi2⟩, (show s.length - (i + 1) < s.length - i by omega), mY (Nat.le_refl 0) rfl rfl rfl (congrArg (AV.si .i64) hi1) rfl (dh _)⟩
        · have h2 : ¬ s[i] ≤ 90 := fun q => h2 (by exact Int.ofNat_le.2 q)
          conv => whnf
          exact ⟨⟨i + 1, hi2⟩, (show s.length - (i + 1) < s.length - i by omega), mY (Nat.le_refl 0) rfl rfl rfl (congrArg (AV.si .i64) hi1) rfl (hsame fun q => h2 q.2)⟩
      · have h1 : ¬ 65 ≤ s[i] := fun q => h1 (by exact Int.ofNat_le.2 q)
        conv => whnf
        exact ⟨⟨i + 1, hi2⟩, (show s.length - (i + 1) < s.length - i by omega), mY (Nat.le_refl 0) rfl rfl rfl (congrArg (AV.si .i64) hi1) rfl (hsame fun q => h1 q.1)⟩
    · have hi3 : i = s.length := by have : ¬ i < s.length := fun q => h (Int.ofNat_lt.2 q); omega
      have hconv : (aV (cf (fR s i)) 0 s.length).bind eG = some (loF s) := by
        rw [hi3, yM, dg (by rw [cm]; simp [loF])]
        exact jf (BW hs)
      conv => whnf
      refine Ask.mk (.str (loF s), _, _) (congrArg (Option.map fun s => (AV.str s, _, _)) hconv) ?_
      conv => whnf
      rfl
def yN (args : List AV) (H : AH) (n : Nat) (κ : PK) : Prop := match args with
  | [x] => ∃ s, mk x = .ss s ∧ (∀ c ∈ s, c < 256) ∧ s.length ≤ 1000000 ∧ κ (.ss (loF s)) H n
  | _ => False
theorem Ad : aA 78 yN := fun args H n κ hs φ h0' hp vs K hr hargs hk => by
  unfold yN at hs
  split at hs
  · obtain ⟨x, rfl, e1⟩ := vs1 hargs
    obtain ⟨s, hx, h1, h2, hs⟩ := hs
    exact kl BX (v := .ss (loF s)) rfl (BY s h1 h2) hs hr hk (by kernel_rfl) HR.ro0 (.cons (df rfl (hx ▸ e1.mk)) .nil)
  · exact hs.elim
noncomputable def alk (s : List Nat) (m : List Nat) (i : Nat) : AE × AH := (mkE [(0, .ss (s)), (1, .ss (m)), (13, .si .i64 (((s.length : Nat) : Int))), (14, .si .i64 (((i : Nat) : Int)))], mkH [])
theorem mZ {s : List Nat} {m : List Nat} {i : Nat} {p n : Nat} {σ : AE} {H : AH} (hp : p ≤ 0) (e0 : mk (aC (pa 0) σ) = .ss (s)) (e1 : mk (aC (pa 1) σ) = .ss (m)) (e13 : mk (aC (pa 13) σ) = .si .i64 (((s.length : Nat) : Int))) (e14 : mk (aC (pa 14) σ) = .si .i64 (((i : Nat) : Int))) : Cov p σ H n ((alk s m i).1, (alk s m i).2, 0) := by
  refine Cov.ofR (fun b => b) (by omega) (fun b hb => rfl) ?_ ?_ ?_
  · intro x hx
    simp only [List.mem_cons, List.not_mem_nil, or_false] at hx
    rcases hx with rfl | rfl | rfl | rfl
    · exact .str e0
    · exact .str e1
    · exact .int e13
    · exact .int e14
  · intro x hx
    cases hx
  · intro x hx y hy
    cases hx
noncomputable def KAk : FuncId → EP := cw 76 [] evP
theorem BZ : bu KAk := aF aQ (by kernel_rfl) (by kernel_rfl)
theorem rq {s : List Nat} {i : Nat} (h : i < s.length) : nth s i = some s[i] := by rw [dV, List.getElem?_eq_getElem h]
theorem Ae (s m : List Nat) (hs : ∀ c ∈ s, c < 256) (hl : s.length ≤ 1000000) : ao KAk 3 76 [.ss s, .ss m] .nil 0 fun u _ _ => mkT u = mkT (.sb (aN m (upF s))) := by
  have no : m ≠ upF s → mkT (AV.sb false) = mkT (.sb (aN m (upF s))) := fun h => by
    cases q : aN m (upF s) with
    | false => rfl
    | true => exact absurd (bp.1 q) h
  conv => whnf
  refine ah.fO (fun hne => ?_) (fun heq => ?_)
  · have e := no (fun q => hne (by rw [q]; simp [upF]))
    conv => whnf
    exact e
  · have hlen : s.length = m.length := by exact Int.ofNat_inj.1 heq
    conv => whnf
    refine cV.mk { i : Nat // i ≤ s.length ∧ (upF s).take i = m.take i } 0 (fun i => alk s m i.val) (fun i => s.length - i.val) ⟨0, Nat.zero_le _, rfl⟩ ?_ ?_
    · exact mZ (i := 0) (Nat.le_refl 0) rfl rfl rfl rfl
    · intro ⟨i, hi, ht⟩
      conv => whnf
      refine ah.dec (fun h => ?_) (fun h => ?_)
      · have hi2 : i < s.length := by exact Int.ofNat_lt.1 h
        have hi3 : i < m.length := hlen ▸ hi2
        have hc := hs _ (List.getElem_mem hi2)
        have hi1 : IntKind.i64.wrap ((i : Int) + 1) = ((i + 1 : Nat) : Int) := jc ⟨by omega, by omega⟩
        have hlt : s.length - (i + 1) < s.length - i := by omega
        have hui : i < (upF s).length := by simp [upF]; exact hi2
        have hu : (upF s)[i] = upC s[i] := by simp [upF]
        have hsn : upC s[i] = m[i] → (upF s).take (i + 1) = m.take (i + 1) := fun q => by
          rw [List.take_succ_eq_append_getElem hui, List.take_succ_eq_append_getElem hi3, ht, hu, q]
        have hbad : upC s[i] ≠ m[i] → mkT (AV.sb false) = mkT (.sb (aN m (upF s))) := fun q => no (fun e => q (by simp only [e, hu]))
        have hup : 97 ≤ s[i] → s[i] ≤ 122 → IntKind.u8.wrap (Int.ofNat s[i] - 32) = Int.ofNat (upC s[i]) := fun h1 h2 => by
          unfold upC; rw [if_pos ⟨h1, h2⟩]
          simp [IntKind.wrap, IntKind.bits, IntKind.signed]
          omega
        have hno : ¬ (97 ≤ s[i] ∧ s[i] ≤ 122) → upC s[i] = s[i] := fun q => by unfold upC; rw [if_neg q]
        conv => whnf
        refine Idx.mk i rfl hi2 ?_
        conv => whnf
        refine Ask.mk s[i] (rq hi2) ?_
        conv => whnf
        refine ah.dec (fun h1 => ?_) (fun h1 => ?_)
        · have h1 : 97 ≤ s[i] := by exact Int.ofNat_le.1 h1
          conv => whnf
          refine ah.dec (fun h2 => ?_) (fun h2 => ?_)
          · have h2 : s[i] ≤ 122 := by exact Int.ofNat_le.1 h2
            have hup := hup h1 h2
            conv => whnf
            refine Idx.mk i rfl hi3 ?_
            conv => whnf
            refine Ask.mk m[i] (rq hi3) ?_
            conv => whnf
            refine ah.fO (fun q => ?_) (fun q => ?_)
            · have e := hbad (fun k => q (by rw [hup, k]))
              conv => whnf
              exact e
            · have e := hsn (Int.ofNat_inj.1 (hup.symm.trans q))
              conv => whnf
              exact ⟨⟨i + 1, hi2, e⟩, hlt, mZ (Nat.le_refl 0) rfl rfl rfl (congrArg (AV.si .i64) hi1)⟩
          · have h2 : ¬ s[i] ≤ 122 := fun q => h2 (by exact Int.ofNat_le.2 q)
            have hno := hno (fun q => h2 q.2)
            conv => whnf
            refine Idx.mk i rfl hi3 ?_
            conv => whnf
            refine Ask.mk m[i] (rq hi3) ?_
            conv => whnf
            refine ah.fO (fun q => ?_) (fun q => ?_)
            · have e := hbad (fun k => q (by rw [← hno, k]))
              conv => whnf
              exact e
            · have e := hsn (by rw [hno]; exact Int.ofNat_inj.1 q)
              conv => whnf
              exact ⟨⟨i + 1, hi2, e⟩, hlt, mZ (Nat.le_refl 0) rfl rfl rfl (congrArg (AV.si .i64) hi1)⟩
        · have h1 : ¬ 97 ≤ s[i] := fun q => h1 (by exact Int.ofNat_le.2 q)
          have hno := hno (fun q => h1 q.1)
          conv => whnf
          refine Idx.mk i rfl hi3 ?_
          conv => whnf
          refine Ask.mk m[i] (rq hi3) ?_
          conv => whnf
          refine ah.fO (fun q => ?_) (fun q => ?_)
          · have e := hbad (fun k => q (by rw [← hno, k]))
            conv => whnf
            exact e
          · have e := hsn (by rw [hno]; exact Int.ofNat_inj.1 q)
            conv => whnf
            exact ⟨⟨i + 1, hi2, e⟩, hlt, mZ (Nat.le_refl 0) rfl rfl rfl (congrArg (AV.si .i64) hi1)⟩
      · have hi3 : i = s.length := by have : ¬ i < s.length := fun q => h (Int.ofNat_lt.2 q); omega
        have e : mkT (AV.sb true) = mkT (.sb (aN m (upF s))) := by
          have : m = upF s := by
            rw [hi3, hlen, List.take_length, List.take_of_length_le (by simp [upF]; omega)] at ht
            exact ht.symm
          rw [bp.2 this]
        conv => whnf
        exact e
def yO (args : List AV) (H : AH) (n : Nat) (κ : PK) : Prop := match args with
  | [x, y] => ∃ s m, mk x = .ss s ∧ mk y = .ss m ∧ (∀ c ∈ s, c < 256) ∧ s.length ≤ 1000000 ∧ κ (.sb (aN m (upF s))) H n
  | _ => False
theorem Af : aA 76 yO := fun args H n κ hs φ h0' hp vs K hr hargs hk => by
  unfold yO at hs
  split at hs
  · obtain ⟨x, y, rfl, e1, e2⟩ := vs2 hargs
    obtain ⟨s, m, hx, hy, h1, h2, hs⟩ := hs
    exact kl BZ (v := .sb (aN m (upF s))) rfl (Ae s m h1 h2) hs hr hk (by kernel_rfl) HR.ro0 (.cons (df rfl (hx ▸ e1.mk)) (.cons (df rfl (hy ▸ e2.mk)) .nil))
  · exact hs.elim
def jD : List (Nat × List Nat) := [(1, [66, 76, 79, 67, 75]), (2, [70, 73, 82, 83, 84]), (3, [76, 65, 83, 84]), (4, [77, 73, 78]), (5, [77, 65, 88]), (6, [83, 85, 77])]
def iA : List (Nat × List Nat) := [(1, [115, 117, 109]), (2, [109, 105, 110]), (3, [109, 97, 120]), (4, [99, 111, 117, 110, 116]), (5, [102, 105, 114, 115, 116]), (6, [108, 97, 115, 116]), (7, [114, 97, 110, 103, 101])]
noncomputable def cL (s : List Nat) : Int × Int := if whF jD (upF s) = 0 then (0, 17) else ((whF jD (upF s) : Nat), 0)
noncomputable def cg (s : List Nat) : Int × Int := if whF iA (loF s) = 0 then (0, 17) else ((whF iA (loF s) : Nat), 0)
noncomputable def KPp : FuncId → EP := aB 76 yO evP
theorem B0 : bu KPp := ai aQ Af
theorem yP (s : List Nat) (hs : ∀ c ∈ s, c < 256) (hl : s.length ≤ 1000000) : ao KPp 4 65 [.ss s] .nil 0 fun u _ _ => mkT u = mkT (.tup [.si .i64 (cL s).1, .si .i64 (cL s).2]) := by
  have key : ∀ {x y : Int}, cL s = (x, y) → mkT (.tup [.si .i64 x, .si .i64 y]) = mkT (.tup [.si .i64 (cL s).1, .si .i64 (cL s).2]) := fun e => by rw [e]
  conv => whnf
  refine cV.roll 8 ?_
  conv => whnf
  refine ⟨s, [66, 76, 79, 67, 75], rfl, rfl, hs, hl, ?_⟩
  conv => whnf
  refine ah.sb (fun q1 => ?_) (fun q1 => ?_)
  · have q1 : aN [66, 76, 79, 67, 75] (upF s) = true := q1
    have w : whF jD (upF s) = 1 := by simp only [jD, whF, q1]
    have e := key (x := 1) (y := 0) (by unfold cL; rw [w]; rfl)
    conv => whnf
    exact e
  have q1 : aN [66, 76, 79, 67, 75] (upF s) = false := q1
  conv => whnf
  refine ⟨s, [70, 73, 82, 83, 84], rfl, rfl, hs, hl, ?_⟩
  conv => whnf
  refine ah.sb (fun q2 => ?_) (fun q2 => ?_)
  · have q2 : aN [70, 73, 82, 83, 84] (upF s) = true := q2
    have w : whF jD (upF s) = 2 := by simp only [jD, whF, q1, q2]
    have e := key (x := 2) (y := 0) (by unfold cL; rw [w]; rfl)
    conv => whnf
    exact e
  have q2 : aN [70, 73, 82, 83, 84] (upF s) = false := q2
  conv => whnf
  refine ⟨s, [76, 65, 83, 84], rfl, rfl, hs, hl, ?_⟩
  conv => whnf
  refine ah.sb (fun q3 => ?_) (fun q3 => ?_)
  · have q3 : aN [76, 65, 83, 84] (upF s) = true := q3
    have w : whF jD (upF s) = 3 := by simp only [jD, whF, q1, q2, q3]
    have e := key (x := 3) (y := 0) (by unfold cL; rw [w]; rfl)
    conv => whnf
    exact e
  have q3 : aN [76, 65, 83, 84] (upF s) = false := q3
  conv => whnf
  refine ⟨s, [77, 73, 78], rfl, rfl, hs, hl, ?_⟩
  conv => whnf
  refine ah.sb (fun q4 => ?_) (fun q4 => ?_)
  · have q4 : aN [77, 73, 78] (upF s) = true := q4
    have w : whF jD (upF s) = 4 := by simp only [jD, whF, q1, q2, q3, q4]
    have e := key (x := 4) (y := 0) (by unfold cL; rw [w]; rfl)
    conv => whnf
    exact e
  have q4 : aN [77, 73, 78] (upF s) = false := q4
  conv => whnf
  refine ⟨s, [77, 65, 88], rfl, rfl, hs, hl, ?_⟩
  conv => whnf
  refine ah.sb (fun q5 => ?_) (fun q5 => ?_)
  · have q5 : aN [77, 65, 88] (upF s) = true := q5
    have w : whF jD (upF s) = 5 := by simp only [jD, whF, q1, q2, q3, q4, q5]
    have e := key (x := 5) (y := 0) (by unfold cL; rw [w]; rfl)
    conv => whnf
    exact e
  have q5 : aN [77, 65, 88] (upF s) = false := q5
  conv => whnf
  refine ⟨s, [83, 85, 77], rfl, rfl, hs, hl, ?_⟩
  conv => whnf
  refine ah.sb (fun q6 => ?_) (fun q6 => ?_)
  · have q6 : aN [83, 85, 77] (upF s) = true := q6
    have w : whF jD (upF s) = 6 := by simp only [jD, whF, q1, q2, q3, q4, q5, q6]
    have e := key (x := 6) (y := 0) (by unfold cL; rw [w]; rfl)
    conv => whnf
    exact e
  have q6 : aN [83, 85, 77] (upF s) = false := q6
  have w : whF jD (upF s) = 0 := by simp only [jD, whF, q1, q2, q3, q4, q5, q6]
  have e := key (x := 0) (y := 17) (by unfold cL; rw [w]; rfl)
  conv => whnf
  exact e
def yQ (args : List AV) (H : AH) (n : Nat) (κ : PK) : Prop := match args with
  | [x] => ∃ s, mk x = .ss s ∧ (∀ c ∈ s, c < 256) ∧ s.length ≤ 1000000 ∧ κ (.tup [.si .i64 (cL s).1, .si .i64 (cL s).2]) H n
  | _ => False
theorem B1 : aA 65 yQ := fun args H n κ hs φ h0' hp vs K hr hargs hk => by
  unfold yQ at hs
  split at hs
  · obtain ⟨x, rfl, e1⟩ := vs1 hargs
    obtain ⟨s, hx, h1, h2, hs⟩ := hs
    exact kl B0 (v := .tup [.si .i64 (cL s).1, .si .i64 (cL s).2]) rfl (yP s h1 h2) hs hr hk (by kernel_rfl) HR.ro0 (.cons (df rfl (hx ▸ e1.mk)) .nil)
  · exact hs.elim
noncomputable def KAp : FuncId → EP := aB 78 yN evP
theorem B2 : bu KAp := ai aQ Ad
theorem yR (s : List Nat) (hs : ∀ c ∈ s, c < 256) (hl : s.length ≤ 1000000) : ao KAp 4 72 [.ss s] .nil 0 fun u _ _ => mkT u = mkT (.tup [.si .i64 (cg s).1, .si .i64 (cg s).2]) := by
  have key : ∀ {x y : Int}, cg s = (x, y) → mkT (.tup [.si .i64 x, .si .i64 y]) = mkT (.tup [.si .i64 (cg s).1, .si .i64 (cg s).2]) := fun e => by rw [e]
  conv => whnf
  refine cV.roll 9 ?_
  conv => whnf
  refine ⟨s, rfl, hs, hl, ?_⟩
  conv => whnf
  refine ah.sb (fun q1 => ?_) (fun q1 => ?_)
  · have q1 : aN [115, 117, 109] (loF s) = true := q1
    have w : whF iA (loF s) = 1 := by simp only [iA, whF, q1]
    have e := key (x := 1) (y := 0) (by unfold cg; rw [w]; rfl)
    conv => whnf
    exact e
  have q1 : aN [115, 117, 109] (loF s) = false := q1
  conv => whnf
  refine ⟨s, rfl, hs, hl, ?_⟩
  conv => whnf
  refine ah.sb (fun q2 => ?_) (fun q2 => ?_)
  · have q2 : aN [109, 105, 110] (loF s) = true := q2
    have w : whF iA (loF s) = 2 := by simp only [iA, whF, q1, q2]
    have e := key (x := 2) (y := 0) (by unfold cg; rw [w]; rfl)
    conv => whnf
    exact e
  have q2 : aN [109, 105, 110] (loF s) = false := q2
  conv => whnf
  refine ⟨s, rfl, hs, hl, ?_⟩
  conv => whnf
  refine ah.sb (fun q3 => ?_) (fun q3 => ?_)
  · have q3 : aN [109, 97, 120] (loF s) = true := q3
    have w : whF iA (loF s) = 3 := by simp only [iA, whF, q1, q2, q3]
    have e := key (x := 3) (y := 0) (by unfold cg; rw [w]; rfl)
    conv => whnf
    exact e
  have q3 : aN [109, 97, 120] (loF s) = false := q3
  conv => whnf
  refine ⟨s, rfl, hs, hl, ?_⟩
  conv => whnf
  refine ah.sb (fun q4 => ?_) (fun q4 => ?_)
  · have q4 : aN [99, 111, 117, 110, 116] (loF s) = true := q4
    have w : whF iA (loF s) = 4 := by simp only [iA, whF, q1, q2, q3, q4]
    have e := key (x := 4) (y := 0) (by unfold cg; rw [w]; rfl)
    conv => whnf
    exact e
  have q4 : aN [99, 111, 117, 110, 116] (loF s) = false := q4
  conv => whnf
  refine ⟨s, rfl, hs, hl, ?_⟩
  conv => whnf
  refine ah.sb (fun q5 => ?_) (fun q5 => ?_)
  · have q5 : aN [102, 105, 114, 115, 116] (loF s) = true := q5
    have w : whF iA (loF s) = 5 := by simp only [iA, whF, q1, q2, q3, q4, q5]
    have e := key (x := 5) (y := 0) (by unfold cg; rw [w]; rfl)
    conv => whnf
    exact e
  have q5 : aN [102, 105, 114, 115, 116] (loF s) = false := q5
  conv => whnf
  refine ⟨s, rfl, hs, hl, ?_⟩
  conv => whnf
  refine ah.sb (fun q6 => ?_) (fun q6 => ?_)
  · have q6 : aN [108, 97, 115, 116] (loF s) = true := q6
    have w : whF iA (loF s) = 6 := by simp only [iA, whF, q1, q2, q3, q4, q5, q6]
    have e := key (x := 6) (y := 0) (by unfold cg; rw [w]; rfl)
    conv => whnf
    exact e
  have q6 : aN [108, 97, 115, 116] (loF s) = false := q6
  conv => whnf
  refine ⟨s, rfl, hs, hl, ?_⟩
  conv => whnf
  refine ah.sb (fun q7 => ?_) (fun q7 => ?_)
  · have q7 : aN [114, 97, 110, 103, 101] (loF s) = true := q7
    have w : whF iA (loF s) = 7 := by simp only [iA, whF, q1, q2, q3, q4, q5, q6, q7]
    have e := key (x := 7) (y := 0) (by unfold cg; rw [w]; rfl)
    conv => whnf
    exact e
  have q7 : aN [114, 97, 110, 103, 101] (loF s) = false := q7
  have w : whF iA (loF s) = 0 := by simp only [iA, whF, q1, q2, q3, q4, q5, q6, q7]
  have e := key (x := 0) (y := 17) (by unfold cg; rw [w]; rfl)
  conv => whnf
  exact e
def yS (args : List AV) (H : AH) (n : Nat) (κ : PK) : Prop := match args with
  | [x] => ∃ s, mk x = .ss s ∧ (∀ c ∈ s, c < 256) ∧ s.length ≤ 1000000 ∧ κ (.tup [.si .i64 (cg s).1, .si .i64 (cg s).2]) H n
  | _ => False
theorem B3 : aA 72 yS := fun args H n κ hs φ h0' hp vs K hr hargs hk => by
  unfold yS at hs
  split at hs
  · obtain ⟨x, rfl, e1⟩ := vs1 hargs
    obtain ⟨s, hx, h1, h2, hs⟩ := hs
    exact kl B2 (v := .tup [.si .i64 (cg s).1, .si .i64 (cg s).2]) rfl (yR s h1 h2) hs hr hk (by kernel_rfl) HR.ro0 (.cons (df rfl (hx ▸ e1.mk)) .nil)
  · exact hs.elim
end Go.Proofs.Ytckcicalbjmgbaa
namespace Go.Proofs.Ytckcicalbjmgbaa
open Go Go.RowKit
theorem VTo.mkv {u v : AV} (h : mk u = v) : VTo u v := fun φ w hu => by rw [← h]; exact hu.mk
def aD (R : Rd) : Bool := decide (R.e = 0) && decide (0 < R.ws.length)
def cu (R : Rd) (e : Int) : Rd := if R.e = 0 then { R with e := e } else R
def aa (R : Rd) : List Nat × Rd := if aD R = true then (R.ws.headD [], { R with ws := R.ws.tail }) else ([], cu R 14)
def jj (R : Rd) : AV × Rd := (.ss (aa R).1, (aa R).2)
noncomputable def atR (w : List Nat) (R : Rd) : Bool := aD R && aN (upF (R.ws.headD [])) w
noncomputable def gy (w : List Nat) (R : Rd) : AV × Rd := if atR w R = true then (.sb true, (aa R).2) else (.sb false, R)
noncomputable def dk (w : List Nat) (R : Rd) : AV × Rd := (.tup [], if aN (upF (aa R).1) w = true then (aa R).2 else cu (aa R).2 17)
def ag (g : List Nat → Int × Int) (R : Rd) : Int × Rd := ((g (aa R).1).1, if (g (aa R).1).2 = 0 then (aa R).2 else cu (aa R).2 (g (aa R).1).2)
def aG (g : List Nat → Int × Int) (R : Rd) : AV × Rd := (.si .i64 (ag g R).1, (ag g R).2)
def ko (R : Rd) : Int × Rd := ((ag ak R).1, if (ag ak R).1 < 0 then cu (ag ak R).2 16 else (ag ak R).2)
def lW (R : Rd) : AV × Rd := (.si .i64 (ko R).1, (ko R).2)
noncomputable def orR (w : List Nat) (z : Int) (R : Rd) : Int × Rd := if (aD R && aN (R.ws.headD []) w) = true then (z, (aa R).2) else ag ak R
noncomputable def orV (w : List Nat) (z : Int) (R : Rd) : AV × Rd := (.si .i64 (orR w z R).1, (orR w z R).2)
def WOk (R : Rd) : Prop := ∀ w ∈ R.ws, (∀ c ∈ w, c < 256) ∧ w.length ≤ 1000000
theorem k8 (R : Rd) (e : Int) : (cu R e).ws = R.ws := by unfold cu; split <;> rfl
theorem WOk.fail {R : Rd} (h : WOk R) (e : Int) : WOk (cu R e) := by unfold WOk; rw [k8]; exact h
theorem WOk.next {R : Rd} (h : WOk R) : ((∀ c ∈ (aa R).1, c < 256) ∧ (aa R).1.length ≤ 1000000) ∧ WOk (aa R).2 := by
  unfold aa
  split
  · refine ⟨?_, fun w hw => h w (List.mem_of_mem_tail hw)⟩
    cases hw : R.ws with
    | nil => exact ⟨(fun c hc => by cases hc), Nat.zero_le _⟩
    | cons w l => exact h w (by rw [hw]; exact List.mem_cons_self)
  · exact ⟨⟨(fun c hc => by cases hc), Nat.zero_le _⟩, h.fail 14⟩
theorem WOk.told {R : Rd} (h : WOk R) (g : List Nat → Int × Int) : WOk (ag g R).2 := by
  unfold ag
  dsimp only
  split
  · exact h.next.2
  · exact h.next.2.fail _
theorem cz {R : Rd} (h0 : R.e = 0) (hp : 0 < R.ws.length) : aD R = true := by unfold aD; simp [h0, hp]
theorem cA {R : Rd} (h0 : ¬ R.e = 0) : ¬ aD R = true := by unfold aD; simp [h0]
theorem cB {R : Rd} (hp : ¬ 0 < R.ws.length) : ¬ aD R = true := by unfold aD; simp [hp]
theorem m0 {L : List (List Nat)} (h : 0 < L.length) : L[0] = L.headD [] := by
  cases L with
  | nil => cases h
  | cons x l => rfl
theorem eL {L : List (List Nat)} (h : 0 < L.length) : nth (aq L) (0 * 1) = some (.ss (L.headD [])) := by
  cases L with
  | nil => cases h
  | cons x l => rfl
theorem rr (L : List (List Nat)) : AV.fr (L.length - 1) 1 ((aq L).drop (1 * 1)) = .fr L.tail.length 1 (aq L.tail) := by
  cases L with
  | nil => rfl
  | cons x l => rfl
theorem wQ (R : Rd) : post (ao evP 4 73) [.ptr 0 0] (mkH (c9 (rdO R) 0)) 7 (RdK (jj R).1 (jj R).2) := by
  have leaf : ∀ {s : List Nat} {R' : Rd} {u : AV} {H' : AH} {n' : Nat} {l : List AV}, aa R = (s, R') → mk u = .ss s → PM.get H' 0 = some (.cells l true) → l.map mk = rdC 1 2 3 4 5 6 R' → PM.get H' 1 = some (.cells (aq R'.ks) true) → PM.get H' 2 = some (.cells (ints R'.ts) true) → PM.get H' 3 = some (.cells (ints R'.vs) true) → PM.get H' 4 = some (.cells (aS R'.ls) true) → PM.get H' 5 = some (.cells (ints R'.q.times) true) → PM.get H' 6 = some (.cells (aq R'.fs) true) → ∃ v2 H2 n2, VTo u v2 ∧ bX H' n' H2 n2 ∧ RdK (jj R).1 (jj R).2 v2 H2 n2 := fun e hu h0 hm r1 r2 r3 r4 r5 r6 => by
    unfold jj; rw [e]; exact eO (VTo.mkv hu) h0 hm r1 r2 r3 r4 r5 r6
  show ao evP 4 73 _ _ _ _
  conv => whnf
  refine ah.dec (fun h0 => ?_) (fun h0 => ?_)
  · conv => whnf
    refine ah.fO (fun hp => ?_) (fun hp => ?_)
    · have hp : ¬ 0 < R.ws.length := fun q => hp (by exact Int.ofNat_lt.2 q)
      have e : aa R = ([], { R with e := 14 }) := by unfold aa cu; rw [if_neg (cB hp), if_pos h0]
      conv => whnf
      refine ah.dec (fun _ => ?_) (fun q => absurd h0 q)
      conv => whnf
      exact leaf e rfl rfl rfl rfl rfl rfl rfl rfl rfl
    · have hp : 0 < R.ws.length := by exact Int.ofNat_lt.1 hp
      have e : aa R = (R.ws.headD [], { R with ws := R.ws.tail }) := by unfold aa; rw [if_pos (cz h0 hp)]
      have hm : (AV.fr (R.ws.length - 1) 1 ((aq R.ws).drop (1 * 1)) :: .si .i64 R.e :: cmC (.rw 1 0 R.ks.length 1 0) (.rw 2 0 R.ts.length 1 0) (.rw 3 0 R.vs.length 1 0) (.rw 4 0 R.ls.length 2 0) (.rw 5 0 R.q.times.length 1 0) (.rw 6 0 R.fs.length 1 0) R).map mk = rdC 1 2 3 4 5 6 { R with ws := R.ws.tail } := by rw [rr]; rfl
      conv => whnf
      refine Idx.mk 0 rfl hp ?_
      conv => whnf
      refine aP (eL hp) ?_
      conv => whnf
      refine RSl.mk 1 _ rfl rfl (.inl rfl) hp (Nat.le_refl _) ?_
      conv => whnf
      exact leaf e rfl rfl hm rfl rfl rfl rfl rfl rfl
  · have e : aa R = ([], R) := by unfold aa cu; rw [if_neg (cA h0), if_neg h0]
    conv => whnf
    refine ah.dec (fun q => absurd q h0) (fun _ => ?_)
    conv => whnf
    exact leaf e rfl rfl rfl rfl rfl rfl rfl rfl rfl
def noA (ar : List AV) : Prop := ar = []
theorem cD : ∀ ar, noA ar → ∀ (φ : Ph) (vs : List Value), VRs φ ar vs → VRs φ [] vs := fun ar h φ vs hv => by rw [← h]; exact hv
def s6 (w : List Nat) (ar : List AV) : Prop := ∃ y, ar = [y] ∧ mk y = .ss w
theorem ru (w : List Nat) : ∀ ar, s6 w ar → ∀ (φ : Ph) (vs : List Value), VRs φ ar vs → VRs φ [.ss w] vs := fun ar ⟨y, h, hy⟩ φ vs hv => by
  subst h
  obtain ⟨v, us, rfl, h1, h2⟩ := hv.cons_inv
  exact .cons (by have := h1.mk; rw [hy] at this; exact this) h2
def fnA (f : Nat) (ar : List AV) : Prop := ar = [.fn f [] []]
theorem uz (f : Nat) : ∀ ar, fnA f ar → ∀ (φ : Ph) (vs : List Value), VRs φ ar vs → VRs φ [.fn f [] []] vs := fun ar h φ vs hv => by rw [← h]; exact hv
theorem k9 : aA 73 (bo (fun _ => True) noA jj) := c6 (ax aQ 4 _) (by kernel_rfl) cD (fun _ => rfl) (fun R => ⟨rfl, fun _ => rfl⟩) fun R _ => wQ R
noncomputable def KHs : FuncId → EP := aB 73 (bo (fun _ => True) noA jj) (aB 44 vh evP)
theorem uA : bu KHs := ai (ai aQ vi) k9
theorem yT (w : List Nat) (R : Rd) (hok : WOk R) : post (ao KHs 5 62) (.ptr 0 0 :: [.ss w]) (mkH (c9 (rdO R) 0)) 7 (RdK (gy w R).1 (gy w R).2) := by
  have leaf : ∀ {v : AV} {R' : Rd} {u : AV} {H' : AH} {n' : Nat} {l : List AV}, gy w R = (v, R') → mk u = v → PM.get H' 0 = some (.cells l true) → l.map mk = rdC 1 2 3 4 5 6 R' → PM.get H' 1 = some (.cells (aq R'.ks) true) → PM.get H' 2 = some (.cells (ints R'.ts) true) → PM.get H' 3 = some (.cells (ints R'.vs) true) → PM.get H' 4 = some (.cells (aS R'.ls) true) → PM.get H' 5 = some (.cells (ints R'.q.times) true) → PM.get H' 6 = some (.cells (aq R'.fs) true) → ∃ v2 H2 n2, VTo u v2 ∧ bX H' n' H2 n2 ∧ RdK (gy w R).1 (gy w R).2 v2 H2 n2 := fun e hu h0 hm r1 r2 r3 r4 r5 r6 => by
    rw [e]; exact eO (VTo.mkv hu) h0 hm r1 r2 r3 r4 r5 r6
  show ao KHs 5 62 _ _ _ _
  conv => whnf
  refine ah.dec (fun h0 => ?_) (fun h0 => ?_)
  · conv => whnf
    refine ah.dec (fun hp => ?_) (fun hp => ?_)
    · have hp : 0 < R.ws.length := by exact Int.ofNat_lt.1 hp
      have hw := hok _ (List.getElem_mem hp)
      rw [m0 hp] at hw
      conv => whnf
      refine Idx.mk 0 rfl hp ?_
      conv => whnf
      refine aP (eL hp) ?_
      conv => whnf
      refine ⟨R.ws.headD [], rfl, hw.1, hw.2, ?_⟩
      conv => whnf
      refine ah.sb (fun hq => ?_) (fun hq => ?_)
      · have e : gy w R = (.sb true, (aa R).2) := by unfold gy atR; rw [cz h0 hp, hq]; rfl
        conv => whnf
        refine ⟨0, 1, 2, 3, 4, 5, 6, R, rfl, rfl, ⟨by decide, by decide, rfl, rfl, rfl, rfl, rfl, rfl, rfl⟩, trivial, ?_⟩
        conv => whnf
        exact leaf e (congrArg AV.sb hq) rfl rfl rfl rfl rfl rfl rfl rfl
      · have e : gy w R = (.sb false, R) := by unfold gy atR; rw [if_neg (by rw [hq]; simp)]
        conv => whnf
        exact leaf e (congrArg AV.sb hq) rfl rfl rfl rfl rfl rfl rfl rfl
    · have hp : ¬ 0 < R.ws.length := fun q => hp (by exact Int.ofNat_lt.2 q)
      have e : gy w R = (.sb false, R) := by unfold gy atR; rw [if_neg (by rw [Bool.and_eq_true]; exact fun q => cB hp q.1)]
      have hd : AV.sb (decide ((0 : Int) < (R.ws.length : Int))) = .sb false := congrArg AV.sb (decide_eq_false (fun q : (0 : Int) < (R.ws.length : Int) => hp (by omega)))
      conv => whnf
      exact leaf e (by first | rfl | exact hd) rfl rfl rfl rfl rfl rfl rfl rfl
  · have e : gy w R = (.sb false, R) := by unfold gy atR; rw [if_neg (by rw [Bool.and_eq_true]; exact fun q => cA h0 q.1)]
    conv => whnf
    exact leaf e rfl rfl rfl rfl rfl rfl rfl rfl rfl
theorem De (w : List Nat) : aA 62 (bo WOk (s6 w) (gy w)) := c6 (ax uA 5 _) (by kernel_rfl) (ru w) (fun _ => rfl) (fun R => by unfold gy; split <;> exact ⟨rfl, fun _ => rfl⟩) fun R h => yT w R h
theorem wR (w : List Nat) (R : Rd) (hok : WOk R) : post (ao KHs 5 71) (.ptr 0 0 :: [.ss w]) (mkH (c9 (rdO R) 0)) 7 (RdK (dk w R).1 (dk w R).2) := by
  have leaf : ∀ {v : AV} {R' : Rd} {u : AV} {H' : AH} {n' : Nat} {l : List AV}, dk w R = (v, R') → mk u = v → PM.get H' 0 = some (.cells l true) → l.map mk = rdC 1 2 3 4 5 6 R' → PM.get H' 1 = some (.cells (aq R'.ks) true) → PM.get H' 2 = some (.cells (ints R'.ts) true) → PM.get H' 3 = some (.cells (ints R'.vs) true) → PM.get H' 4 = some (.cells (aS R'.ls) true) → PM.get H' 5 = some (.cells (ints R'.q.times) true) → PM.get H' 6 = some (.cells (aq R'.fs) true) → ∃ v2 H2 n2, VTo u v2 ∧ bX H' n' H2 n2 ∧ RdK (dk w R).1 (dk w R).2 v2 H2 n2 := fun e hu h0 hm r1 r2 r3 r4 r5 r6 => by
    rw [e]; exact eO (VTo.mkv hu) h0 hm r1 r2 r3 r4 r5 r6
  have hn := hok.next
  show ao KHs 5 71 _ _ _ _
  conv => whnf
  refine ⟨0, 1, 2, 3, 4, 5, 6, R, rfl, rfl, ⟨by decide, by decide, rfl, rfl, rfl, rfl, rfl, rfl, rfl⟩, trivial, ?_⟩
  conv => whnf
  refine ⟨(aa R).1, rfl, hn.1.1, hn.1.2, ?_⟩
  conv => whnf
  refine ah.nsb (fun hb => ?_) (fun hb => ?_)
  · conv => whnf
    refine ah.dec (fun he => ?_) (fun he => ?_)
    · have he : (aa R).2.e = 0 := he
      have e : dk w R = (.tup [], { (aa R).2 with e := 17 }) := by unfold dk cu; rw [if_neg (by rw [hb]; decide), if_pos he]
      conv => whnf
      exact leaf e rfl rfl rfl rfl rfl rfl rfl rfl rfl
    · have he : ¬ (aa R).2.e = 0 := he
      have e : dk w R = (.tup [], (aa R).2) := by unfold dk cu; rw [if_neg (by rw [hb]; decide), if_neg he]
      conv => whnf
      exact leaf e rfl rfl rfl rfl rfl rfl rfl rfl rfl
  · have e : dk w R = (.tup [], (aa R).2) := by unfold dk; rw [if_pos hb]
    conv => whnf
    exact leaf e rfl rfl rfl rfl rfl rfl rfl rfl rfl
theorem yU (w : List Nat) : aA 71 (bo WOk (s6 w) (dk w)) := c6 (ax uA 5 _) (by kernel_rfl) (ru w) (fun _ => rfl) (fun R => ⟨rfl, fun _ => rfl⟩) fun R h => wR w R h
noncomputable def KTo : FuncId → EP := aB 73 (bo (fun _ => True) noA jj) (aB 18 vl (aB 65 yQ (aB 72 yS (evP))))
theorem uB : bu KTo := ai (ai (ai (ai aQ B3) B1) s5) k9
theorem oT (R : Rd) (hok : WOk R) : post (ao KTo 5 64) (.ptr 0 0 :: [.fn 18 [] []]) (mkH (c9 (rdO R) 0)) 7 (RdK (aG ak R).1 (aG ak R).2) := by
  have leaf : ∀ {v : AV} {R' : Rd} {u : AV} {H' : AH} {n' : Nat} {l : List AV}, aG ak R = (v, R') → mk u = v → PM.get H' 0 = some (.cells l true) → l.map mk = rdC 1 2 3 4 5 6 R' → PM.get H' 1 = some (.cells (aq R'.ks) true) → PM.get H' 2 = some (.cells (ints R'.ts) true) → PM.get H' 3 = some (.cells (ints R'.vs) true) → PM.get H' 4 = some (.cells (aS R'.ls) true) → PM.get H' 5 = some (.cells (ints R'.q.times) true) → PM.get H' 6 = some (.cells (aq R'.fs) true) → ∃ v2 H2 n2, VTo u v2 ∧ bX H' n' H2 n2 ∧ RdK (aG ak R).1 (aG ak R).2 v2 H2 n2 := fun e hu h0 hm r1 r2 r3 r4 r5 r6 => by
    rw [e]; exact eO (VTo.mkv hu) h0 hm r1 r2 r3 r4 r5 r6
  have hn := hok.next
  show ao KTo 5 64 _ _ _ _
  conv => whnf
  refine ⟨0, 1, 2, 3, 4, 5, 6, R, rfl, rfl, ⟨by decide, by decide, rfl, rfl, rfl, rfl, rfl, rfl, rfl⟩, trivial, ?_⟩
  conv => whnf
  refine ⟨(aa R).1, rfl, hn.1.1, hn.1.2, ?_⟩
  conv => whnf
  refine ah.fO (fun hb => ?_) (fun hb => ?_)
  · have hb : ¬ (ak (aa R).1).2 = 0 := hb
    conv => whnf
    refine ah.dec (fun he => ?_) (fun he => ?_)
    · have he : (aa R).2.e = 0 := he
      have e : aG ak R = (.si .i64 (ak (aa R).1).1, { (aa R).2 with e := (ak (aa R).1).2 }) := by unfold aG ag cu; dsimp only; rw [if_neg hb, if_pos he]
      conv => whnf
      exact leaf e rfl rfl rfl rfl rfl rfl rfl rfl rfl
    · have he : ¬ (aa R).2.e = 0 := he
      have e : aG ak R = (.si .i64 (ak (aa R).1).1, (aa R).2) := by unfold aG ag cu; dsimp only; rw [if_neg hb, if_neg he]
      conv => whnf
      exact leaf e rfl rfl rfl rfl rfl rfl rfl rfl rfl
  · have hb : (ak (aa R).1).2 = 0 := hb
    have e : aG ak R = (.si .i64 (ak (aa R).1).1, (aa R).2) := by unfold aG ag; dsimp only; rw [if_pos hb]
    conv => whnf
    exact leaf e rfl rfl rfl rfl rfl rfl rfl rfl rfl
theorem oq : aA 64 (bo WOk (fnA 18) (aG ak)) := c6 (ax uB 5 _) (by kernel_rfl) (uz _) (fun _ => rfl) (fun R => ⟨rfl, fun _ => rfl⟩) fun R h => oT R h
theorem oU (R : Rd) (hok : WOk R) : post (ao KTo 5 64) (.ptr 0 0 :: [.fn 65 [] []]) (mkH (c9 (rdO R) 0)) 7 (RdK (aG cL R).1 (aG cL R).2) := by
  have leaf : ∀ {v : AV} {R' : Rd} {u : AV} {H' : AH} {n' : Nat} {l : List AV}, aG cL R = (v, R') → mk u = v → PM.get H' 0 = some (.cells l true) → l.map mk = rdC 1 2 3 4 5 6 R' → PM.get H' 1 = some (.cells (aq R'.ks) true) → PM.get H' 2 = some (.cells (ints R'.ts) true) → PM.get H' 3 = some (.cells (ints R'.vs) true) → PM.get H' 4 = some (.cells (aS R'.ls) true) → PM.get H' 5 = some (.cells (ints R'.q.times) true) → PM.get H' 6 = some (.cells (aq R'.fs) true) → ∃ v2 H2 n2, VTo u v2 ∧ bX H' n' H2 n2 ∧ RdK (aG cL R).1 (aG cL R).2 v2 H2 n2 := fun e hu h0 hm r1 r2 r3 r4 r5 r6 => by
    rw [e]; exact eO (VTo.mkv hu) h0 hm r1 r2 r3 r4 r5 r6
  have hn := hok.next
  show ao KTo 5 64 _ _ _ _
  conv => whnf
  refine ⟨0, 1, 2, 3, 4, 5, 6, R, rfl, rfl, ⟨by decide, by decide, rfl, rfl, rfl, rfl, rfl, rfl, rfl⟩, trivial, ?_⟩
  conv => whnf
  refine ⟨(aa R).1, rfl, hn.1.1, hn.1.2, ?_⟩
  conv => whnf
  refine ah.fO (fun hb => ?_) (fun hb => ?_)
  · have hb : ¬ (cL (aa R).1).2 = 0 := hb
    conv => whnf
    refine ah.dec (fun he => ?_) (fun he => ?_)
    · have he : (aa R).2.e = 0 := he
      have e : aG cL R = (.si .i64 (cL (aa R).1).1, { (aa R).2 with e := (cL (aa R).1).2 }) := by unfold aG ag cu; dsimp only; rw [if_neg hb, if_pos he]
      conv => whnf
      exact leaf e rfl rfl rfl rfl rfl rfl rfl rfl rfl
    · have he : ¬ (aa R).2.e = 0 := he
      have e : aG cL R = (.si .i64 (cL (aa R).1).1, (aa R).2) := by unfold aG ag cu; dsimp only; rw [if_neg hb, if_neg he]
      conv => whnf
      exact leaf e rfl rfl rfl rfl rfl rfl rfl rfl rfl
  · have hb : (cL (aa R).1).2 = 0 := hb
    have e : aG cL R = (.si .i64 (cL (aa R).1).1, (aa R).2) := by unfold aG ag; dsimp only; rw [if_pos hb]
    conv => whnf
    exact leaf e rfl rfl rfl rfl rfl rfl rfl rfl rfl
theorem ot : aA 64 (bo WOk (fnA 65) (aG cL)) := c6 (ax uB 5 _) (by kernel_rfl) (uz _) (fun _ => rfl) (fun R => ⟨rfl, fun _ => rfl⟩) fun R h => oU R h
theorem oV (R : Rd) (hok : WOk R) : post (ao KTo 5 64) (.ptr 0 0 :: [.fn 72 [] []]) (mkH (c9 (rdO R) 0)) 7 (RdK (aG cg R).1 (aG cg R).2) := by
  have leaf : ∀ {v : AV} {R' : Rd} {u : AV} {H' : AH} {n' : Nat} {l : List AV}, aG cg R = (v, R') → mk u = v → PM.get H' 0 = some (.cells l true) → l.map mk = rdC 1 2 3 4 5 6 R' → PM.get H' 1 = some (.cells (aq R'.ks) true) → PM.get H' 2 = some (.cells (ints R'.ts) true) → PM.get H' 3 = some (.cells (ints R'.vs) true) → PM.get H' 4 = some (.cells (aS R'.ls) true) → PM.get H' 5 = some (.cells (ints R'.q.times) true) → PM.get H' 6 = some (.cells (aq R'.fs) true) → ∃ v2 H2 n2, VTo u v2 ∧ bX H' n' H2 n2 ∧ RdK (aG cg R).1 (aG cg R).2 v2 H2 n2 := fun e hu h0 hm r1 r2 r3 r4 r5 r6 => by
    rw [e]; exact eO (VTo.mkv hu) h0 hm r1 r2 r3 r4 r5 r6
  have hn := hok.next
  show ao KTo 5 64 _ _ _ _
  conv => whnf
  refine ⟨0, 1, 2, 3, 4, 5, 6, R, rfl, rfl, ⟨by decide, by decide, rfl, rfl, rfl, rfl, rfl, rfl, rfl⟩, trivial, ?_⟩
  conv => whnf
  refine ⟨(aa R).1, rfl, hn.1.1, hn.1.2, ?_⟩
  conv => whnf
  refine ah.fO (fun hb => ?_) (fun hb => ?_)
  · have hb : ¬ (cg (aa R).1).2 = 0 := hb
    conv => whnf
    refine ah.dec (fun he => ?_) (fun he => ?_)
    · have he : (aa R).2.e = 0 := he
      have e : aG cg R = (.si .i64 (cg (aa R).1).1, { (aa R).2 with e := (cg (aa R).1).2 }) := by unfold aG ag cu; dsimp only; rw [if_neg hb, if_pos he]
      conv => whnf
      exact leaf e rfl rfl rfl rfl rfl rfl rfl rfl rfl
    · have he : ¬ (aa R).2.e = 0 := he
      have e : aG cg R = (.si .i64 (cg (aa R).1).1, (aa R).2) := by unfold aG ag cu; dsimp only; rw [if_neg hb, if_neg he]
      conv => whnf
      exact leaf e rfl rfl rfl rfl rfl rfl rfl rfl rfl
  · have hb : (cg (aa R).1).2 = 0 := hb
    have e : aG cg R = (.si .i64 (cg (aa R).1).1, (aa R).2) := by unfold aG ag; dsimp only; rw [if_pos hb]
    conv => whnf
    exact leaf e rfl rfl rfl rfl rfl rfl rfl rfl rfl
theorem ou : aA 64 (bo WOk (fnA 72) (aG cg)) := c6 (ax uB 5 _) (by kernel_rfl) (uz _) (fun _ => rfl) (fun R => ⟨rfl, fun _ => rfl⟩) fun R h => oV R h
def rv (args : List AV) (H : AH) (n : Nat) (κ : PK) : Prop := bo WOk (fnA 18) (aG ak) args H n κ ∨ bo WOk (fnA 65) (aG cL) args H n κ ∨ bo WOk (fnA 72) (aG cg) args H n κ
theorem yV : aA 64 rv := fun args H n κ hs => hs.elim (oq args H n κ) fun hs => hs.elim (ot args H n κ) (ou args H n κ)
noncomputable def KNb : FuncId → EP := aB 64 rv evP
theorem B4 : bu KNb := ai aQ yV
theorem s7 (R : Rd) (hok : WOk R) : post (ao KNb 5 70) (.ptr 0 0 :: []) (mkH (c9 (rdO R) 0)) 7 (RdK (aG ak R).1 (aG ak R).2) := by
  have leaf : ∀ {v : AV} {R' : Rd} {u : AV} {H' : AH} {n' : Nat} {l : List AV}, aG ak R = (v, R') → mk u = v → PM.get H' 0 = some (.cells l true) → l.map mk = rdC 1 2 3 4 5 6 R' → PM.get H' 1 = some (.cells (aq R'.ks) true) → PM.get H' 2 = some (.cells (ints R'.ts) true) → PM.get H' 3 = some (.cells (ints R'.vs) true) → PM.get H' 4 = some (.cells (aS R'.ls) true) → PM.get H' 5 = some (.cells (ints R'.q.times) true) → PM.get H' 6 = some (.cells (aq R'.fs) true) → ∃ v2 H2 n2, VTo u v2 ∧ bX H' n' H2 n2 ∧ RdK (aG ak R).1 (aG ak R).2 v2 H2 n2 := fun e hu h0 hm r1 r2 r3 r4 r5 r6 => by
    rw [e]; exact eO (VTo.mkv hu) h0 hm r1 r2 r3 r4 r5 r6
  show ao KNb 5 70 _ _ _ _
  conv => whnf
  refine .inl ⟨0, 1, 2, 3, 4, 5, 6, R, rfl, rfl, ⟨by decide, by decide, rfl, rfl, rfl, rfl, rfl, rfl, rfl⟩, hok, ?_⟩
  conv => whnf
  exact leaf rfl rfl rfl rfl rfl rfl rfl rfl rfl rfl
theorem gI : aA 70 (bo WOk noA (aG ak)) := c6 (ax B4 5 _) (by kernel_rfl) cD (fun _ => rfl) (fun R => ⟨rfl, fun _ => rfl⟩) fun R h => s7 R h
noncomputable def KPo : FuncId → EP := aB 70 (bo WOk noA (aG ak)) (aB 73 (bo (fun _ => True) noA jj) evP)
theorem yW : bu KPo := ai (ai aQ k9) gI
theorem oW (R : Rd) (hok : WOk R) : post (ao KPo 5 63) (.ptr 0 0 :: []) (mkH (c9 (rdO R) 0)) 7 (RdK (lW R).1 (lW R).2) := by
  have leaf : ∀ {v : AV} {R' : Rd} {u : AV} {H' : AH} {n' : Nat} {l : List AV}, lW R = (v, R') → mk u = v → PM.get H' 0 = some (.cells l true) → l.map mk = rdC 1 2 3 4 5 6 R' → PM.get H' 1 = some (.cells (aq R'.ks) true) → PM.get H' 2 = some (.cells (ints R'.ts) true) → PM.get H' 3 = some (.cells (ints R'.vs) true) → PM.get H' 4 = some (.cells (aS R'.ls) true) → PM.get H' 5 = some (.cells (ints R'.q.times) true) → PM.get H' 6 = some (.cells (aq R'.fs) true) → ∃ v2 H2 n2, VTo u v2 ∧ bX H' n' H2 n2 ∧ RdK (lW R).1 (lW R).2 v2 H2 n2 := fun e hu h0 hm r1 r2 r3 r4 r5 r6 => by
    rw [e]; exact eO (VTo.mkv hu) h0 hm r1 r2 r3 r4 r5 r6
  show ao KPo 5 63 _ _ _ _
  conv => whnf
  refine ⟨0, 1, 2, 3, 4, 5, 6, R, rfl, rfl, ⟨by decide, by decide, rfl, rfl, rfl, rfl, rfl, rfl, rfl⟩, hok, ?_⟩
  conv => whnf
  refine ah.dec (fun hb => ?_) (fun hb => ?_)
  · have hb : (ag ak R).1 < 0 := hb
    conv => whnf
    refine ah.dec (fun he => ?_) (fun he => ?_)
    · have he : (ag ak R).2.e = 0 := he
      have e : lW R = (.si .i64 (ag ak R).1, { (ag ak R).2 with e := 16 }) := by unfold lW ko cu; dsimp only; rw [if_pos hb, if_pos he]
      conv => whnf
      exact leaf e rfl rfl rfl rfl rfl rfl rfl rfl rfl
    · have he : ¬ (ag ak R).2.e = 0 := he
      have e : lW R = (.si .i64 (ag ak R).1, (ag ak R).2) := by unfold lW ko cu; dsimp only; rw [if_pos hb, if_neg he]
      conv => whnf
      exact leaf e rfl rfl rfl rfl rfl rfl rfl rfl rfl
  · have hb : ¬ (ag ak R).1 < 0 := hb
    have e : lW R = (.si .i64 (ag ak R).1, (ag ak R).2) := by unfold lW ko; dsimp only; rw [if_neg hb]
    conv => whnf
    exact leaf e rfl rfl rfl rfl rfl rfl rfl rfl rfl
theorem uC : aA 63 (bo WOk noA lW) := c6 (ax yW 5 _) (by kernel_rfl) cD (fun _ => rfl) (fun R => ⟨rfl, fun _ => rfl⟩) fun R h => oW R h
def orA (w : List Nat) (z : Int) (ar : List AV) : Prop := ∃ y x, ar = [y, x] ∧ mk y = .ss w ∧ mk x = .si .i64 z
theorem B5 (w : List Nat) (z : Int) : ∀ ar, orA w z ar → ∀ (φ : Ph) (vs : List Value), VRs φ ar vs → VRs φ [.ss w, .si .i64 z] vs := fun ar ⟨y, x, h, hy, hx⟩ φ vs hv => by
  subst h
  obtain ⟨v, us, rfl, h1, h2⟩ := hv.cons_inv
  obtain ⟨v2, us2, rfl, h3, h4⟩ := h2.cons_inv
  exact .cons (by have := h1.mk; rw [hy] at this; exact this) (.cons (by have := h3.mk; rw [hx] at this; exact this) h4)
theorem Ag (w : List Nat) (z : Int) (R : Rd) (hok : WOk R) : post (ao KPo 5 77) (.ptr 0 0 :: [.ss w, .si .i64 z]) (mkH (c9 (rdO R) 0)) 7 (RdK (orV w z R).1 (orV w z R).2) := by
  have leaf : ∀ {v : AV} {R' : Rd} {u : AV} {H' : AH} {n' : Nat} {l : List AV}, orV w z R = (v, R') → mk u = v → PM.get H' 0 = some (.cells l true) → l.map mk = rdC 1 2 3 4 5 6 R' → PM.get H' 1 = some (.cells (aq R'.ks) true) → PM.get H' 2 = some (.cells (ints R'.ts) true) → PM.get H' 3 = some (.cells (ints R'.vs) true) → PM.get H' 4 = some (.cells (aS R'.ls) true) → PM.get H' 5 = some (.cells (ints R'.q.times) true) → PM.get H' 6 = some (.cells (aq R'.fs) true) → ∃ v2 H2 n2, VTo u v2 ∧ bX H' n' H2 n2 ∧ RdK (orV w z R).1 (orV w z R).2 v2 H2 n2 := fun e hu h0 hm r1 r2 r3 r4 r5 r6 => by
    rw [e]; exact eO (VTo.mkv hu) h0 hm r1 r2 r3 r4 r5 r6
  show ao KPo 5 77 _ _ _ _
  conv => whnf
  refine ah.dec (fun h0 => ?_) (fun h0 => ?_)
  · conv => whnf
    refine ah.dec (fun hp => ?_) (fun hp => ?_)
    · have hp : 0 < R.ws.length := by exact Int.ofNat_lt.1 hp
      conv => whnf
      refine Idx.mk 0 rfl hp ?_
      conv => whnf
      refine aP (eL hp) ?_
      conv => whnf
      refine ah.sb (fun hq => ?_) (fun hq => ?_)
      · have e : orV w z R = (.si .i64 z, (aa R).2) := by unfold orV orR; rw [cz h0 hp, hq]; rfl
        conv => whnf
        refine ⟨0, 1, 2, 3, 4, 5, 6, R, rfl, rfl, ⟨by decide, by decide, rfl, rfl, rfl, rfl, rfl, rfl, rfl⟩, trivial, ?_⟩
        conv => whnf
        exact leaf e rfl rfl rfl rfl rfl rfl rfl rfl rfl
      · have e : orV w z R = aG ak R := by unfold orV orR; rw [if_neg (by rw [Bool.and_eq_true]; exact fun q => by rw [hq] at q; cases q.2)]; rfl
        conv => whnf
        refine ⟨0, 1, 2, 3, 4, 5, 6, R, rfl, rfl, ⟨by decide, by decide, rfl, rfl, rfl, rfl, rfl, rfl, rfl⟩, hok, ?_⟩
        conv => whnf
        exact leaf e rfl rfl rfl rfl rfl rfl rfl rfl rfl
    · have hp : ¬ 0 < R.ws.length := fun q => hp (by exact Int.ofNat_lt.2 q)
      have e : orV w z R = aG ak R := by unfold orV orR; rw [if_neg (by rw [Bool.and_eq_true]; exact fun q => cB hp q.1)]; rfl
      conv => whnf
      refine ⟨0, 1, 2, 3, 4, 5, 6, R, rfl, rfl, ⟨by decide, by decide, rfl, rfl, rfl, rfl, rfl, rfl, rfl⟩, hok, ?_⟩
      conv => whnf
      exact leaf e rfl rfl rfl rfl rfl rfl rfl rfl rfl
  · have e : orV w z R = aG ak R := by unfold orV orR; rw [if_neg (by rw [Bool.and_eq_true]; exact fun q => cA h0 q.1)]; rfl
    conv => whnf
    refine ⟨0, 1, 2, 3, 4, 5, 6, R, rfl, rfl, ⟨by decide, by decide, rfl, rfl, rfl, rfl, rfl, rfl, rfl⟩, hok, ?_⟩
    conv => whnf
    exact leaf e rfl rfl rfl rfl rfl rfl rfl rfl rfl
theorem Dg (w : List Nat) (z : Int) : aA 77 (bo WOk (orA w z) (orV w z)) := c6 (ax yW 5 _) (by kernel_rfl) (B5 w z) (fun _ => rfl) (fun R => ⟨rfl, fun _ => rfl⟩) fun R h => Ag w z R h
end Go.Proofs.Ytckcicalbjmgbaa
namespace Go.Proofs.Ytckcicalbjmgbaa
open Go Go.RowKit
def dp (g : List AV → AH → Nat → PK → Prop) (args : List AV) (H : AH) (n : Nat) (κ : PK) : Prop := g args H n fun u H' n' => ∃ (v : AV) (H2 : AH) (m : Nat), Cov n (mkE [(0, u)]) H' n' (mkE [(0, v)], H2, m) ∧ κ v H2 m
theorem aA.dp {f : FuncId} {g : List AV → AH → Nat → PK → Prop} (hg : aA f g) : aA f (dp g) := fun args H n κ hs φ h0 h vs K hr ha hk => hg args H n _ hs φ h0 h vs K hr ha fun ψ u H' n' w g' hle hg' hu ⟨v, H2, m, hc, hκ⟩ => by
  obtain ⟨χ, ⟨c1, c2, c3⟩, c4, c5⟩ := hc ψ h0 g' (fun _ => w) hg' (fun t a ht => by
    have := rj ht
    simp only [List.mem_cons, List.not_mem_nil, or_false] at this
    injection this with e1 e2
    subst e1 e2
    exact hu)
  exact hk χ v H2 m w g' ⟨fun b p e => c1 b p (hr.dom b p e).1 (hle.b b p e), fun q e => c2 q (hle.z q e), fun q e => hle.y q (c3 q e)⟩ c4 (c5 0 v rfl) hκ
def yX (m : Nat) : AV → Bool
  | .rw b _ _ _ _ => Nat.blt b m
  | .fr _ _ _ => true
  | .si _ _ => true
  | .sb _ => true
  | .ss _ => true
  | _ => false
theorem aX.wS {H : AH} {m : Nat} {r : Nat → Nat} {a a' : AV} (hg : yX m a' = true) (e : Go.Proofs.Ytckcicalbjmgbaa.mk a = ren r a') : aX H m r a a' := by
  cases a' with
  | rw b o n k x =>
    have ha : a = .rw (r b) o n k x := by cases a <;> first | exact e | cases e
    exact aX.rw (Nat.le_of_ble_eq_true hg) ha (hx := ⟨fun h => h, fun h => h, fun h => h⟩)
  | fr n k l =>
    have ha : a = .fr n k l := by cases a <;> first | exact e | cases e
    subst ha; exact .ed rfl
  | si k n => exact .int e
  | sb b => exact .bool e
  | ss s => exact .str e
  | _ => cases hg
theorem je.wS {H : AH} {m : Nat} {r : Nat → Nat} : ∀ {l l' : List AV}, l'.all (yX m) = true → l.map Go.Proofs.Ytckcicalbjmgbaa.mk = l'.map (ren r) → je H m r l l'
  | [], [], _, _ => .nil
  | [], _ :: _, _, e => by cases e
  | _ :: _, [], _, e => by cases e
  | a :: l, a' :: l', hg, e => by
    simp only [List.map_cons, List.cons.injEq] at e
    simp only [List.all_cons, Bool.and_eq_true] at hg
    exact .cons (aX.wS hg.1 e.1) (je.wS hg.2 e.2)
def lX (k t v l q f nk nt nv nl nq nf : Nat) (R : Rd) : List AV := .fr R.ws.length 1 (aq R.ws) :: .si .i64 R.e :: cmC (.rw k 0 nk 1 0) (.rw t 0 nt 1 0) (.rw v 0 nv 1 0) (.rw l 0 nl 2 0) (.rw q 0 nq 1 0) (.rw f 0 nf 1 0) R
noncomputable def rdM (R : Rd) : AH := mkH [(0, .cells (rdC 7 8 9 10 11 12 R) true), (7, .cells (aq R.ks) true), (8, .cells (ints R.ts) true), (9, .cells (ints R.vs) true), (10, .cells (aS R.ls) true), (11, .cells (ints R.q.times) true), (12, .cells (aq R.fs) true)]
def rdN (j1 j2 j3 j4 j5 j6 : Nat) : Nat → Nat := fun b => if b = 7 then j1 else if b = 8 then j2 else if b = 9 then j3 else if b = 10 then j4 else if b = 11 then j5 else if b = 12 then j6 else b
theorem vp {j1 j2 j3 j4 j5 j6 : Nat} (hd : [0, j1, j2, j3, j4, j5, j6].Nodup) : ∀ a ∈ [0, 7, 8, 9, 10, 11, 12], ∀ b ∈ [0, 7, 8, 9, 10, 11, 12], rdN j1 j2 j3 j4 j5 j6 a = rdN j1 j2 j3 j4 j5 j6 b → a = b := by
  simp only [List.nodup_cons, List.mem_cons, List.not_mem_nil, or_false, not_or, List.nodup_nil, and_true, not_false_eq_true] at hd
  intro a ha b hb
  simp only [List.mem_cons, List.not_mem_nil, or_false] at ha hb
  rcases ha with rfl | rfl | rfl | rfl | rfl | rfl | rfl
  · rcases hb with rfl | rfl | rfl | rfl | rfl | rfl | rfl
    · exact fun _ => rfl
    · exact fun e => absurd (show 0 = j1 from e) (by omega)
    · exact fun e => absurd (show 0 = j2 from e) (by omega)
    · exact fun e => absurd (show 0 = j3 from e) (by omega)
    · exact fun e => absurd (show 0 = j4 from e) (by omega)
    · exact fun e => absurd (show 0 = j5 from e) (by omega)
    · exact fun e => absurd (show 0 = j6 from e) (by omega)
  · rcases hb with rfl | rfl | rfl | rfl | rfl | rfl | rfl
    · exact fun e => absurd (show j1 = 0 from e) (by omega)
    · exact fun _ => rfl
    · exact fun e => absurd (show j1 = j2 from e) (by omega)
    · exact fun e => absurd (show j1 = j3 from e) (by omega)
    · exact fun e => absurd (show j1 = j4 from e) (by omega)
    · exact fun e => absurd (show j1 = j5 from e) (by omega)
    · exact fun e => absurd (show j1 = j6 from e) (by omega)
  · rcases hb with rfl | rfl | rfl | rfl | rfl | rfl | rfl
    · exact fun e => absurd (show j2 = 0 from e) (by omega)
    · exact fun e => absurd (show j2 = j1 from e) (by omega)
    · exact fun _ => rfl
    · exact fun e => absurd (show j2 = j3 from e) (by omega)
    · exact fun e => absurd (show j2 = j4 from e) (by omega)
    · exact fun e => absurd (show j2 = j5 from e) (by omega)
    · exact fun e => absurd (show j2 = j6 from e) (by omega)
  · rcases hb with rfl | rfl | rfl | rfl | rfl | rfl | rfl
    · exact fun e => absurd (show j3 = 0 from e) (by omega)
    · exact fun e => absurd (show j3 = j1 from e) (by omega)
    · exact fun e => absurd (show j3 = j2 from e) (by omega)
    · exact fun _ => rfl
    · exact fun e => absurd (show j3 = j4 from e) (by omega)
    · exact fun e => absurd (show j3 = j5 from e) (by omega)
    · exact fun e => absurd (show j3 = j6 from e) (by omega)
  · rcases hb with rfl | rfl | rfl | rfl | rfl | rfl | rfl
    · exact fun e => absurd (show j4 = 0 from e) (by omega)
    · exact fun e => absurd (show j4 = j1 from e) (by omega)
    · exact fun e => absurd (show j4 = j2 from e) (by omega)
    · exact fun e => absurd (show j4 = j3 from e) (by omega)
    · exact fun _ => rfl
    · exact fun e => absurd (show j4 = j5 from e) (by omega)
    · exact fun e => absurd (show j4 = j6 from e) (by omega)
  · rcases hb with rfl | rfl | rfl | rfl | rfl | rfl | rfl
    · exact fun e => absurd (show j5 = 0 from e) (by omega)
    · exact fun e => absurd (show j5 = j1 from e) (by omega)
    · exact fun e => absurd (show j5 = j2 from e) (by omega)
    · exact fun e => absurd (show j5 = j3 from e) (by omega)
    · exact fun e => absurd (show j5 = j4 from e) (by omega)
    · exact fun _ => rfl
    · exact fun e => absurd (show j5 = j6 from e) (by omega)
  · rcases hb with rfl | rfl | rfl | rfl | rfl | rfl | rfl
    · exact fun e => absurd (show j6 = 0 from e) (by omega)
    · exact fun e => absurd (show j6 = j1 from e) (by omega)
    · exact fun e => absurd (show j6 = j2 from e) (by omega)
    · exact fun e => absurd (show j6 = j3 from e) (by omega)
    · exact fun e => absurd (show j6 = j4 from e) (by omega)
    · exact fun e => absurd (show j6 = j5 from e) (by omega)
    · exact fun _ => rfl
theorem uD {σ : AE} {H : AH} {n : Nat} {R : Rd} (j1 j2 j3 j4 j5 j6 : Nat) {l l1 l2 l3 l4 l5 l6 : List AV} {le : List (Nat × AV)} (he : ∀ x ∈ le, aX H 13 (rdN j1 j2 j3 j4 j5 j6) (aC (pa x.1) σ) x.2) (hd : [0, j1, j2, j3, j4, j5, j6].Nodup) (h0 : PM.get H 0 = some (.cells l true)) (hm : l.map mk = rdC j1 j2 j3 j4 j5 j6 R) (r1 : PM.get H j1 = some (.cells l1 true)) (m1 : l1.map mk = aq R.ks) (r2 : PM.get H j2 = some (.cells l2 true)) (m2 : l2.map mk = ints R.ts) (r3 : PM.get H j3 = some (.cells l3 true)) (m3 : l3.map mk = ints R.vs) (r4 : PM.get H j4 = some (.cells l4 true)) (m4 : l4.map mk = aS R.ls) (r5 : PM.get H j5 = some (.cells l5 true)) (m5 : l5.map mk = ints R.q.times) (r6 : PM.get H j6 = some (.cells l6 true)) (m6 : l6.map mk = aq R.fs) : Cov 7 σ H n (mkE le, rdM R, 13) := by
  refine Cov.ofR (rdN j1 j2 j3 j4 j5 j6) (by decide) (fun b hb => by unfold rdN; repeat' rw [if_neg (by omega)]) he ?_ ?_
  · intro x hx
    simp only [List.mem_cons, List.not_mem_nil, or_false] at hx
    rcases hx with rfl | rfl | rfl | rfl | rfl | rfl | rfl
    · exact ⟨Nat.le_of_ble_eq_true rfl, .inl ⟨_, h0, cW.st (je.wS rfl hm)⟩⟩
    · exact ⟨Nat.le_of_ble_eq_true rfl, .inl ⟨_, r1, cW.bZ (bL _) (by rw [m1, an]) (fun q => q)⟩⟩
    · exact ⟨Nat.le_of_ble_eq_true rfl, .inl ⟨_, r2, cW.bZ (aT _) (by rw [m2, ae]) (fun q => q)⟩⟩
    · exact ⟨Nat.le_of_ble_eq_true rfl, .inl ⟨_, r3, cW.bZ (aT _) (by rw [m3, ae]) (fun q => q)⟩⟩
    · exact ⟨Nat.le_of_ble_eq_true rfl, .inl ⟨_, r4, cW.bZ (dJ _) (by rw [m4, aO]) (fun q => q)⟩⟩
    · exact ⟨Nat.le_of_ble_eq_true rfl, .inl ⟨_, r5, cW.bZ (aT _) (by rw [m5, ae]) (fun q => q)⟩⟩
    · exact ⟨Nat.le_of_ble_eq_true rfl, .inl ⟨_, r6, cW.bZ (bL _) (by rw [m6, an]) (fun q => q)⟩⟩
  · exact fun x hx y hy e => vp hd x.1 (List.mem_map_of_mem (f := Prod.fst) hx) y.1 (List.mem_map_of_mem (f := Prod.fst) hy) e
def RdP (v : AV) (R : Rd) : PK := fun u H' m => u = v ∧ H' = rdM R ∧ m = 13
theorem fl {u v : AV} {H : AH} {n : Nat} {R : Rd} (j1 j2 j3 j4 j5 j6 : Nat) {l l1 l2 l3 l4 l5 l6 : List AV} (hv : aX H 13 (rdN j1 j2 j3 j4 j5 j6) u v) (hd : [0, j1, j2, j3, j4, j5, j6].Nodup) (h0 : PM.get H 0 = some (.cells l true)) (hm : l.map mk = rdC j1 j2 j3 j4 j5 j6 R) (r1 : PM.get H j1 = some (.cells l1 true)) (m1 : l1.map mk = aq R.ks) (r2 : PM.get H j2 = some (.cells l2 true)) (m2 : l2.map mk = ints R.ts) (r3 : PM.get H j3 = some (.cells l3 true)) (m3 : l3.map mk = ints R.vs) (r4 : PM.get H j4 = some (.cells l4 true)) (m4 : l4.map mk = aS R.ls) (r5 : PM.get H j5 = some (.cells l5 true)) (m5 : l5.map mk = ints R.q.times) (r6 : PM.get H j6 = some (.cells l6 true)) (m6 : l6.map mk = aq R.fs) : ∃ v2 H2 m, Cov 7 (mkE [(0, u)]) H n (mkE [(0, v2)], H2, m) ∧ RdP v R v2 H2 m :=
  ⟨v, _, _, uD j1 j2 j3 j4 j5 j6 (le := [(0, v)]) (fun x hx => by
    simp only [List.mem_cons, List.not_mem_nil, or_false] at hx
    subst hx; exact hv) hd h0 hm r1 m1 r2 m2 r3 m3 r4 m4 r5 m5 r6 m6, rfl, rfl, rfl⟩
noncomputable def ry (H : AH) (n r k t v l q f : Nat) (R' : Rd) : AH := PM.set (some (.cells (rdC n (n + 1) (n + 2) (n + 3) (n + 4) (n + 5) R') true)) ab (PM.set none ab (PM.set none ab (PM.set none ab (PM.set none ab (PM.set none ab (PM.set none ab (PM.set (some (.cells (aq R'.ks) true)) ab (PM.set (some (.cells (ints R'.ts) true)) ab (PM.set (some (.cells (ints R'.vs) true)) ab (PM.set (some (.cells (aS R'.ls) true)) ab (PM.set (some (.cells (ints R'.q.times) true)) ab (PM.set (some (.cells (aq R'.fs) true)) ab H (n + 5)) (n + 4)) (n + 3)) (n + 2)) (n + 1)) n) f) q) l) v) t) k) r
def ba (ok : Rd → Prop) (A : List AV → Prop) (F : Rd → AV × Rd) (args : List AV) (H : AH) (n : Nat) (κ : PK) : Prop := match args with
  | x :: ar => ∃ (r k t v l q f : Nat) (R : Rd), x = .ptr r 0 ∧ A ar ∧ ux H n r k t v l q f R ∧ ok R ∧ κ (F R).1 (ry H n r k t v l q f (F R).2) (n + 6)
  | _ => False
theorem yY {r k t v l q f n : Nat} (R : Rd) : en (bw [r, k, t, v, l, q, f] n) (rdC 7 8 9 10 11 12 R) = rdC n (n + 1) (n + 2) (n + 3) (n + 4) (n + 5) R := rfl
theorem bh {f : FuncId} {run : List AV → AH → Nat → PK → Prop} (hrun : aA f run) (hic : dT Try.prog f = true) {ok : Rd → Prop} {A : List AV → Prop} {ar0 : List AV} {F : Rd → AV × Rd} (hA : ∀ ar, A ar → ∀ (φ : Ph) (vs : List Value), VRs φ ar vs → VRs φ ar0 vs) (har : ∀ r, en r ar0 = ar0)
    (hv : ∀ R, ltV 13 (F R).1 = true ∧ ∀ r, ren r (F R).1 = (F R).1) (h : ∀ R, ok R → dp run (.ptr 0 0 :: ar0) (mkH (c9 (rdO R) 0)) 7 (RdP (F R).1 (F R).2)) : aA f (ba ok A F) := fun args H n κ hs φ h0' hp vs K hr hargs hk => by
  unfold ba at hs
  split at hs
  · rename_i x ar
    obtain ⟨r, k, t, v, l, q, f, R, rfl, ha, hR, hok, hs⟩ := hs
    obtain ⟨v1, us, e1, e2, e3⟩ := hargs.cons_inv
    have hargs' : VRs φ (en (bw [r, k, t, v, l, q, f] n) (.ptr 0 0 :: ar0)) vs.toList := by
      show VRs φ (ren _ _ :: en _ ar0) vs.toList
      rw [har, e1]
      exact .cons e2 (hA ar ha φ us e3)
    refine rm (S := [r, k, t, v, l, q, f]) (O := rdO R) (args0 := .ptr 0 0 :: ar0) (aA.dp hrun) hic hr hR.Bg hargs' hk (h R hok) fun u H' n' ⟨g0, g1, g2⟩ => ?_
    subst g0 g1 g2
    refine ⟨13, lV [r, k, t, v, l, q, f] n H [(0, some (.cells (rdC 7 8 9 10 11 12 (F R).2) true)), (1, none), (2, none), (3, none), (4, none), (5, none), (6, none), (7, some (.cells (aq (F R).2.ks) true)), (8, some (.cells (ints (F R).2.ts) true)), (9, some (.cells (ints (F R).2.vs) true)), (10, some (.cells (aS (F R).2.ls) true)), (11, some (.cells (ints (F R).2.q.times) true)), (12, some (.cells (aq (F R).2.fs) true))], Nat.le_of_ble_eq_true rfl, jJ.put (Nat.le_of_ble_eq_true rfl) rfl (fun x hx o ho => ?_), (hv R).1, ?_⟩
    · simp only [List.mem_cons, List.not_mem_nil, or_false] at hx
      rcases hx with rfl | rfl | rfl | rfl | rfl | rfl | rfl | rfl | rfl | rfl | rfl | rfl | rfl
      · injection ho with ho; subst ho; exact ⟨rfl, rfl, rfl⟩
      · cases ho
      · cases ho
      · cases ho
      · cases ho
      · cases ho
      · cases ho
      · injection ho with ho; subst ho; exact ⟨rfl, rfl, cK _ _ (bL _)⟩
      · injection ho with ho; subst ho; exact ⟨rfl, rfl, cK _ _ (aT _)⟩
      · injection ho with ho; subst ho; exact ⟨rfl, rfl, cK _ _ (aT _)⟩
      · injection ho with ho; subst ho; exact ⟨rfl, rfl, cK _ _ (dJ _)⟩
      · injection ho with ho; subst ho; exact ⟨rfl, rfl, cK _ _ (aT _)⟩
      · injection ho with ho; subst ho; exact ⟨rfl, rfl, cK _ _ (bL _)⟩
    · rw [(hv R).2]
      have e : lV [r, k, t, v, l, q, f] n H [(0, some (.cells (rdC 7 8 9 10 11 12 (F R).2) true)), (1, none), (2, none), (3, none), (4, none), (5, none), (6, none), (7, some (.cells (aq (F R).2.ks) true)), (8, some (.cells (ints (F R).2.ts) true)), (9, some (.cells (ints (F R).2.vs) true)), (10, some (.cells (aS (F R).2.ls) true)), (11, some (.cells (ints (F R).2.q.times) true)), (12, some (.cells (aq (F R).2.fs) true))] = ry H n r k t v l q f (F R).2 := by
        simp only [lV, Option.map_some, Option.map_none, eK, yY, cp _ _ (bL _), cp _ _ (aT _), cp _ _ (dJ _)]
        rfl
      rw [e]; exact hs
  · exact hs.elim
end Go.Proofs.Ytckcicalbjmgbaa
namespace Go.Proofs.Ytckcicalbjmgbaa
open Go Go.RowKit
theorem s8 : RTy 25 25 1 16 := ⟨_, _, _, rfl, rfl, (fun q h => by cases h), rfl, rfl, rfl, rfl, by decide, by decide⟩
theorem uE : RTy 29 29 1 8 := ⟨_, _, _, rfl, rfl, (fun q h => by cases h), rfl, rfl, rfl, rfl, by decide, by decide⟩
theorem ie (L : List (List Nat)) : aV (aq L) 0 (L.length * 1) = some (aq L) := dg (by rw [gf, Nat.mul_one])
theorem dG (L : List Int) : aV (ints L) 0 (L.length * 1) = some (ints L) := dg (by rw [gd, Nat.mul_one])
theorem ig (L : List Int) (x : Int) : ints L ++ [.si .i64 x] = ints (L ++ [x]) := by simp [ints]
structure dZ (R R' : Rd) : Prop where
  ks : R'.ks = R.ks
  ts : R'.ts = R.ts
  vs : R'.vs = R.vs
  ls : R'.ls = R.ls
  q : R'.q = R.q
  fs : R'.fs = R.fs
theorem dZ.trans {A B C : Rd} (h : dZ A B) (k : dZ B C) : dZ A C := ⟨k.ks.trans h.ks, k.ts.trans h.ts, k.vs.trans h.vs, k.ls.trans h.ls, k.q.trans h.q, k.fs.trans h.fs⟩
theorem lY (R : Rd) (e : Int) : dZ R (cu R e) := by unfold cu; split <;> exact ⟨rfl, rfl, rfl, rfl, rfl, rfl⟩
theorem bj (R : Rd) : dZ R (aa R).2 := by
  unfold aa
  split
  · exact ⟨rfl, rfl, rfl, rfl, rfl, rfl⟩
  · exact lY R 14
theorem dK (g : List Nat → Int × Int) (R : Rd) : dZ R (ag g R).2 := by
  unfold ag
  dsimp only
  split
  · exact bj R
  · exact (bj R).trans (lY _ _)
theorem jz (w : List Nat) (z : Int) (R : Rd) : dZ R (orR w z R).2 := by
  unfold orR
  split
  · exact bj R
  · exact dK _ R
theorem WOk.or {R : Rd} (h : WOk R) (w : List Nat) (z : Int) : WOk (orR w z R).2 := by
  unfold orR
  split
  · exact h.next.2
  · exact h.told _
def aK (R : Rd) : Rd := { (aa R).2 with ks := (aa R).2.ks ++ [(aa R).1] }
noncomputable def bI (R : Rd) : Rd := { (orR [42] (-1) R).2 with ts := (orR [42] (-1) R).2.ts ++ [(orR [42] (-1) R).1] }
def c8 (R : Rd) : Rd := { (ag ak R).2 with vs := (ag ak R).2.vs ++ [(ag ak R).1] }
def az (f : Rd → Rd) (R : Rd) : AV × Rd := (.tup [], f R)
def uF : DT := [(0, [(some 1000000, [5, 7]), (none, [0, 1, 2, 3, 4, 5, 6, 7, 8, 9, 10, 11, 12, 13]), (none, [0, 1, 2, 3, 4, 6, 7, 5, 8, 9, 10, 11, 12, 13])])]
noncomputable def KKy : FuncId → EP := cw 53 uF (aB 73 (bo (fun _ => True) noA jj) evP)
theorem B6 : bu KKy := aF (ai aQ k9) (by kernel_rfl) (by kernel_rfl)
theorem wT (R : Rd) (hok : R.ks.length ≤ 1000000) : dp (ao KKy 4 53) (.ptr 0 0 :: []) (mkH (c9 (rdO R) 0)) 7 (RdP (az aK R).1 (az aK R).2) := by
  obtain ⟨X, hX⟩ : ∃ X, X = (aa R).2 := ⟨_, rfl⟩
  have hl : R.ks.length ≤ 1000000 := hok
  have hk : X.ks = R.ks := by rw [hX]; exact (bj R).ks
  have hlen1 : R.ks.length + 1 = (aK R).ks.length := by unfold aK; rw [← hX]; simp [hk]
  have hlen2 : X.ks.length + 1 = (aK R).ks.length := by rw [hk]; exact hlen1
  have hrow1 : aV (aq X.ks) 0 (R.ks.length * 1) = some (aq X.ks) := by rw [hk]; exact ie _
  have hrow2 : aV (aq X.ks) 0 (X.ks.length * 1) = some (aq X.ks) := ie _
  have hb1 : (R.ks.length + 1) * 16 ≤ 140737488355328 := by omega
  have hb2 : (X.ks.length + 1) * 16 ≤ 140737488355328 := by rw [hk]; omega
  have hm1 : lX 8 2 3 4 5 6 (R.ks.length + 1) (X.ts.length) (X.vs.length) (X.ls.length) (X.q.times.length) (X.fs.length) (aK R) = rdC 8 2 3 4 5 6 (aK R) := by rw [hlen1, hX]; rfl
  have hm2 : lX 8 2 3 4 5 6 (X.ks.length + 1) (X.ts.length) (X.vs.length) (X.ls.length) (X.q.times.length) (X.fs.length) (aK R) = rdC 8 2 3 4 5 6 (aK R) := by rw [hlen2, hX]; rfl
  have hc : (aq X.ks ++ [AV.ss (aa R).1]).map mk = aq (aK R).ks := by unfold aK; rw [pQ, an, ← hX]
  subst hX
  show ao KKy 4 53 _ _ _ _
  conv => whnf
  refine ⟨?_, ?_, trivial⟩
  · conv => whnf
    refine ⟨0, 1, 2, 3, 4, 5, 6, R, rfl, rfl, ⟨by decide, by decide, rfl, rfl, rfl, rfl, rfl, rfl, rfl⟩, trivial, ?_⟩
    conv => whnf
    refine gu.grow 1 16 _ _ _ _ _ _ s8 (.old rfl) rfl rfl (.rw rfl hrow1) hb1 ?_
    conv => whnf
    exact fl 8 2 3 4 5 6 (.same rfl) (by decide) rfl hm1 rfl hc rfl (ae _) rfl (ae _) rfl (aO _) rfl (ae _) rfl (an _)
  · conv => whnf
    refine ⟨0, 1, 2, 3, 4, 5, 6, R, rfl, rfl, ⟨by decide, by decide, rfl, rfl, rfl, rfl, rfl, rfl, rfl⟩, trivial, ?_⟩
    conv => whnf
    refine gu.grow 1 16 _ _ _ _ _ _ s8 (.old rfl) rfl rfl (.rw rfl hrow2) hb2 ?_
    conv => whnf
    exact fl 8 2 3 4 5 6 (.same rfl) (by decide) rfl hm2 rfl hc rfl (ae _) rfl (ae _) rfl (aO _) rfl (ae _) rfl (an _)
theorem rz : aA 53 (ba (fun R => R.ks.length ≤ 1000000) noA (az aK)) := bh (ax B6 4 _) (by kernel_rfl) cD (fun _ => rfl) (fun R => ⟨rfl, fun _ => rfl⟩) fun R h => wT R h
noncomputable def KTi : FuncId → EP := cw 69 uF (aB 77 (bo WOk (orA [42] (-1)) (orV [42] (-1))) evP)
theorem B7 : bu KTi := aF (ai aQ (Dg [42] (-1))) (by kernel_rfl) (by kernel_rfl)
theorem uG (R : Rd) (hok : WOk R ∧ R.ts.length ≤ 1000000) : dp (ao KTi 4 69) (.ptr 0 0 :: []) (mkH (c9 (rdO R) 0)) 7 (RdP (az bI R).1 (az bI R).2) := by
  obtain ⟨X, hX⟩ : ∃ X, X = (orR [42] (-1) R).2 := ⟨_, rfl⟩
  have hl : R.ts.length ≤ 1000000 := hok.2
  have hk : X.ts = R.ts := by rw [hX]; exact (jz [42] (-1) R).ts
  have hlen1 : R.ts.length + 1 = (bI R).ts.length := by unfold bI; rw [← hX]; simp [hk]
  have hlen2 : X.ts.length + 1 = (bI R).ts.length := by rw [hk]; exact hlen1
  have hrow1 : aV (ints X.ts) 0 (R.ts.length * 1) = some (ints X.ts) := by rw [hk]; exact dG _
  have hrow2 : aV (ints X.ts) 0 (X.ts.length * 1) = some (ints X.ts) := dG _
  have hb1 : (R.ts.length + 1) * 8 ≤ 140737488355328 := by omega
  have hb2 : (X.ts.length + 1) * 8 ≤ 140737488355328 := by rw [hk]; omega
  have hm1 : lX 1 8 3 4 5 6 (X.ks.length) (R.ts.length + 1) (X.vs.length) (X.ls.length) (X.q.times.length) (X.fs.length) (bI R) = rdC 1 8 3 4 5 6 (bI R) := by rw [hlen1, hX]; rfl
  have hm2 : lX 1 8 3 4 5 6 (X.ks.length) (X.ts.length + 1) (X.vs.length) (X.ls.length) (X.q.times.length) (X.fs.length) (bI R) = rdC 1 8 3 4 5 6 (bI R) := by rw [hlen2, hX]; rfl
  have hc : (ints X.ts ++ [AV.si .i64 (orR [42] (-1) R).1]).map mk = ints (bI R).ts := by unfold bI; rw [ig, ae, ← hX]
  subst hX
  show ao KTi 4 69 _ _ _ _
  conv => whnf
  refine ⟨?_, ?_, trivial⟩
  · conv => whnf
    refine ⟨0, 1, 2, 3, 4, 5, 6, R, rfl, ⟨_, _, rfl, rfl, rfl⟩, ⟨by decide, by decide, rfl, rfl, rfl, rfl, rfl, rfl, rfl⟩, hok.1, ?_⟩
    conv => whnf
    refine gu.grow 1 8 _ _ _ _ _ _ uE (.old rfl) rfl rfl (.rw rfl hrow1) hb1 ?_
    conv => whnf
    exact fl 1 8 3 4 5 6 (.same rfl) (by decide) rfl hm1 rfl (an _) rfl hc rfl (ae _) rfl (aO _) rfl (ae _) rfl (an _)
  · conv => whnf
    refine ⟨0, 1, 2, 3, 4, 5, 6, R, rfl, ⟨_, _, rfl, rfl, rfl⟩, ⟨by decide, by decide, rfl, rfl, rfl, rfl, rfl, rfl, rfl⟩, hok.1, ?_⟩
    conv => whnf
    refine gu.grow 1 8 _ _ _ _ _ _ uE (.old rfl) rfl rfl (.rw rfl hrow2) hb2 ?_
    conv => whnf
    exact fl 1 8 3 4 5 6 (.same rfl) (by decide) rfl hm2 rfl (an _) rfl hc rfl (ae _) rfl (aO _) rfl (ae _) rfl (an _)
theorem vq : aA 69 (ba (fun R => WOk R ∧ R.ts.length ≤ 1000000) noA (az bI)) := bh (ax B7 4 _) (by kernel_rfl) cD (fun _ => rfl) (fun R => ⟨rfl, fun _ => rfl⟩) fun R h => uG R h
noncomputable def KVa : FuncId → EP := cw 68 uF (aB 70 (bo WOk noA (aG ak)) evP)
theorem B8 : bu KVa := aF (ai aQ gI) (by kernel_rfl) (by kernel_rfl)
theorem wU (R : Rd) (hok : WOk R ∧ R.vs.length ≤ 1000000) : dp (ao KVa 4 68) (.ptr 0 0 :: []) (mkH (c9 (rdO R) 0)) 7 (RdP (az c8 R).1 (az c8 R).2) := by
  obtain ⟨X, hX⟩ : ∃ X, X = (ag ak R).2 := ⟨_, rfl⟩
  have hl : R.vs.length ≤ 1000000 := hok.2
  have hk : X.vs = R.vs := by rw [hX]; exact (dK ak R).vs
  have hlen1 : R.vs.length + 1 = (c8 R).vs.length := by unfold c8; rw [← hX]; simp [hk]
  have hlen2 : X.vs.length + 1 = (c8 R).vs.length := by rw [hk]; exact hlen1
  have hrow1 : aV (ints X.vs) 0 (R.vs.length * 1) = some (ints X.vs) := by rw [hk]; exact dG _
  have hrow2 : aV (ints X.vs) 0 (X.vs.length * 1) = some (ints X.vs) := dG _
  have hb1 : (R.vs.length + 1) * 8 ≤ 140737488355328 := by omega
  have hb2 : (X.vs.length + 1) * 8 ≤ 140737488355328 := by rw [hk]; omega
  have hm1 : lX 1 2 8 4 5 6 (X.ks.length) (X.ts.length) (R.vs.length + 1) (X.ls.length) (X.q.times.length) (X.fs.length) (c8 R) = rdC 1 2 8 4 5 6 (c8 R) := by rw [hlen1, hX]; rfl
  have hm2 : lX 1 2 8 4 5 6 (X.ks.length) (X.ts.length) (X.vs.length + 1) (X.ls.length) (X.q.times.length) (X.fs.length) (c8 R) = rdC 1 2 8 4 5 6 (c8 R) := by rw [hlen2, hX]; rfl
  have hc : (ints X.vs ++ [AV.si .i64 (ag ak R).1]).map mk = ints (c8 R).vs := by unfold c8; rw [ig, ae, ← hX]
  subst hX
  show ao KVa 4 68 _ _ _ _
  conv => whnf
  refine ⟨?_, ?_, trivial⟩
  · conv => whnf
    refine ⟨0, 1, 2, 3, 4, 5, 6, R, rfl, rfl, ⟨by decide, by decide, rfl, rfl, rfl, rfl, rfl, rfl, rfl⟩, hok.1, ?_⟩
    conv => whnf
    refine gu.grow 1 8 _ _ _ _ _ _ uE (.old rfl) rfl rfl (.rw rfl hrow1) hb1 ?_
    conv => whnf
    exact fl 1 2 8 4 5 6 (.same rfl) (by decide) rfl hm1 rfl (an _) rfl (ae _) rfl hc rfl (aO _) rfl (ae _) rfl (an _)
  · conv => whnf
    refine ⟨0, 1, 2, 3, 4, 5, 6, R, rfl, rfl, ⟨by decide, by decide, rfl, rfl, rfl, rfl, rfl, rfl, rfl⟩, hok.1, ?_⟩
    conv => whnf
    refine gu.grow 1 8 _ _ _ _ _ _ uE (.old rfl) rfl rfl (.rw rfl hrow2) hb2 ?_
    conv => whnf
    exact fl 1 2 8 4 5 6 (.same rfl) (by decide) rfl hm2 rfl (an _) rfl (ae _) rfl hc rfl (aO _) rfl (ae _) rfl (an _)
theorem yZ : aA 68 (ba (fun R => WOk R ∧ R.vs.length ≤ 1000000) noA (az c8)) := bh (ax B8 4 _) (by kernel_rfl) cD (fun _ => rfl) (fun R => ⟨rfl, fun _ => rfl⟩) fun R h => wU R h
end Go.Proofs.Ytckcicalbjmgbaa
namespace Go.Proofs.Ytckcicalbjmgbaa
open Go Go.RowKit
noncomputable def bJ (R : Rd) : Rd := c8 (bI (aK R))
def fN (f : Rd → Rd) : Nat → Rd → Rd
  | 0, R => R
  | k + 1, R => if aD R = true then fN f k (f R) else R
noncomputable def gJ (R : Rd) : Rd := fN bJ (bJ R).ws.length (bJ R)
theorem dC (R : Rd) : (aa R).2.ws.length ≤ R.ws.length ∧ (aD R = true → (aa R).2.ws.length < R.ws.length) := by
  unfold aa
  split
  · rename_i h
    have hp : 0 < R.ws.length := by unfold aD at h; simp at h; exact h.2
    exact ⟨by simp, fun _ => by simp; omega⟩
  · rename_i h
    exact ⟨by rw [k8]; exact Nat.le_refl _, fun q => absurd q h⟩
theorem la (g : List Nat → Int × Int) (R : Rd) : (ag g R).2.ws.length ≤ R.ws.length := by
  unfold ag
  dsimp only
  split
  · exact (dC R).1
  · rw [k8]; exact (dC R).1
theorem Bh (w : List Nat) (z : Int) (R : Rd) : (orR w z R).2.ws.length ≤ R.ws.length := by
  unfold orR
  split
  · exact (dC R).1
  · exact la _ R
theorem m7 (R : Rd) : (bJ R).ws.length ≤ R.ws.length ∧ (aD R = true → (bJ R).ws.length < R.ws.length) := by
  have h1 : (aK R).ws.length = (aa R).2.ws.length := rfl
  have h2 : (bI (aK R)).ws.length ≤ (aK R).ws.length := Bh [42] (-1) (aK R)
  have h3 : (bJ R).ws.length ≤ (bI (aK R)).ws.length := la ak (bI (aK R))
  have h4 := dC R
  exact ⟨by omega, fun h => by have := h4.2 h; omega⟩
theorem ow {R : Rd} (h : aD R = true) : 0 < R.ws.length := by unfold aD at h; simp at h; exact h.2
theorem s9 {f : Rd → Rd} (hf : ∀ R, aD R = true → (f R).ws.length < R.ws.length) : ∀ (k l : Nat) (R : Rd), R.ws.length ≤ k → R.ws.length ≤ l → fN f k R = fN f l R
  | 0, 0, R, _, _ => rfl
  | 0, l + 1, R, h, _ => by
    have : ¬ aD R = true := fun q => by have := ow q; omega
    unfold fN; rw [if_neg this]
  | k + 1, 0, R, _, h => by
    have : ¬ aD R = true := fun q => by have := ow q; omega
    unfold fN; rw [if_neg this]
  | k + 1, l + 1, R, h1, h2 => by
    unfold fN
    split
    · rename_i q
      have := hf R q
      exact s9 hf k l (f R) (by omega) (by omega)
    · rfl
theorem Ah {f : Rd → Rd} (hf : ∀ R, aD R = true → (f R).ws.length < R.ws.length) {R : Rd} (h : aD R = true) : fN f (f R).ws.length (f R) = fN f R.ws.length R := by
  have h1 := ow h
  have h2 := hf R h
  obtain ⟨k, hk⟩ : ∃ k, R.ws.length = k + 1 := ⟨R.ws.length - 1, by omega⟩
  rw [hk]
  conv => rhs; unfold fN
  rw [if_pos h]
  exact s9 hf _ _ _ (Nat.le_refl _) (by omega)
theorem pS {f : Rd → Rd} {R : Rd} (h : ¬ aD R = true) : ∀ k, fN f k R = R
  | 0 => rfl
  | k + 1 => by unfold fN; rw [if_neg h]
theorem tc (R : Rd) : (aK R).ks.length = R.ks.length + 1 ∧ (aK R).ts = R.ts ∧ (aK R).vs = R.vs := by
  have h := bj R
  refine ⟨?_, h.ts, h.vs⟩
  show ((aa R).2.ks ++ [(aa R).1]).length = _
  rw [h.ks]; simp
theorem pT (R : Rd) : (bI R).ts.length = R.ts.length + 1 ∧ (bI R).ks = R.ks ∧ (bI R).vs = R.vs := by
  have h := jz [42] (-1) R
  refine ⟨?_, h.ks, h.vs⟩
  show ((orR [42] (-1) R).2.ts ++ [(orR [42] (-1) R).1]).length = _
  rw [h.ts]; simp
theorem y0 (R : Rd) : (c8 R).vs.length = R.vs.length + 1 ∧ (c8 R).ks = R.ks ∧ (c8 R).ts = R.ts := by
  have h := dK ak R
  refine ⟨?_, h.ks, h.ts⟩
  show ((ag ak R).2.vs ++ [(ag ak R).1]).length = _
  rw [h.vs]; simp
theorem pU (R : Rd) : (bJ R).ks.length = R.ks.length + 1 ∧ (bJ R).ts.length = R.ts.length + 1 ∧ (bJ R).vs.length = R.vs.length + 1 := by
  have k := tc R
  have t := pT (aK R)
  have v := y0 (bI (aK R))
  refine ⟨?_, ?_, ?_⟩
  · show (c8 (bI (aK R))).ks.length = _; rw [v.2.1, t.2.1, k.1]
  · show (c8 (bI (aK R))).ts.length = _; rw [v.2.2, t.1, k.2.1]
  · show (c8 (bI (aK R))).vs.length = _; rw [v.1, t.2.2, k.2.2]
theorem WOk.key {R : Rd} (h : WOk R) : WOk (aK R) := h.next.2
theorem WOk.time {R : Rd} (h : WOk R) : WOk (bI R) := h.or [42] (-1)
theorem WOk.val {R : Rd} (h : WOk R) : WOk (c8 R) := h.told ak
theorem WOk.mJ {R : Rd} (h : WOk R) : WOk (bJ R) := h.key.time.val
def Bd (B : Nat) (R : Rd) : Prop := WOk R ∧ R.ks.length + R.ws.length ≤ B ∧ R.ts.length + R.ws.length ≤ B ∧ R.vs.length + R.ws.length ≤ B
theorem Bd.mJ {B : Nat} {R : Rd} (h : Bd B R) : Bd (B + 1) (bJ R) ∧ (aD R = true → Bd B (bJ R)) := by
  have r := pU R
  have w := m7 R
  obtain ⟨h0, h1, h2, h3⟩ := h
  exact ⟨⟨h0.mJ, by omega, by omega, by omega⟩, fun q => by have := w.2 q; exact ⟨h0.mJ, by omega, by omega, by omega⟩⟩
noncomputable def KSa : FuncId → EP := aB 53 (ba (fun R => R.ks.length ≤ 1000000) noA (az aK)) (aB 69 (ba (fun R => WOk R ∧ R.ts.length ≤ 1000000) noA (az bI)) (aB 68 (ba (fun R => WOk R ∧ R.vs.length ≤ 1000000) noA (az c8)) evP))
theorem B9 : bu KSa := ai (ai (ai aQ yZ) vq) rz
theorem td (R : Rd) (hok : Bd 900000 R) : dp (ao KSa 4 67) (.ptr 0 0 :: []) (mkH (c9 (rdO R) 0)) 7 (RdP (az bJ R).1 (az bJ R).2) := by
  obtain ⟨h0, h1, h2, h3⟩ := hok
  have k := tc R
  have t := pT (aK R)
  have b1 : R.ks.length ≤ 1000000 := by omega
  have b2 : (aK R).ts.length ≤ 1000000 := by rw [k.2.1]; omega
  have b3 : (bI (aK R)).vs.length ≤ 1000000 := by rw [t.2.2, k.2.2]; omega
  show ao KSa 4 67 _ _ _ _
  conv => whnf
  refine ⟨0, 1, 2, 3, 4, 5, 6, R, rfl, rfl, ⟨by decide, by decide, rfl, rfl, rfl, rfl, rfl, rfl, rfl⟩, b1, ?_⟩
  conv => whnf
  refine ⟨0, 7, 8, 9, 10, 11, 12, aK R, rfl, rfl, ⟨by decide, by decide, rfl, rfl, rfl, rfl, rfl, rfl, rfl⟩, ⟨h0.key, b2⟩, ?_⟩
  conv => whnf
  refine ⟨0, 13, 14, 15, 16, 17, 18, bI (aK R), rfl, rfl, ⟨by decide, by decide, rfl, rfl, rfl, rfl, rfl, rfl, rfl⟩, ⟨h0.key.time, b3⟩, ?_⟩
  conv => whnf
  exact fl 19 20 21 22 23 24 (.same rfl) (by decide) rfl rfl rfl (an _) rfl (ae _) rfl (ae _) rfl (aO _) rfl (ae _) rfl (an _)
theorem te : aA 67 (ba (Bd 900000) noA (az bJ)) := bh (ax B9 4 _) (by kernel_rfl) cD (fun _ => rfl) (fun R => ⟨rfl, fun _ => rfl⟩) fun R h => td R h
noncomputable def KMa : FuncId → EP := aB 67 (ba (Bd 900000) noA (az bJ)) evP
theorem Ca : bu KMa := ai aQ te
noncomputable def rdS (R : Rd) : AE × AH := (mkE [(0, .ptr 0 0)], rdM R)
theorem eY {σ : AE} {H : AH} {n : Nat} {R : Rd} (j1 j2 j3 j4 j5 j6 : Nat) {l l1 l2 l3 l4 l5 l6 : List AV} (he : aC (pa 0) σ = .ptr 0 0) (hd : [0, j1, j2, j3, j4, j5, j6].Nodup) (h0 : PM.get H 0 = some (.cells l true)) (hm : l.map mk = rdC j1 j2 j3 j4 j5 j6 R) (r1 : PM.get H j1 = some (.cells l1 true)) (m1 : l1.map mk = aq R.ks) (r2 : PM.get H j2 = some (.cells l2 true)) (m2 : l2.map mk = ints R.ts) (r3 : PM.get H j3 = some (.cells l3 true)) (m3 : l3.map mk = ints R.vs) (r4 : PM.get H j4 = some (.cells l4 true)) (m4 : l4.map mk = aS R.ls) (r5 : PM.get H j5 = some (.cells l5 true)) (m5 : l5.map mk = ints R.q.times) (r6 : PM.get H j6 = some (.cells l6 true)) (m6 : l6.map mk = aq R.fs) : Cov 7 σ H n ((rdS R).1, (rdS R).2, 13) :=
  uD j1 j2 j3 j4 j5 j6 (le := [(0, .ptr 0 0)]) (fun x hx => by
    simp only [List.mem_cons, List.not_mem_nil, or_false] at hx
    subst hx
    exact aX.ptr (Nat.le_of_ble_eq_true rfl) (by rw [he]; rfl)) hd h0 hm r1 m1 r2 m2 r3 m3 r4 m4 r5 m5 r6 m6
theorem wV (R : Rd) (hok : Bd 800000 R) : dp (ao KMa 4 47) (.ptr 0 0 :: []) (mkH (c9 (rdO R) 0)) 7 (RdP (az gJ R).1 (az gJ R).2) := by
  have hs := hok.mJ.1
  have leaf : ∀ {R' : Rd} {H' : AH} {n' : Nat} {l : List AV}, gJ R = R' → PM.get H' 0 = some (.cells l true) → l.map mk = rdC 7 8 9 10 11 12 R' → PM.get H' 7 = some (.cells (aq R'.ks) true) → PM.get H' 8 = some (.cells (ints R'.ts) true) → PM.get H' 9 = some (.cells (ints R'.vs) true) → PM.get H' 10 = some (.cells (aS R'.ls) true) → PM.get H' 11 = some (.cells (ints R'.q.times) true) → PM.get H' 12 = some (.cells (aq R'.fs) true) → ∃ v2 H2 m, Cov 7 (mkE [(0, .tup [])]) H' n' (mkE [(0, v2)], H2, m) ∧ RdP (az gJ R).1 (az gJ R).2 v2 H2 m := fun e h0 hm r1 r2 r3 r4 r5 r6 => by
    unfold az; rw [e]
    exact fl 7 8 9 10 11 12 (.same rfl) (by decide) h0 hm r1 (an _) r2 (ae _) r3 (ae _) r4 (aO _) r5 (ae _) r6 (an _)
  show ao KMa 4 47 _ _ _ _
  conv => whnf
  refine ⟨0, 1, 2, 3, 4, 5, 6, R, rfl, rfl, ⟨by decide, by decide, rfl, rfl, rfl, rfl, rfl, rfl, rfl⟩, ⟨hok.1, by have := hok.2.1; omega, by have := hok.2.2.1; omega, by have := hok.2.2.2; omega⟩, ?_⟩
  conv => whnf
  refine cV.mk { X : Rd // Bd 800001 X ∧ fN bJ X.ws.length X = gJ R } 13 (fun X => rdS X.val) (fun X => X.val.ws.length) ⟨bJ R, hs, rfl⟩ ?_ ?_
  · exact eY 7 8 9 10 11 12 rfl (by decide) rfl rfl rfl (an _) rfl (ae _) rfl (ae _) rfl (aO _) rfl (ae _) rfl (an _)
  · intro ⟨X, hB, hX⟩
    conv => whnf
    refine ah.dec (fun h0 => ?_) (fun h0 => ?_)
    · conv => whnf
      refine ah.dec (fun hp => ?_) (fun hp => ?_)
      · have hp : 0 < X.ws.length := by exact Int.ofNat_lt.1 hp
        have hm := cz h0 hp
        have hg := (Ah (f := bJ) (fun R q => (m7 R).2 q) hm).trans hX
        have hb := hB.mJ.2 hm
        have hlt := (m7 X).2 hm
        conv => whnf
        refine ⟨0, 7, 8, 9, 10, 11, 12, X, rfl, rfl, ⟨by decide, by decide, rfl, rfl, rfl, rfl, rfl, rfl, rfl⟩, ⟨hB.1, by have := hB.2.1; omega, by have := hB.2.2.1; omega, by have := hB.2.2.2; omega⟩, ?_⟩
        conv => whnf
        exact ⟨⟨bJ X, hb, hg⟩, hlt, eY 13 14 15 16 17 18 rfl (by decide) rfl rfl rfl (an _) rfl (ae _) rfl (ae _) rfl (aO _) rfl (ae _) rfl (an _)⟩
      · have hp : ¬ 0 < X.ws.length := fun q => hp (by exact Int.ofNat_lt.2 q)
        have e : gJ R = X := by rw [← hX, pS (cB hp)]
        conv => whnf
        exact leaf e rfl rfl rfl rfl rfl rfl rfl rfl
    · have e : gJ R = X := by rw [← hX, pS (cA h0)]
      conv => whnf
      exact leaf e rfl rfl rfl rfl rfl rfl rfl rfl
theorem Cb : aA 47 (ba (Bd 800000) noA (az gJ)) := bh (ax Ca 4 _) (by kernel_rfl) cD (fun _ => rfl) (fun R => ⟨rfl, fun _ => rfl⟩) fun R h => wV R h
end Go.Proofs.Ytckcicalbjmgbaa
namespace Go.Proofs.Ytckcicalbjmgbaa
open Go Go.RowKit
theorem HR.Dh {φ : Ph} {H : AH} {n : Nat} {h0 h : Hp} (hr : HR φ H n h0 h) {b m k x : Nat} {l s : List AV} {z : Bool} {v : Value} (hb : H.get b = some (.cells l z)) (hv : VR φ (.rw b 0 m k x) v) (hx : x ≠ 4) (hs : s.all flat.flat1 = true) (hsl : s.length = m * k) (hmk : l.map Go.Proofs.Ytckcicalbjmgbaa.mk = s.map Go.Proofs.Ytckcicalbjmgbaa.mk) :
    ∃ χ, PLe φ χ ∧ HR χ (H.set none ab b) n h0 h ∧ VR χ (.fr m k s) v := by
  have hk := hr.kill ab b
  have hll : l.length = m * k := by have := congrArg List.length hmk; simp only [List.length_map] at this; omega
  have hst : s.all ed = true := by
    rw [List.all_eq_true] at hs ⊢
    intro y hy
    have := hs y hy
    cases y <;> first | rfl | cases this
  rcases hv.eW with ⟨h1, hem⟩ | ⟨p, a, C, hpb, rfl, h2, h3, h4, h5, _, _⟩
  · have hs0 : s = [] := List.eq_nil_of_length_eq_zero (by rw [hsl, h1, Nat.zero_mul])
    subst h1 hs0
    rw [hem.nil hx]
    exact ⟨φ, .refl φ, hk, .fre fun _ => rfl⟩
  · by_cases hm : m = 0
    · have hs0 : s = [] := List.eq_nil_of_length_eq_zero (by rw [hsl, hm, Nat.zero_mul])
      subst hm hs0
      exact ⟨φ, .refl φ, hk, .fre fun q => by cases q⟩
    · have ha := h2 hm
      subst ha
      obtain ⟨ob, hq0, hq1, cc, t, fz, rfl, o1, o2, o3, o4, o5⟩ := hr.of hb hpb
      refine ⟨φ.more fun q => q = ⟨p.B, p.s + 0, s⟩, φ.mV _, hk.more fun q hq => ?_, ?_⟩
      · subst hq
        refine ⟨⟨⟨(hr.dom _ _ hpb).2, hst⟩, cc, t, fz, hq1, (show p.s + 0 + s.length ≤ cc.size by omega), CR.z8 o5 hmk hs⟩, hq0, fun b' o' p' e1 e2 e3 e4 => ?_⟩
        rcases PM.aH ab H b b' o' e1 with ⟨_, h⟩ | ⟨h6, h7⟩
        · cases h
        · exact h6 (hr.inj b' b o' _ p' p h7 hb e2 rfl e3 hpb e4)
      · have : VR (φ.more fun q => q = ⟨p.B, p.s + 0, s⟩) (.fr m k s) (.slice (some ⟨p.B, p.s + 0 + 0, none⟩) m C) := .fr (q := ⟨p.B, p.s + 0, s⟩) (o := 0) (.inr rfl) h4 (dg hsl)
        exact this
theorem VRs.at' {φ : Ph} : ∀ {l : List AV} {vs : List Value}, VRs φ l vs → ∀ {i : Nat} {a : AV}, l[i]? = some a → ∃ v, vs[i]? = some v ∧ VR φ a v
  | [], _, _, i, a, h => by simp at h
  | b :: l, vs, hv, i, a, h => by
    obtain ⟨v, us, rfl, h1, h2⟩ := hv.cons_inv
    cases i with
    | zero => simp at h; subst h; exact ⟨v, rfl, h1⟩
    | succ i => simp at h; obtain ⟨w, h3, h4⟩ := VRs.at' h2 h; exact ⟨w, by simpa using h3, h4⟩
theorem VRs.Di {φ χ : Ph} (hle : SLe φ χ) : ∀ {l : List AV} {vs : List Value}, VRs φ l vs → ∀ {i : Nat} {a' : AV} {v : Value}, vs[i]? = some v → VR χ a' v → VRs χ (l.set i a') vs
  | [], _, hv, i, a', v, h, _ => by rw [hv.aI] at h; simp at h
  | b :: l, vs, hv, i, a', v, h, hx => by
    obtain ⟨w, us, rfl, h1, h2⟩ := hv.cons_inv
    cases i with
    | zero => simp at h; subst h; exact .cons hx (VRs.cO hle _ _ h2)
    | succ i => simp at h; exact .cons (h1.cO hle) (VRs.Di hle h2 h hx)
theorem wW.lZ {H : AH} {n i b m k : Nat} {l L s : List AV} {x : AV} {z : Bool} (hi : l[i]? = some (.rw b 0 m k 0)) (hb : H.get b = some (.cells L z)) (hs : s.all flat.flat1 = true) (hsl : s.length = m * k) (hmk : L.map mk = s.map mk) :
    ∀ (φ : Ph) (h0 h : Hp) (w : Value), HR φ H n h0 h → VR φ (.tup [.agg l, x]) w → ∃ ψ, PLe φ ψ ∧ HR ψ (H.set none ab b) n h0 h ∧ VR ψ (.tup [.agg (l.set i (.fr m k s)), x]) w := fun φ h0 h w hr hw => by
  obtain ⟨cs, rfl, hv⟩ := hw.dA
  obtain ⟨v1, v2, rfl, e1, e2⟩ := vs2 hv
  obtain ⟨ds, rfl, hd⟩ := e1.dz
  obtain ⟨v, h1, h2⟩ := VRs.at' hd hi
  obtain ⟨χ, k1, k2, k3⟩ := hr.Dh hb h2 (by decide) hs hsl hmk
  exact ⟨χ, k1, k2, .tup (.cons (.agg (VRs.Di k1.s hd h1 k3)) (.cons (e2.cO k1.s) .nil))⟩
end Go.Proofs.Ytckcicalbjmgbaa
namespace Go.Proofs.Ytckcicalbjmgbaa
open Go Go.RowKit
def EB : AV → Bool
  | .tup [.agg l, x] => l.all ed && ed x
  | v => ed v
theorem oz {φ ψ : Ph} (hz : ∀ q, φ.z q → ψ.z q) : ∀ {l : List AV} {vs : List Value}, l.all ed = true → VRs φ l vs → VRs ψ l vs
  | [], _, _, h => by rw [h.aI]; exact .nil
  | a :: l, vs, hs, h => by
    obtain ⟨v, us, rfl, h1, h2⟩ := h.cons_inv
    simp only [List.all_cons, Bool.and_eq_true] at hs
    exact .cons (fi hz hs.1 h1) (oz hz hs.2 h2)
theorem y1 {φ ψ : Ph} (hz : ∀ q, φ.z q → ψ.z q) {l : List AV} {x : AV} {w : Value} (hl : l.all ed = true) (hx : ed x = true) (h : VR φ (.tup [.agg l, x]) w) : VR ψ (.tup [.agg l, x]) w := by
  obtain ⟨cs, rfl, hv⟩ := h.dA
  obtain ⟨v1, v2, rfl, e1, e2⟩ := vs2 hv
  obtain ⟨ds, rfl, hd⟩ := e1.dz
  exact .tup (.cons (.agg (oz hz hl hd)) (.cons (fi hz hx e2) .nil))
def oX : List (Nat × List Nat) := [(1, [84, 83, 46, 67, 82, 69, 65, 84, 69]), (2, [84, 83, 46, 65, 76, 84, 69, 82]), (3, [84, 83, 46, 65, 68, 68]), (4, [84, 83, 46, 77, 65, 68, 68]), (5, [84, 83, 46, 73, 78, 67, 82, 66, 89]), (6, [84, 83, 46, 68, 69, 67, 82, 66, 89]), (7, [84, 83, 46, 68, 69, 76]), (8, [68, 69, 76]), (9, [84, 83, 46, 67, 82, 69, 65, 84, 69, 82, 85, 76, 69]), (10, [84, 83, 46, 68, 69, 76, 69, 84, 69, 82, 85, 76, 69]), (11, [84, 83, 46, 71, 69, 84]), (12, [84, 83, 46, 77, 71, 69, 84]), (13, [84, 83, 46, 82, 65, 78, 71, 69]), (14, [84, 83, 46, 77, 82, 65, 78, 71, 69]), (15, [84, 83, 46, 81, 85, 69, 82, 89, 73, 78, 68, 69, 88]), (16, [84, 83, 46, 73, 78, 70, 79])]
def gz : List (Nat × List Nat) := [(13, [84, 83, 46, 82, 69, 86, 82, 65, 78, 71, 69]), (14, [84, 83, 46, 77, 82, 69, 86, 82, 65, 78, 71, 69])]
def uH (args : List AV) (H : AH) (n : Nat) (κ : PK) : Prop := match args with
  | [x, y] => ∃ (b : Nat) (N : List (Nat × List Nat)) (w : List Nat) (k : Nat), mk x = .ss w ∧ y = .map b ∧ b < n ∧ H.get b = some (.map (dY N)) ∧ gx N = true ∧ (∀ c ∈ w, c < 256) ∧ w.length ≤ 1000000 ∧ whF N (upF w) = k ∧ κ (.si .i64 (Int.ofNat k)) H n
  | _ => False
theorem y2 : aA 23 uH := fun args H n κ hs => vk args H n κ (by
  unfold uH at hs
  unfold yF
  split at hs
  · obtain ⟨b, N, w, k, h1, h2, h3, h4, h5, h6, h7, h8, h9⟩ := hs
    subst h8
    exact ⟨b, N, w, h1, h2, h3, h4, h5, h6, h7, h9⟩
  · exact hs.elim)
def noQ : Qry := ⟨0, 0, false, 0, 0, 0, 0, false, [], false, 0, 0⟩
def fS (ws : List (List Nat)) (k : Int) (b : Bool) : Rd := ⟨ws, 0, k, [], [], [], -1, -1, 0, [], false, 0, 0, 0, 0, 0, { noQ with back := b }, [], [], 0⟩
def Ai (R : Rd) : List AV := .fr R.ws.length 1 (aq R.ws) :: .si .i64 R.e :: cmC .nsl .nsl .nsl .nsl .nsl .nsl R
inductive NR : List AV → List AV → Prop where
  | nil : NR [] []
  | same (a : AV) {l m : List AV} (h : NR l m) : NR (a :: l) (a :: m)
  | row (b k : Nat) {l m : List AV} (h : NR l m) : NR (.nsl :: l) (.rw b 0 0 k 0 :: m)
theorem NR.at : ∀ {l0 l1 : List AV}, NR l0 l1 → ∀ {l : List AV}, l.map Go.Proofs.Ytckcicalbjmgbaa.mk = l0 → ∀ (φ : Ph) (i : Nat) (a' : AV), l1[i]? = some a' → ∃ a, l[i]? = some a ∧ ∀ v, VR φ a v → VR φ a' v
  | _, _, .nil, l, e, φ, i, a', h => by simp at h
  | _, _, .same a hn, l, e, φ, i, a', h => by
    cases l with
    | nil => cases e
    | cons x l =>
      simp only [List.map_cons, List.cons.injEq] at e
      cases i with
      | zero => simp at h; subst h; exact ⟨x, rfl, fun v hv => by rw [← e.1]; exact hv.mk⟩
      | succ i => simp at h; obtain ⟨y, h1, h2⟩ := NR.at hn e.2 φ i a' h; exact ⟨y, by simpa using h1, h2⟩
  | _, _, .row b k hn, l, e, φ, i, a', h => by
    cases l with
    | nil => cases e
    | cons x l =>
      simp only [List.map_cons, List.cons.injEq] at e
      cases i with
      | zero =>
        simp at h; subst h
        refine ⟨x, rfl, fun v hv => ?_⟩
        have h1 := hv.mk
        rw [e.1] at h1
        rw [h1.cG]
        (try simp only [VR]); exact .inl ⟨trivial, .inl rfl⟩
      | succ i => simp at h; obtain ⟨y, h1, h2⟩ := NR.at hn e.2 φ i a' h; exact ⟨y, by simpa using h1, h2⟩
noncomputable def Dj (H : AH) (n r : Nat) (R : Rd) : AH := PM.set (some (.cells (rdC n (n + 1) (n + 2) (n + 3) (n + 4) (n + 5) R) true)) ab (PM.set (some (.cells [] true)) ab (PM.set (some (.cells [] true)) ab (PM.set (some (.cells [] true)) ab (PM.set (some (.cells [] true)) ab (PM.set (some (.cells [] true)) ab (PM.set (some (.cells [] true)) ab H n) (n + 1)) (n + 2)) (n + 3)) (n + 4)) (n + 5)) r
theorem Aj (ws : List (List Nat)) (k : Int) (b : Bool) (n : Nat) : NR (Ai (fS ws k b)) (rdC n (n + 1) (n + 2) (n + 3) (n + 4) (n + 5) (fS ws k b)) :=
  .same _ (.same _ (.same _ (.row _ _ (.row _ _ (.row _ _ (.same _ (.same _ (.same _ (.row _ _ (.same _ (.same _ (.same _ (.same _ (.same _ (.same _ (.same _ (.same _ (.same _ (.same _ (.same _ (.same _ (.same _ (.same _ (.row _ _ (.same _ (.same _ (.same _ (.row _ _ (.same _ (.same _ .nil))))))))))))))))))))))))))))))
theorem bX.reader {H : AH} {n r : Nat} {l : List AV} {ws : List (List Nat)} {k : Int} {b : Bool} (hr : H.get r = some (.cells l true)) (hl : l.map Go.Proofs.Ytckcicalbjmgbaa.mk = Ai (fS ws k b)) (hrn : r < n) (hn : n + 10 < 2 ^ 40) : bX H n (Dj H n r (fS ws k b)) (n + 6) := fun φ h0 h h1 => by
  have a1 := h1.jx (o := .cells [] true) rfl
  have a2 := a1.jx (o := .cells [] true) rfl
  have a3 := a2.jx (o := .cells [] true) rfl
  have a4 := a3.jx (o := .cells [] true) rfl
  have a5 := a4.jx (o := .cells [] true) rfl
  have a6 := a5.jx (o := .cells [] true) rfl
  have g1 := PM.aw (v := some (AO.cells [] true)) ab _ n r (by show n + 1 < 2 ^ 40; omega) (by omega) hr
  have g2 := PM.aw (v := some (AO.cells [] true)) ab _ (n + 1) r (by show n + 1 + 1 < 2 ^ 40; omega) (by omega) g1
  have g3 := PM.aw (v := some (AO.cells [] true)) ab _ (n + 2) r (by show n + 2 + 1 < 2 ^ 40; omega) (by omega) g2
  have g4 := PM.aw (v := some (AO.cells [] true)) ab _ (n + 3) r (by show n + 3 + 1 < 2 ^ 40; omega) (by omega) g3
  have g5 := PM.aw (v := some (AO.cells [] true)) ab _ (n + 4) r (by show n + 4 + 1 < 2 ^ 40; omega) (by omega) g4
  have g6 := PM.aw (v := some (AO.cells [] true)) ab _ (n + 5) r (by show n + 5 + 1 < 2 ^ 40; omega) (by omega) g5
  exact a6.yz g6 (by have := congrArg List.length hl; rw [List.length_map] at this; rw [this]; rfl) fun i a' hi => (Aj ws k b n).at hl φ i a' hi
end Go.Proofs.Ytckcicalbjmgbaa
namespace Go.Proofs.Ytckcicalbjmgbaa
open Go Go.RowKit
def jK (es : List (AV × AV)) (args : List AV) (H : AH) (n : Nat) (κ : PK) : Prop := match args with
  | [] => κ (.map n) (H.set (some (.map es)) ab n) (n + 1)
  | _ => False
theorem oC {f : FuncId} {es : List (AV × AV)} (hic : dT Try.prog f = true) (hren : ∀ r, uu r es = es) (hlt : ltE 1 es = true) (h : ∀ Q : PK, ao evP 3 f [] .nil 0 Q = Q (.map 0) (mkH [(0, .map es)]) 1) : aA f (jK es) := fun args H n κ hs φ h0' hp vs K hr hargs hk => by
  unfold jK at hs
  split at hs
  · refine rm (S := []) (O := []) (args0 := []) (ax aQ 3 _) hic hr ⟨List.nodup_nil, rfl, fun i s o h1 h2 => by simp at h1⟩ hargs hk (Q := fun u H' n' => u = .map 0 ∧ H' = mkH [(0, .map es)] ∧ n' = 1) ((h _).mpr ⟨rfl, rfl, rfl⟩) fun u H' n' ⟨g0, g1, g2⟩ => ?_
    subst g0 g1 g2
    refine ⟨1, lV [] n H [(0, some (.map es))], Nat.zero_le _, jJ.put (Nat.zero_le _) rfl (fun x hx o ho => ?_), rfl, ?_⟩
    · simp only [List.mem_cons, List.not_mem_nil, or_false] at hx
      subst hx
      injection ho with ho; subst ho; exact ⟨rfl, rfl, hlt⟩
    · have e : lV [] n H [(0, some (.map es))] = H.set (some (.map es)) ab n := by
        simp only [lV, Option.map_some, eK, hren]
        rfl
      rw [e]; exact hs
  · exact hs.elim
def Dk : List (AV × AV) := [(.int .i64 1, .fn 45 [] []), (.int .i64 2, .fn 45 [] []), (.int .i64 3, .fn 46 [] []), (.int .i64 4, .fn 47 [] []), (.int .i64 5, .fn 48 [] []), (.int .i64 6, .fn 48 [] []), (.int .i64 7, .fn 49 [] []), (.int .i64 8, .fn 50 [] []), (.int .i64 9, .fn 51 [] []), (.int .i64 10, .fn 52 [] []), (.int .i64 11, .fn 53 [] []), (.int .i64 12, .fn 54 [] []), (.int .i64 13, .fn 55 [] []), (.int .i64 14, .fn 56 [] []), (.int .i64 15, .fn 57 [] []), (.int .i64 16, .fn 53 [] [])]
theorem vr : aA 24 (jK (dY oX)) := oC (by kernel_rfl) (fun r => jh r _) (mX 1 _) (fun Q => by kernel_rfl)
theorem y3 : aA 25 (jK (dY gz)) := oC (by kernel_rfl) (fun r => jh r _) (mX 1 _) (fun Q => by kernel_rfl)
theorem Ak : aA 26 (jK Dk) := oC (by kernel_rfl) (fun r => rfl) rfl (fun Q => by kernel_rfl)
end Go.Proofs.Ytckcicalbjmgbaa
namespace Go.Proofs.Ytckcicalbjmgbaa
open Go Go.RowKit
def cmF (R : Rd) : List AV := cmC (.fr R.ks.length 1 (aq R.ks)) (.fr R.ts.length 1 (ints R.ts)) (.fr R.vs.length 1 (ints R.vs)) (.fr R.ls.length 2 (aS R.ls)) (.fr R.q.times.length 1 (ints R.q.times)) (.fr R.fs.length 1 (aq R.fs)) R
def ec : Rd := ⟨[], 0, 0, [], [], [], 0, 0, 0, [], false, 0, 0, 0, 0, 0, noQ, [], [], 0⟩
def dM (R : Rd) : Rd := if aD R = true then cu R 14 else R
def kp (R : Rd) : AV := .tup [.agg (cmF (if R.e = 0 then R else ec)), .si .i64 R.e]
inductive NF : List AV → List AV → Prop where
  | nil : NF [] []
  | same (a : AV) {l m : List AV} (h : NF l m) : NF (a :: l) (a :: m)
  | row (k : Nat) {l m : List AV} (h : NF l m) : NF (.nsl :: l) (.fr 0 k [] :: m)
theorem NF.vrs {φ : Ph} : ∀ {l0 l1 : List AV}, NF l0 l1 → ∀ {l : List AV}, l.map Go.Proofs.Ytckcicalbjmgbaa.mk = l0 → ∀ {vs : List Value}, VRs φ l vs → VRs φ l1 vs
  | _, _, .nil, l, e, vs, h => by
    cases l with
    | nil => exact h
    | cons _ _ => cases e
  | _, _, .same a hn, l, e, vs, h => by
    cases l with
    | nil => cases e
    | cons x l =>
      simp only [List.map_cons, List.cons.injEq] at e
      obtain ⟨v, us, rfl, h1, h2⟩ := h.cons_inv
      exact .cons (by rw [← e.1]; exact h1.mk) (NF.vrs hn e.2 h2)
  | _, _, .row k hn, l, e, vs, h => by
    cases l with
    | nil => cases e
    | cons x l =>
      simp only [List.map_cons, List.cons.injEq] at e
      obtain ⟨v, us, rfl, h1, h2⟩ := h.cons_inv
      refine .cons ?_ (NF.vrs hn e.2 h2)
      have h3 := h1.mk
      rw [e.1] at h3
      rw [h3.cG]; exact .fre fun _ => rfl
theorem Cc {φ : Ph} {l l1 : List AV} {x : AV} {z : Int} (h : NF (l.map Go.Proofs.Ytckcicalbjmgbaa.mk) l1) (hx : Go.Proofs.Ytckcicalbjmgbaa.mk x = .si .i64 z) {w : Value} (hw : VR φ (.tup [.agg l, x]) w) : VR φ (.tup [.agg l1, .si .i64 z]) w := by
  obtain ⟨cs, rfl, hv⟩ := hw.dA
  obtain ⟨v1, v2, rfl, e1, e2⟩ := vs2 hv
  obtain ⟨ds, rfl, hd⟩ := e1.dz
  exact .tup (.cons (.agg (h.vrs rfl hd)) (.cons (by have := e2.mk; rw [hx] at this; exact this) .nil))
def FzT (u : AV) (H : AH) (n : Nat) (v : AV) : Prop := ∀ (φ : Ph) (h0 h : Hp) (w : Value), HR φ H n h0 h → VR φ u w → ∃ ψ, PLe φ ψ ∧ (∃ H2, HR ψ H2 n h0 h) ∧ VR ψ v w
def Bi (g : List AV → AH → Nat → PK → Prop) (args : List AV) (H : AH) (n : Nat) (Q : AV → Prop) : Prop := g args H n fun u H' n' => ∃ v, FzT u H' n' v ∧ Q v
theorem FzT.zero {l : List AV} {x : AV} {H : AH} {n : Nat} {R : Rd} (he : ¬ R.e = 0) (h : NF (l.map Go.Proofs.Ytckcicalbjmgbaa.mk) (cmF ec)) (hx : Go.Proofs.Ytckcicalbjmgbaa.mk x = .si .i64 R.e) : FzT (.tup [.agg l, x]) H n (kp R) := fun φ h0 h1 w hr hw => ⟨φ, .refl φ, ⟨H, hr⟩, by
  unfold kp; rw [if_neg he]; exact Cc h hx hw⟩
theorem FzT.rows {H : AH} {n : Nat} {R : Rd} {x : AV} (a b c d e f : Nat) (hd : [a, b, c, d, e, f].Nodup) (hn : a + 1 < 2 ^ 40 ∧ b + 1 < 2 ^ 40 ∧ c + 1 < 2 ^ 40 ∧ d + 1 < 2 ^ 40 ∧ e + 1 < 2 ^ 40) (he : R.e = 0) (hx : Go.Proofs.Ytckcicalbjmgbaa.mk x = .si .i64 R.e)
    (r1 : H.get a = some (.cells (aq R.ks) true)) (r2 : H.get b = some (.cells (ints R.ts) true)) (r3 : H.get c = some (.cells (ints R.vs) true)) (r4 : H.get d = some (.cells (aS R.ls) true)) (r5 : H.get e = some (.cells (ints R.q.times) true)) (r6 : H.get f = some (.cells (aq R.fs) true)) :
    FzT (.tup [.agg (cmC (.rw a 0 R.ks.length 1 0) (.rw b 0 R.ts.length 1 0) (.rw c 0 R.vs.length 1 0) (.rw d 0 R.ls.length 2 0) (.rw e 0 R.q.times.length 1 0) (.rw f 0 R.fs.length 1 0) R), x]) H n (kp R) := fun φ h0 h w hr hw => by
  simp only [List.nodup_cons, List.mem_cons, List.not_mem_nil, or_false, not_or, List.nodup_nil, and_true, not_false_eq_true] at hd
  obtain ⟨ψ1, p1, q1, w1⟩ := wW.lZ (i := 1) (s := aq R.ks) rfl r1 (bL _) (by rw [gf, Nat.mul_one]) rfl φ h0 h w hr hw
  obtain ⟨ψ2, p2, q2, w2⟩ := wW.lZ (i := 2) (s := ints R.ts) rfl (PM.aw _ _ _ _ hn.1 (by omega) r2) (aT _) (by rw [gd, Nat.mul_one]) rfl ψ1 h0 h w q1 w1
  obtain ⟨ψ3, p3, q3, w3⟩ := wW.lZ (i := 3) (s := ints R.vs) rfl (PM.aw _ _ _ _ hn.2.1 (by omega) (PM.aw _ _ _ _ hn.1 (by omega) r3)) (aT _) (by rw [gd, Nat.mul_one]) rfl ψ2 h0 h w q2 w2
  obtain ⟨ψ4, p4, q4, w4⟩ := wW.lZ (i := 7) (s := aS R.ls) rfl (PM.aw _ _ _ _ hn.2.2.1 (by omega) (PM.aw _ _ _ _ hn.2.1 (by omega) (PM.aw _ _ _ _ hn.1 (by omega) r4))) (dJ _) (mA _) rfl ψ3 h0 h w q3 w3
  obtain ⟨ψ5, p5, q5, w5⟩ := wW.lZ (i := 22) (s := ints R.q.times) rfl (PM.aw _ _ _ _ hn.2.2.2.1 (by omega) (PM.aw _ _ _ _ hn.2.2.1 (by omega) (PM.aw _ _ _ _ hn.2.1 (by omega) (PM.aw _ _ _ _ hn.1 (by omega) r5)))) (aT _) (by rw [gd, Nat.mul_one]) rfl ψ4 h0 h w q4 w4
  obtain ⟨ψ6, p6, q6, w6⟩ := wW.lZ (i := 26) (s := aq R.fs) rfl (PM.aw _ _ _ _ hn.2.2.2.2 (by omega) (PM.aw _ _ _ _ hn.2.2.2.1 (by omega) (PM.aw _ _ _ _ hn.2.2.1 (by omega) (PM.aw _ _ _ _ hn.2.1 (by omega) (PM.aw _ _ _ _ hn.1 (by omega) r6))))) (bL _) (by rw [gf, Nat.mul_one]) rfl ψ5 h0 h w q5 w5
  refine ⟨ψ6, ((((p1.trans p2).trans p3).trans p4).trans p5).trans p6, ⟨_, q6⟩, ?_⟩
  unfold kp; rw [if_pos he]
  obtain ⟨cs, rfl, hv⟩ := w6.dA
  obtain ⟨v1, v2, rfl, e1, e2⟩ := vs2 hv
  exact .tup (.cons e1 (.cons (by have := e2.mk; rw [hx] at this; exact this) .nil))
theorem wX : gx oX = true := by decide +kernel
theorem wY : gx gz = true := by decide +kernel
def Dl : List AV := cmC .nsl .nsl .nsl .nsl .nsl .nsl ec
theorem jA : NF Dl (cmF ec) :=
  .same _ (.row _ (.row _ (.row _ (.same _ (.same _ (.same _ (.row _ (.same _ (.same _ (.same _ (.same _ (.same _ (.same _ (.same _ (.same _ (.same _ (.same _ (.same _ (.same _ (.same _ (.same _ (.row _ (.same _ (.same _ (.same _ (.row _ (.same _ (.same _ .nil))))))))))))))))))))))))))))
def y4 (g : List AV → AH → Nat → PK → Prop) (args : List AV) (H : AH) (n : Nat) (κ : PK) : Prop := ∃ H2 n2, bX H n H2 n2 ∧ g args H2 n2 κ
theorem aA.y4 {f : FuncId} {g : List AV → AH → Nat → PK → Prop} (hg : aA f g) : aA f (y4 g) := fun args H n κ ⟨H2, n2, h1, h2⟩ φ h0 h vs K hr ha hk => hg args H2 n2 κ h2 φ h0 h vs K (h1 φ h0 h hr) ha hk
def Al : DT := [(4, [(some 1000000, [3, 4]), (none, [0, 1, 2, 3, 4, 5, 6, 7, 8, 9]), (none, [0, 1, 2, 4, 3, 5, 6, 7, 8, 9])]), (5, [(some 1000000, [2, 3]), (none, [0, 1, 2, 3, 4, 5]), (none, [0, 1, 3, 2, 4, 5])]),
  (8, [(some 1000000, [0, 5]), (none, [0, 1, 2, 3, 4, 5, 6, 7, 8, 9, 10, 11]), (none, [1, 2, 3, 4, 5, 0, 6, 7, 8, 9, 10, 11])]),
  (15, [(some 1000000, [4, 5]), (none, [0, 1, 2, 3, 4, 5, 6]), (none, [0, 1, 2, 3, 5, 4, 6])])]
end Go.Proofs.Ytckcicalbjmgbaa
namespace Go.Proofs.Ytckcicalbjmgbaa
open Go Go.RowKit
section
variable {φ ψ : Ph} {H : AH} {n : Nat} {h0 hp : Hp}
theorem tf {H' : AH} {n' : Nat} {g : Hp} (hr : HR φ H n h0 hp) (hg : HR ψ H' n' hp g) (hy : ∀ q, ψ.y q → φ.z q) : ∃ χ, PLe φ χ ∧ HR χ H n h0 g ∧ ∀ q, ψ.z q → χ.z q := by
  have hg2 : HR φ H n h0 g := hr.grow (fun b o hb => (hg.base b o hb).2) hg.size
  have hb0 : ∀ B, hp.f B = none → h0.f B = none := fun B e => by
    cases q : h0.f B with
    | none => rfl
    | some o => have := (hr.base B o q).2; rw [e] at this; cases this
  have own : ∀ B, hp.f B = none → ∀ b o p, H.get b = some o → o.own = true → φ b = some p → p.B ≠ B := fun B e b o p hb hw hp' q => by
    obtain ⟨ob, _, h1, _⟩ := hr.of hb hp'
    rw [q, e] at h1; cases h1
  have sub : ∀ q, ψ.z q → (φ.more fun q => ψ.z q ∧ hp.f q.B = none).z q := fun q hq => by
    obtain ⟨⟨_, hyq⟩, _⟩ := hg.frz q hq
    rcases hyq with hyq | hyq
    · exact .inl (hy q hyq)
    · exact .inr ⟨hq, hyq⟩
  refine ⟨φ.more fun q => ψ.z q ∧ hp.f q.B = none, φ.mV _, hg2.more fun q hq => ?_, sub⟩
  obtain ⟨⟨hf, _⟩, _⟩ := hg.frz q hq.1
  exact ⟨FzR.mono sub hf, hb0 _ hq.2, own _ hq.2⟩
theorem y5 {f : FuncId} {run : List AV → AH → Nat → PK → Prop} (hrun : aA f run) {args0 : List AV} {H0 : AH} {n0 : Nat} {l : List AV} {x : AV} (hl : l.all ed = true) (hx : ed x = true) (h : Bi run args0 H0 n0 fun v => v = .tup [.agg l, x])
    {vs : Array Value} {κ : PK} {K : KH} (hk' : κ (.tup [.agg l, x]) H n) (hr : HR φ H n h0 hp) (hk : dy φ h0 κ K) (hic : dT Try.prog f = true) {φ0 : Ph} (hr0 : Wf hp → HR φ0 H0 n0 hp hp) (hy : φ0.y = φ.z) (hargs : VRs φ0 args0 vs.toList) : fC Try.prog f vs hp K := by
  have key : Wf hp → fC Try.prog f vs hp K := fun hw => hrun args0 H0 n0 _ h φ0 hp hp vs K (hr0 hw) hargs fun ψ u H' n' w g hle hg hu ⟨v, hf, hv⟩ => by
    subst hv
    obtain ⟨ψ2, p2, ⟨H2, g2⟩, v2⟩ := hf ψ hp g w hg hu
    obtain ⟨χ, h1, h2, h3⟩ := tf hr g2 (fun q hq => hy ▸ (hle.trans p2).y q hq)
    exact hk χ _ H n w g h1 h2 (y1 h3 hl hx v2) hk'
  exact ⟨hic, fun w hi => (key hi.wf).2 w hi⟩
end
theorem lb (R : Rd) : (cmF R).all ed = true := rfl
end Go.Proofs.Ytckcicalbjmgbaa
namespace Go.Proofs.Ytckcicalbjmgbaa
open Go Go.RowKit
def Am : List Nat := [82, 69, 84, 69, 78, 84, 73, 79, 78]
def y6 : List Nat := [67, 72, 85, 78, 75, 95, 83, 73, 90, 69]
def An : List Nat := [68, 85, 80, 76, 73, 67, 65, 84, 69, 95, 80, 79, 76, 73, 67, 89]
def Dm : List Nat := [76, 65, 66, 69, 76, 83]
def Dn : List Nat := [79, 78, 95, 68, 85, 80, 76, 73, 67, 65, 84, 69]
def Dp : List Nat := [84, 73, 77, 69, 83, 84, 65, 77, 80]
def wZ : List Nat := [65, 71, 71, 82, 69, 71, 65, 84, 73, 79, 78]
def Dq : List Nat := [70, 73, 76, 84, 69, 82, 95, 66, 89, 95, 84, 83]
def Dr : List Nat := [70, 73, 76, 84, 69, 82, 95, 66, 89, 95, 86, 65, 76, 85, 69]
def Ds : List Nat := [67, 79, 85, 78, 84]
def Dt : List Nat := [65, 76, 73, 71, 78]
def Du : List Nat := [69, 77, 80, 84, 89]
def y7 : List Nat := [71, 82, 79, 85, 80, 66, 89]
def Ao : List Nat := [82, 69, 68, 85, 67, 69]
def Ap : List Nat := [70, 73, 76, 84, 69, 82]
def muR (R : Rd) : Nat := 2 * R.ws.length + (if R.e = 0 then 1 else 0)
def jL (c : Rd → Bool) (f : Rd → Rd) : Nat → Rd → Rd
  | 0, R => R
  | k + 1, R => if c R = true then jL c f k (f R) else R
def wh (c : Rd → Bool) (f : Rd → Rd) (R : Rd) : Rd := jL c f (muR R) R
theorem pV {c : Rd → Bool} {f : Rd → Rd} (hf : ∀ R, c R = true → muR (f R) < muR R) : ∀ (k l : Nat) (R : Rd), muR R ≤ k → muR R ≤ l → jL c f k R = jL c f l R
  | 0, 0, R, _, _ => rfl
  | 0, l + 1, R, h, _ => by
    have : ¬ c R = true := fun q => by have := hf R q; omega
    unfold jL; rw [if_neg this]
  | k + 1, 0, R, _, h => by
    have : ¬ c R = true := fun q => by have := hf R q; omega
    unfold jL; rw [if_neg this]
  | k + 1, l + 1, R, h1, h2 => by
    unfold jL
    split
    · rename_i q
      have := hf R q
      exact pV hf k l (f R) (by omega) (by omega)
    · rfl
theorem ld {c : Rd → Bool} {f : Rd → Rd} (hf : ∀ R, c R = true → muR (f R) < muR R) {R : Rd} (h : c R = true) : wh c f (f R) = wh c f R := by
  have h1 := hf R h
  obtain ⟨k, hk⟩ : ∃ k, muR R = k + 1 := ⟨muR R - 1, by omega⟩
  unfold wh
  rw [hk]
  conv => rhs; unfold jL
  rw [if_pos h]
  exact pV hf _ _ _ (Nat.le_refl _) (by omega)
theorem cT {c : Rd → Bool} {f : Rd → Rd} {R : Rd} (h : ¬ c R = true) : wh c f R = R := by
  unfold wh
  generalize muR R = k
  cases k with
  | zero => rfl
  | succ k => unfold jL; rw [if_neg h]
theorem l7 {c : Rd → Bool} {f : Rd → Rd} (P : Rd → Prop) (hP : ∀ R, c R = true → P R → P (f R)) (R : Rd) (h : P R) : P (wh c f R) := by
  unfold wh
  generalize muR R = k
  induction k generalizing R with
  | zero => exact h
  | succ k ih =>
    unfold jL
    split
    · rename_i q; exact ih _ (hP R q h)
    · exact h
def stF (f : Rd → Int × Rd) (g : Int → Rd → Rd) (R : Rd) : Rd := g (f R).1 (f R).2
def vt (z : Int) (R : Rd) : Rd := { R with fr := z }
def y8 (z : Int) (R : Rd) : Rd := { R with to := z }
def pW (z : Int) (R : Rd) : Rd := { R with kd := z }
def gK (z : Int) (R : Rd) : Rd := { R with bk := z }
def y9 (z : Int) (R : Rd) : Rd := { R with al := z }
def uI (z : Int) (R : Rd) : Rd := { R with ret := z }
def uJ (z : Int) (R : Rd) : Rd := { R with siz := z }
def l8 (z : Int) (R : Rd) : Rd := { R with pol := z }
def za (z : Int) (R : Rd) : Rd := { R with rd := z }
def vu (z : Int) (R : Rd) : Rd := { R with q := { R.q with f := z } }
def Dv (z : Int) (R : Rd) : Rd := { R with q := { R.q with t := z } }
def zb (z : Int) (R : Rd) : Rd := { R with q := { R.q with count := z } }
def pX (z : Int) (R : Rd) : Rd := { R with q := { R.q with kind := z } }
def vw (z : Int) (R : Rd) : Rd := { R with q := { R.q with size := z } }
def zc (z : Int) (R : Rd) : Rd := { R with q := { R.q with align := z } }
def pY (z : Int) (R : Rd) : Rd := { R with q := { R.q with kY := true, low := z } }
def zd (z : Int) (R : Rd) : Rd := { R with q := { R.q with high := z } }
noncomputable def jk (R : Rd) : Rd := aK (aK R)
noncomputable def w7 (R : Rd) : Rd := stF (ag ak) y8 (stF (ag ak) vt (aK R))
noncomputable def mK (R : Rd) : Rd := if atR Dp (c8 (aK R)) = true then bI (aa (c8 (aK R))).2 else { c8 (aK R) with ts := [-1] }
noncomputable def lf (R : Rd) : Rd := wh aD aK (aK R)
noncomputable def pZ (R : Rd) : Rd := stF (ag ak) gK (stF (ag cg) pW (dk wZ (jk R)).2)
noncomputable def gL (R : Rd) : Rd := if aD (pZ R) = true then stF (ag ak) y9 (pZ R) else pZ R
noncomputable def l9 (R : Rd) : Rd := if atR Dn (bJ R) = true then stF (ag cL) l8 (aa (bJ R)).2 else bJ R
def ma (R : Rd) : Rd := { (aa (aa R).2).2 with ls := (aa (aa R).2).2.ls ++ [((aa R).1, (aa (aa R).2).1)] }
noncomputable def mL (R : Rd) : Rd := wh aD ma { R with lbd := true }
noncomputable def iB (R : Rd) : Rd :=
  if R.ret = -1 ∧ atR Am R = true then stF ko uI (aa R).2
  else if R.nm = 1 ∧ R.siz = -1 ∧ atR y6 R = true then stF ko uJ (aa R).2
  else if R.pol = 0 ∧ atR An R = true then stF (ag cL) l8 (aa R).2
  else if atR Dm R = true then mL (aa R).2 else cu R 17
noncomputable def oD (R : Rd) : Rd := wh aD iB (aK R)
def gM (R : Rd) : Rd := { (aa R).2 with fs := (aa R).2.fs ++ [(aa R).1] }
noncomputable def fT (R : Rd) : Bool := aD R && !atR y7 R
noncomputable def jE (R : Rd) : Rd := wh fT gM (gM R)
noncomputable def jM (R : Rd) : Rd := jE (dk Ap R).2
def mM (z : Int) (R : Rd) : Rd := { R with q := { R.q with times := R.q.times ++ [z] } }
def oE (R : Rd) : Rd := mM (ak (R.ws.headD [])).1 (aa R).2
def kq (R : Rd) : Bool := aD R && decide ((ak (R.ws.headD [])).2 = 0)
noncomputable def mN (R : Rd) : Rd := stF (orR [43] 1099511627776) Dv (stF (orR [45] 0) vu R)
noncomputable def mb (R : Rd) : Rd := if atR Dq R = true then wh kq oE (stF (ag ak) mM (aa R).2) else R
noncomputable def tg (R : Rd) : Rd := if atR Dr R = true then stF (ag ak) zd (stF (ag ak) pY (aa R).2) else R
noncomputable def th (R : Rd) : Rd := if atR Ds R = true then stF (ag ak) zb (aa R).2 else R
noncomputable def ze (R : Rd) : Rd := stF (ag ak) vw (stF (ag cg) pX (aa R).2)
noncomputable def lg (R : Rd) : Rd := if atR Dt R = true then stF (ag ak) zc (aa R).2 else R
noncomputable def ti (R : Rd) : Rd := if atR Du R = true then { (aa R).2 with q := { (aa R).2.q with empty := true } } else { R with q := { R.q with empty := false } }
noncomputable def w8 (R : Rd) : Rd := if atR wZ R = true then ti (lg (ze R)) else R
noncomputable def lj (R : Rd) : Rd := w8 (th (tg (mb (mN R))))
noncomputable def uK (R : Rd) : Rd := lj (aK R)
noncomputable def uL (R : Rd) : Rd := jM (lj R)
noncomputable def Cd (R : Rd) : Rd := { (aa (aa R).2).2 with gr := (aa (aa R).2).1 }
noncomputable def oF (R : Rd) : Rd := if atR y7 (uL R) = true then stF (ag cg) za (dk Ao (Cd (uL R))).2 else uL R
structure Bz (B : Nat) (R : Rd) : Prop where
  ok : WOk R
  ks : R.ks.length + R.ws.length ≤ B
  ts : R.ts.length + R.ws.length ≤ B
  vs : R.vs.length + R.ws.length ≤ B
  ls : R.ls.length + R.ws.length ≤ B
  q : R.q.times.length + R.ws.length ≤ B
  fs : R.fs.length + R.ws.length ≤ B
theorem Bz.mono {B C : Nat} {R : Rd} (h : Bz B R) (hc : B ≤ C) : Bz C R := ⟨h.ok, Nat.le_trans h.ks hc, Nat.le_trans h.ts hc, Nat.le_trans h.vs hc, Nat.le_trans h.ls hc, Nat.le_trans h.q hc, Nat.le_trans h.fs hc⟩
theorem Bz.same {B : Nat} {R S : Rd} (h : Bz B R) (hr : dZ R S) (hw : S.ws.length ≤ R.ws.length) (hk : WOk S) : Bz B S := by
  obtain ⟨h0, h1, h2, h3, h4, h5, h6⟩ := h
  refine ⟨hk, ?_, ?_, ?_, ?_, ?_, ?_⟩
  · rw [hr.ks]; omega
  · rw [hr.ts]; omega
  · rw [hr.vs]; omega
  · rw [hr.ls]; omega
  · rw [hr.q]; omega
  · rw [hr.fs]; omega
theorem Bz.next {B : Nat} {R : Rd} (h : Bz B R) : Bz B (aa R).2 := h.same (bj R) (dC R).1 h.ok.next.2
theorem Bz.told {B : Nat} {R : Rd} (h : Bz B R) (g : List Nat → Int × Int) : Bz B (ag g R).2 := h.same (dK g R) (la g R) (h.ok.told g)
theorem Bz.orW {B : Nat} {R : Rd} (h : Bz B R) (w : List Nat) (z : Int) : Bz B (orR w z R).2 := h.same (jz w z R) (Bh w z R) (h.ok.or w z)
theorem Bz.fail {B : Nat} {R : Rd} (h : Bz B R) (e : Int) : Bz B (cu R e) := h.same (lY R e) (by rw [k8]; exact Nat.le_refl _) (h.ok.fail e)
theorem Bz.pos {B : Nat} {R : Rd} (h : Bz B R) : Bz B (ko R).2 := by
  unfold ko
  dsimp only
  split
  · exact (h.told ak).fail 16
  · exact h.told ak
theorem Bz.w9 {B : Nat} {R : Rd} (h : Bz B R) (w : List Nat) : Bz B (dk w R).2 := by
  unfold dk
  dsimp only
  split
  · exact h.next
  · exact h.next.fail 17
theorem Bz.key {B : Nat} {R : Rd} (h : Bz B R) : Bz (B + 1) (aK R) := by
  have q := h.next.mono (Nat.le_succ B)
  have k := h.next.ks
  exact ⟨q.ok, by show ((aa R).2.ks ++ [(aa R).1]).length + (aa R).2.ws.length ≤ _; rw [List.length_append, List.length_singleton]; omega, q.ts, q.vs, q.ls, q.q, q.fs⟩
theorem Bz.time {B : Nat} {R : Rd} (h : Bz B R) : Bz (B + 1) (bI R) := by
  have q := (h.orW [42] (-1)).mono (Nat.le_succ B)
  have k := (h.orW [42] (-1)).ts
  exact ⟨q.ok, q.ks, by show ((orR [42] (-1) R).2.ts ++ [(orR [42] (-1) R).1]).length + (orR [42] (-1) R).2.ws.length ≤ _; rw [List.length_append, List.length_singleton]; omega, q.vs, q.ls, q.q, q.fs⟩
theorem Bz.val {B : Nat} {R : Rd} (h : Bz B R) : Bz (B + 1) (c8 R) := by
  have q := (h.told ak).mono (Nat.le_succ B)
  have k := (h.told ak).vs
  exact ⟨q.ok, q.ks, q.ts, by show ((ag ak R).2.vs ++ [(ag ak R).1]).length + (ag ak R).2.ws.length ≤ _; rw [List.length_append, List.length_singleton]; omega, q.ls, q.q, q.fs⟩
theorem Bz.Dw {B : Nat} {R : Rd} (h : Bz B R) (hm : aD R = true) : Bz B (aK R) := by
  have q := h.next
  have w := (dC R).2 hm
  exact ⟨q.ok, by show ((aa R).2.ks ++ [(aa R).1]).length + (aa R).2.ws.length ≤ _; rw [List.length_append, List.length_singleton, (bj R).ks]; have := h.ks; omega, q.ts, q.vs, q.ls, q.q, q.fs⟩
theorem Bz.mJ {B : Nat} {R : Rd} (h : Bz B R) : Bz (B + 3) (bJ R) := h.key.time.val
theorem Bz.lb1 {B : Nat} {R : Rd} (h : Bz B R) (hm : aD R = true) : Bz B (ma R) := by
  have q := h.next.next
  have w := (dC R).2 hm
  have w2 := (dC (aa R).2).1
  exact ⟨q.ok, q.ks, q.ts, q.vs, by show ((aa (aa R).2).2.ls ++ [_]).length + (aa (aa R).2).2.ws.length ≤ _; rw [List.length_append, List.length_singleton, (bj _).ls, (bj R).ls]; have := h.ls; omega, q.q, q.fs⟩
theorem Bz.fs1 {B : Nat} {R : Rd} (h : Bz B R) : Bz (B + 1) (gM R) := by
  have q := h.next.mono (Nat.le_succ B)
  have k := h.next.fs
  exact ⟨q.ok, q.ks, q.ts, q.vs, q.ls, q.q, by show ((aa R).2.fs ++ [(aa R).1]).length + (aa R).2.ws.length ≤ _; rw [List.length_append, List.length_singleton]; omega⟩
theorem Bz.zf {B : Nat} {R : Rd} (h : Bz B R) (hm : aD R = true) : Bz B (gM R) := by
  have q := h.next
  have w := (dC R).2 hm
  exact ⟨q.ok, q.ks, q.ts, q.vs, q.ls, q.q, by show ((aa R).2.fs ++ [(aa R).1]).length + (aa R).2.ws.length ≤ _; rw [List.length_append, List.length_singleton, (bj R).fs]; have := h.fs; omega⟩
theorem Bz.ptT {B : Nat} {R : Rd} (h : Bz B R) (z : Int) : Bz (B + 1) (mM z R) := by
  have q := h.mono (Nat.le_succ B)
  exact ⟨q.ok, q.ks, q.ts, q.vs, q.ls, by show (R.q.times ++ [z]).length + R.ws.length ≤ _; rw [List.length_append, List.length_singleton]; have := h.q; omega, q.fs⟩
theorem Bz.tm1 {B : Nat} {R : Rd} (h : Bz B R) (hm : aD R = true) : Bz B (oE R) := by
  have q := h.next
  have w := (dC R).2 hm
  exact ⟨q.ok, q.ks, q.ts, q.vs, q.ls, by show ((aa R).2.q.times ++ [_]).length + (aa R).2.ws.length ≤ _; rw [List.length_append, List.length_singleton, (bj R).q]; have := h.q; omega, q.fs⟩
theorem lk {R : Rd} (h : aD R = true) : muR (aa R).2 + 1 < muR R := by
  have h1 := (dC R).2 h
  have h2 : R.e = 0 := by unfold aD at h; simp at h; exact h.1
  have h3 : (aa R).2.e = 0 := by unfold aa; rw [if_pos h]; exact h2
  unfold muR
  rw [if_pos h2, if_pos h3]
  omega
theorem zg {R S : Rd} (hw : S.ws.length ≤ R.ws.length) (he : S.e = 0 → R.e = 0) : muR S ≤ muR R := by
  unfold muR
  by_cases h : S.e = 0
  · rw [if_pos h, if_pos (he h)]; omega
  · rw [if_neg h]; split <;> omega
theorem uM {R : Rd} {e : Int} (h : (cu R e).e = 0) : R.e = 0 := by
  unfold cu at h
  split at h
  · assumption
  · exact h
theorem uN {R : Rd} (h : (aa R).2.e = 0) : R.e = 0 := by
  unfold aa at h
  split at h
  · exact h
  · exact uM h
theorem zh {g : List Nat → Int × Int} {R : Rd} (h : (ag g R).2.e = 0) : R.e = 0 := by
  unfold ag at h
  dsimp only at h
  split at h
  · exact uN h
  · exact uN (uM h)
theorem vx (g : List Nat → Int × Int) (R : Rd) : muR (ag g R).2 ≤ muR R := zg (la g R) zh
theorem zi (R : Rd) : muR (aa R).2 ≤ muR R := zg (dC R).1 uN
theorem zj (R : Rd) : muR (ko R).2 ≤ muR R := by
  unfold ko
  dsimp only
  split
  · exact zg (by rw [k8]; exact la _ _) fun h => zh (uM h)
  · exact vx _ _
theorem zk {R : Rd} (h : aD R = true) : muR (aK R) < muR R := by have := lk h; exact Nat.lt_of_succ_lt this
theorem gg {R : Rd} (h : fT R = true) : muR (gM R) < muR R := by
  have := lk (show aD R = true by unfold fT at h; simp at h; exact h.1)
  exact Nat.lt_of_succ_lt this
theorem vy {R : Rd} (h : kq R = true) : muR (oE R) < muR R := by
  have := lk (show aD R = true by unfold kq at h; simp at h; exact h.1)
  exact Nat.lt_of_succ_lt this
theorem ll {R : Rd} (h : aD R = true) : muR (ma R) < muR R := by
  have h1 := lk h
  have h2 := zi (aa R).2
  have h3 : muR (ma R) = muR (aa (aa R).2).2 := rfl
  omega
theorem Dx {c : Rd → Bool} {f : Rd → Rd} (hf : ∀ R, c R = true → muR (f R) < muR R) (R : Rd) : muR (wh c f R) ≤ muR R :=
  l7 (fun S => muR S ≤ muR R) (fun S h q => Nat.le_trans (Nat.le_of_lt (hf S h)) q) R (Nat.le_refl _)
theorem vz {R : Rd} (h : aD R = true) : muR (iB R) < muR R := by
  have h1 := lk h
  have h2 : muR (cu R 17) < muR R := by
    have h0 : R.e = 0 := by unfold aD at h; simp at h; exact h.1
    unfold cu
    rw [if_pos h0]
    unfold muR
    rw [if_pos h0, if_neg (by decide : ¬ (17 : Int) = 0)]
    show 2 * R.ws.length + 0 < _
    omega
  unfold iB
  split
  · exact Nat.lt_of_le_of_lt (zj (aa R).2) (by omega)
  · split
    · exact Nat.lt_of_le_of_lt (zj (aa R).2) (by omega)
    · split
      · exact Nat.lt_of_le_of_lt (vx cL (aa R).2) (by omega)
      · split
        · have h4 : muR (mL (aa R).2) ≤ muR (aa R).2 := Dx (fun _ => ll) { (aa R).2 with lbd := true }
          omega
        · exact h2
theorem Bz.lab {B : Nat} {R : Rd} (h : Bz B R) : Bz B (mL R) := l7 (Bz B) (fun S hm q => q.lb1 hm) { R with lbd := true } ⟨h.ok, h.ks, h.ts, h.vs, h.ls, h.q, h.fs⟩
theorem Bz.set {B : Nat} {R : Rd} (h : Bz B R) (S : Rd) (hw : S.ws = R.ws := by rfl) (h1 : S.ks = R.ks := by rfl) (h2 : S.ts = R.ts := by rfl) (h3 : S.vs = R.vs := by rfl) (h4 : S.ls = R.ls := by rfl) (h5 : S.q.times = R.q.times := by rfl) (h6 : S.fs = R.fs := by rfl) : Bz B S :=
  ⟨fun w q => h.ok w (hw ▸ q), by rw [h1, hw]; exact h.ks, by rw [h2, hw]; exact h.ts, by rw [h3, hw]; exact h.vs, by rw [h4, hw]; exact h.ls, by rw [h5, hw]; exact h.q, by rw [h6, hw]; exact h.fs⟩
theorem Bz.cs1 {B : Nat} {R : Rd} (h : Bz B R) : Bz B (iB R) := by
  unfold iB
  split
  · exact h.next.pos.set _
  · split
    · exact h.next.pos.set _
    · split
      · exact (h.next.told cL).set _
      · split
        · exact h.next.lab
        · exact h.fail 17
theorem Bz.keys {B : Nat} {R : Rd} (h : Bz B R) : Bz (B + 2) (jk R) := h.key.key
theorem Bz.fil {B : Nat} {R : Rd} (h : Bz B R) : Bz (B + 1) (jE R) := l7 (Bz (B + 1)) (fun S hm q => q.zf (by unfold fT at hm; simp at hm; exact hm.1)) (gM R) h.fs1
theorem Bz.o1 {B : Nat} {R : Rd} (h : Bz B R) : Bz B (mN R) := (((h.orW [45] 0).set (stF (orR [45] 0) vu R)).orW [43] 1099511627776).set _
theorem Bz.o2 {B : Nat} {R : Rd} (h : Bz B R) : Bz (B + 1) (mb R) := by
  unfold mb
  split
  · exact l7 (Bz (B + 1)) (fun S hm q => q.tm1 (by unfold kq at hm; simp at hm; exact hm.1)) _ ((h.next.told ak).ptT _)
  · exact h.mono (Nat.le_succ B)
theorem Bz.o3 {B : Nat} {R : Rd} (h : Bz B R) : Bz B (tg R) := by
  unfold tg
  split
  · exact (((h.next.told ak).set (stF (ag ak) pY (aa R).2)).told ak).set _
  · exact h
theorem Bz.o4 {B : Nat} {R : Rd} (h : Bz B R) : Bz B (th R) := by
  unfold th
  split
  · exact (h.next.told ak).set _
  · exact h
theorem Bz.o5a {B : Nat} {R : Rd} (h : Bz B R) : Bz B (ze R) := (((h.next.told cg).set (stF (ag cg) pX (aa R).2)).told ak).set _
theorem Bz.o5b {B : Nat} {R : Rd} (h : Bz B R) : Bz B (lg R) := by
  unfold lg
  split
  · exact (h.next.told ak).set _
  · exact h
theorem Bz.o5c {B : Nat} {R : Rd} (h : Bz B R) : Bz B (ti R) := by
  unfold ti
  split
  · exact h.next.set _
  · exact h.set _
theorem Bz.o5 {B : Nat} {R : Rd} (h : Bz B R) : Bz B (w8 R) := by
  unfold w8
  split
  · exact h.o5a.o5b.o5c
  · exact h
theorem Bz.opt {B : Nat} {R : Rd} (h : Bz B R) : Bz (B + 1) (lj R) := h.o1.o2.o3.o4.o5
theorem Bz.Ce {B : Nat} {R : Rd} (h : Bz B R) : Bz (B + 1) (jM R) := (h.w9 Ap).fil
end Go.Proofs.Ytckcicalbjmgbaa
namespace Go.Proofs.Ytckcicalbjmgbaa
open Go Go.RowKit
def gh (ok : Rd → Prop) (A : List AV → Prop) (F : Rd → AV × Rd) (args : List AV) (H : AH) (n : Nat) (κ : PK) : Prop := match args with
  | x :: ar => ∃ (r k t v l q f : Nat) (R : Rd) (u : AV) (R' : Rd), x = .ptr r 0 ∧ A ar ∧ ux H n r k t v l q f R ∧ ok R ∧ F R = (u, R') ∧ κ u (uy H r k t v l q f R') n
  | _ => False
theorem aA.rdE {f : FuncId} {ok : Rd → Prop} {A : List AV → Prop} {F : Rd → AV × Rd} (h : aA f (bo ok A F)) : aA f (gh ok A F) := fun args H n κ hs => h args H n κ (by
  unfold gh at hs
  unfold bo
  split at hs
  · obtain ⟨r, k, t, v, l, q, f, R, u, R', h1, h2, h3, h4, h5, h6⟩ := hs
    exact ⟨r, k, t, v, l, q, f, R, h1, h2, h3, h4, by rw [h5]; exact h6⟩
  · exact hs.elim)
def zl (args : List AV) (H : AH) (n : Nat) (κ : PK) : Prop := ∃ w, gh WOk (s6 w) (gy w) args H n κ
theorem Cf : aA 62 zl := fun args H n κ ⟨w, h⟩ => (De w).rdE args H n κ h
def vA (args : List AV) (H : AH) (n : Nat) (κ : PK) : Prop := ∃ w, bo WOk (s6 w) (dk w) args H n κ
theorem Aq : aA 71 vA := fun args H n κ ⟨w, h⟩ => yU w args H n κ h
def Bj (args : List AV) (H : AH) (n : Nat) (κ : PK) : Prop := ∃ w z, bo WOk (orA w z) (orV w z) args H n κ
theorem Dy : aA 77 Bj := fun args H n κ ⟨w, z, h⟩ => Dg w z args H n κ h
theorem ij {w : List Nat} {R : Rd} (h : atR w R = true) : gy w R = (.sb true, (aa R).2) := by unfold gy; rw [if_pos h]
theorem ky {w : List Nat} {R : Rd} (h : ¬ atR w R = true) : gy w R = (.sb false, R) := by unfold gy; rw [if_neg h]
theorem bg {F : Rd → Rd} {S : Rd} {R : Rd} (e : F S = R) {u : AV} {H : AH} {n : Nat} (j1 j2 j3 j4 j5 j6 : Nat) {l : List AV} (hv : aX H 13 (rdN j1 j2 j3 j4 j5 j6) u (.tup [])) (hd : [0, j1, j2, j3, j4, j5, j6].Nodup) (h0 : PM.get H 0 = some (.cells l true)) (hm : l.map mk = rdC j1 j2 j3 j4 j5 j6 R) (r1 : PM.get H j1 = some (.cells (aq R.ks) true)) (r2 : PM.get H j2 = some (.cells (ints R.ts) true)) (r3 : PM.get H j3 = some (.cells (ints R.vs) true)) (r4 : PM.get H j4 = some (.cells (aS R.ls) true)) (r5 : PM.get H j5 = some (.cells (ints R.q.times) true)) (r6 : PM.get H j6 = some (.cells (aq R.fs) true)) :
    ∃ v2 H2 m, Cov 7 (mkE [(0, u)]) H n (mkE [(0, v2)], H2, m) ∧ RdP (az F S).1 (az F S).2 v2 H2 m := by
  subst e
  exact fl j1 j2 j3 j4 j5 j6 hv hd h0 hm r1 (an _) r2 (ae _) r3 (ae _) r4 (aO _) r5 (ae _) r6 (an _)
theorem jl {σ : AE} {H : AH} {n : Nat} {R : Rd} (j1 j2 j3 j4 j5 j6 : Nat) {l : List AV} (he : aC (pa 0) σ = .ptr 0 0) (hd : [0, j1, j2, j3, j4, j5, j6].Nodup) (h0 : PM.get H 0 = some (.cells l true)) (hm : l.map mk = rdC j1 j2 j3 j4 j5 j6 R) (r1 : PM.get H j1 = some (.cells (aq R.ks) true)) (r2 : PM.get H j2 = some (.cells (ints R.ts) true)) (r3 : PM.get H j3 = some (.cells (ints R.vs) true)) (r4 : PM.get H j4 = some (.cells (aS R.ls) true)) (r5 : PM.get H j5 = some (.cells (ints R.q.times) true)) (r6 : PM.get H j6 = some (.cells (aq R.fs) true)) : Cov 7 σ H n ((rdS R).1, (rdS R).2, 13) :=
  eY j1 j2 j3 j4 j5 j6 he hd h0 hm r1 (an _) r2 (ae _) r3 (ae _) r4 (aO _) r5 (ae _) r6 (an _)
theorem Bz.kk {B : Nat} {R : Rd} (h : Bz B R) (hb : B ≤ 1000000 := by decide) : R.ks.length ≤ 1000000 := by have := h.ks; omega
theorem Bz.tt {B : Nat} {R : Rd} (h : Bz B R) (hb : B ≤ 1000000 := by decide) : WOk R ∧ R.ts.length ≤ 1000000 := ⟨h.ok, by have := h.ts; omega⟩
theorem Bz.vv {B : Nat} {R : Rd} (h : Bz B R) (hb : B ≤ 1000000 := by decide) : WOk R ∧ R.vs.length ≤ 1000000 := ⟨h.ok, by have := h.vs; omega⟩
theorem Bz.bd {B : Nat} {R : Rd} (h : Bz B R) (hb : B ≤ 900000 := by decide) : Bd 900000 R := ⟨h.ok, by have := h.ks; omega, by have := h.ts; omega, by have := h.vs; omega⟩
noncomputable def atV (w : List Nat) (R : Rd) : AV × Rd := (.sb (atR w R), R)
theorem Ar (w : List Nat) (R : Rd) (hok : WOk R) : post (ao KHs 5 75) (.ptr 0 0 :: [.ss w]) (mkH (c9 (rdO R) 0)) 7 (RdK (atV w R).1 (atV w R).2) := by
  have leaf : ∀ {v : AV} {u : AV} {H' : AH} {n' : Nat} {l : List AV}, AV.sb (atR w R) = v → mk u = v → PM.get H' 0 = some (.cells l true) → l.map mk = rdC 1 2 3 4 5 6 R → PM.get H' 1 = some (.cells (aq R.ks) true) → PM.get H' 2 = some (.cells (ints R.ts) true) → PM.get H' 3 = some (.cells (ints R.vs) true) → PM.get H' 4 = some (.cells (aS R.ls) true) → PM.get H' 5 = some (.cells (ints R.q.times) true) → PM.get H' 6 = some (.cells (aq R.fs) true) → ∃ v2 H2 n2, VTo u v2 ∧ bX H' n' H2 n2 ∧ RdK (atV w R).1 (atV w R).2 v2 H2 n2 := fun e hu h0 hm r1 r2 r3 r4 r5 r6 => by
    unfold atV; rw [e]; exact eO (VTo.mkv hu) h0 hm r1 r2 r3 r4 r5 r6
  show ao KHs 5 75 _ _ _ _
  conv => whnf
  refine ah.dec (fun h0 => ?_) (fun h0 => ?_)
  · conv => whnf
    refine ah.dec (fun hp => ?_) (fun hp => ?_)
    · have hp : 0 < R.ws.length := by exact Int.ofNat_lt.1 hp
      have hw := hok _ (List.getElem_mem hp)
      rw [m0 hp] at hw
      conv => whnf
      refine Idx.mk 0 rfl hp ?_
      conv => whnf
      refine aP (eL hp) ?_
      conv => whnf
      refine ⟨R.ws.headD [], rfl, hw.1, hw.2, ?_⟩
      have e : AV.sb (atR w R) = .sb (aN (upF (R.ws.headD [])) w) := by unfold atR; rw [cz h0 hp]; rfl
      conv => whnf
      exact leaf e rfl rfl rfl rfl rfl rfl rfl rfl rfl
    · have hp : ¬ 0 < R.ws.length := fun q => hp (by exact Int.ofNat_lt.2 q)
      have e : AV.sb (atR w R) = .sb false := by unfold atR; rw [show aD R = false from Bool.eq_false_iff.2 (cB hp)]; rfl
      have hd : AV.sb (decide ((0 : Int) < (R.ws.length : Int))) = .sb false := congrArg AV.sb (decide_eq_false (fun q : (0 : Int) < (R.ws.length : Int) => hp (by omega)))
      conv => whnf
      exact leaf e (by first | rfl | exact hd) rfl rfl rfl rfl rfl rfl rfl rfl
  · have e : AV.sb (atR w R) = .sb false := by unfold atR; rw [show aD R = false from Bool.eq_false_iff.2 (cA h0)]; rfl
    conv => whnf
    exact leaf e rfl rfl rfl rfl rfl rfl rfl rfl rfl
theorem Ej (w : List Nat) : aA 75 (bo WOk (s6 w) (atV w)) := c6 (ax uA 5 _) (by kernel_rfl) (ru w) (fun _ => rfl) (fun R => ⟨rfl, fun _ => rfl⟩) fun R h => Ar w R h
def Bk (args : List AV) (H : AH) (n : Nat) (κ : PK) : Prop := ∃ w, gh WOk (s6 w) (atV w) args H n κ
theorem Dz : aA 75 Bk := fun args H n κ ⟨w, h⟩ => (Ej w).rdE args H n κ h
theorem zm {w : List Nat} {R : Rd} (h : atR w R = true) : atV w R = (.sb true, R) := by unfold atV; rw [h]
theorem Bl {w : List Nat} {R : Rd} (h : ¬ atR w R = true) : atV w R = (.sb false, R) := by unfold atV; rw [Bool.eq_false_iff.2 h]
theorem mc {R : Rd} (hl : R.fs.length ≤ 1000000) : aV (aq (aa R).2.fs) 0 (R.fs.length * 1) = some (aq (aa R).2.fs) ∧ aV (aq (aa R).2.fs) 0 ((aa R).2.fs.length * 1) = some (aq (aa R).2.fs) ∧ (R.fs.length + 1) * 16 ≤ 140737488355328 ∧ ((aa R).2.fs.length + 1) * 16 ≤ 140737488355328 ∧
    (∀ a b c d e f, lX a b c d e f (aa R).2.ks.length (aa R).2.ts.length (aa R).2.vs.length (aa R).2.ls.length (aa R).2.q.times.length (R.fs.length + 1) (gM R) = rdC a b c d e f (gM R)) ∧
    (∀ a b c d e f, lX a b c d e f (aa R).2.ks.length (aa R).2.ts.length (aa R).2.vs.length (aa R).2.ls.length (aa R).2.q.times.length ((aa R).2.fs.length + 1) (gM R) = rdC a b c d e f (gM R)) ∧
    (∀ a, mk a = .ss (aa R).1 → (aq (aa R).2.fs ++ [a]).map mk = aq (gM R).fs) := by
  have hk : (aa R).2.fs = R.fs := (bj R).fs
  have h1 : (gM R).fs.length = R.fs.length + 1 := by show ((aa R).2.fs ++ [_]).length = _; rw [hk]; simp
  refine ⟨by rw [hk]; exact ie _, ie _, by omega, by rw [hk]; omega, fun a b c d e f => by rw [← h1]; rfl, fun a b c d e f => by rw [hk, ← h1]; rfl, fun a ha => ?_⟩
  rw [List.map_append, an, List.map_cons, List.map_nil, ha]
  exact pQ _ _
theorem DA : RTy 30 30 2 32 := ⟨_, _, _, rfl, rfl, (fun q h => by cases h), rfl, rfl, rfl, rfl, by decide, by decide⟩
theorem oG (L : List (List Nat × List Nat)) : aV (aS L) 0 (L.length * 2) = some (aS L) := dg (by rw [mA])
theorem xa {R : Rd} (hl : R.ls.length ≤ 1000000) : aV (aS (aa (aa R).2).2.ls) 0 ((aa R).2.ls.length * 2) = some (aS (aa (aa R).2).2.ls) ∧ aV (aS (aa (aa R).2).2.ls) 0 ((aa (aa R).2).2.ls.length * 2) = some (aS (aa (aa R).2).2.ls) ∧ ((aa R).2.ls.length + 1) * 32 ≤ 140737488355328 ∧ ((aa (aa R).2).2.ls.length + 1) * 32 ≤ 140737488355328 ∧
    (∀ a b c d e f, lX a b c d e f (aa (aa R).2).2.ks.length (aa (aa R).2).2.ts.length (aa (aa R).2).2.vs.length ((aa R).2.ls.length + 1) (aa (aa R).2).2.q.times.length (aa (aa R).2).2.fs.length (ma R) = rdC a b c d e f (ma R)) ∧
    (∀ a b c d e f, lX a b c d e f (aa (aa R).2).2.ks.length (aa (aa R).2).2.ts.length (aa (aa R).2).2.vs.length ((aa (aa R).2).2.ls.length + 1) (aa (aa R).2).2.q.times.length (aa (aa R).2).2.fs.length (ma R) = rdC a b c d e f (ma R)) ∧
    (∀ a b, mk a = .ss (aa R).1 → mk b = .ss (aa (aa R).2).1 → (aS (aa (aa R).2).2.ls ++ [a, b]).map mk = aS (ma R).ls) := by
  have hk0 : (aa R).2.ls = R.ls := (bj R).ls
  have hk : (aa (aa R).2).2.ls = (aa R).2.ls := (bj _).ls
  have h1 : (ma R).ls.length = R.ls.length + 1 := by show ((aa (aa R).2).2.ls ++ [_]).length = _; rw [hk, hk0]; simp
  refine ⟨by rw [hk]; exact oG _, oG _, by rw [hk0]; omega, by rw [hk, hk0]; omega, fun a b c d e f => by rw [hk0, ← h1]; rfl, fun a b c d e f => by rw [hk, hk0, ← h1]; rfl, fun a b ha hb => ?_⟩
  rw [List.map_append, aO, List.map_cons, List.map_cons, List.map_nil, ha, hb]
  exact wO _ (_, _)
noncomputable def KB : FuncId → EP := (aB 73 (bo (fun _ => True) noA jj) (aB 70 (bo WOk noA (aG ak)) (aB 63 (bo WOk noA lW) (aB 64 rv (aB 77 Bj (aB 62 zl (aB 75 Bk (aB 71 vA (aB 53 (ba (fun R => R.ks.length ≤ 1000000) noA (az aK)) (aB 69 (ba (fun R => WOk R ∧ R.ts.length ≤ 1000000) noA (az bI)) (aB 68 (ba (fun R => WOk R ∧ R.vs.length ≤ 1000000) noA (az c8)) (aB 67 (ba (Bd 900000) noA (az bJ)) evP))))))))))))
theorem jm : bu KB := (ai (ai (ai (ai (ai (ai (ai (ai (ai (ai (ai (ai aQ te) yZ) vq) rz) Aq) Dz) Cf) Dy) yV) uC) gI) k9)
theorem uO (R : Rd) (hok : Bz 890000 R) : dp (ao KB 4 52) (.ptr 0 0 :: []) (mkH (c9 (rdO R) 0)) 7 (RdP (az jk R).1 (az jk R).2) := by
  show ao KB 4 52 _ _ _ _
  conv => whnf
  refine ⟨0, 1, 2, 3, 4, 5, 6, R, rfl, rfl, ⟨by decide, by decide, rfl, rfl, rfl, rfl, rfl, rfl, rfl⟩, hok.kk, ?_⟩
  conv => whnf
  refine ⟨0, 7, 8, 9, 10, 11, 12, aK R, rfl, rfl, ⟨by decide, by decide, rfl, rfl, rfl, rfl, rfl, rfl, rfl⟩, hok.key.kk, ?_⟩
  conv => whnf
  exact bg (show jk R = _ from rfl) 13 14 15 16 17 18 (.same rfl) (by decide) rfl rfl rfl rfl rfl rfl rfl rfl
theorem vB : aA 52 (ba (fun R => Bz 890000 R) noA (az jk)) := bh (ax jm 4 _) (by kernel_rfl) cD (fun _ => rfl) (fun R => ⟨rfl, fun _ => rfl⟩) fun R h => uO R h
theorem xb (R : Rd) (hok : Bz 890000 R) : dp (ao KB 4 49) (.ptr 0 0 :: []) (mkH (c9 (rdO R) 0)) 7 (RdP (az w7 R).1 (az w7 R).2) := by
  show ao KB 4 49 _ _ _ _
  conv => whnf
  refine ⟨0, 1, 2, 3, 4, 5, 6, R, rfl, rfl, ⟨by decide, by decide, rfl, rfl, rfl, rfl, rfl, rfl, rfl⟩, hok.kk, ?_⟩
  conv => whnf
  refine ⟨0, 7, 8, 9, 10, 11, 12, (aK R), rfl, rfl, ⟨by decide, by decide, rfl, rfl, rfl, rfl, rfl, rfl, rfl⟩, hok.key.ok, ?_⟩
  conv => whnf
  refine ⟨0, 7, 8, 9, 10, 11, 12, (stF (ag ak) vt (aK R)), rfl, rfl, ⟨by decide, by decide, rfl, rfl, rfl, rfl, rfl, rfl, rfl⟩, (hok.key.told ak).ok, ?_⟩
  conv => whnf
  exact bg (show w7 R = stF (ag ak) y8 (stF (ag ak) vt (aK R)) from rfl) 7 8 9 10 11 12 (.same rfl) (by decide) rfl rfl rfl rfl rfl rfl rfl rfl
theorem Cg : aA 49 (ba (fun R => Bz 890000 R) noA (az w7)) := bh (ax jm 4 _) (by kernel_rfl) cD (fun _ => rfl) (fun R => ⟨rfl, fun _ => rfl⟩) fun R h => xb R h
theorem xc (R : Rd) (hok : Bz 890000 R) : dp (ao KB 4 46) (.ptr 0 0 :: []) (mkH (c9 (rdO R) 0)) 7 (RdP (az l9 R).1 (az l9 R).2) := by
  show ao KB 4 46 _ _ _ _
  conv => whnf
  refine ⟨0, 1, 2, 3, 4, 5, 6, R, rfl, rfl, ⟨by decide, by decide, rfl, rfl, rfl, rfl, rfl, rfl, rfl⟩, hok.bd, ?_⟩
  by_cases hw : atR Dn (bJ R) = true
  · conv => whnf
    refine ⟨_, 0, 7, 8, 9, 10, 11, 12, (bJ R), _, _, rfl, ⟨_, rfl, rfl⟩, ⟨by decide, by decide, rfl, rfl, rfl, rfl, rfl, rfl, rfl⟩, hok.mJ.ok, ij hw, ?_⟩
    conv => whnf
    refine ah.sb (fun _ => ?_) (fun q => absurd q (by decide))
    conv => whnf
    refine .inr (.inl ⟨0, 7, 8, 9, 10, 11, 12, (aa (bJ R)).2, rfl, rfl, ⟨by decide, by decide, rfl, rfl, rfl, rfl, rfl, rfl, rfl⟩, hok.mJ.next.ok, ?_⟩)
    conv => whnf
    exact bg (show l9 R = stF (ag cL) l8 (aa (bJ R)).2 by unfold l9; rw [if_pos hw]) 7 8 9 10 11 12 (.same rfl) (by decide) rfl rfl rfl rfl rfl rfl rfl rfl
  · conv => whnf
    refine ⟨_, 0, 7, 8, 9, 10, 11, 12, (bJ R), _, _, rfl, ⟨_, rfl, rfl⟩, ⟨by decide, by decide, rfl, rfl, rfl, rfl, rfl, rfl, rfl⟩, hok.mJ.ok, ky hw, ?_⟩
    conv => whnf
    refine ah.sb (fun q => absurd q (by decide)) (fun _ => ?_)
    conv => whnf
    exact bg (show l9 R = bJ R by unfold l9; rw [if_neg hw]) 7 8 9 10 11 12 (.same rfl) (by decide) rfl rfl rfl rfl rfl rfl rfl rfl
theorem Ch : aA 46 (ba (fun R => Bz 890000 R) noA (az l9)) := bh (ax jm 4 _) (by kernel_rfl) cD (fun _ => rfl) (fun R => ⟨rfl, fun _ => rfl⟩) fun R h => xc R h
theorem uP (R : Rd) (hok : Bz 890000 R) : dp (ao KB 4 50) (.ptr 0 0 :: []) (mkH (c9 (rdO R) 0)) 7 (RdP (az lf R).1 (az lf R).2) := by
  show ao KB 4 50 _ _ _ _
  conv => whnf
  refine ⟨0, 1, 2, 3, 4, 5, 6, R, rfl, rfl, ⟨by decide, by decide, rfl, rfl, rfl, rfl, rfl, rfl, rfl⟩, hok.kk, ?_⟩
  conv => whnf
  refine cV.mk { X : Rd // Bz 890001 X ∧ wh aD aK X = lf R } 13 (fun X => rdS X.val) (fun X => muR X.val) ⟨aK R, hok.key, rfl⟩ ?_ ?_
  · exact jl 7 8 9 10 11 12 rfl (by decide) rfl rfl rfl rfl rfl rfl rfl rfl
  · intro ⟨X, hB, hX⟩
    conv => whnf
    refine ah.dec (fun h0 => ?_) (fun h0 => ?_)
    · conv => whnf
      refine ah.dec (fun hp => ?_) (fun hp => ?_)
      · have hp : 0 < X.ws.length := by exact Int.ofNat_lt.1 hp
        have hm := cz h0 hp
        conv => whnf
        refine ⟨0, 7, 8, 9, 10, 11, 12, X, rfl, rfl, ⟨by decide, by decide, rfl, rfl, rfl, rfl, rfl, rfl, rfl⟩, hB.kk, ?_⟩
        conv => whnf
        exact ⟨⟨aK X, hB.Dw hm, (ld (fun _ => zk) hm).trans hX⟩, zk hm, eY 13 14 15 16 17 18 rfl (by decide) rfl rfl rfl (an _) rfl (ae _) rfl (ae _) rfl (aO _) rfl (ae _) rfl (an _)⟩
      · have hn : ¬ aD X = true := cB fun q => hp (by exact Int.ofNat_lt.2 q)
        conv => whnf
        exact bg (show lf R = X by rw [← hX, cT hn]) 7 8 9 10 11 12 (.same rfl) (by decide) rfl rfl rfl rfl rfl rfl rfl rfl
    · have hn : ¬ aD X = true := cA h0
      conv => whnf
      exact bg (show lf R = X by rw [← hX, cT hn]) 7 8 9 10 11 12 (.same rfl) (by decide) rfl rfl rfl rfl rfl rfl rfl rfl
theorem As : aA 50 (ba (fun R => Bz 890000 R) noA (az lf)) := bh (ax jm 4 _) (by kernel_rfl) cD (fun _ => rfl) (fun R => ⟨rfl, fun _ => rfl⟩) fun R h => uP R h
end Go.Proofs.Ytckcicalbjmgbaa
namespace Go.Proofs.Ytckcicalbjmgbaa
open Go Go.RowKit
def oH (args : List AV) (H : AH) (n : Nat) (κ : PK) : Prop := gh WOk (fnA 18) (aG ak) args H n κ ∨ gh WOk (fnA 65) (aG cL) args H n κ ∨ gh WOk (fnA 72) (aG cg) args H n κ
theorem vC : aA 64 oH := fun args H n κ hs => hs.elim (oq.rdE args H n κ) fun hs => hs.elim (ot.rdE args H n κ) (ou.rdE args H n κ)
noncomputable def KB2 : FuncId → EP := aB 64 oH KB
theorem Ci : bu KB2 := ai jm vC
theorem oI (g : List Nat → Int × Int) (R : Rd) : ∃ z S, aG g R = (.si .i64 z, S) ∧ ag g R = (z, S) := ⟨_, _, rfl, rfl⟩
def tj (args : List AV) (H : AH) (n : Nat) (κ : PK) : Prop := ∃ w, gh WOk (s6 w) (dk w) args H n κ
theorem zn : aA 71 tj := fun args H n κ ⟨w, h⟩ => (yU w).rdE args H n κ h
noncomputable def KB3 : FuncId → EP := aB 71 tj KB2
theorem zo : bu KB3 := ai Ci zn
noncomputable def KLi : FuncId → EP := (aB 52 (ba (fun R => Bz 890000 R) noA (az jk)) KB3)
theorem Cj : bu KLi := (ai zo vB)
theorem uQ (R : Rd) (hok : Bz 800000 R) : dp (ao KLi 4 51) (.ptr 0 0 :: []) (mkH (c9 (rdO R) 0)) 7 (RdP (az gL R).1 (az gL R).2) := by
  obtain ⟨M, hM⟩ : ∃ M, dk wZ (jk R) = (.tup [], M) := ⟨_, rfl⟩
  have b1 : Bz 800002 M := by have := hok.keys.w9 wZ; rw [hM] at this; exact this
  obtain ⟨z, T, hT, hT'⟩ := oI cg M
  have b2 : Bz 800002 { T with kd := z } := by have := (b1.told cg).set (stF (ag cg) pW M); unfold stF pW at this; rw [hT'] at this; exact this
  have el : pZ R = stF (ag ak) gK { T with kd := z } := by unfold pZ; rw [hM]; show stF (ag ak) gK (stF (ag cg) pW M) = _; congr 1; unfold stF pW; rw [hT']
  have b3 : Bz 800002 (stF (ag ak) gK { T with kd := z }) := (b2.told ak).set _
  show ao KLi 4 51 _ _ _ _
  conv => whnf
  refine ⟨0, 1, 2, 3, 4, 5, 6, R, rfl, rfl, ⟨by decide, by decide, rfl, rfl, rfl, rfl, rfl, rfl, rfl⟩, hok.mono (by decide), ?_⟩
  conv => whnf
  refine ⟨_, 0, 7, 8, 9, 10, 11, 12, (jk R), _, _, rfl, ⟨_, rfl, rfl⟩, ⟨by decide, by decide, rfl, rfl, rfl, rfl, rfl, rfl, rfl⟩, hok.keys.ok, hM, ?_⟩
  conv => whnf
  refine .inr (.inr ⟨0, 7, 8, 9, 10, 11, 12, M, _, _, rfl, rfl, ⟨by decide, by decide, rfl, rfl, rfl, rfl, rfl, rfl, rfl⟩, b1.ok, hT, ?_⟩)
  conv => whnf
  refine ⟨0, 7, 8, 9, 10, 11, 12, { T with kd := z }, rfl, rfl, ⟨by decide, by decide, rfl, rfl, rfl, rfl, rfl, rfl, rfl⟩, b2.ok, ?_⟩
  conv => whnf
  refine ah.dec (fun h0 => ?_) (fun h0 => ?_)
  · conv => whnf
    refine ah.dec (fun hp => ?_) (fun hp => ?_)
    · have h0 : (stF (ag ak) gK { T with kd := z }).e = 0 := h0
      have hp : 0 < (stF (ag ak) gK { T with kd := z }).ws.length := by exact Int.ofNat_lt.1 hp
      conv => whnf
      refine ⟨0, 7, 8, 9, 10, 11, 12, (stF (ag ak) gK { T with kd := z }), rfl, rfl, ⟨by decide, by decide, rfl, rfl, rfl, rfl, rfl, rfl, rfl⟩, b3.ok, ?_⟩
      conv => whnf
      exact bg (show gL R = stF (ag ak) y9 (stF (ag ak) gK { T with kd := z }) by unfold gL; rw [el, if_pos (cz h0 hp)]) 7 8 9 10 11 12 (.same rfl) (by decide) rfl rfl rfl rfl rfl rfl rfl rfl
    · have hn : ¬ aD (stF (ag ak) gK { T with kd := z }) = true := cB fun q => hp (by exact Int.ofNat_lt.2 q)
      conv => whnf
      exact bg (show gL R = (stF (ag ak) gK { T with kd := z }) by unfold gL; rw [el, if_neg hn]) 7 8 9 10 11 12 (.same rfl) (by decide) rfl rfl rfl rfl rfl rfl rfl rfl
  · have hn : ¬ aD (stF (ag ak) gK { T with kd := z }) = true := cA h0
    conv => whnf
    exact bg (show gL R = (stF (ag ak) gK { T with kd := z }) by unfold gL; rw [el, if_neg hn]) 7 8 9 10 11 12 (.same rfl) (by decide) rfl rfl rfl rfl rfl rfl rfl rfl
theorem Au : aA 51 (ba (fun R => Bz 800000 R) noA (az gL)) := bh (ax Cj 4 _) (by kernel_rfl) cD (fun _ => rfl) (fun R => ⟨rfl, fun _ => rfl⟩) fun R h => uQ R h
end Go.Proofs.Ytckcicalbjmgbaa
namespace Go.Proofs.Ytckcicalbjmgbaa
open Go Go.RowKit
theorem je.zp {H : AH} {m : Nat} {r : Nat → Nat} : ∀ {l l' : List AV} (i : Nat) (a a' : AV), l[i]? = some a → l'[i]? = some a' → aX H m r a a' → l'.all (yX m) = true → (l.set i (ren r a')).map Go.Proofs.Ytckcicalbjmgbaa.mk = l'.map (ren r) → je H m r l l'
  | [], _, _, _, _, h, _, _, _, _ => by simp at h
  | _ :: _, [], _, _, _, _, h, _, _, _ => by simp at h
  | x :: l, x' :: l', 0, a, a', h1, h2, hs, hg, e => by
    simp only [List.getElem?_cons_zero, Option.some.injEq] at h1 h2
    subst h1 h2
    simp only [List.set_cons_zero, List.map_cons, List.cons.injEq] at e
    simp only [List.all_cons, Bool.and_eq_true] at hg
    exact .cons hs (je.wS hg.2 e.2)
  | x :: l, x' :: l', i + 1, a, a', h1, h2, hs, hg, e => by
    simp only [List.getElem?_cons_succ] at h1 h2
    simp only [List.set_cons_succ, List.map_cons, List.cons.injEq] at e
    simp only [List.all_cons, Bool.and_eq_true] at hg
    exact .cons (aX.wS hg.1 e.1) (je.zp i a a' h1 h2 hs hg.2 e.2)
theorem Av {R : Rd} {H : AH} {n : Nat} (j1 j2 j3 j4 j5 j6 : Nat) {l l2 : List AV} (ht : R.ts = [-1]) (hd : [0, j1, j2, j3, j4, j5, j6].Nodup) (h0 : PM.get H 0 = some (.cells l true)) (hi : l[4]? = some (.sl j2 0 1 1 0)) (hm : (l.set 4 (.rw j2 0 R.ts.length 1 0)).map mk = rdC j1 j2 j3 j4 j5 j6 R) (r1 : PM.get H j1 = some (.cells (aq R.ks) true)) (r2 : PM.get H j2 = some (.cells l2 true)) (m2 : l2.map mk = ints [-1]) (r3 : PM.get H j3 = some (.cells (ints R.vs) true)) (r4 : PM.get H j4 = some (.cells (aS R.ls) true)) (r5 : PM.get H j5 = some (.cells (ints R.q.times) true)) (r6 : PM.get H j6 = some (.cells (aq R.fs) true)) :
    ∃ v2 H2 m, Cov 7 (mkE [(0, .tup [])]) H n (mkE [(0, v2)], H2, m) ∧ RdP (.tup []) R v2 H2 m := by
  have hl : l2.length = 1 := by have := congrArg List.length m2; simpa [ints] using this
  refine ⟨.tup [], _, _, Cov.ofR (rdN j1 j2 j3 j4 j5 j6) (le := [(0, .tup [])]) (by decide) (fun b hb => by unfold rdN; repeat' rw [if_neg (by omega)]) (fun x hx => by
    simp only [List.mem_cons, List.not_mem_nil, or_false] at hx
    subst hx; exact .same rfl) ?_ ?_, rfl, rfl, rfl⟩
  · intro x hx
    simp only [List.mem_cons, List.not_mem_nil, or_false] at hx
    rcases hx with rfl | rfl | rfl | rfl | rfl | rfl | rfl
    · exact ⟨Nat.le_of_ble_eq_true rfl, .inl ⟨_, h0, cW.st (je.zp 4 (.sl j2 0 1 1 0) (.rw 8 0 R.ts.length 1 0) hi rfl (aX.Eh (Nat.le_of_ble_eq_true rfl) rfl (.inr ⟨rfl, _, r2, by show 0 + 1 * 1 ≤ l2.length; omega⟩) (Nat.le_refl 1) (by rw [ht]; rfl)) rfl hm)⟩⟩
    · exact ⟨Nat.le_of_ble_eq_true rfl, .inl ⟨_, r1, cW.bZ (bL _) rfl (fun q => q)⟩⟩
    · exact ⟨Nat.le_of_ble_eq_true rfl, .inl ⟨_, r2, cW.bZ (aT _) (by rw [m2, ae, ht]) (fun q => q)⟩⟩
    · exact ⟨Nat.le_of_ble_eq_true rfl, .inl ⟨_, r3, cW.bZ (aT _) rfl (fun q => q)⟩⟩
    · exact ⟨Nat.le_of_ble_eq_true rfl, .inl ⟨_, r4, cW.bZ (dJ _) rfl (fun q => q)⟩⟩
    · exact ⟨Nat.le_of_ble_eq_true rfl, .inl ⟨_, r5, cW.bZ (aT _) rfl (fun q => q)⟩⟩
    · exact ⟨Nat.le_of_ble_eq_true rfl, .inl ⟨_, r6, cW.bZ (bL _) rfl (fun q => q)⟩⟩
  · exact fun x hx y hy e => vp hd x.1 (List.mem_map_of_mem (f := Prod.fst) hx) y.1 (List.mem_map_of_mem (f := Prod.fst) hy) e
theorem xd (R : Rd) (hok : Bz 800000 R) : dp (ao KB 4 48) (.ptr 0 0 :: []) (mkH (c9 (rdO R) 0)) 7 (RdP (az mK R).1 (az mK R).2) := by
  show ao KB 4 48 _ _ _ _
  conv => whnf
  refine ⟨0, 1, 2, 3, 4, 5, 6, R, rfl, rfl, ⟨by decide, by decide, rfl, rfl, rfl, rfl, rfl, rfl, rfl⟩, hok.kk, ?_⟩
  conv => whnf
  refine ⟨0, 7, 8, 9, 10, 11, 12, aK R, rfl, rfl, ⟨by decide, by decide, rfl, rfl, rfl, rfl, rfl, rfl, rfl⟩, hok.key.vv, ?_⟩
  by_cases hw : atR Dp (c8 (aK R)) = true
  · conv => whnf
    refine ⟨_, 0, 13, 14, 15, 16, 17, 18, (c8 (aK R)), _, _, rfl, ⟨_, rfl, rfl⟩, ⟨by decide, by decide, rfl, rfl, rfl, rfl, rfl, rfl, rfl⟩, hok.key.val.ok, ij hw, ?_⟩
    conv => whnf
    refine ah.sb (fun _ => ?_) (fun q => absurd q (by decide))
    conv => whnf
    refine ⟨0, 13, 14, 15, 16, 17, 18, (aa (c8 (aK R))).2, rfl, rfl, ⟨by decide, by decide, rfl, rfl, rfl, rfl, rfl, rfl, rfl⟩, hok.key.val.next.tt, ?_⟩
    conv => whnf
    exact bg (show mK R = bI (aa (c8 (aK R))).2 by unfold mK; rw [if_pos hw]) 19 20 21 22 23 24 (.same rfl) (by decide) rfl rfl rfl rfl rfl rfl rfl rfl
  · have e : mK R = { c8 (aK R) with ts := [-1] } := by unfold mK; rw [if_neg hw]
    conv => whnf
    refine ⟨_, 0, 13, 14, 15, 16, 17, 18, (c8 (aK R)), _, _, rfl, ⟨_, rfl, rfl⟩, ⟨by decide, by decide, rfl, rfl, rfl, rfl, rfl, rfl, rfl⟩, hok.key.val.ok, ky hw, ?_⟩
    conv => whnf
    refine ah.sb (fun q => absurd q (by decide)) (fun _ => ?_)
    conv => whnf
    unfold az; rw [e]
    exact Av 13 19 15 16 17 18 rfl (by decide) rfl rfl rfl rfl rfl rfl rfl rfl rfl rfl
theorem Ck : aA 48 (ba (fun R => Bz 800000 R) noA (az mK)) := bh (ax jm 4 _) (by kernel_rfl) cD (fun _ => rfl) (fun R => ⟨rfl, fun _ => rfl⟩) fun R h => xd R h
end Go.Proofs.Ytckcicalbjmgbaa
namespace Go.Proofs.Ytckcicalbjmgbaa
open Go Go.RowKit
def Cl : DT := [(3, [(some 1000000, [5, 8]), (none, [0, 1, 2, 3, 4, 5, 6, 7, 8, 9, 10, 11, 12, 13, 14, 15]), (none, [0, 1, 2, 3, 4, 6, 7, 8, 5, 9, 10, 11, 12, 13, 14, 15])])]
noncomputable def KLa : FuncId → EP := (cw 66 Cl KB)
theorem Cm : bu KLa := (aF jm (by kernel_rfl) (by kernel_rfl))
theorem xe (R : Rd) (hok : Bz 890000 R) : dp (ao KLa 4 66) (.ptr 0 0 :: []) (mkH (c9 (rdO R) 0)) 7 (RdP (az mL R).1 (az mL R).2) := by
  show ao KLa 4 66 _ _ _ _
  conv => whnf
  refine cV.mk { X : Rd // Bz 890000 X ∧ wh aD ma X = mL R } 13 (fun X => rdS X.val) (fun X => muR X.val) ⟨{ R with lbd := true }, hok.set _, rfl⟩ ?_ ?_
  · exact jl 1 2 3 4 5 6 rfl (by decide) rfl rfl rfl rfl rfl rfl rfl rfl
  · intro ⟨X, hB, hX⟩
    conv => whnf
    refine ah.dec (fun h0 => ?_) (fun h0 => ?_)
    · conv => whnf
      refine ah.dec (fun hp => ?_) (fun hp => ?_)
      · have hp : 0 < X.ws.length := by exact Int.ofNat_lt.1 hp
        have hm := cz h0 hp
        obtain ⟨f1, f2, f3, f4, f5, f6, f7⟩ := xa (R := X) (by have := hB.ls; omega)
        conv => whnf
        refine ⟨0, 7, 8, 9, 10, 11, 12, X, rfl, rfl, ⟨by decide, by decide, rfl, rfl, rfl, rfl, rfl, rfl, rfl⟩, trivial, ?_⟩
        conv => whnf
        refine ⟨?_, ?_, trivial⟩
        · conv => whnf
          refine ⟨0, 7, 8, 9, 10, 11, 12, (aa X).2, rfl, rfl, ⟨by decide, by decide, rfl, rfl, rfl, rfl, rfl, rfl, rfl⟩, trivial, ?_⟩
          conv => whnf
          refine gu.grow 2 32 _ _ _ _ _ _ DA (.old rfl) rfl rfl (.rw rfl f1) f3 ?_
          conv => whnf
          exact ⟨⟨ma X, hB.lb1 hm, (ld (fun _ => ll) hm).trans hX⟩, ll hm, eY 7 8 9 14 11 12 rfl (by decide) rfl (f5 _ _ _ _ _ _) rfl (an _) rfl (ae _) rfl (ae _) rfl (f7 _ _ rfl rfl) rfl (ae _) rfl (an _)⟩
        · conv => whnf
          refine ⟨0, 7, 8, 9, 10, 11, 12, (aa X).2, rfl, rfl, ⟨by decide, by decide, rfl, rfl, rfl, rfl, rfl, rfl, rfl⟩, trivial, ?_⟩
          conv => whnf
          refine gu.grow 2 32 _ _ _ _ _ _ DA (.old rfl) rfl rfl (.rw rfl f2) f4 ?_
          conv => whnf
          exact ⟨⟨ma X, hB.lb1 hm, (ld (fun _ => ll) hm).trans hX⟩, ll hm, eY 7 8 9 14 11 12 rfl (by decide) rfl (f6 _ _ _ _ _ _) rfl (an _) rfl (ae _) rfl (ae _) rfl (f7 _ _ rfl rfl) rfl (ae _) rfl (an _)⟩
      · have hn : ¬ aD X = true := cB fun q => hp (by exact Int.ofNat_lt.2 q)
        conv => whnf
        exact bg (show mL R = X by rw [← hX, cT hn]) 7 8 9 10 11 12 (.same rfl) (by decide) rfl rfl rfl rfl rfl rfl rfl rfl
    · have hn : ¬ aD X = true := cA h0
      conv => whnf
      exact bg (show mL R = X by rw [← hX, cT hn]) 7 8 9 10 11 12 (.same rfl) (by decide) rfl rfl rfl rfl rfl rfl rfl rfl
theorem Cn : aA 66 (ba (fun R => Bz 890000 R) noA (az mL)) := bh (ax Cm 4 _) (by kernel_rfl) cD (fun _ => rfl) (fun R => ⟨rfl, fun _ => rfl⟩) fun R h => xe R h
end Go.Proofs.Ytckcicalbjmgbaa
namespace Go.Proofs.Ytckcicalbjmgbaa
open Go Go.RowKit
noncomputable def KCr : FuncId → EP := (aB 66 (ba (fun R => Bz 890000 R) noA (az mL)) KB)
theorem Co : bu KCr := (ai jm Cn)
theorem xf (R : Rd) (hok : Bz 880000 R) : dp (ao KCr 4 45) (.ptr 0 0 :: []) (mkH (c9 (rdO R) 0)) 7 (RdP (az oD R).1 (az oD R).2) := by
  show ao KCr 4 45 _ _ _ _
  conv => whnf
  refine ⟨0, 1, 2, 3, 4, 5, 6, R, rfl, rfl, ⟨by decide, by decide, rfl, rfl, rfl, rfl, rfl, rfl, rfl⟩, hok.kk, ?_⟩
  conv => whnf
  refine cV.mk { X : Rd // Bz 880001 X ∧ wh aD iB X = oD R } 13 (fun X => rdS X.val) (fun X => muR X.val) ⟨aK R, hok.key, rfl⟩ ?_ ?_
  focus exact jl 7 8 9 10 11 12 rfl (by decide) rfl rfl rfl rfl rfl rfl rfl rfl
  intro ⟨X, hB, hX⟩
  conv => whnf
  refine ah.dec (fun h0 => ?_) (fun h0 => ?_)
  rotate_left
  focus
    have hn : ¬ aD X = true := cA h0
    conv => whnf
    exact bg (show oD R = X by rw [← hX, cT hn]) _ _ _ _ _ _ (.same rfl) (by decide) rfl rfl rfl rfl rfl rfl rfl rfl
  rotate_right
  conv => whnf
  refine ah.dec (fun hp => ?_) (fun hp => ?_)
  rotate_left
  focus
    have hn : ¬ aD X = true := cB fun q => hp (by exact Int.ofNat_lt.2 q)
    conv => whnf
    exact bg (show oD R = X by rw [← hX, cT hn]) _ _ _ _ _ _ (.same rfl) (by decide) rfl rfl rfl rfl rfl rfl rfl rfl
  rotate_right
  have hp : 0 < X.ws.length := by exact Int.ofNat_lt.1 hp
  have hm := cz h0 hp
  have go : ∀ Y, iB X = Y → Bz 880001 Y ∧ wh aD iB Y = oD R ∧ muR Y < muR X := fun Y e => by subst e; exact ⟨hB.cs1, (ld (fun _ => vz) hm).trans hX, vz hm⟩
  conv => whnf
  refine ah.dec (fun c1 => ?_) (fun c1 => ?_)
  rotate_left
  focus
    have n1 : ¬ (X.ret = -1 ∧ atR Am X = true) := fun q => c1 (by exact q.1)
  rotate_right
  focus
    have c1 : X.ret = -1 := c1
    by_cases hw : atR Am X = true
    focus
      conv => whnf
      refine ⟨_, 0, _, _, _, _, _, _, X, _, _, rfl, ⟨_, rfl, rfl⟩, ⟨by decide, by decide, rfl, rfl, rfl, rfl, rfl, rfl, rfl⟩, hB.ok, ij hw, ?_⟩
      conv => whnf
      refine ah.sb (fun _ => ?_) (fun q => absurd q (by decide))
      conv => whnf
      refine ⟨0, _, _, _, _, _, _, (aa X).2, rfl, rfl, ⟨by decide, by decide, rfl, rfl, rfl, rfl, rfl, rfl, rfl⟩, hB.next.ok, ?_⟩
      have ee : iB X = stF ko uI (aa X).2 := (by unfold iB; rw [if_pos ⟨c1, hw⟩])
      conv => whnf
      exact ⟨⟨stF ko uI (aa X).2, (go _ ee).1, (go _ ee).2.1⟩, (go _ ee).2.2, jl _ _ _ _ _ _ rfl (by decide) rfl rfl rfl rfl rfl rfl rfl rfl⟩
    have n1 : ¬ (X.ret = -1 ∧ atR Am X = true) := fun q => hw (by exact q.2)
    conv => whnf
    refine ⟨_, 0, _, _, _, _, _, _, X, _, _, rfl, ⟨_, rfl, rfl⟩, ⟨by decide, by decide, rfl, rfl, rfl, rfl, rfl, rfl, rfl⟩, hB.ok, ky hw, ?_⟩
    conv => whnf
    refine ah.sb (fun q => absurd q (by decide)) (fun _ => ?_)
  all_goals
    conv => whnf
    refine ah.dec (fun c2 => ?_) (fun c2 => ?_)
    rotate_left
    focus
      have n2 : ¬ (X.nm = 1 ∧ X.siz = -1 ∧ atR y6 X = true) := fun q => c2 (by exact q.1)
    rotate_right
    focus
      have d2 : X.nm = 1 := c2
      conv => whnf
      refine ah.dec (fun c2 => ?_) (fun c2 => ?_)
      rotate_left
      focus
        have n2 : ¬ (X.nm = 1 ∧ X.siz = -1 ∧ atR y6 X = true) := fun q => c2 (by exact q.2.1)
      rotate_right
      focus
        have c2 : X.siz = -1 := c2
        by_cases hw : atR y6 X = true
        focus
          conv => whnf
          refine ⟨_, 0, _, _, _, _, _, _, X, _, _, rfl, ⟨_, rfl, rfl⟩, ⟨by decide, by decide, rfl, rfl, rfl, rfl, rfl, rfl, rfl⟩, hB.ok, ij hw, ?_⟩
          conv => whnf
          refine ah.sb (fun _ => ?_) (fun q => absurd q (by decide))
          conv => whnf
          refine ⟨0, _, _, _, _, _, _, (aa X).2, rfl, rfl, ⟨by decide, by decide, rfl, rfl, rfl, rfl, rfl, rfl, rfl⟩, hB.next.ok, ?_⟩
          have ee : iB X = stF ko uJ (aa X).2 := (by unfold iB; rw [if_neg n1, if_pos ⟨d2, c2, hw⟩])
          conv => whnf
          exact ⟨⟨stF ko uJ (aa X).2, (go _ ee).1, (go _ ee).2.1⟩, (go _ ee).2.2, jl _ _ _ _ _ _ rfl (by decide) rfl rfl rfl rfl rfl rfl rfl rfl⟩
        have n2 : ¬ (X.nm = 1 ∧ X.siz = -1 ∧ atR y6 X = true) := fun q => hw (by exact q.2.2)
        conv => whnf
        refine ⟨_, 0, _, _, _, _, _, _, X, _, _, rfl, ⟨_, rfl, rfl⟩, ⟨by decide, by decide, rfl, rfl, rfl, rfl, rfl, rfl, rfl⟩, hB.ok, ky hw, ?_⟩
        conv => whnf
        refine ah.sb (fun q => absurd q (by decide)) (fun _ => ?_)
  all_goals
    conv => whnf
    refine ah.dec (fun c3 => ?_) (fun c3 => ?_)
    rotate_left
    focus
      have n3 : ¬ (X.pol = 0 ∧ atR An X = true) := fun q => c3 (by exact q.1)
    rotate_right
    focus
      have c3 : X.pol = 0 := c3
      by_cases hw : atR An X = true
      focus
        conv => whnf
        refine ⟨_, 0, _, _, _, _, _, _, X, _, _, rfl, ⟨_, rfl, rfl⟩, ⟨by decide, by decide, rfl, rfl, rfl, rfl, rfl, rfl, rfl⟩, hB.ok, ij hw, ?_⟩
        conv => whnf
        refine ah.sb (fun _ => ?_) (fun q => absurd q (by decide))
        conv => whnf
        refine .inr (.inl ⟨0, _, _, _, _, _, _, (aa X).2, rfl, rfl, ⟨by decide, by decide, rfl, rfl, rfl, rfl, rfl, rfl, rfl⟩, hB.next.ok, ?_⟩)
        have ee : iB X = stF (ag cL) l8 (aa X).2 := (by unfold iB; rw [if_neg n1, if_neg n2, if_pos ⟨c3, hw⟩])
        conv => whnf
        exact ⟨⟨stF (ag cL) l8 (aa X).2, (go _ ee).1, (go _ ee).2.1⟩, (go _ ee).2.2, jl _ _ _ _ _ _ rfl (by decide) rfl rfl rfl rfl rfl rfl rfl rfl⟩
      have n3 : ¬ (X.pol = 0 ∧ atR An X = true) := fun q => hw (by exact q.2)
      conv => whnf
      refine ⟨_, 0, _, _, _, _, _, _, X, _, _, rfl, ⟨_, rfl, rfl⟩, ⟨by decide, by decide, rfl, rfl, rfl, rfl, rfl, rfl, rfl⟩, hB.ok, ky hw, ?_⟩
      conv => whnf
      refine ah.sb (fun q => absurd q (by decide)) (fun _ => ?_)
  all_goals
    by_cases hw : atR Dm X = true
    focus
      conv => whnf
      refine ⟨_, 0, _, _, _, _, _, _, X, _, _, rfl, ⟨_, rfl, rfl⟩, ⟨by decide, by decide, rfl, rfl, rfl, rfl, rfl, rfl, rfl⟩, hB.ok, ij hw, ?_⟩
      conv => whnf
      refine ah.sb (fun _ => ?_) (fun q => absurd q (by decide))
      conv => whnf
      refine ⟨0, _, _, _, _, _, _, (aa X).2, rfl, rfl, ⟨by decide, by decide, rfl, rfl, rfl, rfl, rfl, rfl, rfl⟩, hB.next.mono (by decide), ?_⟩
      have ee : iB X = mL (aa X).2 := (by unfold iB; rw [if_neg n1, if_neg n2, if_neg n3, if_pos hw])
      conv => whnf
      exact ⟨⟨mL (aa X).2, (go _ ee).1, (go _ ee).2.1⟩, (go _ ee).2.2, jl _ _ _ _ _ _ rfl (by decide) rfl rfl rfl rfl rfl rfl rfl rfl⟩
    conv => whnf
    refine ⟨_, 0, _, _, _, _, _, _, X, _, _, rfl, ⟨_, rfl, rfl⟩, ⟨by decide, by decide, rfl, rfl, rfl, rfl, rfl, rfl, rfl⟩, hB.ok, ky hw, ?_⟩
    conv => whnf
    refine ah.sb (fun q => absurd q (by decide)) (fun _ => ?_)
    conv => whnf
    refine ah.dec (fun h1 => ?_) (fun q => absurd h0 q)
    have ee : iB X = { X with e := 17 } := (by unfold iB cu; rw [if_neg n1, if_neg n2, if_neg n3, if_neg hw, if_pos h0])
    conv => whnf
    exact ⟨⟨{ X with e := 17 }, (go _ ee).1, (go _ ee).2.1⟩, (go _ ee).2.2, jl _ _ _ _ _ _ rfl (by decide) rfl rfl rfl rfl rfl rfl rfl rfl⟩
theorem Cp : aA 45 (ba (fun R => Bz 880000 R) noA (az oD)) := bh (ax Co 4 _) (by kernel_rfl) cD (fun _ => rfl) (fun R => ⟨rfl, fun _ => rfl⟩) fun R h => xf R h
end Go.Proofs.Ytckcicalbjmgbaa
namespace Go.Proofs.Ytckcicalbjmgbaa
open Go Go.RowKit
def Cq : DT := [(4, [(some 1000000, [4, 6]), (none, [0, 1, 2, 3, 4, 5, 6, 7, 8, 9, 10, 11]), (none, [0, 1, 2, 3, 5, 6, 4, 7, 8, 9, 10, 11])]), (1000010, []), (1000013, []), (1000015, []), (1000020, [])]
def Bm (args : List AV) (H : AH) (n : Nat) (κ : PK) : Prop := bo WOk noA (aG ak) args H n κ ∨ y4 (bo WOk noA (aG ak)) args H n κ
theorem Ek : aA 70 Bm := fun args H n κ hs => hs.elim (gI args H n κ) (gI.y4 args H n κ)
noncomputable def KOp : FuncId → EP := (cw 74 Cq (aB 70 Bm (aB 64 oH (aB 18 vl KB))))
theorem Cr : bu KOp := (aF (ai (ai (ai jm s5) vC) Ek) (by kernel_rfl) (by kernel_rfl))
theorem xg {S : Rd} {B : Nat} {g : List Nat → Int × Int} (hl : S.q.times.length ≤ 1000000) : aV (ints (ag g S).2.q.times) 0 (S.q.times.length * 1) = some (ints (ag g S).2.q.times) ∧ aV (ints (ag g S).2.q.times) 0 ((ag g S).2.q.times.length * 1) = some (ints (ag g S).2.q.times) ∧ (S.q.times.length + 1) * 8 ≤ 140737488355328 ∧ ((ag g S).2.q.times.length + 1) * 8 ≤ 140737488355328 ∧
    (∀ a b c d e f, lX a b c d e f (ag g S).2.ks.length (ag g S).2.ts.length (ag g S).2.vs.length (ag g S).2.ls.length (S.q.times.length + 1) (ag g S).2.fs.length (stF (ag g) mM S) = rdC a b c d e f (stF (ag g) mM S)) ∧
    (∀ a b c d e f, lX a b c d e f (ag g S).2.ks.length (ag g S).2.ts.length (ag g S).2.vs.length (ag g S).2.ls.length ((ag g S).2.q.times.length + 1) (ag g S).2.fs.length (stF (ag g) mM S) = rdC a b c d e f (stF (ag g) mM S)) ∧
    (ints (ag g S).2.q.times ++ [AV.si .i64 (ag g S).1]).map mk = ints (stF (ag g) mM S).q.times := by
  have hk : (ag g S).2.q = S.q := (dK g S).q
  have h1 : (stF (ag g) mM S).q.times.length = S.q.times.length + 1 := by show ((ag g S).2.q.times ++ [_]).length = _; rw [hk]; simp
  refine ⟨by rw [hk]; exact dG _, dG _, by omega, by rw [hk]; omega, fun a b c d e f => by rw [← h1]; rfl, fun a b c d e f => by rw [hk, ← h1]; rfl, ?_⟩
  rw [ig, ae]; rfl
theorem xh {S : Rd} (hl : S.q.times.length ≤ 1000000) : aV (ints (aa S).2.q.times) 0 ((aa S).2.q.times.length * 1) = some (ints (aa S).2.q.times) ∧ ((aa S).2.q.times.length + 1) * 8 ≤ 140737488355328 ∧
    (∀ a b c d e f, lX a b c d e f (aa S).2.ks.length (aa S).2.ts.length (aa S).2.vs.length (aa S).2.ls.length ((aa S).2.q.times.length + 1) (aa S).2.fs.length (oE S) = rdC a b c d e f (oE S)) ∧
    (ints (aa S).2.q.times ++ [AV.si .i64 (ak (S.ws.headD [])).1]).map mk = ints (oE S).q.times := by
  have hk : (aa S).2.q = S.q := (bj S).q
  have h1 : (oE S).q.times.length = S.q.times.length + 1 := by show ((aa S).2.q.times ++ [_]).length = _; rw [hk]; simp
  refine ⟨dG _, by rw [hk]; omega, fun a b c d e f => by rw [hk, ← h1]; rfl, ?_⟩
  rw [ig, ae]; rfl
noncomputable def opS (R : Rd) : AE × AH := (mkE [(0, .ptr 0 0), (2, .ptr 0 16)], rdM R)
theorem vD {σ : AE} {H : AH} {n : Nat} {R : Rd} (j1 j2 j3 j4 j5 j6 : Nat) {l l1 l2 l3 l4 l5 l6 : List AV} (he : aC (pa 0) σ = .ptr 0 0) (he2 : aC (pa 2) σ = .ptr 0 16) (hd : [0, j1, j2, j3, j4, j5, j6].Nodup) (h0 : PM.get H 0 = some (.cells l true)) (hm : l.map mk = rdC j1 j2 j3 j4 j5 j6 R) (r1 : PM.get H j1 = some (.cells l1 true)) (m1 : l1.map mk = aq R.ks) (r2 : PM.get H j2 = some (.cells l2 true)) (m2 : l2.map mk = ints R.ts) (r3 : PM.get H j3 = some (.cells l3 true)) (m3 : l3.map mk = ints R.vs) (r4 : PM.get H j4 = some (.cells l4 true)) (m4 : l4.map mk = aS R.ls) (r5 : PM.get H j5 = some (.cells l5 true)) (m5 : l5.map mk = ints R.q.times) (r6 : PM.get H j6 = some (.cells l6 true)) (m6 : l6.map mk = aq R.fs) : Cov 7 σ H n ((opS R).1, (opS R).2, 13) :=
  uD j1 j2 j3 j4 j5 j6 (le := [(0, .ptr 0 0), (2, .ptr 0 16)]) (fun x hx => by
    simp only [List.mem_cons, List.not_mem_nil, or_false] at hx
    rcases hx with rfl | rfl
    · exact aX.ptr (Nat.le_of_ble_eq_true rfl) (by rw [he]; rfl)
    · exact aX.ptr (Nat.le_of_ble_eq_true rfl) (by rw [he2]; rfl)) hd h0 hm r1 m1 r2 m2 r3 m3 r4 m4 r5 m5 r6 m6
theorem gA {σ : AE} {H : AH} {n : Nat} {R : Rd} (j1 j2 j3 j4 j5 j6 : Nat) {l : List AV} (he : aC (pa 0) σ = .ptr 0 0) (he2 : aC (pa 2) σ = .ptr 0 16) (hd : [0, j1, j2, j3, j4, j5, j6].Nodup) (h0 : PM.get H 0 = some (.cells l true)) (hm : l.map mk = rdC j1 j2 j3 j4 j5 j6 R) (r1 : PM.get H j1 = some (.cells (aq R.ks) true)) (r2 : PM.get H j2 = some (.cells (ints R.ts) true)) (r3 : PM.get H j3 = some (.cells (ints R.vs) true)) (r4 : PM.get H j4 = some (.cells (aS R.ls) true)) (r5 : PM.get H j5 = some (.cells (ints R.q.times) true)) (r6 : PM.get H j6 = some (.cells (aq R.fs) true)) : Cov 7 σ H n ((opS R).1, (opS R).2, 13) :=
  vD j1 j2 j3 j4 j5 j6 he he2 hd h0 hm r1 (an _) r2 (ae _) r3 (ae _) r4 (aO _) r5 (ae _) r6 (an _)
theorem ik (w : List Nat) (R : Rd) : ∃ q Y, gy w R = (.sb q, Y) ∧ (q = true → atR w R = true ∧ Y = (aa R).2) ∧ (q = false → ¬ atR w R = true ∧ Y = R) := by
  by_cases h : atR w R = true
  · exact ⟨true, _, ij h, (fun _ => ⟨h, rfl⟩), fun q => by cases q⟩
  · exact ⟨false, _, ky h, (fun q => by cases q), fun _ => ⟨h, rfl⟩⟩
theorem xi (R : Rd) (hok : Bz 790000 R) : dp (ao KOp 4 74) (.ptr 0 0 :: []) (mkH (c9 (rdO R) 0)) 7 (RdP (az lj R).1 (az lj R).2) := by
  show ao KOp 4 74 _ _ _ _
  conv => whnf
  refine ⟨_, _, 0, _, _, _, _, _, _, R, rfl, ⟨_, _, rfl, rfl, rfl⟩, ⟨by decide, by decide, rfl, rfl, rfl, rfl, rfl, rfl, rfl⟩, hok.ok, ?_⟩
  conv => whnf
  refine ⟨_, _, 0, _, _, _, _, _, _, (stF (orR [45] 0) vu R), rfl, ⟨_, _, rfl, rfl, rfl⟩, ⟨by decide, by decide, rfl, rfl, rfl, rfl, rfl, rfl, rfl⟩, ((hok.orW [45] 0).set (stF (orR [45] 0) vu R)).ok, ?_⟩
  obtain ⟨q1, Y, hh, ht, hf⟩ := ik Dq (mN R)
  conv => whnf
  refine oa.mk { X : Rd // mb (mN R) = X ∧ Bz 790001 X } 13 (fun X => opS X.val) ?_ ?_
  focus
    conv => whnf
    refine ⟨_, 0, _, _, _, _, _, _, (mN R), _, _, rfl, ⟨_, rfl, rfl⟩, ⟨by decide, by decide, rfl, rfl, rfl, rfl, rfl, rfl, rfl⟩, hok.o1.ok, hh, ?_⟩
    conv => whnf
    refine ah.sb (fun hb => ?_) (fun hb => ?_)
    focus
      have bY : Bz 790000 Y := by rw [(ht hb).2]; exact hok.o1.next
      have e2 : mb (mN R) = wh kq oE (stF (ag ak) mM Y) := by unfold mb; rw [if_pos (ht hb).1, (ht hb).2]
      obtain ⟨f1, f2, f3, f4, f5, f6, f7⟩ := xg (B := 0) (g := ak) (S := Y) (by have := bY.q; omega)
      conv => whnf
      refine ⟨?_, ?_, trivial⟩
      focus
        conv => whnf
        refine .inl ⟨0, _, _, _, _, _, _, Y, rfl, rfl, ⟨by decide, by decide, rfl, rfl, rfl, rfl, rfl, rfl, rfl⟩, bY.ok, ?_⟩
        conv => whnf
        refine gu.grow 1 8 _ _ _ _ _ _ uE (.old rfl) rfl rfl (.rw rfl f1) f3 ?_
        conv => whnf
        refine cV.mk { X : Rd // Bz 790001 X ∧ wh kq oE X = mb (mN R) } 13 (fun X => opS X.val) (fun X => muR X.val) ⟨stF (ag ak) mM Y, (bY.told ak).ptT _, e2.symm⟩ ?_ ?_
        focus
          exact vD _ _ _ _ _ _ rfl rfl (by decide) rfl (f5 _ _ _ _ _ _) rfl (an _) rfl (ae _) rfl (ae _) rfl (aO _) rfl f7 rfl (an _)
      rotate_left
      focus
        conv => whnf
        refine .inl ⟨0, _, _, _, _, _, _, Y, rfl, rfl, ⟨by decide, by decide, rfl, rfl, rfl, rfl, rfl, rfl, rfl⟩, bY.ok, ?_⟩
        conv => whnf
        refine gu.grow 1 8 _ _ _ _ _ _ uE (.old rfl) rfl rfl (.rw rfl f2) f4 ?_
        conv => whnf
        refine cV.mk { X : Rd // Bz 790001 X ∧ wh kq oE X = mb (mN R) } 13 (fun X => opS X.val) (fun X => muR X.val) ⟨stF (ag ak) mM Y, (bY.told ak).ptT _, e2.symm⟩ ?_ ?_
        focus
          exact vD _ _ _ _ _ _ rfl rfl (by decide) rfl (f6 _ _ _ _ _ _) rfl (an _) rfl (ae _) rfl (ae _) rfl (aO _) rfl f7 rfl (an _)
      all_goals
        intro ⟨X, hB, hX⟩
        conv => whnf
        refine ah.dec (fun h0 => ?_) (fun h0 => ?_)
        rotate_left
        focus
          have ee : mb (mN R) = X := by rw [← hX, cT (show ¬ kq X = true by unfold kq; rw [show aD X = false from Bool.eq_false_iff.2 (cA h0)]; simp)]
          conv => whnf
          exact ⟨⟨X, ee, hB⟩, gA _ _ _ _ _ _ rfl rfl (by decide) rfl rfl rfl rfl rfl rfl rfl rfl⟩
        conv => whnf
        refine ah.dec (fun hp => ?_) (fun hp => ?_)
        rotate_left
        focus
          have ee : mb (mN R) = X := by rw [← hX, cT (show ¬ kq X = true by unfold kq; rw [show aD X = false from Bool.eq_false_iff.2 (cB fun q => hp (by exact Int.ofNat_lt.2 q))]; simp)]
          conv => whnf
          exact ⟨⟨X, ee, hB⟩, gA _ _ _ _ _ _ rfl rfl (by decide) rfl rfl rfl rfl rfl rfl rfl rfl⟩
        have hp : 0 < X.ws.length := by exact Int.ofNat_lt.1 hp
        have hm := cz h0 hp
        have hwd := hB.ok _ (List.getElem_mem hp)
        rw [m0 hp] at hwd
        conv => whnf
        refine Idx.mk 0 rfl hp ?_
        conv => whnf
        refine aP (eL hp) ?_
        conv => whnf
        refine ⟨X.ws.headD [], rfl, hwd.1, hwd.2, ?_⟩
        conv => whnf
        refine ah.fO (fun hb => ?_) (fun hb => ?_)
        focus
          have hb : ¬ (ak (X.ws.headD [])).2 = 0 := hb
          have ee : mb (mN R) = X := by rw [← hX, cT (show ¬ kq X = true by unfold kq; rw [show decide ((ak (X.ws.headD [])).2 = 0) = false from decide_eq_false hb]; simp)]
          conv => whnf
          exact ⟨⟨X, ee, hB⟩, gA _ _ _ _ _ _ rfl rfl (by decide) rfl rfl rfl rfl rfl rfl rfl rfl⟩
        have hb : (ak (X.ws.headD [])).2 = 0 := hb
        have hc : kq X = true := by unfold kq; rw [hm, decide_eq_true hb]; rfl
        obtain ⟨g1, g2, g3, g4⟩ := xh (S := X) (by have := hB.q; omega)
        conv => whnf
        refine ⟨0, _, _, _, _, _, _, X, rfl, rfl, ⟨by decide, by decide, rfl, rfl, rfl, rfl, rfl, rfl, rfl⟩, trivial, ?_⟩
        conv => whnf
        refine gu.grow 1 8 _ _ _ _ _ _ uE (.old rfl) rfl rfl (.rw rfl g1) g2 ?_
        conv => whnf
        exact ⟨⟨oE X, hB.tm1 hm, (ld (fun _ => vy) hc).trans hX⟩, vy hc, vD _ _ _ _ _ _ rfl rfl (by decide) rfl (g3 _ _ _ _ _ _) rfl (an _) rfl (ae _) rfl (ae _) rfl (aO _) rfl g4 rfl (an _)⟩
    have ee : mb (mN R) = Y := by unfold mb; rw [if_neg (hf hb).1, (hf hb).2]
    conv => whnf
    exact ⟨⟨Y, ee, (by rw [(hf hb).2]; exact hok.o1.mono (by decide))⟩, gA _ _ _ _ _ _ rfl rfl (by decide) rfl rfl rfl rfl rfl rfl rfl rfl⟩
  intro ⟨A, eA, bA⟩
  obtain ⟨q3, Y3, hh3, ht, hf⟩ := ik Dr A
  conv => whnf
  refine oa.mk { X : Rd // tg A = X ∧ Bz 790001 X } 13 (fun X => opS X.val) ?_ ?_
  focus
    conv => whnf
    refine ⟨_, 0, _, _, _, _, _, _, A, _, _, rfl, ⟨_, rfl, rfl⟩, ⟨by decide, by decide, rfl, rfl, rfl, rfl, rfl, rfl, rfl⟩, bA.ok, hh3, ?_⟩
    conv => whnf
    refine ah.sb (fun hb => ?_) (fun hb => ?_)
    focus
      have bY : Bz 790001 Y3 := by rw [(ht hb).2]; exact bA.next
      conv => whnf
      refine .inl ⟨0, _, _, _, _, _, _, Y3, rfl, rfl, ⟨by decide, by decide, rfl, rfl, rfl, rfl, rfl, rfl, rfl⟩, bY.ok, ?_⟩
      conv => whnf
      refine .inr ⟨_, _, bX.vn (b := 0) rfl, 0, _, _, _, _, _, _, (stF (ag ak) pY Y3), rfl, rfl, ⟨by decide, by decide, rfl, rfl, rfl, rfl, rfl, rfl, rfl⟩, (bY.told ak).ok, ?_⟩
      have ee : tg A = stF (ag ak) zd (stF (ag ak) pY Y3) := by unfold tg; rw [if_pos (ht hb).1, (ht hb).2]
      conv => whnf
      exact ⟨⟨stF (ag ak) zd (stF (ag ak) pY Y3), ee, (((bY.told ak).set (stF (ag ak) pY Y3)).told ak).set _⟩, gA _ _ _ _ _ _ rfl rfl (by decide) rfl rfl rfl rfl rfl rfl rfl rfl⟩
    have ee : tg A = Y3 := by unfold tg; rw [if_neg (hf hb).1, (hf hb).2]
    conv => whnf
    exact ⟨⟨Y3, ee, (by rw [(hf hb).2]; exact bA)⟩, gA _ _ _ _ _ _ rfl rfl (by decide) rfl rfl rfl rfl rfl rfl rfl rfl⟩
  intro ⟨B, eB, bB⟩
  obtain ⟨q4, Y4, hh4, ht, hf⟩ := ik Ds B
  conv => whnf
  refine oa.mk { X : Rd // th B = X ∧ Bz 790001 X } 13 (fun X => opS X.val) ?_ ?_
  focus
    conv => whnf
    refine ⟨_, 0, _, _, _, _, _, _, B, _, _, rfl, ⟨_, rfl, rfl⟩, ⟨by decide, by decide, rfl, rfl, rfl, rfl, rfl, rfl, rfl⟩, bB.ok, hh4, ?_⟩
    conv => whnf
    refine ah.sb (fun hb => ?_) (fun hb => ?_)
    focus
      have bY : Bz 790001 Y4 := by rw [(ht hb).2]; exact bB.next
      conv => whnf
      refine .inl ⟨0, _, _, _, _, _, _, Y4, rfl, rfl, ⟨by decide, by decide, rfl, rfl, rfl, rfl, rfl, rfl, rfl⟩, bY.ok, ?_⟩
      have ee : th B = stF (ag ak) zb Y4 := by unfold th; rw [if_pos (ht hb).1, (ht hb).2]
      conv => whnf
      exact ⟨⟨stF (ag ak) zb Y4, ee, (bY.told ak).set _⟩, gA _ _ _ _ _ _ rfl rfl (by decide) rfl rfl rfl rfl rfl rfl rfl rfl⟩
    have ee : th B = Y4 := by unfold th; rw [if_neg (hf hb).1, (hf hb).2]
    conv => whnf
    exact ⟨⟨Y4, ee, (by rw [(hf hb).2]; exact bB)⟩, gA _ _ _ _ _ _ rfl rfl (by decide) rfl rfl rfl rfl rfl rfl rfl rfl⟩
  intro ⟨C, eC, bC⟩
  have eX : lj R = w8 C := by unfold lj; rw [eA, eB, eC]
  obtain ⟨q5, Y5, hh5, ht, hf⟩ := ik wZ C
  conv => whnf
  refine ⟨_, 0, _, _, _, _, _, _, C, _, _, rfl, ⟨_, rfl, rfl⟩, ⟨by decide, by decide, rfl, rfl, rfl, rfl, rfl, rfl, rfl⟩, bC.ok, hh5, ?_⟩
  conv => whnf
  refine ah.sb (fun hb => ?_) (fun hb => ?_)
  rotate_left
  focus
    conv => whnf
    exact bg (show lj R = Y5 by rw [eX]; unfold w8; rw [if_neg (hf hb).1, (hf hb).2]) _ _ _ _ _ _ (.same rfl) (by decide) rfl rfl rfl rfl rfl rfl rfl rfl
  have bY : Bz 790001 Y5 := by rw [(ht hb).2]; exact bC.next
  obtain ⟨z, T, hT, hT'⟩ := oI cg Y5
  have bT : Bz 790001 { T with q := { T.q with kind := z } } := by have := (bY.told cg).set (stF (ag cg) pX Y5); unfold stF pX at this; rw [hT'] at this; exact this
  conv => whnf
  refine .inr (.inr ⟨0, _, _, _, _, _, _, Y5, _, _, rfl, rfl, ⟨by decide, by decide, rfl, rfl, rfl, rfl, rfl, rfl, rfl⟩, bY.ok, hT, ?_⟩)
  conv => whnf
  refine .inl ⟨0, _, _, _, _, _, _, { T with q := { T.q with kind := z } }, rfl, rfl, ⟨by decide, by decide, rfl, rfl, rfl, rfl, rfl, rfl, rfl⟩, bT.ok, ?_⟩
  obtain ⟨D, hD⟩ : ∃ D, D = stF (ag ak) vw { T with q := { T.q with kind := z } } := ⟨_, rfl⟩
  have bD : Bz 790001 D := by rw [hD]; exact (bT.told ak).set _
  have e5 : lj R = ti (lg D) := by rw [eX, hD]; unfold w8; rw [if_pos (ht hb).1]; unfold ze; rw [← (ht hb).2]; congr 2; show stF (ag ak) vw (stF (ag cg) pX Y5) = _; congr 1; unfold stF pX; rw [hT']
  obtain ⟨q6, Y6, hh6, ht, hf⟩ := ik Dt D
  rw [hD] at hh6
  conv => whnf
  refine oa.mk { X : Rd // lg D = X ∧ Bz 790001 X } 13 (fun X => opS X.val) ?_ ?_
  focus
    conv => whnf
    refine ⟨_, 0, _, _, _, _, _, _, (stF (ag ak) vw { T with q := { T.q with kind := z } }), _, _, rfl, ⟨_, rfl, rfl⟩, ⟨by decide, by decide, rfl, rfl, rfl, rfl, rfl, rfl, rfl⟩, (hD ▸ bD.ok), hh6, ?_⟩
    conv => whnf
    refine ah.sb (fun hb => ?_) (fun hb => ?_)
    focus
      have bY : Bz 790001 Y6 := by rw [(ht hb).2]; exact bD.next
      conv => whnf
      refine .inl ⟨0, _, _, _, _, _, _, Y6, rfl, rfl, ⟨by decide, by decide, rfl, rfl, rfl, rfl, rfl, rfl, rfl⟩, bY.ok, ?_⟩
      have ee : lg D = stF (ag ak) zc Y6 := by unfold lg; rw [if_pos (ht hb).1, (ht hb).2]
      conv => whnf
      exact ⟨⟨stF (ag ak) zc Y6, ee, (bY.told ak).set _⟩, gA _ _ _ _ _ _ rfl rfl (by decide) rfl rfl rfl rfl rfl rfl rfl rfl⟩
    have ee : lg D = Y6 := by unfold lg; rw [if_neg (hf hb).1, (hf hb).2]
    conv => whnf
    exact ⟨⟨Y6, ee, (by rw [(hf hb).2]; exact bD)⟩, gA _ _ _ _ _ _ rfl rfl (by decide) rfl rfl rfl rfl rfl rfl rfl rfl⟩
  intro ⟨E, eE, bE⟩
  obtain ⟨q7, Y7, hh7, ht, hf⟩ := ik Du E
  have e7 : lj R = { Y7 with q := { Y7.q with empty := q7 } } := by
      rw [e5, eE]; unfold ti
      cases q7 with
      | true => rw [if_pos (ht rfl).1, (ht rfl).2]
      | false => rw [if_neg (hf rfl).1, (hf rfl).2]
  conv => whnf
  refine ⟨_, 0, _, _, _, _, _, _, E, _, _, rfl, ⟨_, rfl, rfl⟩, ⟨by decide, by decide, rfl, rfl, rfl, rfl, rfl, rfl, rfl⟩, bE.ok, hh7, ?_⟩
  conv => whnf
  exact bg e7 _ _ _ _ _ _ (.same rfl) (by decide) rfl rfl rfl rfl rfl rfl rfl rfl
theorem Cs : aA 74 (ba (fun R => Bz 790000 R) noA (az lj)) := bh (ax Cr 4 _) (by kernel_rfl) cD (fun _ => rfl) (fun R => ⟨rfl, fun _ => rfl⟩) fun R h => xi R h
end Go.Proofs.Ytckcicalbjmgbaa
namespace Go.Proofs.Ytckcicalbjmgbaa
open Go Go.RowKit
def Ct : DT := [(0, [(some 1000000, [5, 7]), (none, [0, 1, 2, 3, 4, 5, 6, 7, 8, 9, 10, 11, 12, 13]), (none, [0, 1, 2, 3, 4, 6, 7, 5, 8, 9, 10, 11, 12, 13])]), (2, [(some 1000000, [5, 7]), (none, [0, 1, 2, 3, 4, 5, 6, 7, 8, 9, 10, 11, 12, 13]), (none, [0, 1, 2, 3, 4, 6, 7, 5, 8, 9, 10, 11, 12, 13])])]
noncomputable def KFi : FuncId → EP := (cw 57 Ct KB)
theorem Cu : bu KFi := (aF jm (by kernel_rfl) (by kernel_rfl))
theorem xj (R : Rd) (hok : Bz 880000 R) : dp (ao KFi 4 57) (.ptr 0 0 :: []) (mkH (c9 (rdO R) 0)) 7 (RdP (az jE R).1 (az jE R).2) := by
  obtain ⟨g1, g2, g3, g4, g5, g6, g7⟩ := mc (R := R) (by have := hok.fs; omega)
  show ao KFi 4 57 _ _ _ _
  conv => whnf
  refine ⟨?_, ?_, trivial⟩
  · conv => whnf
    refine ⟨0, 1, 2, 3, 4, 5, 6, R, rfl, rfl, ⟨by decide, by decide, rfl, rfl, rfl, rfl, rfl, rfl, rfl⟩, trivial, ?_⟩
    conv => whnf
    refine gu.grow 1 16 _ _ _ _ _ _ s8 (.old rfl) rfl rfl (.rw rfl g1) g3 ?_
    conv => whnf
    refine cV.mk { X : Rd // Bz 880001 X ∧ wh fT gM X = jE R } 13 (fun X => rdS X.val) (fun X => muR X.val) ⟨gM R, hok.fs1, rfl⟩ ?_ ?_
    · exact eY 1 2 3 4 5 8 rfl (by decide) rfl (g5 _ _ _ _ _ _) rfl (an _) rfl (ae _) rfl (ae _) rfl (aO _) rfl (ae _) rfl (g7 _ rfl)
    · intro ⟨X, hB, hX⟩
      conv => whnf
      refine ah.dec (fun h0 => ?_) (fun h0 => ?_)
      · conv => whnf
        refine ah.dec (fun hp => ?_) (fun hp => ?_)
        · have hp : 0 < X.ws.length := by exact Int.ofNat_lt.1 hp
          have hm := cz h0 hp
          by_cases hw : atR y7 X = true
          · conv => whnf
            refine ⟨_, 0, 7, 8, 9, 10, 11, 12, X, _, _, rfl, ⟨_, rfl, rfl⟩, ⟨by decide, by decide, rfl, rfl, rfl, rfl, rfl, rfl, rfl⟩, hB.ok, zm hw, ?_⟩
            conv => whnf
            refine ah.nsb (fun q => absurd q (by decide)) (fun _ => ?_)
            conv => whnf
            exact bg (show jE R = X by rw [← hX, cT (show ¬ fT X = true by unfold fT; rw [hw]; simp)]) 7 8 9 10 11 12 (.same rfl) (by decide) rfl rfl rfl rfl rfl rfl rfl rfl
          · have hc : fT X = true := by unfold fT; rw [hm, Bool.eq_false_iff.2 hw]; rfl
            obtain ⟨f1, f2, f3, f4, f5, f6, f7⟩ := mc (R := X) (by have := hB.fs; omega)
            conv => whnf
            refine ⟨_, 0, 7, 8, 9, 10, 11, 12, X, _, _, rfl, ⟨_, rfl, rfl⟩, ⟨by decide, by decide, rfl, rfl, rfl, rfl, rfl, rfl, rfl⟩, hB.ok, Bl hw, ?_⟩
            conv => whnf
            refine ah.nsb (fun _ => ?_) (fun q => absurd q (by decide))
            conv => whnf
            refine ⟨?_, ?_, trivial⟩
            · conv => whnf
              refine ⟨0, 7, 8, 9, 10, 11, 12, X, rfl, rfl, ⟨by decide, by decide, rfl, rfl, rfl, rfl, rfl, rfl, rfl⟩, trivial, ?_⟩
              conv => whnf
              refine gu.grow 1 16 _ _ _ _ _ _ s8 (.old rfl) rfl rfl (.rw rfl f1) f3 ?_
              conv => whnf
              exact ⟨⟨gM X, hB.zf hm, (ld (fun _ => gg) hc).trans hX⟩, gg hc, eY 7 8 9 10 11 14 rfl (by decide) rfl (f5 _ _ _ _ _ _) rfl (an _) rfl (ae _) rfl (ae _) rfl (aO _) rfl (ae _) rfl (f7 _ rfl)⟩
            · conv => whnf
              refine ⟨0, 7, 8, 9, 10, 11, 12, X, rfl, rfl, ⟨by decide, by decide, rfl, rfl, rfl, rfl, rfl, rfl, rfl⟩, trivial, ?_⟩
              conv => whnf
              refine gu.grow 1 16 _ _ _ _ _ _ s8 (.old rfl) rfl rfl (.rw rfl f2) f4 ?_
              conv => whnf
              exact ⟨⟨gM X, hB.zf hm, (ld (fun _ => gg) hc).trans hX⟩, gg hc, eY 7 8 9 10 11 14 rfl (by decide) rfl (f6 _ _ _ _ _ _) rfl (an _) rfl (ae _) rfl (ae _) rfl (aO _) rfl (ae _) rfl (f7 _ rfl)⟩
        · have hn : ¬ aD X = true := cB fun q => hp (by exact Int.ofNat_lt.2 q)
          conv => whnf
          exact bg (show jE R = X by rw [← hX, cT (show ¬ fT X = true by unfold fT; rw [Bool.eq_false_iff.2 hn]; simp)]) 7 8 9 10 11 12 (.same rfl) (by decide) rfl rfl rfl rfl rfl rfl rfl rfl
      · have hn : ¬ aD X = true := cA h0
        conv => whnf
        exact bg (show jE R = X by rw [← hX, cT (show ¬ fT X = true by unfold fT; rw [Bool.eq_false_iff.2 hn]; simp)]) 7 8 9 10 11 12 (.same rfl) (by decide) rfl rfl rfl rfl rfl rfl rfl rfl
  · conv => whnf
    refine ⟨0, 1, 2, 3, 4, 5, 6, R, rfl, rfl, ⟨by decide, by decide, rfl, rfl, rfl, rfl, rfl, rfl, rfl⟩, trivial, ?_⟩
    conv => whnf
    refine gu.grow 1 16 _ _ _ _ _ _ s8 (.old rfl) rfl rfl (.rw rfl g2) g4 ?_
    conv => whnf
    refine cV.mk { X : Rd // Bz 880001 X ∧ wh fT gM X = jE R } 13 (fun X => rdS X.val) (fun X => muR X.val) ⟨gM R, hok.fs1, rfl⟩ ?_ ?_
    · exact eY 1 2 3 4 5 8 rfl (by decide) rfl (g6 _ _ _ _ _ _) rfl (an _) rfl (ae _) rfl (ae _) rfl (aO _) rfl (ae _) rfl (g7 _ rfl)
    · intro ⟨X, hB, hX⟩
      conv => whnf
      refine ah.dec (fun h0 => ?_) (fun h0 => ?_)
      · conv => whnf
        refine ah.dec (fun hp => ?_) (fun hp => ?_)
        · have hp : 0 < X.ws.length := by exact Int.ofNat_lt.1 hp
          have hm := cz h0 hp
          by_cases hw : atR y7 X = true
          · conv => whnf
            refine ⟨_, 0, 7, 8, 9, 10, 11, 12, X, _, _, rfl, ⟨_, rfl, rfl⟩, ⟨by decide, by decide, rfl, rfl, rfl, rfl, rfl, rfl, rfl⟩, hB.ok, zm hw, ?_⟩
            conv => whnf
            refine ah.nsb (fun q => absurd q (by decide)) (fun _ => ?_)
            conv => whnf
            exact bg (show jE R = X by rw [← hX, cT (show ¬ fT X = true by unfold fT; rw [hw]; simp)]) 7 8 9 10 11 12 (.same rfl) (by decide) rfl rfl rfl rfl rfl rfl rfl rfl
          · have hc : fT X = true := by unfold fT; rw [hm, Bool.eq_false_iff.2 hw]; rfl
            obtain ⟨f1, f2, f3, f4, f5, f6, f7⟩ := mc (R := X) (by have := hB.fs; omega)
            conv => whnf
            refine ⟨_, 0, 7, 8, 9, 10, 11, 12, X, _, _, rfl, ⟨_, rfl, rfl⟩, ⟨by decide, by decide, rfl, rfl, rfl, rfl, rfl, rfl, rfl⟩, hB.ok, Bl hw, ?_⟩
            conv => whnf
            refine ah.nsb (fun _ => ?_) (fun q => absurd q (by decide))
            conv => whnf
            refine ⟨?_, ?_, trivial⟩
            · conv => whnf
              refine ⟨0, 7, 8, 9, 10, 11, 12, X, rfl, rfl, ⟨by decide, by decide, rfl, rfl, rfl, rfl, rfl, rfl, rfl⟩, trivial, ?_⟩
              conv => whnf
              refine gu.grow 1 16 _ _ _ _ _ _ s8 (.old rfl) rfl rfl (.rw rfl f1) f3 ?_
              conv => whnf
              exact ⟨⟨gM X, hB.zf hm, (ld (fun _ => gg) hc).trans hX⟩, gg hc, eY 7 8 9 10 11 14 rfl (by decide) rfl (f5 _ _ _ _ _ _) rfl (an _) rfl (ae _) rfl (ae _) rfl (aO _) rfl (ae _) rfl (f7 _ rfl)⟩
            · conv => whnf
              refine ⟨0, 7, 8, 9, 10, 11, 12, X, rfl, rfl, ⟨by decide, by decide, rfl, rfl, rfl, rfl, rfl, rfl, rfl⟩, trivial, ?_⟩
              conv => whnf
              refine gu.grow 1 16 _ _ _ _ _ _ s8 (.old rfl) rfl rfl (.rw rfl f2) f4 ?_
              conv => whnf
              exact ⟨⟨gM X, hB.zf hm, (ld (fun _ => gg) hc).trans hX⟩, gg hc, eY 7 8 9 10 11 14 rfl (by decide) rfl (f6 _ _ _ _ _ _) rfl (an _) rfl (ae _) rfl (ae _) rfl (aO _) rfl (ae _) rfl (f7 _ rfl)⟩
        · have hn : ¬ aD X = true := cB fun q => hp (by exact Int.ofNat_lt.2 q)
          conv => whnf
          exact bg (show jE R = X by rw [← hX, cT (show ¬ fT X = true by unfold fT; rw [Bool.eq_false_iff.2 hn]; simp)]) 7 8 9 10 11 12 (.same rfl) (by decide) rfl rfl rfl rfl rfl rfl rfl rfl
      · have hn : ¬ aD X = true := cA h0
        conv => whnf
        exact bg (show jE R = X by rw [← hX, cT (show ¬ fT X = true by unfold fT; rw [Bool.eq_false_iff.2 hn]; simp)]) 7 8 9 10 11 12 (.same rfl) (by decide) rfl rfl rfl rfl rfl rfl rfl rfl
theorem zq : aA 57 (ba (fun R => Bz 880000 R) noA (az jE)) := bh (ax Cu 4 _) (by kernel_rfl) cD (fun _ => rfl) (fun R => ⟨rfl, fun _ => rfl⟩) fun R h => xj R h
noncomputable def KMg : FuncId → EP := (aB 57 (ba (fun R => Bz 880000 R) noA (az jE)) KB)
theorem Cv : bu KMg := (ai jm zq)
theorem uR (R : Rd) (hok : Bz 870000 R) : dp (ao KMg 4 54) (.ptr 0 0 :: []) (mkH (c9 (rdO R) 0)) 7 (RdP (az jM R).1 (az jM R).2) := by
  show ao KMg 4 54 _ _ _ _
  conv => whnf
  refine ⟨_, 0, 1, 2, 3, 4, 5, 6, R, rfl, ⟨_, rfl, rfl⟩, ⟨by decide, by decide, rfl, rfl, rfl, rfl, rfl, rfl, rfl⟩, hok.ok, ?_⟩
  conv => whnf
  refine ⟨0, 1, 2, 3, 4, 5, 6, (dk Ap R).2, rfl, rfl, ⟨by decide, by decide, rfl, rfl, rfl, rfl, rfl, rfl, rfl⟩, ((hok.w9 Ap).mono (by decide)), ?_⟩
  conv => whnf
  exact bg (show jM R = _ from rfl) 7 8 9 10 11 12 (.same rfl) (by decide) rfl rfl rfl rfl rfl rfl rfl rfl
theorem vE : aA 54 (ba (fun R => Bz 870000 R) noA (az jM)) := bh (ax Cv 4 _) (by kernel_rfl) cD (fun _ => rfl) (fun R => ⟨rfl, fun _ => rfl⟩) fun R h => uR R h
end Go.Proofs.Ytckcicalbjmgbaa
namespace Go.Proofs.Ytckcicalbjmgbaa
open Go Go.RowKit
def tk (ok : Rd → Prop) (F : Rd → Rd) (args : List AV) (H : AH) (n : Nat) (κ : PK) : Prop := match args with
  | [x] => ∃ (r k t v l q f : Nat) (R R' : Rd), x = .ptr r 0 ∧ ux H n r k t v l q f R ∧ ok R ∧ F R = R' ∧ κ (.tup []) (ry H n r k t v l q f R') (n + 6)
  | _ => False
theorem aA.Cw {f : FuncId} {ok : Rd → Prop} {F : Rd → Rd} (h : aA f (ba ok noA (az F))) : aA f (tk ok F) := fun args H n κ hs => h args H n κ (by
  unfold tk at hs
  split at hs
  · obtain ⟨r, k, t, v, l, q, f, R, R', h2, h3, h4, h5, h6⟩ := hs
    subst h5
    exact ⟨r, k, t, v, l, q, f, R, h2, rfl, h3, h4, h6⟩
  · exact hs.elim)
noncomputable def KOn : FuncId → EP := (aB 74 (tk (fun R => Bz 790000 R) lj) (aB 54 (tk (fun R => Bz 870000 R) jM) (aB 53 (tk (fun R => R.ks.length ≤ 1000000) aK) KB3)))
theorem zr : bu KOn := (ai (ai (ai zo rz.Cw) vE.Cw) Cs.Cw)
theorem xk (R : Rd) (hok : Bz 780000 R) : dp (ao KOn 4 55) (.ptr 0 0 :: []) (mkH (c9 (rdO R) 0)) 7 (RdP (az uK R).1 (az uK R).2) := by
  show ao KOn 4 55 _ _ _ _
  obtain ⟨K, hK⟩ : ∃ K, aK R = K := ⟨_, rfl⟩
  have bK : Bz 780001 K := by rw [← hK]; exact hok.key
  obtain ⟨O, hO⟩ : ∃ O, lj K = O := ⟨_, rfl⟩
  conv => whnf
  refine ⟨0, _, _, _, _, _, _, R, K, rfl, ⟨by decide, by decide, rfl, rfl, rfl, rfl, rfl, rfl, rfl⟩, hok.kk, hK, ?_⟩
  conv => whnf
  refine ⟨0, _, _, _, _, _, _, K, O, rfl, ⟨by decide, by decide, rfl, rfl, rfl, rfl, rfl, rfl, rfl⟩, bK.mono (by decide), hO, ?_⟩
  conv => whnf
  exact bg (show uK R = O by unfold uK; rw [hK, hO]) _ _ _ _ _ _ (.same rfl) (by decide) rfl rfl rfl rfl rfl rfl rfl rfl
theorem Cx : aA 55 (ba (fun R => Bz 780000 R) noA (az uK)) := bh (ax zr 4 _) (by kernel_rfl) cD (fun _ => rfl) (fun R => ⟨rfl, fun _ => rfl⟩) fun R h => xk R h
theorem xl (R : Rd) (hok : Bz 780000 R) : dp (ao KOn 4 56) (.ptr 0 0 :: []) (mkH (c9 (rdO R) 0)) 7 (RdP (az oF R).1 (az oF R).2) := by
  show ao KOn 4 56 _ _ _ _
  obtain ⟨O, hO⟩ : ∃ O, lj R = O := ⟨_, rfl⟩
  have bO : Bz 790001 O := by rw [← hO]; exact (hok.mono (by decide)).opt
  obtain ⟨M, hM⟩ : ∃ M, jM O = M := ⟨_, rfl⟩
  have bM : Bz 790002 M := by rw [← hM]; exact bO.Ce
  have e1 : uL R = M := by unfold uL; rw [hO, hM]
  obtain ⟨q, Y, hh, ht, hf⟩ := ik y7 M
  have bY : Bz 790002 Y := by
    cases q with
    | true => rw [(ht rfl).2]; exact bM.next
    | false => rw [(hf rfl).2]; exact bM
  obtain ⟨N, hN⟩ : ∃ N, N = { (aa Y).2 with gr := (aa Y).1 } := ⟨_, rfl⟩
  have bN : Bz 790002 { (aa Y).2 with gr := (aa Y).1 } := bY.next.set _
  obtain ⟨P, hP⟩ : ∃ P, dk Ao { (aa Y).2 with gr := (aa Y).1 } = (.tup [], P) := ⟨_, rfl⟩
  have bP : Bz 790002 P := by have := bN.w9 Ao; rw [hP] at this; exact this
  obtain ⟨z, T, hT, hT'⟩ := oI cg P
  conv => whnf
  refine ⟨0, _, _, _, _, _, _, R, O, rfl, ⟨by decide, by decide, rfl, rfl, rfl, rfl, rfl, rfl, rfl⟩, hok.mono (by decide), hO, ?_⟩
  conv => whnf
  refine ⟨0, _, _, _, _, _, _, O, M, rfl, ⟨by decide, by decide, rfl, rfl, rfl, rfl, rfl, rfl, rfl⟩, bO.mono (by decide), hM, ?_⟩
  conv => whnf
  refine ⟨_, 0, _, _, _, _, _, _, M, _, _, rfl, ⟨_, rfl, rfl⟩, ⟨by decide, by decide, rfl, rfl, rfl, rfl, rfl, rfl, rfl⟩, bM.ok, hh, ?_⟩
  conv => whnf
  refine ah.sb (fun hb => ?_) (fun hb => ?_)
  focus
    conv => whnf
    refine ⟨0, _, _, _, _, _, _, Y, rfl, rfl, ⟨by decide, by decide, rfl, rfl, rfl, rfl, rfl, rfl, rfl⟩, trivial, ?_⟩
    conv => whnf
    refine ⟨_, 0, _, _, _, _, _, _, { (aa Y).2 with gr := (aa Y).1 }, _, _, rfl, ⟨_, rfl, rfl⟩, ⟨by decide, by decide, rfl, rfl, rfl, rfl, rfl, rfl, rfl⟩, bN.ok, hP, ?_⟩
    conv => whnf
    refine .inr (.inr ⟨0, _, _, _, _, _, _, P, _, _, rfl, rfl, ⟨by decide, by decide, rfl, rfl, rfl, rfl, rfl, rfl, rfl⟩, bP.ok, hT, ?_⟩)
    conv => whnf
    exact bg (show oF R = { T with rd := z } by unfold oF; rw [e1, if_pos (ht hb).1]; unfold Cd; rw [← (ht hb).2, hP]; unfold stF za; rw [hT']) _ _ _ _ _ _ (.same rfl) (by decide) rfl rfl rfl rfl rfl rfl rfl rfl
  conv => whnf
  exact bg (show oF R = Y by unfold oF; rw [e1, if_neg (hf hb).1, (hf hb).2]) _ _ _ _ _ _ (.same rfl) (by decide) rfl rfl rfl rfl rfl rfl rfl rfl
theorem Cy : aA 56 (ba (fun R => Bz 780000 R) noA (az oF)) := bh (ax zr 4 _) (by kernel_rfl) cD (fun _ => rfl) (fun R => ⟨rfl, fun _ => rfl⟩) fun R h => xl R h
end Go.Proofs.Ytckcicalbjmgbaa
namespace Go.Proofs.Ytckcicalbjmgbaa
open Go Go.RowKit
def cH (F : Rd → Rd) (args : List AV) (H : AH) (n : Nat) (κ : PK) : Prop := match args with
  | [x] => ∃ (H0 : AH) (n0 : Nat), bX H n H0 n0 ∧ ∃ (r k t v l q f : Nat) (R R' : Rd), x = .ptr r 0 ∧ ux H0 n0 r k t v l q f R ∧ Bz 780000 R ∧ F R = R' ∧ κ (.tup []) (ry H0 n0 r k t v l q f R') (n0 + 6)
  | _ => False
theorem aA.me {f : FuncId} {ok : Rd → Prop} {F : Rd → Rd} (h : aA f (ba ok noA (az F))) (hw : ∀ R, Bz 780000 R → ok R) : aA f (cH F) := fun args H n κ hs => h.y4 args H n κ (by
  unfold cH at hs
  split at hs
  · obtain ⟨H0, n0, h1, r, k, t, v, l, q, f, R, R', h2, h3, h4, h5, h6⟩ := hs
    subst h5
    exact ⟨H0, n0, h1, r, k, t, v, l, q, f, R, h2, rfl, h3, hw R h4, h6⟩
  · exact hs.elim)
noncomputable def mB : Nat → Rd → Rd
  | 1 => oD
  | 2 => oD
  | 3 => l9
  | 4 => gJ
  | 5 => mK
  | 6 => mK
  | 7 => w7
  | 8 => lf
  | 9 => gL
  | 10 => jk
  | 11 => aK
  | 12 => jM
  | 13 => uK
  | 14 => oF
  | 15 => jE
  | 16 => aK
  | _ => id
def tl : Nat → FuncId
  | 1 => 45
  | 2 => 45
  | 3 => 46
  | 4 => 47
  | 5 => 48
  | 6 => 48
  | 7 => 49
  | 8 => 50
  | 9 => 51
  | 10 => 52
  | 11 => 53
  | 12 => 54
  | 13 => 55
  | 14 => 56
  | 15 => 57
  | 16 => 53
  | _ => 0
theorem zt {P : Nat → Prop} (h1 : P 1) (h2 : P 2) (h3 : P 3) (h4 : P 4) (h5 : P 5) (h6 : P 6) (h7 : P 7) (h8 : P 8) (h9 : P 9) (h10 : P 10) (h11 : P 11) (h12 : P 12) (h13 : P 13) (h14 : P 14) (h15 : P 15) (h16 : P 16) : ∀ k, 1 ≤ k → k ≤ 16 → P k
  | 0, h, _ => absurd h (by decide)
  | 1, _, _ => h1
  | 2, _, _ => h2
  | 3, _, _ => h3
  | 4, _, _ => h4
  | 5, _, _ => h5
  | 6, _, _ => h6
  | 7, _, _ => h7
  | 8, _, _ => h8
  | 9, _, _ => h9
  | 10, _, _ => h10
  | 11, _, _ => h11
  | 12, _, _ => h12
  | 13, _, _ => h13
  | 14, _, _ => h14
  | 15, _, _ => h15
  | 16, _, _ => h16
  | k + 17, _, h => absurd h (by omega)
noncomputable def KPa : FuncId → EP := (cw 10 Al (aB 23 uH (aB 45 (cH oD) (aB 46 (cH l9) (aB 47 (cH gJ) (aB 48 (cH mK) (aB 49 (cH w7) (aB 50 (cH lf) (aB 51 (cH gL) (aB 52 (cH jk) (aB 53 (cH aK) (aB 54 (cH jM) (aB 55 (cH uK) (aB 56 (cH oF) (aB 57 (cH jE) (aB 24 (jK (dY oX)) (aB 25 (jK (dY gz)) (aB 26 (jK Dk) evP))))))))))))))))))
theorem zu : bu KPa := (aF (ai (ai (ai (ai (ai (ai (ai (ai (ai (ai (ai (ai (ai (ai (ai (ai (ai aQ Ak) y3) vr) (zq.me (fun R h => h.mono (by decide)))) (Cy.me (fun R h => h.mono (by decide)))) (Cx.me (fun R h => h.mono (by decide)))) (vE.me (fun R h => h.mono (by decide)))) (rz.me (fun R h => h.kk))) (vB.me (fun R h => h.mono (by decide)))) (Au.me (fun R h => h.mono (by decide)))) (As.me (fun R h => h.mono (by decide)))) (Cg.me (fun R h => h.mono (by decide)))) (Ck.me (fun R h => h.mono (by decide)))) (Cb.me (fun R h => ⟨h.ok, by have := h.ks; omega, by have := h.ts; omega, by have := h.vs; omega⟩))) (Ch.me (fun R h => h.mono (by decide)))) (Cp.me (fun R h => h.mono (by decide)))) y2) (by kernel_rfl) (by kernel_rfl))
theorem p7 {args : List AV} {H : AH} {n : Nat} {κ : PK} : ∀ k, 1 ≤ k → k ≤ 16 → cH (mB k) args H n κ → ao KPa 4 (tl k) args H n κ := zt (fun h => h) (fun h => h) (fun h => h) (fun h => h) (fun h => h) (fun h => h) (fun h => h) (fun h => h) (fun h => h) (fun h => h) (fun h => h) (fun h => h) (fun h => h) (fun h => h) (fun h => h) (fun h => h)
theorem rA : ∀ {N : List (Nat × List Nat)} {u : List Nat}, whF N u ≠ 0 → ∃ x ∈ N, x.1 = whF N u ∧ aN x.2 u = true
  | [], _, h => absurd rfl h
  | x :: N, u, h => by
    unfold whF at h ⊢
    cases e : aN x.2 u with
    | true => exact ⟨x, List.mem_cons_self, rfl, e⟩
    | false =>
      rw [e] at h
      obtain ⟨y, h1, h2⟩ := rA h
      exact ⟨y, List.mem_cons_of_mem _ h1, h2⟩
theorem Cz (u : List Nat) : whF oX u ≤ 16 := by
  by_cases h : whF oX u = 0
  · omega
  · obtain ⟨x, h1, h2, _⟩ := rA h
    rw [← h2]
    exact (show ∀ y ∈ oX, y.1 ≤ 16 by decide) x h1
theorem CA (u : List Nat) : whF gz u = 0 ∨ (1 ≤ whF gz u ∧ whF gz u ≤ 16) := by
  by_cases h : whF gz u = 0
  · exact .inl h
  · obtain ⟨x, h1, h2, _⟩ := rA h
    rw [← h2]
    exact .inr ((show ∀ y ∈ gz, 1 ≤ y.1 ∧ y.1 ≤ 16 by decide) x h1)
def xm : Rd := { ec with e := 15 }
noncomputable def fb (u : List Nat) : Nat := if whF gz u = 0 then whF oX u else whF gz u
noncomputable def dr (W : List (List Nat)) : Rd := if W.length = 0 then xm else if fb (upF (W.headD [])) = 0 then xm else dM (mB (fb (upF (W.headD []))) (fS W.tail (fb (upF (W.headD [])) : Nat) (!decide (whF gz (upF (W.headD [])) = 0))))
theorem uS {W : List (List Nat)} (hl : W.length ≤ 700000) (hw : ∀ w ∈ W, (∀ c ∈ w, c < 256) ∧ w.length ≤ 1000000) (k : Int) (b : Bool) : Bz 780000 (fS W.tail k b) :=
  ⟨fun w h => hw w (List.mem_of_mem_tail h), by simp [fS]; omega, by simp [fS]; omega, by simp [fS]; omega, by simp [fS]; omega, by simp [fS, noQ]; omega, by simp [fS]; omega⟩
theorem p8 (W : List (List Nat)) (hl : W.length ≤ 700000) (hw : ∀ w ∈ W, (∀ c ∈ w, c < 256) ∧ w.length ≤ 1000000) :
    Bi (ao KPa 5 10) [.fr W.length 1 (aq W)] .nil 0 (fun v => v = kp (dr W)) := by
  obtain ⟨P, hP'⟩ : ∃ P, dr W = P := ⟨_, rfl⟩
  rw [hP']
  show ao KPa 5 10 _ _ _ _
  conv => whnf
  refine ah.dec (fun q => ?_) (fun hne => ?_)
  focus
    have hP : xm = P := by rw [← hP']; unfold dr; rw [if_pos (by omega)]
    conv => whnf
    exact ⟨_, FzT.zero (R := xm) (by decide) jA rfl, congrArg kp hP⟩
  have hp : 0 < W.length := by omega
  have hh := hw _ (List.getElem_mem hp)
  rw [m0 hp] at hh
  obtain ⟨k, hk⟩ : ∃ k, whF oX (upF (W.headD [])) = k := ⟨_, rfl⟩
  obtain ⟨b, hb⟩ : ∃ b, whF gz (upF (W.headD [])) = b := ⟨_, rfl⟩
  have k16 : k ≤ 16 := by rw [← hk]; exact Cz _
  have b16 : b = 0 ∨ (1 ≤ b ∧ b ≤ 16) := by rw [← hb]; exact CA _
  have hpar : ∀ nm bb X, fb (upF (W.headD [])) = nm → (!decide (whF gz (upF (W.headD [])) = 0)) = bb → 1 ≤ nm → mB nm (fS W.tail (nm : Int) bb) = X → dM X = P := fun nm bb X h1 h2 h3 h4 => by rw [← hP']; unfold dr; rw [if_neg (by omega), h1, h2, if_neg (by omega), h4]
  conv => whnf
  refine RSl.mk 1 _ rfl rfl (.inl rfl) hp (Nat.le_refl _) ?_
  conv => whnf
  refine ⟨?_, ?_, trivial⟩
  all_goals
    conv => whnf
    refine Idx.mk 0 rfl hp ?_
    conv => whnf
    refine aP (eL hp) ?_
    conv => whnf
    refine ⟨_, oX, W.headD [], k, rfl, rfl, by decide, rfl, wX, hh.1, hh.2, hk, ?_⟩
    conv => whnf
    refine ⟨?_, ?_, trivial⟩
    all_goals
      conv => whnf
      refine Idx.mk 0 rfl hp ?_
      conv => whnf
      refine aP (eL hp) ?_
      conv => whnf
      refine ⟨_, gz, W.headD [], b, rfl, rfl, by decide, rfl, wY, hh.1, hh.2, hb, ?_⟩
      conv => whnf
      refine ah.dec (fun hg => ?_) (fun hg => ?_)
      focus
        have hg : 0 < b := by exact Int.ofNat_lt.1 hg
        let nm := b
        let bb := true
        have n1 : 1 ≤ nm := hg
        have n16 : nm ≤ 16 := b16.elim (fun h => absurd h (by omega)) fun h => h.2
        have hnm : fb (upF (W.headD [])) = nm := by unfold fb; rw [hb, if_neg (by omega)]
        have hbb : (!decide (whF gz (upF (W.headD [])) = 0)) = bb := by rw [hb, decide_eq_false (by omega)]; rfl
        obtain ⟨X, hX⟩ : ∃ X, mB nm (fS W.tail (nm : Int) bb) = X := ⟨_, rfl⟩
        have hP : dM X = P := hpar nm bb X hnm hbb n1 hX
        conv => whnf
        refine ⟨?_, ?_, trivial⟩
        all_goals
          conv => whnf
          refine Ask.mk (.tup [.fn (tl nm) [] [], .bool true]) (zt (P := fun j => gW _ _ _ (hd (.si .i64 (Int.ofNat j))) _ _ = some (AV.tup [.fn (tl j) [] [], .bool true])) (by rfl) (by rfl) (by rfl) (by rfl) (by rfl) (by rfl) (by rfl) (by rfl) (by rfl) (by rfl) (by rfl) (by rfl) (by rfl) (by rfl) (by rfl) (by rfl) nm n1 n16) ?_
          conv => whnf
          refine p7 nm n1 n16 ?_
          refine ⟨_, _, bX.reader (r := 1) (ws := W.tail) (k := (nm : Int)) (b := bb) rfl (congrArg (fun a => a :: (Ai (fS W.tail (nm : Int) bb)).tail) (rr W)) (by decide) (by decide), 1, 5, 6, 7, 8, 9, 10, fS W.tail (nm : Int) bb, X, rfl, ⟨by decide, by decide, rfl, rfl, rfl, rfl, rfl, rfl, rfl⟩, uS hl hw _ _, hX, ?_⟩
          conv => whnf
          refine ah.dec (fun he => ?_) (fun he => ?_)
          focus
            have he : X.e = 0 := he
            conv => whnf
            refine ah.dec (fun hq => ?_) (fun hq => ?_)
            focus
              have hq : 0 < X.ws.length := by exact Int.ofNat_lt.1 hq
              have hf : dM X = { X with e := 14 } := by unfold dM cu; rw [if_pos (cz he hq), if_pos he]
              have hz : ¬ (dM X).e = 0 := by rw [hf]; show ¬ (14 : Int) = 0; decide
              have hx : AV.si .i64 14 = .si .i64 (dM X).e := by rw [hf]
              conv => whnf
              refine ah.dec (fun _ => ?_) (fun q => absurd he q)
              conv => whnf
              refine ⟨?_, ?_, trivial⟩
              all_goals
                conv => whnf
                exact ⟨_, FzT.zero (R := dM X) hz jA hx, congrArg kp hP⟩
            have hq : ¬ 0 < X.ws.length := fun q => hq (by exact Int.ofNat_lt.2 q)
            have hf : dM X = X := by unfold dM; rw [if_neg (cB hq)]
            have hx : AV.si .i64 0 = .si .i64 X.e := by rw [he]
            conv => whnf
            refine ah.fO (fun q => absurd he q) (fun _ => ?_)
            conv => whnf
            exact ⟨_, FzT.rows 11 12 13 14 15 16 (by decide) (by decide) he hx rfl rfl rfl rfl rfl rfl, congrArg kp (hf.symm.trans hP)⟩
          focus
            have he : ¬ X.e = 0 := he
            have hf : dM X = X := by unfold dM; rw [if_neg (cA he)]
            have hz : ¬ (dM X).e = 0 := by rw [hf]; exact he
            have hx : AV.si .i64 X.e = .si .i64 (dM X).e := by rw [hf]
            conv => whnf
            refine ah.fO (fun _ => ?_) (fun q => absurd q he)
            conv => whnf
            refine ⟨?_, ?_, trivial⟩
            all_goals
              conv => whnf
              exact ⟨_, FzT.zero (R := dM X) hz jA hx, congrArg kp hP⟩
      focus
        have hg : ¬ 0 < b := fun q => hg (by exact Int.ofNat_lt.2 q)
        have b0 : b = 0 := by omega
        by_cases k0 : k = 0
        focus
          have hP : xm = P := by rw [← hP']; unfold dr fb; rw [if_neg (by omega), hb, if_pos b0, hk, if_pos k0]
          subst k0
          conv => whnf
          refine ⟨?_, ?_, trivial⟩
          all_goals
            conv => whnf
            refine Ask.mk _ rfl ?_
            conv => whnf
            exact ⟨_, FzT.zero (R := xm) (by decide) jA rfl, congrArg kp hP⟩
        let nm := k
        let bb := false
        have n1 : 1 ≤ nm := by show 1 ≤ k; omega
        have n16 : nm ≤ 16 := k16
        have hnm : fb (upF (W.headD [])) = nm := by unfold fb; rw [hb, if_pos b0, hk]
        have hbb : (!decide (whF gz (upF (W.headD [])) = 0)) = bb := by rw [hb, decide_eq_true b0]; rfl
        obtain ⟨X, hX⟩ : ∃ X, mB nm (fS W.tail (nm : Int) bb) = X := ⟨_, rfl⟩
        have hP : dM X = P := hpar nm bb X hnm hbb n1 hX
        conv => whnf
        refine ⟨?_, ?_, trivial⟩
        all_goals
          conv => whnf
          refine Ask.mk (.tup [.fn (tl nm) [] [], .bool true]) (zt (P := fun j => gW _ _ _ (hd (.si .i64 (Int.ofNat j))) _ _ = some (AV.tup [.fn (tl j) [] [], .bool true])) (by rfl) (by rfl) (by rfl) (by rfl) (by rfl) (by rfl) (by rfl) (by rfl) (by rfl) (by rfl) (by rfl) (by rfl) (by rfl) (by rfl) (by rfl) (by rfl) nm n1 n16) ?_
          conv => whnf
          refine p7 nm n1 n16 ?_
          refine ⟨_, _, bX.reader (r := 1) (ws := W.tail) (k := (nm : Int)) (b := bb) rfl (congrArg (fun a => a :: (Ai (fS W.tail (nm : Int) bb)).tail) (rr W)) (by decide) (by decide), 1, 5, 6, 7, 8, 9, 10, fS W.tail (nm : Int) bb, X, rfl, ⟨by decide, by decide, rfl, rfl, rfl, rfl, rfl, rfl, rfl⟩, uS hl hw _ _, hX, ?_⟩
          conv => whnf
          refine ah.dec (fun he => ?_) (fun he => ?_)
          focus
            have he : X.e = 0 := he
            conv => whnf
            refine ah.dec (fun hq => ?_) (fun hq => ?_)
            focus
              have hq : 0 < X.ws.length := by exact Int.ofNat_lt.1 hq
              have hf : dM X = { X with e := 14 } := by unfold dM cu; rw [if_pos (cz he hq), if_pos he]
              have hz : ¬ (dM X).e = 0 := by rw [hf]; show ¬ (14 : Int) = 0; decide
              have hx : AV.si .i64 14 = .si .i64 (dM X).e := by rw [hf]
              conv => whnf
              refine ah.dec (fun _ => ?_) (fun q => absurd he q)
              conv => whnf
              refine ⟨?_, ?_, trivial⟩
              all_goals
                conv => whnf
                exact ⟨_, FzT.zero (R := dM X) hz jA hx, congrArg kp hP⟩
            have hq : ¬ 0 < X.ws.length := fun q => hq (by exact Int.ofNat_lt.2 q)
            have hf : dM X = X := by unfold dM; rw [if_neg (cB hq)]
            have hx : AV.si .i64 0 = .si .i64 X.e := by rw [he]
            conv => whnf
            refine ah.fO (fun q => absurd he q) (fun _ => ?_)
            conv => whnf
            exact ⟨_, FzT.rows 11 12 13 14 15 16 (by decide) (by decide) he hx rfl rfl rfl rfl rfl rfl, congrArg kp (hf.symm.trans hP)⟩
          focus
            have he : ¬ X.e = 0 := he
            have hf : dM X = X := by unfold dM; rw [if_neg (cA he)]
            have hz : ¬ (dM X).e = 0 := by rw [hf]; exact he
            have hx : AV.si .i64 X.e = .si .i64 (dM X).e := by rw [hf]
            conv => whnf
            refine ah.fO (fun _ => ?_) (fun q => absurd q he)
            conv => whnf
            refine ⟨?_, ?_, trivial⟩
            all_goals
              conv => whnf
              exact ⟨_, FzT.zero (R := dM X) hz jA hx, congrArg kp hP⟩
def zv (args : List AV) (H : AH) (n : Nat) (κ : PK) : Prop := match args with
  | [x] => ∃ (W : List (List Nat)) (X : Rd), W.length ≤ 700000 ∧ (∀ w ∈ W, (∀ c ∈ w, c < 256) ∧ w.length ≤ 1000000) ∧ dr W = X ∧ ((x = .fr W.length 1 (aq W) ∧ κ (kp X) H n) ∨ ∃ (b m : Nat) (l : List AV), x = .rw b 0 m 1 0 ∧ m = W.length ∧ H.get b = some (.cells l true) ∧ l.map mk = aq W ∧ κ (kp X) (H.set none ab b) n)
  | _ => False
theorem Aw : aA 10 zv := fun args H n κ hs φ h0' hp vs K hr hargs hk => by
  unfold zv at hs
  split at hs
  · obtain ⟨x, rfl, e1⟩ := vs1 hargs
    obtain ⟨W, X, g1, g2, g3, hs⟩ := hs
    subst g3
    rcases hs with ⟨rfl, hs⟩ | ⟨b, m, l, rfl, rfl, hb, hl, hs⟩
    · exact y5 (ax zu 5 _) (l := cmF (if (dr W).e = 0 then dr W else ec)) (x := .si .i64 (dr W).e) (lb _) rfl (p8 W g1 g2) hs hr hk (by kernel_rfl) (φ0 := ⟨fun _ => none, φ.z, φ.z⟩) (fun hw => hr.yu (fJ hw) (fun _ _ h => by cases h) (fun _ h => h)) rfl
        (.cons (fi (ψ := ⟨fun _ => none, φ.z, φ.z⟩) (fun _ h => h) rfl e1) .nil)
    · obtain ⟨χ, h1, h2, h3⟩ := hr.Dh (s := aq W) hb e1 (by decide) (bL W) (by rw [gf, Nat.mul_one]) (by rw [hl, an])
      exact y5 (ax zu 5 _) (l := cmF (if (dr W).e = 0 then dr W else ec)) (x := .si .i64 (dr W).e) (lb _) rfl (p8 W g1 g2) hs h2 (fun ψ v H' n' u g hle => hk ψ v H' n' u g (h1.trans hle)) (by kernel_rfl) (φ0 := ⟨fun _ => none, χ.z, χ.z⟩) (fun hw => h2.yu (fJ hw) (fun _ _ h => by cases h) (fun _ h => h)) rfl
        (.cons (fi (ψ := ⟨fun _ => none, χ.z, χ.z⟩) (fun _ h => h) rfl h3) .nil)
  · exact hs.elim
end Go.Proofs.Ytckcicalbjmgbaa
namespace Go.Proofs.Ytckcicalbjmgbaa
open Go Go.RowKit
theorem p9 : ∀ {es : List (AV × AV)} {N : List (Nat × List Nat)}, Ab es = some N → es = dY N
  | [], N, h => by
    injection h with h; subst h; rfl
  | (a, b) :: es, N, h => by
    unfold Ab at h
    split at h
    · rename_i q; cases q
    · rename_i k s es' e
      injection e with e1 e2; injection e1 with e1 e3; subst e1 e2 e3
      split at h
      · rename_i N' hN'
        injection h with h; subst h
        rw [p9 hN']; rfl
      · cases h
    · cases h
theorem vF {args : List AV} {H : AH} {n : Nat} {κ : KA} {r : AV × AH × Nat} (h : whQ args H n κ = some r) : ∃ (b : Nat) (N : List (Nat × List Nat)) (w : List Nat), args = [.str w, .map b] ∧ H.get b = some (.map (dY N)) ∧ gx N = true ∧ (∀ c ∈ w, c < 256) ∧ w.length ≤ 1000000 ∧ ∀ κ' : KA, whQ args H n κ' = κ' (.int .i64 (Int.ofNat (whF N (upF w)))) H n := by
  unfold whQ at h
  split at h
  · rename_i w b
    split at h
    · rename_i es hb
      split at h
      · rename_i N hN
        split at h
        · rename_i hok
          simp only [Bool.and_eq_true] at hok
          have e := p9 hN
          subst e
          refine ⟨b, N, w, rfl, hb, hok.1, fun c hc => ?_, ?_, fun κ' => ?_⟩
          · have := List.all_eq_true.1 hok.2.1 c hc
            exact Nat.le_of_ble_eq_true this
          · have : w.length < 1000 := Nat.le_of_ble_eq_true hok.2.2
            omega
          · unfold whQ
            simp only [hb, hN, hok.1, hok.2.1, hok.2.2, Bool.and_self]
        · cases h
      · cases h
    · cases h
  · cases h
theorem DC : zX whQ := fun args H n κ r h => by
  obtain ⟨b, N, w, _, _, _, _, _, hk⟩ := vF h
  exact ⟨_, _, _, hk⟩
theorem CB : COk Try.prog 23 fun args H n => whQ args H n j9 := fun args H n v H' n' e φ h0 h vs K hr hargs hk => by
  have e : whQ args H n j9 = some (v, H', n') := e
  obtain ⟨b, N, w, rfl, hb, hN, h1, h2, hq⟩ := vF e
  rw [hq j9] at e
  injection e with e; injection e with e1 e2; injection e2 with e2 e3
  subst e1 e2 e3
  obtain ⟨x, y, rfl, ex, ey⟩ := vs2 hargs
  obtain ⟨p, hp, _⟩ := ey.gX
  exact vk [.str w, .map b] H n (fun v' H1 n1 => v' = .si .i64 ((whF N (upF w) : Nat) : Int) ∧ H1 = H ∧ n1 = n) ⟨b, N, w, rfl, rfl, (hr.dom b p hp).1, hb, hN, h1, h2, rfl, rfl, rfl⟩ φ h0 h _ K hr hargs
    fun ψ v' H1 n1 u g hle hg hu ⟨f1, f2, f3⟩ => by
      subst f1 f2 f3
      exact hk ψ u g hle hg hu.hd
theorem zw {F : FuncId → EQ} (hF : uc F) {k : FuncId} {g : List AV → AH → Nat → KA → AR} (h1 : zX g) (h2 : COk Try.prog k fun args H n => g args H n j9) : uc (yA k g F) := fun f => by
  unfold yA
  cases hb : Nat.beq f k with
  | false => exact hF f
  | true =>
    have := Nat.eq_of_beq_eq_true hb
    subst this
    exact ⟨h1, h2⟩
theorem CC : uc evC := zw BA DC CB
theorem ln : isTrue (kR evC 60 8 [] .nil 0 j9) = true := by kernel_rfl
theorem xn : aA 8 (yn u1) := z7 (x3 CC ln)
end Go.Proofs.Ytckcicalbjmgbaa
namespace Go.Proofs.Ytckcicalbjmgbaa
open Go Go.RowKit
theorem aX.frE {H : AH} {m : Nat} {r : Nat → Nat} {a : AV} {n k : Nat} {l : List AV} (e : a = .fr n k l) : aX H m r a (.fr n k l) := by subst e; exact .ed rfl
theorem cW.Bn {H : AH} {m : Nat} {r : Nat → Nat} {l : List AV} {z : Bool} (h : l.all ed = true) : cW H m r (.cells l z) (.cells l z) :=
  cW.cells (Nat.le_refl _) (fun q => q) fun i a' hi => ⟨a', hi, .ed (List.all_eq_true.1 h a' (List.mem_of_getElem? hi))⟩
end Go.Proofs.Ytckcicalbjmgbaa
