/- Texts of our own, joined: the engine, the machine that runs code, and what is known of the functions. -/
import Derived.Test.YtdfeigkooeeeaaaRows
import Derived.WalkKit
import Derived.Deep.Quiet
import Derived.ProofKit
import Derived.Laws.StructEq
import Derived.LaidEql
import Derived.Laws.BytesArg
import Derived.Maps.RangeRun
import Derived.Scope
import Derived.Laws.Strings
import Derived.Laws.Strings2
import Derived.Below
import Derived.Carry
import Derived.OpenShut
import Derived.ChangeMaps5
import Derived.Deep.Slices
import Derived.Deep.SlicePairs
import Derived.SizedLaws
import Derived.Laws.BitsAllLaws
import Derived.Test.YtdfeigkooeeeaaaJc
set_option linter.unusedSimpArgs false
set_option linter.unusedVariables false
set_option maxHeartbeats 16000000
set_option maxRecDepth 100000
namespace Go.Proofs.Ytdfeigkooeeeaaa
open Go Go.RowKit
theorem C1 : RTy 43 43 1 1 := ⟨_, _, _, rfl, rfl, (fun q h => by cases h), rfl, rfl, rfl, rfl, by decide, by decide⟩
theorem sU (s : List Nat) : (bp s).all kD = true := by
  rw [List.all_eq_true]
  intro y hy
  have := List.all_eq_true.1 (eI s) y hy
  cases y <;> first | rfl | cases this
theorem uu (s : List Nat) : aP (bp s) 0 (s.length * 1) = some (bp s) := cT (by rw [bV, Nat.mul_one])
theorem sV (s : List Nat) : aP (bp s) 0 s.length = some (bp s) := cT (bV s)
theorem yI {s : List Nat} {i o : Nat} (h : i < s.length) (ho : o = i) : nth (bp s) o = some (.si .u8 (Int.ofNat s[i])) := by
  subst ho
  rw [dz]
  simp only [bp, List.getElem?_map, List.getElem?_eq_getElem h]; rfl
theorem yJ {m : Int} (h : eS m) : AV.si .u8 (IntKind.u8.wrap (IntKind.i64.wrap (48 + max (m.tmod 10) (IntKind.i64.wrap (0 - m.tmod 10))))) = .si .u8 (Int.ofNat (48 + m.natAbs % 10)) := by
  unfold eS at h
  have h1 : m.tmod 10 = if m < 0 then -((m.natAbs % 10 : Nat) : Int) else ((m.natAbs % 10 : Nat) : Int) := by
    split
    · rename_i hn
      rw [show m = -((m.natAbs : Nat) : Int) by omega, Int.neg_tmod]
      simp [Int.tmod]
    · rename_i hn
      rw [show m = ((m.natAbs : Nat) : Int) by omega]
      simp [Int.tmod]
  have h2 : m.natAbs % 10 < 10 := Nat.mod_lt _ (by decide)
  have h3 : IntKind.i64.wrap (0 - m.tmod 10) = -(m.tmod 10) := (dR (by unfold eS; split at h1 <;> omega)).trans (by omega)
  have h4 : max (m.tmod 10) (-(m.tmod 10)) = ((m.natAbs % 10 : Nat) : Int) := by
    split at h1 <;> (rw [h1]; omega)
  rw [h3, h4]
  have h5 : IntKind.i64.wrap (48 + ((m.natAbs % 10 : Nat) : Int)) = ((48 + m.natAbs % 10 : Nat) : Int) := (dR (by unfold eS; omega)).trans (by omega)
  rw [h5]
  congr 1
  simp [IntKind.wrap, IntKind.bits, IntKind.signed]
  omega
theorem sW {m : Int} (h : eS m) : IntKind.i64.wrap (m.tdiv 10) = m.tdiv 10 ∧ eS (m.tdiv 10) ∧ (m.tdiv 10).natAbs = m.natAbs / 10 := by
  have h1 : (m.tdiv 10).natAbs = m.natAbs / 10 := by rw [Int.natAbs_tdiv]; rfl
  unfold eS at h
  have h2 : eS (m.tdiv 10) := by unfold eS; omega
  exact ⟨dR h2, h2, h1⟩
noncomputable def dgt (z : Int) (m : Int) (D : List Nat) : AE × AH := (mkE [(0, .si .i64 (z)), (3, .rw 0 0 D.length 1 0), (4, .si .i64 (m))], mkH [(0, .cells (bp (D)) true)])
theorem rf {z : Int} {m : Int} {D : List Nat} {p n : Nat} {σ : AE} {H : AH} (j0 : Nat) (hp : p ≤ 0) (e0 : mk (aA (pa 0) σ) = .si .i64 (z)) (e3 : aR H 1 (fun b => if b = 0 then j0 else b) (aA (pa 3) σ) (.rw 0 0 D.length 1 0)) (e4 : mk (aA (pa 4) σ) = .si .i64 (m)) (h0 : (∃ l, H.get j0 = some (.cells l true) ∧ l.map mk = bp (D)) ∨ ((D) = [] ∧ n ≤ j0)) : Cov p σ H n ((dgt z m D).1, (dgt z m D).2, 1) := by
  refine Cov.ofR (fun b => if b = 0 then j0 else b) (by omega) (fun b hb => by repeat' rw [if_neg (by omega)]) ?_ ?_ ?_
  · intro x hx
    simp only [List.mem_cons, List.not_mem_nil, or_false] at hx
    rcases hx with rfl | rfl | rfl
    · exact .int e0
    · exact e3
    · exact .int e4
  · intro x hx
    simp only [List.mem_cons, List.not_mem_nil, or_false] at hx
    subst hx
    exact ⟨by simp, h0.elim (fun ⟨l, h, g⟩ => .inl ⟨_, h, cB.bh (eI _) (by rw [g, cq]) (fun q => q)⟩) (fun h => .inr ⟨by rw [h.1]; rfl, h.2⟩)⟩
  · intro x hx y hy
    simp only [List.mem_cons, List.not_mem_nil, or_false] at hx hy
    subst hx hy
    exact fun q => rfl
noncomputable def KDg : FuncId → EP := dr 11 [] evP
theorem BO : bZ KDg := bu bt (by kernel_rfl) (by kernel_rfl)
def DgI (z : Int) (x : Nat × Int × List Nat) : Prop := eS x.2.1 ∧ x.2.1.natAbs < 10 ^ x.1 ∧ dgo (x.1 + 1) x.2.1.natAbs x.2.2 = mI 20 z.natAbs ∧ x.2.2.length + x.1 ≤ 20 ∧ (∀ c ∈ x.2.2, c < 256) ∧ (x.2.2 = [] → x.1 = 20)
theorem DgI.step {z m : Int} {f : Nat} {l : List Nat} (h : DgI z (f, m, l)) (hc : m ≠ 0 ∨ l.length = 0) : 1 ≤ f ∧ DgI z (f - 1, m.tdiv 10, (48 + m.natAbs % 10) :: l) := by
  obtain ⟨h1, h2, h3, h4, h5, h6⟩ := h
  dsimp only at h1 h2 h3 h4 h5 h6
  have hf : 1 ≤ f := by
    rcases Nat.eq_zero_or_pos f with q | q
    · subst q
      rcases hc with hc | hc
      · simp at h2; omega
      · have := h6 (List.eq_nil_of_length_eq_zero hc); omega
    · exact q
  obtain ⟨g, rfl⟩ : ∃ g, f = g + 1 := ⟨f - 1, by omega⟩
  obtain ⟨d1, d2, d3⟩ := sW h1
  refine ⟨hf, d2, ?_, ?_, ?_, ?_, fun q => by cases q⟩
  · show (m.tdiv 10).natAbs < 10 ^ g
    rw [d3]; rw [Nat.pow_succ] at h2; omega
  · show dgo (g + 1) (m.tdiv 10).natAbs _ = _
    rw [d3, ← h3]
    conv => rhs; unfold dgo
    rw [if_neg (fun q => hc.elim (fun n => n (Int.natAbs_eq_zero.1 q.1)) (fun e => q.2 (List.eq_nil_of_length_eq_zero e)))]
  · show ((48 + m.natAbs % 10) :: l).length + (g + 1 - 1) ≤ 20
    simp; omega
  · intro c hc
    rcases List.mem_cons.1 hc with rfl | hc
    · omega
    · exact h5 c hc
theorem DgI.stop {z m : Int} {f : Nat} {l : List Nat} (h : DgI z (f, m, l)) (h0 : m = 0) (hl : ¬ l.length = 0) : l = mI 20 z.natAbs := by
  obtain ⟨h1, h2, h3, _⟩ := h
  dsimp only at h3
  rw [h0] at h3
  rw [← h3]
  exact (oi (fun e => hl (by rw [e]; rfl))).symm
theorem BP (z : Int) (hz : eS z) : ao KDg 3 11 [.si .i64 z] .nil 0 fun u _ _ => mkT u = mkT (.ss (lS z)) := by
  conv => whnf
  refine dg.mk { x : Nat × Int × List Nat // DgI z x } 1 (fun x => dgt z x.val.2.1 x.val.2.2) (fun x => x.val.1) ⟨(20, z, []), hz, yH hz, BN 19 _ _ (yH hz) (.inr rfl) |>.trans (List.append_nil _), Nat.le_refl _, (fun c h => by cases h), fun _ => rfl⟩ ?_ ?_
  · exact rf (j0 := 0) (Nat.le_refl 0) rfl (.Bc rfl) rfl (.inr ⟨rfl, Nat.le_refl _⟩)
  · intro ⟨(f, m, l), hI⟩
    have hm : eS m := hI.1
    have hll : l.length ≤ 20 := by have := hI.2.2.2.1; dsimp only at this; omega
    have hb256 : ∀ c ∈ l, c < 256 := hI.2.2.2.2.1
    have hrow := uu l
    have hbig : (1 + l.length) * 1 ≤ 140737488355328 := by omega
    have hlen : 1 + l.length = ((48 + m.natAbs % 10) :: l).length := by simp; omega
    have hby := yJ hm
    have hcell : ([AV.si .u8 (IntKind.u8.wrap (IntKind.i64.wrap (48 + max (m.tmod 10) (IntKind.i64.wrap (0 - m.tmod 10)))))] ++ bp l).map mk = bp ((48 + m.natAbs % 10) :: l) := by
      rw [hby, List.map_append, cq]; rfl
    have hmt : AV.si .i64 (IntKind.i64.wrap (m.tdiv 10)) = .si .i64 (m.tdiv 10) := by rw [(sW hm).1]
    have go : ∀ hc : m ≠ 0 ∨ l.length = 0, f - 1 < f := fun hc => by have := (hI.step hc).1; omega
    conv => whnf
    refine ak.ir (fun h0 => ?_) (fun h0 => ?_)
    · have hst := hI.step (.inl h0)
      conv => whnf
      refine eD.grow 1 1 _ _ _ _ _ _ C1 (.rw (.inr ⟨_, rfl⟩) hrow) (by rw [bV, Nat.mul_one]) (sU l) (.sl rfl rfl (Nat.le_refl _) (Nat.le_refl _)) hbig ?_
      conv => whnf
      exact ⟨⟨(f - 1, m.tdiv 10, (48 + m.natAbs % 10) :: l), hst.2⟩, go (.inl h0), rf (j0 := 2) (Nat.le_refl 0) rfl (aR.rw (by decide) rfl (hn := hlen)) hmt (.inl ⟨_, rfl, hcell⟩)⟩
    · conv => whnf
      refine ak.dec (fun h1 => ?_) (fun h1 => ?_)
      · have h1 : l.length = 0 := by exact Int.ofNat_inj.1 h1
        have hst := hI.step (.inr h1)
        conv => whnf
        refine eD.grow 1 1 _ _ _ _ _ _ C1 (.rw (.inr ⟨_, rfl⟩) hrow) (by rw [bV, Nat.mul_one]) (sU l) (.sl rfl rfl (Nat.le_refl _) (Nat.le_refl _)) hbig ?_
        conv => whnf
        exact ⟨⟨(f - 1, m.tdiv 10, (48 + m.natAbs % 10) :: l), hst.2⟩, go (.inr h1), rf (j0 := 2) (Nat.le_refl 0) rfl (aR.rw (by decide) rfl (hn := hlen)) hmt (.inl ⟨_, rfl, hcell⟩)⟩
      · have h1 : ¬ l.length = 0 := fun q => h1 (by exact Int.ofNat_inj.2 q)
        have hl := hI.stop h0 h1
        have hbyt : eo (bp l) = some l := fW hb256
        have hwh := sV l
        have hadd : ([45] : List Nat).length + l.length ≤ 9223372036854775807 := by simp; omega
        conv => whnf
        refine ak.dec (fun hn => ?_) (fun hn => ?_)
        · have e : mkT (AV.ss ([45] ++ l)) = mkT (.ss (lS z)) := by unfold lS; rw [if_pos hn, hl]; rfl
          conv => whnf
          refine zY.mk _ _ _ _ _ _ _ _ rfl (by decide) ⟨_, rfl, rfl, rfl⟩ (.inr ⟨_, rfl⟩) hwh hbyt ?_
          conv => whnf
          refine ⟨hadd, ?_⟩
          conv => whnf
          exact e
        · have e : mkT (AV.ss l) = mkT (.ss (lS z)) := by unfold lS; rw [if_neg hn, hl]
          conv => whnf
          refine zY.mk _ _ _ _ _ _ _ _ rfl (by decide) ⟨_, rfl, rfl, rfl⟩ (.inr ⟨_, rfl⟩) hwh hbyt ?_
          conv => whnf
          exact e
def vj (args : List AV) (H : AH) (n : Nat) (κ : PK) : Prop := match args with
  | [x] => ∃ z : Int, mk x = .si .i64 z ∧ eS z ∧ κ (.ss (lS z)) H n
  | _ => False
theorem sY : aD 11 vj := fun args H n κ hs φ h0' hp vs K hr hargs hk => by
  unfold vj at hs
  split at hs
  · obtain ⟨x, rfl, e1⟩ := vs1 hargs
    obtain ⟨z, hx, h1, hs⟩ := hs
    exact j9 BO (v := .ss (lS z)) rfl (BP z h1) hs hr hk (by kernel_rfl) HR.ro0 (.cons (dc rfl (hx ▸ e1.mk)) .nil)
  · exact hs.elim
theorem C2 {c : Nat} (h1 : 48 ≤ c) (h2 : c ≤ 57) : IntKind.i64.wrap (IntKind.u8.wrap (Int.ofNat c - 48)) = (c : Int) - 48 := by
  have e : IntKind.u8.wrap (Int.ofNat c - 48) = (c : Int) - 48 := by
    simp [IntKind.wrap, IntKind.bits, IntKind.signed]
    omega
  rw [e]
  exact dR (by unfold eS; omega)
noncomputable def nmt (s : List Nat) (m : Int) (g : Int) (i : Nat) : AE × AH := (mkE [(0, .ss (s)), (4, .si .i64 (m)), (5, .si .i64 (g)), (9, .sy 0 0 s.length s.length 1), (10, .si .i64 (((s.length : Nat) : Int))), (11, .si .i64 (((i : Nat) : Int)))], mkH [(0, .cells (bp (s)) false)])
theorem rh {s : List Nat} {m : Int} {g : Int} {i : Nat} {p n : Nat} {σ : AE} {H : AH} {l0 : List AV} (hp : p ≤ 0) (e0 : mk (aA (pa 0) σ) = .ss (s)) (e4 : mk (aA (pa 4) σ) = .si .i64 (m)) (e5 : mk (aA (pa 5) σ) = .si .i64 (g)) (e9 : mk (aA (pa 9) σ) = .sy 0 0 s.length s.length 1) (e10 : mk (aA (pa 10) σ) = .si .i64 (((s.length : Nat) : Int))) (e11 : mk (aA (pa 11) σ) = .si .i64 (((i : Nat) : Int))) (h0 : H.get 0 = some (.cells l0 false)) (g0 : l0.map mk = bp (s)) : Cov p σ H n ((nmt s m g i).1, (nmt s m g i).2, 1) := by
  refine Cov.ofR (fun b => b) (by omega) (fun b hb => rfl) ?_ ?_ ?_
  · intro x hx
    simp only [List.mem_cons, List.not_mem_nil, or_false] at hx
    rcases hx with rfl | rfl | rfl | rfl | rfl | rfl
    · exact .str e0
    · exact .int e4
    · exact .int e5
    · exact .sy (by decide) e9
    · exact .int e10
    · exact .int e11
  · intro x hx
    simp only [List.mem_cons, List.not_mem_nil, or_false] at hx
    subst hx
    exact ⟨by simp, .inl ⟨_, h0, cB.bh (eI _) (by rw [g0, cq]) (fun q => q)⟩⟩
  · intro x hx y hy
    simp only [List.mem_cons, List.not_mem_nil, or_false] at hx hy
    subst hx hy
    exact fun q => rfl
noncomputable def KNm : FuncId → EP := aB 11 vj evP
theorem BQ : bZ KNm := ah bt sY
theorem drop_cons {s : List Nat} {i : Nat} (h : i < s.length) : s.drop i = s[i] :: s.drop (i + 1) := List.drop_eq_getElem_cons h
theorem BR (s : List Nat) (hs : ∀ c ∈ s, c < 256) (hl : s.length ≤ 1000000) : ao KNm 3 9 [.ss s] .nil 0 fun u _ _ => mkT u = mkT (.tup [.si .i64 (an s).1, .si .i64 (an s).2]) := by
  have key : ∀ {x y : Int}, an s = (x, y) → mkT (.tup [.si .i64 x, .si .i64 y]) = mkT (.tup [.si .i64 (an s).1, .si .i64 (an s).2]) := fun e => by rw [e]
  conv => whnf
  refine Ask.mk (.sl 0 0 s.length s.length 1, _, 1) rfl ?_
  conv => whnf
  refine dg.mk { x : Nat × Int × Int // x.1 ≤ s.length ∧ eS x.2.1 ∧ pgo x.1 (s.drop x.1) x.2.1 x.2.2 = pgo 0 s 0 1 } 1 (fun x => nmt s x.val.2.1 x.val.2.2 x.val.1) (fun x => s.length - x.val.1) ⟨(0, 0, 1), Nat.zero_le _, (show eS 0 by unfold eS; omega), rfl⟩ ?_ ?_
  · exact rh (Nat.le_refl 0) rfl rfl rfl rfl rfl rfl rfl (by simp [bp, mk])
  · intro ⟨(i, m, g), hi, hm, hp⟩
    dsimp only at hi hm hp
    conv => whnf
    refine ak.dec (fun h => ?_) (fun h => ?_)
    · have hi2 : i < s.length := by exact Int.ofNat_lt.1 h
      have hc := hs _ (List.getElem_mem hi2)
      have hi1 : IntKind.i64.wrap ((i : Int) + 1) = ((i + 1 : Nat) : Int) := dR ⟨by omega, by omega⟩
      have hlt : s.length - (i + 1) < s.length - i := by omega
      rw [drop_cons hi2, pgo] at hp
      have hno : ¬ (48 ≤ s[i] ∧ s[i] ≤ 57) → pgo 0 s 0 1 = if i = 0 ∧ s[i] = 45 then pgo (i + 1) (s.drop (i + 1)) m (-1) else none := fun q => by rw [← hp, if_neg q]
      have hbad : ¬ (48 ≤ s[i] ∧ s[i] ≤ 57) → ¬ (i = 0 ∧ s[i] = 45) → mkT (.tup [.si .i64 0, .si .i64 16]) = mkT (.tup [.si .i64 (an s).1, .si .i64 (an s).2]) := fun q1 q2 => key (by unfold an; rw [hno q1, if_neg q2])
      conv => whnf
      refine Idx.mk i rfl hi2 ?_
      conv => whnf
      refine bj (yI hi2 (show 0 + i * 1 = i by omega)) ?_
      conv => whnf
      refine ak.dec (fun h1 => ?_) (fun h1 => ?_)
      · have h1 : 48 ≤ s[i] := by exact Int.ofNat_le.1 h1
        conv => whnf
        refine ak.dec (fun h2 => ?_) (fun h2 => ?_)
        · have h2 : s[i] ≤ 57 := by exact Int.ofNat_le.1 h2
          have hp2 : pgo (i + 1) (s.drop (i + 1)) (W64 (W64 (10 * m) + W64 (g * ((s[i] : Int) - 48)))) g = pgo 0 s 0 1 := by rw [← hp, if_pos ⟨h1, h2⟩]
          have hv : AV.si .i64 (IntKind.i64.wrap (IntKind.i64.wrap (10 * m) + IntKind.i64.wrap (g * IntKind.i64.wrap (IntKind.u8.wrap (Int.ofNat s[i] - 48))))) = .si .i64 (W64 (W64 (10 * m) + W64 (g * ((s[i] : Int) - 48)))) := by rw [C2 h1 h2]
          conv => whnf
          exact ⟨⟨(i + 1, W64 (W64 (10 * m) + W64 (g * ((s[i] : Int) - 48))), g), hi2, BG _, hp2⟩, hlt, rh (Nat.le_refl 0) rfl hv rfl rfl rfl (congrArg (AV.si .i64) hi1) rfl (cq s)⟩
        · have h2 : ¬ s[i] ≤ 57 := fun q => h2 (by exact Int.ofNat_le.2 q)
          have q1 : ¬ (48 ≤ s[i] ∧ s[i] ≤ 57) := fun q => h2 q.2
          have q2 : ¬ (i = 0 ∧ s[i] = 45) := fun q => by omega
          have hbad := hbad q1 q2
          conv => whnf
          refine ak.dec (fun h0 => ?_) (fun h0 => ?_)
          · conv => whnf
            refine ak.dec (fun h45 => absurd (show s[i] = 45 by exact Int.ofNat_inj.1 h45) (by omega)) (fun h45 => ?_)
            conv => whnf
            exact hbad
          · conv => whnf
            exact hbad
      · have h1 : ¬ 48 ≤ s[i] := fun q => h1 (by exact Int.ofNat_le.2 q)
        have q1 : ¬ (48 ≤ s[i] ∧ s[i] ≤ 57) := fun q => h1 q.1
        conv => whnf
        refine ak.dec (fun h0 => ?_) (fun h0 => ?_)
        · have h0 : i = 0 := by exact Int.ofNat_inj.1 h0
          conv => whnf
          refine ak.dec (fun h45 => ?_) (fun h45 => ?_)
          · have h45 : s[i] = 45 := by exact Int.ofNat_inj.1 h45
            have hp2 : pgo (i + 1) (s.drop (i + 1)) m (-1) = pgo 0 s 0 1 := by rw [hno q1, if_pos ⟨h0, h45⟩]
            conv => whnf
            exact ⟨⟨(i + 1, m, -1), hi2, hm, hp2⟩, hlt, rh (Nat.le_refl 0) rfl rfl rfl rfl rfl (congrArg (AV.si .i64) hi1) rfl (cq s)⟩
          · have hbad := hbad q1 (fun q => h45 (by exact Int.ofNat_inj.2 q.2))
            conv => whnf
            exact hbad
        · have hbad := hbad q1 (fun q => h0 (by exact Int.ofNat_inj.2 q.1))
          conv => whnf
          exact hbad
    · have hi3 : i = s.length := by have : ¬ i < s.length := fun q => h (Int.ofNat_lt.2 q); omega
      have hp2 : pgo 0 s 0 1 = some m := by rw [← hp, hi3, List.drop_length]; rfl
      conv => whnf
      refine ⟨m, rfl, hm, ?_⟩
      conv => whnf
      refine ak.nsb (fun he => ?_) (fun he => ?_)
      · have e := key (x := 0) (y := 16) (by unfold an; rw [hp2]; dsimp only; rw [if_neg (fun q => by rw [cD.2 q] at he; cases he)])
        conv => whnf
        exact e
      · have e := key (x := m) (y := 0) (by unfold an; rw [hp2]; dsimp only; rw [if_pos (cD.1 he)])
        conv => whnf
        exact e
def vk (args : List AV) (H : AH) (n : Nat) (κ : PK) : Prop := match args with
  | [x] => ∃ s, mk x = .ss s ∧ (∀ c ∈ s, c < 256) ∧ s.length ≤ 1000000 ∧ κ (.tup [.si .i64 (an s).1, .si .i64 (an s).2]) H n
  | _ => False
theorem sZ : aD 9 vk := fun args H n κ hs φ h0' hp vs K hr hargs hk => by
  unfold vk at hs
  split at hs
  · obtain ⟨x, rfl, e1⟩ := vs1 hargs
    obtain ⟨s, hx, h1, h2, hs⟩ := hs
    exact j9 BQ (v := .tup [.si .i64 (an s).1, .si .i64 (an s).2]) rfl (BR s h1 h2) hs hr hk (by kernel_rfl) HR.ro0 (.cons (dc rfl (hx ▸ e1.mk)) .nil)
  · exact hs.elim
end Go.Proofs.Ytdfeigkooeeeaaa
namespace Go.Proofs.Ytdfeigkooeeeaaa
open Go Go.RowKit
def aq (L : List (List Nat)) : List AV := L.map AV.ss
theorem dd (L : List (List Nat)) : (aq L).length = L.length := by simp [aq]
theorem aV (L : List (List Nat)) : (aq L).all flat.flat1 = true := by
  induction L with
  | nil => rfl
  | cons x L ih => exact ih
theorem aj (L : List (List Nat)) : (aq L).map mk = aq L := by simp [aq, mk]
theorem pN (L : List (List Nat)) (x : List Nat) : aq L ++ [.ss x] = aq (L ++ [x]) := by simp [aq]
def ba (L : List (List Nat × List Nat)) : List AV := L.flatMap fun x => [.ss x.1, .ss x.2]
theorem mz (L : List (List Nat × List Nat)) : (ba L).length = L.length * 2 := by
  induction L with
  | nil => rfl
  | cons x L ih => simp only [ba, List.flatMap_cons, List.length_append, List.length_cons, List.length_nil] at ih ⊢; omega
theorem dF (L : List (List Nat × List Nat)) : (ba L).all flat.flat1 = true := by
  induction L with
  | nil => rfl
  | cons x L ih => exact ih
theorem aN (L : List (List Nat × List Nat)) : (ba L).map mk = ba L := by
  induction L with
  | nil => rfl
  | cons x L ih =>
    simp only [ba, List.flatMap_cons, List.map_append] at ih ⊢
    rw [ih]; rfl
theorem wM (L : List (List Nat × List Nat)) (x : List Nat × List Nat) : ba L ++ [.ss x.1, .ss x.2] = ba (L ++ [x]) := by simp [ba]
structure Rd where
  ws : List (List Nat)
  e : Int
  nm : Int
  ks : List (List Nat)
  ts : List Int
  vs : List Int
  ret : Int
  siz : Int
  pol : Int
  ls : List (List Nat × List Nat)
  lbd : Bool
  fr : Int
  to : Int
  kd : Int
  bk : Int
  al : Int
  q : Qry
  fs : List (List Nat)
  gr : List Nat
  rd : Int
def cmC (k t v l q f : AV) (R : Rd) : List AV := [.si .i64 R.nm, k, t, v, .si .i64 R.ret, .si .i64 R.siz, .si .i64 R.pol, l, .sb R.lbd, .si .i64 R.fr, .si .i64 R.to, .si .i64 R.kd, .si .i64 R.bk, .si .i64 R.al,
  .si .i64 R.q.f, .si .i64 R.q.t, .sb R.q.back, .si .i64 R.q.count, .si .i64 R.q.kind, .si .i64 R.q.size, .si .i64 R.q.align, .sb R.q.empty, q, .sb R.q.sN, .si .i64 R.q.low, .si .i64 R.q.high, f, .ss R.gr, .si .i64 R.rd]
def rdC (k t v l q f : Nat) (R : Rd) : List AV := .fr R.ws.length 1 (aq R.ws) :: .si .i64 R.e :: cmC (.rw k 0 R.ks.length 1 0) (.rw t 0 R.ts.length 1 0) (.rw v 0 R.vs.length 1 0) (.rw l 0 R.ls.length 2 0) (.rw q 0 R.q.times.length 1 0) (.rw f 0 R.fs.length 1 0) R
def rdO (R : Rd) : List AO := [.cells (rdC 1 2 3 4 5 6 R) true, .cells (aq R.ks) true, .cells (ints R.ts) true, .cells (ints R.vs) true, .cells (ba R.ls) true, .cells (ints R.q.times) true, .cells (aq R.fs) true]
structure uv (H : AH) (n r k t v l q f : Nat) (R : Rd) : Prop where
  nd : [r, k, t, v, l, q, f].Nodup
  lt : r < n ∧ k < n ∧ t < n ∧ v < n ∧ l < n ∧ q < n ∧ f < n
  hr : H.get r = some (.cells (rdC k t v l q f R) true)
  hk : H.get k = some (.cells (aq R.ks) true)
  ht : H.get t = some (.cells (ints R.ts) true)
  hv : H.get v = some (.cells (ints R.vs) true)
  hl : H.get l = some (.cells (ba R.ls) true)
  hq : H.get q = some (.cells (ints R.q.times) true)
  hf : H.get f = some (.cells (aq R.fs) true)
theorem vl {r k t v l q f n : Nat} (R : Rd) : dV (bz [r, k, t, v, l, q, f] n) (rdC 1 2 3 4 5 6 R) = rdC k t v l q f R := rfl
theorem uv.Be {H : AH} {n r k t v l q f : Nat} {R : Rd} (h : uv H n r k t v l q f R) : iq H n [r, k, t, v, l, q, f] (rdO R) :=
  ⟨h.nd, rfl, fun i s o h1 h2 => by
    obtain ⟨l0, l1, l2, l3, l4, l5, l6⟩ := h.lt
    match i, h1, h2 with
    | 0, h1, h2 => injection h1 with h1; injection h2 with h2; subst h1 h2; exact ⟨l0, by rw [eH, vl]; exact h.hr, .inr rfl⟩
    | 1, h1, h2 => injection h1 with h1; injection h2 with h2; subst h1 h2; exact ⟨l1, by rw [eH, ck _ _ (aV _)]; exact h.hk, .inr rfl⟩
    | 2, h1, h2 => injection h1 with h1; injection h2 with h2; subst h1 h2; exact ⟨l2, by rw [eH, ck _ _ (aT _)]; exact h.ht, .inr rfl⟩
    | 3, h1, h2 => injection h1 with h1; injection h2 with h2; subst h1 h2; exact ⟨l3, by rw [eH, ck _ _ (aT _)]; exact h.hv, .inr rfl⟩
    | 4, h1, h2 => injection h1 with h1; injection h2 with h2; subst h1 h2; exact ⟨l4, by rw [eH, ck _ _ (dF _)]; exact h.hl, .inr rfl⟩
    | 5, h1, h2 => injection h1 with h1; injection h2 with h2; subst h1 h2; exact ⟨l5, by rw [eH, ck _ _ (aT _)]; exact h.hq, .inr rfl⟩
    | 6, h1, h2 => injection h1 with h1; injection h2 with h2; subst h1 h2; exact ⟨l6, by rw [eH, ck _ _ (aV _)]; exact h.hf, .inr rfl⟩⟩
theorem bX.vm {H : AH} {n b : Nat} {l : List AV} {z : Bool} (hb : H.get b = some (.cells l z)) : bX H n (H.set (some (.cells (l.map Go.Proofs.Ytdfeigkooeeeaaa.mk) z)) ab b) n := fun φ h0 h hr => hr.yy hb (by simp) fun i a' hi => by
  rw [List.getElem?_map, Option.map_eq_some_iff] at hi
  obtain ⟨a, h1, rfl⟩ := hi
  exact ⟨a, h1, fun v hv => hv.mk⟩
def RdK (v : AV) (R : Rd) : PK := fun u H' _ => u = v ∧ PM.get H' 0 = some (.cells (rdC 1 2 3 4 5 6 R) true) ∧ PM.get H' 1 = some (.cells (aq R.ks) true) ∧ PM.get H' 2 = some (.cells (ints R.ts) true) ∧ PM.get H' 3 = some (.cells (ints R.vs) true) ∧ PM.get H' 4 = some (.cells (ba R.ls) true) ∧ PM.get H' 5 = some (.cells (ints R.q.times) true) ∧ PM.get H' 6 = some (.cells (aq R.fs) true)
theorem PM.yK {α : Type} {v : α} {t : PM α} : (PM.set (some v) ab t 0).get 0 = some v := by cases t <;> rfl
theorem eN {u v : AV} {H' : AH} {n' : Nat} {R : Rd} {l : List AV} (hv : VTo u v) (h0 : PM.get H' 0 = some (.cells l true)) (hm : l.map mk = rdC 1 2 3 4 5 6 R) (r1 : PM.get H' 1 = some (.cells (aq R.ks) true)) (r2 : PM.get H' 2 = some (.cells (ints R.ts) true)) (r3 : PM.get H' 3 = some (.cells (ints R.vs) true)) (r4 : PM.get H' 4 = some (.cells (ba R.ls) true)) (r5 : PM.get H' 5 = some (.cells (ints R.q.times) true)) (r6 : PM.get H' 6 = some (.cells (aq R.fs) true)) : ∃ v2 H2 n2, VTo u v2 ∧ bX H' n' H2 n2 ∧ RdK v R v2 H2 n2 :=
  ⟨v, _, n', hv, bX.vm h0, rfl, by rw [hm]; exact PM.yK, PM.ax _ _ _ _ (by decide) (by decide) r1, PM.ax _ _ _ _ (by decide) (by decide) r2, PM.ax _ _ _ _ (by decide) (by decide) r3, PM.ax _ _ _ _ (by decide) (by decide) r4, PM.ax _ _ _ _ (by decide) (by decide) r5, PM.ax _ _ _ _ (by decide) (by decide) r6⟩
noncomputable def uw (H : AH) (r k t v l q f : Nat) (R' : Rd) : AH := PM.set (some (.cells (rdC k t v l q f R') true)) ab (PM.set (some (.cells (aq R'.ks) true)) ab (PM.set (some (.cells (ints R'.ts) true)) ab (PM.set (some (.cells (ints R'.vs) true)) ab (PM.set (some (.cells (ba R'.ls) true)) ab (PM.set (some (.cells (ints R'.q.times) true)) ab (PM.set (some (.cells (aq R'.fs) true)) ab H f) q) l) v) t) k) r
def bo (ok : Rd → Prop) (A : List AV → Prop) (F : Rd → AV × Rd) (args : List AV) (H : AH) (n : Nat) (κ : PK) : Prop := match args with
  | x :: ar => ∃ (r k t v l q f : Nat) (R : Rd), x = .ptr r 0 ∧ A ar ∧ uv H n r k t v l q f R ∧ ok R ∧ κ (F R).1 (uw H r k t v l q f (F R).2) n
  | _ => False
theorem cX {f : FuncId} {run : List AV → AH → Nat → PK → Prop} (hrun : aD f run) (hic : dj Try.prog f = true) {ok : Rd → Prop} {A : List AV → Prop} {ar0 : List AV} {F : Rd → AV × Rd} (hA : ∀ ar, A ar → ∀ (φ : Ph) (vs : List Value), VRs φ ar vs → VRs φ ar0 vs) (has : ∀ r, dV r ar0 = ar0)
    (hv : ∀ R, ltV 7 (F R).1 = true ∧ ∀ r, ren r (F R).1 = (F R).1) (h : ∀ R, ok R → post run (.ptr 0 0 :: ar0) (mkH (c6 (rdO R) 0)) 7 (RdK (F R).1 (F R).2)) : aD f (bo ok A F) := fun args H n κ hs φ h0' hp vs K hr hargs hk => by
  unfold bo at hs
  split at hs
  · rename_i x ar
    obtain ⟨r, k, t, v, l, q, f, R, rfl, ha, hR, hok, hs⟩ := hs
    obtain ⟨v1, us, e1, e2, e3⟩ := hargs.cons_inv
    have hargs' : VRs φ (dV (bz [r, k, t, v, l, q, f] n) (.ptr 0 0 :: ar0)) vs.toList := by
      show VRs φ (ren _ _ :: dV _ ar0) vs.toList
      rw [has, e1]
      exact .cons e2 (hA ar ha φ us e3)
    refine re (S := [r, k, t, v, l, q, f]) (O := rdO R) (args0 := .ptr 0 0 :: ar0) (aD.post hrun) hic hr hR.Be hargs' hk (h R hok) fun u H' n' ⟨g0, g1, g2, g3, g4, g5, g6, g7⟩ => ?_
    subst g0
    refine ⟨7, lR [r, k, t, v, l, q, f] n H [(0, some (.cells (rdC 1 2 3 4 5 6 (F R).2) true)), (1, some (.cells (aq (F R).2.ks) true)), (2, some (.cells (ints (F R).2.ts) true)), (3, some (.cells (ints (F R).2.vs) true)), (4, some (.cells (ba (F R).2.ls) true)), (5, some (.cells (ints (F R).2.q.times) true)), (6, some (.cells (aq (F R).2.fs) true))], Nat.le_refl _, jD.put (Nat.le_refl _) rfl (fun x hx o ho => ?_), (hv R).1, ?_⟩
    · simp only [List.mem_cons, List.not_mem_nil, or_false] at hx
      rcases hx with rfl | rfl | rfl | rfl | rfl | rfl | rfl
      · injection ho with ho; subst ho; exact ⟨g1, rfl, rfl⟩
      · injection ho with ho; subst ho; exact ⟨g2, rfl, cH _ _ (aV _)⟩
      · injection ho with ho; subst ho; exact ⟨g3, rfl, cH _ _ (aT _)⟩
      · injection ho with ho; subst ho; exact ⟨g4, rfl, cH _ _ (aT _)⟩
      · injection ho with ho; subst ho; exact ⟨g5, rfl, cH _ _ (dF _)⟩
      · injection ho with ho; subst ho; exact ⟨g6, rfl, cH _ _ (aT _)⟩
      · injection ho with ho; subst ho; exact ⟨g7, rfl, cH _ _ (aV _)⟩
    · rw [(hv R).2]
      have e : lR [r, k, t, v, l, q, f] n H [(0, some (.cells (rdC 1 2 3 4 5 6 (F R).2) true)), (1, some (.cells (aq (F R).2.ks) true)), (2, some (.cells (ints (F R).2.ts) true)), (3, some (.cells (ints (F R).2.vs) true)), (4, some (.cells (ba (F R).2.ls) true)), (5, some (.cells (ints (F R).2.q.times) true)), (6, some (.cells (aq (F R).2.fs) true))] = uw H r k t v l q f (F R).2 := by
        simp only [lR, Option.map_some, eH, vl, ck _ _ (aV _), ck _ _ (aT _), ck _ _ (dF _)]
        rfl
      rw [e]; exact hs
  · exact hs.elim
end Go.Proofs.Ytdfeigkooeeeaaa
namespace Go.Proofs.Ytdfeigkooeeeaaa
open Go Go.RowKit
def loC (c : Nat) : Nat := if 65 ≤ c ∧ c ≤ 90 then c + 32 else c
def loF (s : List Nat) : List Nat := s.map loC
def fK (s : List Nat) (i : Nat) : List Nat := (s.take i).map loC ++ s.drop i
theorem jb (s : List Nat) (i : Nat) : (fK s i).length = s.length := by simp [fK]; omega
theorem vn {s : List Nat} {i : Nat} (h : i < s.length) : (fK s i)[i]? = some s[i] := by
  unfold fK
  rw [List.getElem?_append_right (by simp; omega), List.getElem?_drop]
  simp [Nat.min_eq_left (Nat.le_of_lt h), h]
theorem pO {s : List Nat} {i : Nat} (h : i < s.length) : fK s (i + 1) = (fK s i).set i (loC s[i]) := by
  unfold fK
  rw [List.take_succ_eq_append_getElem h, List.map_append, List.set_append, if_neg (by simp; omega)]
  have hd := List.drop_eq_getElem_cons h
  have hz : i - (List.map loC (List.take i s)).length = 0 := by simp; omega
  rw [hz, hd, List.append_assoc]; rfl
theorem wN {s : List Nat} {i : Nat} (h : i < s.length) (e : loC s[i] = s[i]) : fK s (i + 1) = fK s i := by
  rw [pO h, e]
  apply List.ext_getElem?
  intro j
  by_cases hj : j = i
  · subst hj; rw [vn h]; simp [jb, h]
  · rw [List.getElem?_set_ne (Ne.symm hj)]
theorem yL (s : List Nat) : fK s s.length = loF s := by simp [fK, loF]
theorem BS {s : List Nat} (h : ∀ c ∈ s, c < 256) : ∀ c ∈ loF s, c < 256 := fun c hc => by
  obtain ⟨a, ha, rfl⟩ := List.mem_map.1 hc
  have := h a ha
  unfold loC
  split <;> omega
noncomputable def lob (s : List Nat) (i : Nat) : AE × AH := (mkE [(3, .sy 0 0 s.length s.length 1), (8, .sy 0 0 s.length s.length 1), (9, .si .i64 (((s.length : Nat) : Int))), (10, .si .i64 (((i : Nat) : Int)))], mkH [(0, .cells (bp (fK s i)) false)])
theorem mY {s : List Nat} {i : Nat} {p n : Nat} {σ : AE} {H : AH} {l0 : List AV} (hp : p ≤ 0) (e3 : mk (aA (pa 3) σ) = .sy 0 0 s.length s.length 1) (e8 : mk (aA (pa 8) σ) = .sy 0 0 s.length s.length 1) (e9 : mk (aA (pa 9) σ) = .si .i64 (((s.length : Nat) : Int))) (e10 : mk (aA (pa 10) σ) = .si .i64 (((i : Nat) : Int))) (h0 : H.get 0 = some (.cells l0 false)) (g0 : l0.map mk = bp (fK s i)) : Cov p σ H n ((lob s i).1, (lob s i).2, 1) := by
  refine Cov.ofR (fun b => b) (by omega) (fun b hb => rfl) ?_ ?_ ?_
  · intro x hx
    simp only [List.mem_cons, List.not_mem_nil, or_false] at hx
    rcases hx with rfl | rfl | rfl | rfl
    · exact .sy (by decide) e3
    · exact .sy (by decide) e8
    · exact .int e9
    · exact .int e10
  · intro x hx
    simp only [List.mem_cons, List.not_mem_nil, or_false] at hx
    subst hx
    exact ⟨by simp, .inl ⟨_, h0, cB.bh (eI _) (by rw [g0, cq]) (fun q => q)⟩⟩
  · intro x hx y hy
    simp only [List.mem_cons, List.not_mem_nil, or_false] at hx hy
    subst hx hy
    exact fun q => rfl
noncomputable def KLo : FuncId → EP := dr 78 [] evP
theorem BT : bZ KLo := bu bt (by kernel_rfl) (by kernel_rfl)
theorem BU (s : List Nat) (hs : ∀ c ∈ s, c < 256) (hl : s.length ≤ 1000000) : ao KLo 3 78 [.ss s] .nil 0 fun u _ _ => mkT u = mkT (.ss (loF s)) := by
  conv => whnf
  refine Ask.mk (.sl 0 0 s.length s.length 1, _, 1) rfl ?_
  conv => whnf
  refine dg.mk { i : Nat // i ≤ s.length } 1 (fun i => lob s i.val) (fun i => s.length - i.val) ⟨0, Nat.zero_le _⟩ ?_ ?_
  · exact mY (Nat.le_refl 0) rfl rfl rfl rfl rfl (by simp [fK, bp, mk])
  · intro ⟨i, hi⟩
    have hsub : aP (bp (fK s i)) 0 (s.length * 1) = some (bp (fK s i)) := cT (by rw [bV, jb, Nat.mul_one])
    conv => whnf
    refine ak.dec (fun h => ?_) (fun h => ?_)
    · have hi2 : i < s.length := by exact Int.ofNat_lt.1 h
      have hc := hs _ (List.getElem_mem hi2)
      have hi1 : IntKind.i64.wrap ((i : Int) + 1) = ((i + 1 : Nat) : Int) := dR ⟨by omega, by omega⟩
      have hnth : nth (bp (fK s i)) (0 + i * 1) = some (.si .u8 (Int.ofNat s[i])) := by
        rw [dz, Nat.zero_add, Nat.mul_one]
        simp only [bp, List.getElem?_map, vn hi2]; rfl
      have hset : 65 ≤ s[i] → s[i] ≤ 90 → fe (bp (fK s i)) (0 + i * 1) [.si .u8 (IntKind.u8.wrap (Int.ofNat s[i] + 32))] = some (bp (fK s (i + 1))) := fun h1 h2 => by
        rw [Nat.zero_add, Nat.mul_one, oh _ _ _ (by rw [bV, jb]; exact hi2)]
        have e : IntKind.u8.wrap (Int.ofNat s[i] + 32) = Int.ofNat (loC s[i]) := by
          unfold loC; rw [if_pos ⟨h1, h2⟩]
          simp [IntKind.wrap, IntKind.bits, IntKind.signed]
          omega
        rw [e, sS, ← pO hi2]
      have hsame : ¬ (65 ≤ s[i] ∧ s[i] ≤ 90) → (bp (fK s i)).map mk = bp (fK s (i + 1)) := fun q => by
        rw [wN hi2 (by unfold loC; rw [if_neg q]), cq]
      conv => whnf
      refine Idx.mk i rfl hi2 ?_
      conv => whnf
      refine bj hnth ?_
      conv => whnf
      refine ak.dec (fun h1 => ?_) (fun h1 => ?_)
      · have h1 : 65 ≤ s[i] := by exact Int.ofNat_le.1 h1
        conv => whnf
        refine ak.dec (fun h2 => ?_) (fun h2 => ?_)
        · have h2 : s[i] ≤ 90 := by exact Int.ofNat_le.1 h2
          conv => whnf
          refine Idx.mk i rfl hi2 ?_
          conv => whnf
          refine bj (hset h1 h2) ?_
          conv => whnf
          exact ⟨⟨i + 1, hi2⟩, (show s.length - (i + 1) < s.length - i by omega), mY (Nat.le_refl 0) rfl rfl rfl (congrArg (AV.si .i64) hi1) rfl (cq _)⟩
        · have h2 : ¬ s[i] ≤ 90 := fun q => h2 (by exact Int.ofNat_le.2 q)
          conv => whnf
          exact ⟨⟨i + 1, hi2⟩, (show s.length - (i + 1) < s.length - i by omega), mY (Nat.le_refl 0) rfl rfl rfl (congrArg (AV.si .i64) hi1) rfl (hsame fun q => h2 q.2)⟩
      · have h1 : ¬ 65 ≤ s[i] := fun q => h1 (by exact Int.ofNat_le.2 q)
        conv => whnf
        exact ⟨⟨i + 1, hi2⟩, (show s.length - (i + 1) < s.length - i by omega), mY (Nat.le_refl 0) rfl rfl rfl (congrArg (AV.si .i64) hi1) rfl (hsame fun q => h1 q.1)⟩
    · have hi3 : i = s.length := by have : ¬ i < s.length := fun q => h (Int.ofNat_lt.2 q); omega
      have hconv : (aP (bp (fK s i)) 0 s.length).bind eo = some (loF s) := by
        rw [hi3, yL, cT (by rw [bV]; simp [loF])]
        exact fW (BS hs)
      conv => whnf
      refine Ask.mk (.str (loF s), _, _) (congrArg (Option.map fun s => (AV.str s, _, _)) hconv) ?_
      conv => whnf
      rfl
def yM (args : List AV) (H : AH) (n : Nat) (κ : PK) : Prop := match args with
  | [x] => ∃ s, mk x = .ss s ∧ (∀ c ∈ s, c < 256) ∧ s.length ≤ 1000000 ∧ κ (.ss (loF s)) H n
  | _ => False
theorem Ab : aD 78 yM := fun args H n κ hs φ h0' hp vs K hr hargs hk => by
  unfold yM at hs
  split at hs
  · obtain ⟨x, rfl, e1⟩ := vs1 hargs
    obtain ⟨s, hx, h1, h2, hs⟩ := hs
    exact j9 BT (v := .ss (loF s)) rfl (BU s h1 h2) hs hr hk (by kernel_rfl) HR.ro0 (.cons (dc rfl (hx ▸ e1.mk)) .nil)
  · exact hs.elim
noncomputable def alk (s : List Nat) (m : List Nat) (i : Nat) : AE × AH := (mkE [(0, .ss (s)), (1, .ss (m)), (13, .si .i64 (((s.length : Nat) : Int))), (14, .si .i64 (((i : Nat) : Int)))], mkH [])
theorem mZ {s : List Nat} {m : List Nat} {i : Nat} {p n : Nat} {σ : AE} {H : AH} (hp : p ≤ 0) (e0 : mk (aA (pa 0) σ) = .ss (s)) (e1 : mk (aA (pa 1) σ) = .ss (m)) (e13 : mk (aA (pa 13) σ) = .si .i64 (((s.length : Nat) : Int))) (e14 : mk (aA (pa 14) σ) = .si .i64 (((i : Nat) : Int))) : Cov p σ H n ((alk s m i).1, (alk s m i).2, 0) := by
  refine Cov.ofR (fun b => b) (by omega) (fun b hb => rfl) ?_ ?_ ?_
  · intro x hx
    simp only [List.mem_cons, List.not_mem_nil, or_false] at hx
    rcases hx with rfl | rfl | rfl | rfl
    · exact .str e0
    · exact .str e1
    · exact .int e13
    · exact .int e14
  · intro x hx
    cases hx
  · intro x hx y hy
    cases hx
noncomputable def KAk : FuncId → EP := dr 76 [] evP
theorem BV : bZ KAk := bu bt (by kernel_rfl) (by kernel_rfl)
theorem ri {s : List Nat} {i : Nat} (h : i < s.length) : nth s i = some s[i] := by rw [dz, List.getElem?_eq_getElem h]
theorem Ac (s m : List Nat) (hs : ∀ c ∈ s, c < 256) (hl : s.length ≤ 1000000) : ao KAk 3 76 [.ss s, .ss m] .nil 0 fun u _ _ => mkT u = mkT (.sb (aO m (upF s))) := by
  have no : m ≠ upF s → mkT (AV.sb false) = mkT (.sb (aO m (upF s))) := fun h => by
    cases q : aO m (upF s) with
    | false => rfl
    | true => exact absurd (cD.1 q) h
  conv => whnf
  refine ak.ir (fun hne => ?_) (fun heq => ?_)
  · have e := no (fun q => hne (by rw [q]; simp [upF]))
    conv => whnf
    exact e
  · have hlen : s.length = m.length := by exact Int.ofNat_inj.1 heq
    conv => whnf
    refine dg.mk { i : Nat // i ≤ s.length ∧ (upF s).take i = m.take i } 0 (fun i => alk s m i.val) (fun i => s.length - i.val) ⟨0, Nat.zero_le _, rfl⟩ ?_ ?_
    · exact mZ (i := 0) (Nat.le_refl 0) rfl rfl rfl rfl
    · intro ⟨i, hi, ht⟩
      conv => whnf
      refine ak.dec (fun h => ?_) (fun h => ?_)
      · have hi2 : i < s.length := by exact Int.ofNat_lt.1 h
        have hi3 : i < m.length := hlen ▸ hi2
        have hc := hs _ (List.getElem_mem hi2)
        have hi1 : IntKind.i64.wrap ((i : Int) + 1) = ((i + 1 : Nat) : Int) := dR ⟨by omega, by omega⟩
        have hlt : s.length - (i + 1) < s.length - i := by omega
        have hui : i < (upF s).length := by simp [upF]; exact hi2
        have hu : (upF s)[i] = upC s[i] := by simp [upF]
        have hsn : upC s[i] = m[i] → (upF s).take (i + 1) = m.take (i + 1) := fun q => by
          rw [List.take_succ_eq_append_getElem hui, List.take_succ_eq_append_getElem hi3, ht, hu, q]
        have hbad : upC s[i] ≠ m[i] → mkT (AV.sb false) = mkT (.sb (aO m (upF s))) := fun q => no (fun e => q (by simp only [e, hu]))
        have hup : 97 ≤ s[i] → s[i] ≤ 122 → IntKind.u8.wrap (Int.ofNat s[i] - 32) = Int.ofNat (upC s[i]) := fun h1 h2 => by
          unfold upC; rw [if_pos ⟨h1, h2⟩]
          simp [IntKind.wrap, IntKind.bits, IntKind.signed]
          omega
        have hno : ¬ (97 ≤ s[i] ∧ s[i] ≤ 122) → upC s[i] = s[i] := fun q => by unfold upC; rw [if_neg q]
        conv => whnf
        refine Idx.mk i rfl hi2 ?_
        conv => whnf
        refine Ask.mk s[i] (ri hi2) ?_
        conv => whnf
        refine ak.dec (fun h1 => ?_) (fun h1 => ?_)
        · have h1 : 97 ≤ s[i] := by exact Int.ofNat_le.1 h1
          conv => whnf
          refine ak.dec (fun h2 => ?_) (fun h2 => ?_)
          · have h2 : s[i] ≤ 122 := by exact Int.ofNat_le.1 h2
            have hup := hup h1 h2
            conv => whnf
            refine Idx.mk i rfl hi3 ?_
            conv => whnf
            refine Ask.mk m[i] (ri hi3) ?_
            conv => whnf
            refine ak.ir (fun q => ?_) (fun q => ?_)
            · have e := hbad (fun k => q (by rw [hup, k]))
              conv => whnf
              exact e
            · have e := hsn (Int.ofNat_inj.1 (hup.symm.trans q))
              conv => whnf
              exact ⟨⟨i + 1, hi2, e⟩, hlt, mZ (Nat.le_refl 0) rfl rfl rfl (congrArg (AV.si .i64) hi1)⟩
          · have h2 : ¬ s[i] ≤ 122 := fun q => h2 (by exact Int.ofNat_le.2 q)
            have hno := hno (fun q => h2 q.2)
            conv => whnf
            refine Idx.mk i rfl hi3 ?_
            conv => whnf
            refine Ask.mk m[i] (ri hi3) ?_
            conv => whnf
            refine ak.ir (fun q => ?_) (fun q => ?_)
            · have e := hbad (fun k => q (by rw [← hno, k]))
              conv => whnf
              exact e
            · have e := hsn (by rw [hno]; exact Int.ofNat_inj.1 q)
              conv => whnf
              exact ⟨⟨i + 1, hi2, e⟩, hlt, mZ (Nat.le_refl 0) rfl rfl rfl (congrArg (AV.si .i64) hi1)⟩
        · have h1 : ¬ 97 ≤ s[i] := fun q => h1 (by exact Int.ofNat_le.2 q)
          have hno := hno (fun q => h1 q.1)
          conv => whnf
          refine Idx.mk i rfl hi3 ?_
          conv => whnf
          refine Ask.mk m[i] (ri hi3) ?_
          conv => whnf
          refine ak.ir (fun q => ?_) (fun q => ?_)
          · have e := hbad (fun k => q (by rw [← hno, k]))
            conv => whnf
            exact e
          · have e := hsn (by rw [hno]; exact Int.ofNat_inj.1 q)
            conv => whnf
            exact ⟨⟨i + 1, hi2, e⟩, hlt, mZ (Nat.le_refl 0) rfl rfl rfl (congrArg (AV.si .i64) hi1)⟩
      · have hi3 : i = s.length := by have : ¬ i < s.length := fun q => h (Int.ofNat_lt.2 q); omega
        have e : mkT (AV.sb true) = mkT (.sb (aO m (upF s))) := by
          have : m = upF s := by
            rw [hi3, hlen, List.take_length, List.take_of_length_le (by simp [upF]; omega)] at ht
            exact ht.symm
          rw [cD.2 this]
        conv => whnf
        exact e
def yN (args : List AV) (H : AH) (n : Nat) (κ : PK) : Prop := match args with
  | [x, y] => ∃ s m, mk x = .ss s ∧ mk y = .ss m ∧ (∀ c ∈ s, c < 256) ∧ s.length ≤ 1000000 ∧ κ (.sb (aO m (upF s))) H n
  | _ => False
theorem Ad : aD 76 yN := fun args H n κ hs φ h0' hp vs K hr hargs hk => by
  unfold yN at hs
  split at hs
  · obtain ⟨x, y, rfl, e1, e2⟩ := vs2 hargs
    obtain ⟨s, m, hx, hy, h1, h2, hs⟩ := hs
    exact j9 BV (v := .sb (aO m (upF s))) rfl (Ac s m h1 h2) hs hr hk (by kernel_rfl) HR.ro0 (.cons (dc rfl (hx ▸ e1.mk)) (.cons (dc rfl (hy ▸ e2.mk)) .nil))
  · exact hs.elim
def jx : List (Nat × List Nat) := [(1, [66, 76, 79, 67, 75]), (2, [70, 73, 82, 83, 84]), (3, [76, 65, 83, 84]), (4, [77, 73, 78]), (5, [77, 65, 88]), (6, [83, 85, 77])]
def iu : List (Nat × List Nat) := [(1, [115, 117, 109]), (2, [109, 105, 110]), (3, [109, 97, 120]), (4, [99, 111, 117, 110, 116]), (5, [102, 105, 114, 115, 116]), (6, [108, 97, 115, 116]), (7, [114, 97, 110, 103, 101])]
noncomputable def cI (s : List Nat) : Int × Int := if whF jx (upF s) = 0 then (0, 17) else ((whF jx (upF s) : Nat), 0)
noncomputable def cf (s : List Nat) : Int × Int := if whF iu (loF s) = 0 then (0, 17) else ((whF iu (loF s) : Nat), 0)
noncomputable def KPp : FuncId → EP := aB 76 yN evP
theorem BW : bZ KPp := ah bt Ad
theorem yO (s : List Nat) (hs : ∀ c ∈ s, c < 256) (hl : s.length ≤ 1000000) : ao KPp 4 65 [.ss s] .nil 0 fun u _ _ => mkT u = mkT (.tup [.si .i64 (cI s).1, .si .i64 (cI s).2]) := by
  have key : ∀ {x y : Int}, cI s = (x, y) → mkT (.tup [.si .i64 x, .si .i64 y]) = mkT (.tup [.si .i64 (cI s).1, .si .i64 (cI s).2]) := fun e => by rw [e]
  conv => whnf
  refine dg.roll 8 ?_
  conv => whnf
  refine ⟨s, [66, 76, 79, 67, 75], rfl, rfl, hs, hl, ?_⟩
  conv => whnf
  refine ak.sb (fun q1 => ?_) (fun q1 => ?_)
  · have q1 : aO [66, 76, 79, 67, 75] (upF s) = true := q1
    have w : whF jx (upF s) = 1 := by simp only [jx, whF, q1]
    have e := key (x := 1) (y := 0) (by unfold cI; rw [w]; rfl)
    conv => whnf
    exact e
  have q1 : aO [66, 76, 79, 67, 75] (upF s) = false := q1
  conv => whnf
  refine ⟨s, [70, 73, 82, 83, 84], rfl, rfl, hs, hl, ?_⟩
  conv => whnf
  refine ak.sb (fun q2 => ?_) (fun q2 => ?_)
  · have q2 : aO [70, 73, 82, 83, 84] (upF s) = true := q2
    have w : whF jx (upF s) = 2 := by simp only [jx, whF, q1, q2]
    have e := key (x := 2) (y := 0) (by unfold cI; rw [w]; rfl)
    conv => whnf
    exact e
  have q2 : aO [70, 73, 82, 83, 84] (upF s) = false := q2
  conv => whnf
  refine ⟨s, [76, 65, 83, 84], rfl, rfl, hs, hl, ?_⟩
  conv => whnf
  refine ak.sb (fun q3 => ?_) (fun q3 => ?_)
  · have q3 : aO [76, 65, 83, 84] (upF s) = true := q3
    have w : whF jx (upF s) = 3 := by simp only [jx, whF, q1, q2, q3]
    have e := key (x := 3) (y := 0) (by unfold cI; rw [w]; rfl)
    conv => whnf
    exact e
  have q3 : aO [76, 65, 83, 84] (upF s) = false := q3
  conv => whnf
  refine ⟨s, [77, 73, 78], rfl, rfl, hs, hl, ?_⟩
  conv => whnf
  refine ak.sb (fun q4 => ?_) (fun q4 => ?_)
  · have q4 : aO [77, 73, 78] (upF s) = true := q4
    have w : whF jx (upF s) = 4 := by simp only [jx, whF, q1, q2, q3, q4]
    have e := key (x := 4) (y := 0) (by unfold cI; rw [w]; rfl)
    conv => whnf
    exact e
  have q4 : aO [77, 73, 78] (upF s) = false := q4
  conv => whnf
  refine ⟨s, [77, 65, 88], rfl, rfl, hs, hl, ?_⟩
  conv => whnf
  refine ak.sb (fun q5 => ?_) (fun q5 => ?_)
  · have q5 : aO [77, 65, 88] (upF s) = true := q5
    have w : whF jx (upF s) = 5 := by simp only [jx, whF, q1, q2, q3, q4, q5]
    have e := key (x := 5) (y := 0) (by unfold cI; rw [w]; rfl)
    conv => whnf
    exact e
  have q5 : aO [77, 65, 88] (upF s) = false := q5
  conv => whnf
  refine ⟨s, [83, 85, 77], rfl, rfl, hs, hl, ?_⟩
  conv => whnf
  refine ak.sb (fun q6 => ?_) (fun q6 => ?_)
  · have q6 : aO [83, 85, 77] (upF s) = true := q6
    have w : whF jx (upF s) = 6 := by simp only [jx, whF, q1, q2, q3, q4, q5, q6]
    have e := key (x := 6) (y := 0) (by unfold cI; rw [w]; rfl)
    conv => whnf
    exact e
  have q6 : aO [83, 85, 77] (upF s) = false := q6
  have w : whF jx (upF s) = 0 := by simp only [jx, whF, q1, q2, q3, q4, q5, q6]
  have e := key (x := 0) (y := 17) (by unfold cI; rw [w]; rfl)
  conv => whnf
  exact e
def yP (args : List AV) (H : AH) (n : Nat) (κ : PK) : Prop := match args with
  | [x] => ∃ s, mk x = .ss s ∧ (∀ c ∈ s, c < 256) ∧ s.length ≤ 1000000 ∧ κ (.tup [.si .i64 (cI s).1, .si .i64 (cI s).2]) H n
  | _ => False
theorem BX : aD 65 yP := fun args H n κ hs φ h0' hp vs K hr hargs hk => by
  unfold yP at hs
  split at hs
  · obtain ⟨x, rfl, e1⟩ := vs1 hargs
    obtain ⟨s, hx, h1, h2, hs⟩ := hs
    exact j9 BW (v := .tup [.si .i64 (cI s).1, .si .i64 (cI s).2]) rfl (yO s h1 h2) hs hr hk (by kernel_rfl) HR.ro0 (.cons (dc rfl (hx ▸ e1.mk)) .nil)
  · exact hs.elim
noncomputable def KAp : FuncId → EP := aB 78 yM evP
theorem BY : bZ KAp := ah bt Ab
theorem yQ (s : List Nat) (hs : ∀ c ∈ s, c < 256) (hl : s.length ≤ 1000000) : ao KAp 4 72 [.ss s] .nil 0 fun u _ _ => mkT u = mkT (.tup [.si .i64 (cf s).1, .si .i64 (cf s).2]) := by
  have key : ∀ {x y : Int}, cf s = (x, y) → mkT (.tup [.si .i64 x, .si .i64 y]) = mkT (.tup [.si .i64 (cf s).1, .si .i64 (cf s).2]) := fun e => by rw [e]
  conv => whnf
  refine dg.roll 9 ?_
  conv => whnf
  refine ⟨s, rfl, hs, hl, ?_⟩
  conv => whnf
  refine ak.sb (fun q1 => ?_) (fun q1 => ?_)
  · have q1 : aO [115, 117, 109] (loF s) = true := q1
    have w : whF iu (loF s) = 1 := by simp only [iu, whF, q1]
    have e := key (x := 1) (y := 0) (by unfold cf; rw [w]; rfl)
    conv => whnf
    exact e
  have q1 : aO [115, 117, 109] (loF s) = false := q1
  conv => whnf
  refine ⟨s, rfl, hs, hl, ?_⟩
  conv => whnf
  refine ak.sb (fun q2 => ?_) (fun q2 => ?_)
  · have q2 : aO [109, 105, 110] (loF s) = true := q2
    have w : whF iu (loF s) = 2 := by simp only [iu, whF, q1, q2]
    have e := key (x := 2) (y := 0) (by unfold cf; rw [w]; rfl)
    conv => whnf
    exact e
  have q2 : aO [109, 105, 110] (loF s) = false := q2
  conv => whnf
  refine ⟨s, rfl, hs, hl, ?_⟩
  conv => whnf
  refine ak.sb (fun q3 => ?_) (fun q3 => ?_)
  · have q3 : aO [109, 97, 120] (loF s) = true := q3
    have w : whF iu (loF s) = 3 := by simp only [iu, whF, q1, q2, q3]
    have e := key (x := 3) (y := 0) (by unfold cf; rw [w]; rfl)
    conv => whnf
    exact e
  have q3 : aO [109, 97, 120] (loF s) = false := q3
  conv => whnf
  refine ⟨s, rfl, hs, hl, ?_⟩
  conv => whnf
  refine ak.sb (fun q4 => ?_) (fun q4 => ?_)
  · have q4 : aO [99, 111, 117, 110, 116] (loF s) = true := q4
    have w : whF iu (loF s) = 4 := by simp only [iu, whF, q1, q2, q3, q4]
    have e := key (x := 4) (y := 0) (by unfold cf; rw [w]; rfl)
    conv => whnf
    exact e
  have q4 : aO [99, 111, 117, 110, 116] (loF s) = false := q4
  conv => whnf
  refine ⟨s, rfl, hs, hl, ?_⟩
  conv => whnf
  refine ak.sb (fun q5 => ?_) (fun q5 => ?_)
  · have q5 : aO [102, 105, 114, 115, 116] (loF s) = true := q5
    have w : whF iu (loF s) = 5 := by simp only [iu, whF, q1, q2, q3, q4, q5]
    have e := key (x := 5) (y := 0) (by unfold cf; rw [w]; rfl)
    conv => whnf
    exact e
  have q5 : aO [102, 105, 114, 115, 116] (loF s) = false := q5
  conv => whnf
  refine ⟨s, rfl, hs, hl, ?_⟩
  conv => whnf
  refine ak.sb (fun q6 => ?_) (fun q6 => ?_)
  · have q6 : aO [108, 97, 115, 116] (loF s) = true := q6
    have w : whF iu (loF s) = 6 := by simp only [iu, whF, q1, q2, q3, q4, q5, q6]
    have e := key (x := 6) (y := 0) (by unfold cf; rw [w]; rfl)
    conv => whnf
    exact e
  have q6 : aO [108, 97, 115, 116] (loF s) = false := q6
  conv => whnf
  refine ⟨s, rfl, hs, hl, ?_⟩
  conv => whnf
  refine ak.sb (fun q7 => ?_) (fun q7 => ?_)
  · have q7 : aO [114, 97, 110, 103, 101] (loF s) = true := q7
    have w : whF iu (loF s) = 7 := by simp only [iu, whF, q1, q2, q3, q4, q5, q6, q7]
    have e := key (x := 7) (y := 0) (by unfold cf; rw [w]; rfl)
    conv => whnf
    exact e
  have q7 : aO [114, 97, 110, 103, 101] (loF s) = false := q7
  have w : whF iu (loF s) = 0 := by simp only [iu, whF, q1, q2, q3, q4, q5, q6, q7]
  have e := key (x := 0) (y := 17) (by unfold cf; rw [w]; rfl)
  conv => whnf
  exact e
def yR (args : List AV) (H : AH) (n : Nat) (κ : PK) : Prop := match args with
  | [x] => ∃ s, mk x = .ss s ∧ (∀ c ∈ s, c < 256) ∧ s.length ≤ 1000000 ∧ κ (.tup [.si .i64 (cf s).1, .si .i64 (cf s).2]) H n
  | _ => False
theorem BZ : aD 72 yR := fun args H n κ hs φ h0' hp vs K hr hargs hk => by
  unfold yR at hs
  split at hs
  · obtain ⟨x, rfl, e1⟩ := vs1 hargs
    obtain ⟨s, hx, h1, h2, hs⟩ := hs
    exact j9 BY (v := .tup [.si .i64 (cf s).1, .si .i64 (cf s).2]) rfl (yQ s h1 h2) hs hr hk (by kernel_rfl) HR.ro0 (.cons (dc rfl (hx ▸ e1.mk)) .nil)
  · exact hs.elim
end Go.Proofs.Ytdfeigkooeeeaaa
namespace Go.Proofs.Ytdfeigkooeeeaaa
open Go Go.RowKit
theorem VTo.mkv {u v : AV} (h : mk u = v) : VTo u v := fun φ w hu => by rw [← h]; exact hu.mk
def aC (R : Rd) : Bool := decide (R.e = 0) && decide (0 < R.ws.length)
def cr (R : Rd) (e : Int) : Rd := if R.e = 0 then { R with e := e } else R
def aa (R : Rd) : List Nat × Rd := if aC R = true then (R.ws.headD [], { R with ws := R.ws.tail }) else ([], cr R 14)
def jc (R : Rd) : AV × Rd := (.ss (aa R).1, (aa R).2)
noncomputable def atR (w : List Nat) (R : Rd) : Bool := aC R && aO (upF (R.ws.headD [])) w
noncomputable def gp (w : List Nat) (R : Rd) : AV × Rd := if atR w R = true then (.sb true, (aa R).2) else (.sb false, R)
noncomputable def dh (w : List Nat) (R : Rd) : AV × Rd := (.tup [], if aO (upF (aa R).1) w = true then (aa R).2 else cr (aa R).2 17)
def ag (g : List Nat → Int × Int) (R : Rd) : Int × Rd := ((g (aa R).1).1, if (g (aa R).1).2 = 0 then (aa R).2 else cr (aa R).2 (g (aa R).1).2)
def aG (g : List Nat → Int × Int) (R : Rd) : AV × Rd := (.si .i64 (ag g R).1, (ag g R).2)
def kf (R : Rd) : Int × Rd := ((ag an R).1, if (ag an R).1 < 0 then cr (ag an R).2 16 else (ag an R).2)
def lT (R : Rd) : AV × Rd := (.si .i64 (kf R).1, (kf R).2)
noncomputable def orR (w : List Nat) (z : Int) (R : Rd) : Int × Rd := if (aC R && aO (R.ws.headD []) w) = true then (z, (aa R).2) else ag an R
noncomputable def orV (w : List Nat) (z : Int) (R : Rd) : AV × Rd := (.si .i64 (orR w z R).1, (orR w z R).2)
def WOk (R : Rd) : Prop := ∀ w ∈ R.ws, (∀ c ∈ w, c < 256) ∧ w.length ≤ 1000000
theorem kW (R : Rd) (e : Int) : (cr R e).ws = R.ws := by unfold cr; split <;> rfl
theorem WOk.fail {R : Rd} (h : WOk R) (e : Int) : WOk (cr R e) := by unfold WOk; rw [kW]; exact h
theorem WOk.next {R : Rd} (h : WOk R) : ((∀ c ∈ (aa R).1, c < 256) ∧ (aa R).1.length ≤ 1000000) ∧ WOk (aa R).2 := by
  unfold aa
  split
  · refine ⟨?_, fun w hw => h w (List.mem_of_mem_tail hw)⟩
    cases hw : R.ws with
    | nil => exact ⟨(fun c hc => by cases hc), Nat.zero_le _⟩
    | cons w l => exact h w (by rw [hw]; exact List.mem_cons_self)
  · exact ⟨⟨(fun c hc => by cases hc), Nat.zero_le _⟩, h.fail 14⟩
theorem WOk.told {R : Rd} (h : WOk R) (g : List Nat → Int × Int) : WOk (ag g R).2 := by
  unfold ag
  dsimp only
  split
  · exact h.next.2
  · exact h.next.2.fail _
theorem cx {R : Rd} (h0 : R.e = 0) (hp : 0 < R.ws.length) : aC R = true := by unfold aC; simp [h0, hp]
theorem cy {R : Rd} (h0 : ¬ R.e = 0) : ¬ aC R = true := by unfold aC; simp [h0]
theorem cz {R : Rd} (hp : ¬ 0 < R.ws.length) : ¬ aC R = true := by unfold aC; simp [hp]
theorem m0 {L : List (List Nat)} (h : 0 < L.length) : L[0] = L.headD [] := by
  cases L with
  | nil => cases h
  | cons x l => rfl
theorem eK {L : List (List Nat)} (h : 0 < L.length) : nth (aq L) (0 * 1) = some (.ss (L.headD [])) := by
  cases L with
  | nil => cases h
  | cons x l => rfl
theorem rj (L : List (List Nat)) : AV.fr (L.length - 1) 1 ((aq L).drop (1 * 1)) = .fr L.tail.length 1 (aq L.tail) := by
  cases L with
  | nil => rfl
  | cons x l => rfl
theorem wO (R : Rd) : post (ao evP 4 73) [.ptr 0 0] (mkH (c6 (rdO R) 0)) 7 (RdK (jc R).1 (jc R).2) := by
  have leaf : ∀ {s : List Nat} {R' : Rd} {u : AV} {H' : AH} {n' : Nat} {l : List AV}, aa R = (s, R') → mk u = .ss s → PM.get H' 0 = some (.cells l true) → l.map mk = rdC 1 2 3 4 5 6 R' → PM.get H' 1 = some (.cells (aq R'.ks) true) → PM.get H' 2 = some (.cells (ints R'.ts) true) → PM.get H' 3 = some (.cells (ints R'.vs) true) → PM.get H' 4 = some (.cells (ba R'.ls) true) → PM.get H' 5 = some (.cells (ints R'.q.times) true) → PM.get H' 6 = some (.cells (aq R'.fs) true) → ∃ v2 H2 n2, VTo u v2 ∧ bX H' n' H2 n2 ∧ RdK (jc R).1 (jc R).2 v2 H2 n2 := fun e hu h0 hm r1 r2 r3 r4 r5 r6 => by
    unfold jc; rw [e]; exact eN (VTo.mkv hu) h0 hm r1 r2 r3 r4 r5 r6
  show ao evP 4 73 _ _ _ _
  conv => whnf
  refine ak.dec (fun h0 => ?_) (fun h0 => ?_)
  · conv => whnf
    refine ak.ir (fun hp => ?_) (fun hp => ?_)
    · have hp : ¬ 0 < R.ws.length := fun q => hp (by exact Int.ofNat_lt.2 q)
      have e : aa R = ([], { R with e := 14 }) := by unfold aa cr; rw [if_neg (cz hp), if_pos h0]
      conv => whnf
      refine ak.dec (fun _ => ?_) (fun q => absurd h0 q)
      conv => whnf
      exact leaf e rfl rfl rfl rfl rfl rfl rfl rfl rfl
    · have hp : 0 < R.ws.length := by exact Int.ofNat_lt.1 hp
      have e : aa R = (R.ws.headD [], { R with ws := R.ws.tail }) := by unfold aa; rw [if_pos (cx h0 hp)]
      have hm : (AV.fr (R.ws.length - 1) 1 ((aq R.ws).drop (1 * 1)) :: .si .i64 R.e :: cmC (.rw 1 0 R.ks.length 1 0) (.rw 2 0 R.ts.length 1 0) (.rw 3 0 R.vs.length 1 0) (.rw 4 0 R.ls.length 2 0) (.rw 5 0 R.q.times.length 1 0) (.rw 6 0 R.fs.length 1 0) R).map mk = rdC 1 2 3 4 5 6 { R with ws := R.ws.tail } := by rw [rj]; rfl
      conv => whnf
      refine Idx.mk 0 rfl hp ?_
      conv => whnf
      refine bj (eK hp) ?_
      conv => whnf
      refine RSl.mk 1 _ rfl rfl (.inl rfl) hp (Nat.le_refl _) ?_
      conv => whnf
      exact leaf e rfl rfl hm rfl rfl rfl rfl rfl rfl
  · have e : aa R = ([], R) := by unfold aa cr; rw [if_neg (cy h0), if_neg h0]
    conv => whnf
    refine ak.dec (fun q => absurd q h0) (fun _ => ?_)
    conv => whnf
    exact leaf e rfl rfl rfl rfl rfl rfl rfl rfl rfl
def noA (ar : List AV) : Prop := ar = []
theorem cC : ∀ ar, noA ar → ∀ (φ : Ph) (vs : List Value), VRs φ ar vs → VRs φ [] vs := fun ar h φ vs hv => by rw [← h]; exact hv
def s0 (w : List Nat) (ar : List AV) : Prop := ∃ y, ar = [y] ∧ mk y = .ss w
theorem rl (w : List Nat) : ∀ ar, s0 w ar → ∀ (φ : Ph) (vs : List Value), VRs φ ar vs → VRs φ [.ss w] vs := fun ar ⟨y, h, hy⟩ φ vs hv => by
  subst h
  obtain ⟨v, us, rfl, h1, h2⟩ := hv.cons_inv
  exact .cons (by have := h1.mk; rw [hy] at this; exact this) h2
def fnA (f : Nat) (ar : List AV) : Prop := ar = [.fn f [] []]
theorem ux (f : Nat) : ∀ ar, fnA f ar → ∀ (φ : Ph) (vs : List Value), VRs φ ar vs → VRs φ [.fn f [] []] vs := fun ar h φ vs hv => by rw [← h]; exact hv
theorem kX : aD 73 (bo (fun _ => True) noA jc) := cX (au bt 4 _) (by kernel_rfl) cC (fun _ => rfl) (fun R => ⟨rfl, fun _ => rfl⟩) fun R _ => wO R
noncomputable def KHs : FuncId → EP := aB 73 (bo (fun _ => True) noA jc) (aB 44 vf evP)
theorem uy : bZ KHs := ah (ah bt vg) kX
theorem yS (w : List Nat) (R : Rd) (hok : WOk R) : post (ao KHs 5 62) (.ptr 0 0 :: [.ss w]) (mkH (c6 (rdO R) 0)) 7 (RdK (gp w R).1 (gp w R).2) := by
  have leaf : ∀ {v : AV} {R' : Rd} {u : AV} {H' : AH} {n' : Nat} {l : List AV}, gp w R = (v, R') → mk u = v → PM.get H' 0 = some (.cells l true) → l.map mk = rdC 1 2 3 4 5 6 R' → PM.get H' 1 = some (.cells (aq R'.ks) true) → PM.get H' 2 = some (.cells (ints R'.ts) true) → PM.get H' 3 = some (.cells (ints R'.vs) true) → PM.get H' 4 = some (.cells (ba R'.ls) true) → PM.get H' 5 = some (.cells (ints R'.q.times) true) → PM.get H' 6 = some (.cells (aq R'.fs) true) → ∃ v2 H2 n2, VTo u v2 ∧ bX H' n' H2 n2 ∧ RdK (gp w R).1 (gp w R).2 v2 H2 n2 := fun e hu h0 hm r1 r2 r3 r4 r5 r6 => by
    rw [e]; exact eN (VTo.mkv hu) h0 hm r1 r2 r3 r4 r5 r6
  show ao KHs 5 62 _ _ _ _
  conv => whnf
  refine ak.dec (fun h0 => ?_) (fun h0 => ?_)
  · conv => whnf
    refine ak.dec (fun hp => ?_) (fun hp => ?_)
    · have hp : 0 < R.ws.length := by exact Int.ofNat_lt.1 hp
      have hw := hok _ (List.getElem_mem hp)
      rw [m0 hp] at hw
      conv => whnf
      refine Idx.mk 0 rfl hp ?_
      conv => whnf
      refine bj (eK hp) ?_
      conv => whnf
      refine ⟨R.ws.headD [], rfl, hw.1, hw.2, ?_⟩
      conv => whnf
      refine ak.sb (fun hq => ?_) (fun hq => ?_)
      · have e : gp w R = (.sb true, (aa R).2) := by unfold gp atR; rw [cx h0 hp, hq]; rfl
        conv => whnf
        refine ⟨0, 1, 2, 3, 4, 5, 6, R, rfl, rfl, ⟨by decide, by decide, rfl, rfl, rfl, rfl, rfl, rfl, rfl⟩, trivial, ?_⟩
        conv => whnf
        exact leaf e (congrArg AV.sb hq) rfl rfl rfl rfl rfl rfl rfl rfl
      · have e : gp w R = (.sb false, R) := by unfold gp atR; rw [if_neg (by rw [hq]; simp)]
        conv => whnf
        exact leaf e (congrArg AV.sb hq) rfl rfl rfl rfl rfl rfl rfl rfl
    · have hp : ¬ 0 < R.ws.length := fun q => hp (by exact Int.ofNat_lt.2 q)
      have e : gp w R = (.sb false, R) := by unfold gp atR; rw [if_neg (by rw [Bool.and_eq_true]; exact fun q => cz hp q.1)]
      have hd : AV.sb (decide ((0 : Int) < (R.ws.length : Int))) = .sb false := congrArg AV.sb (decide_eq_false (fun q : (0 : Int) < (R.ws.length : Int) => hp (by omega)))
      conv => whnf
      exact leaf e (by first | rfl | exact hd) rfl rfl rfl rfl rfl rfl rfl rfl
  · have e : gp w R = (.sb false, R) := by unfold gp atR; rw [if_neg (by rw [Bool.and_eq_true]; exact fun q => cy h0 q.1)]
    conv => whnf
    exact leaf e rfl rfl rfl rfl rfl rfl rfl rfl rfl
theorem C3 (w : List Nat) : aD 62 (bo WOk (s0 w) (gp w)) := cX (au uy 5 _) (by kernel_rfl) (rl w) (fun _ => rfl) (fun R => by unfold gp; split <;> exact ⟨rfl, fun _ => rfl⟩) fun R h => yS w R h
theorem wP (w : List Nat) (R : Rd) (hok : WOk R) : post (ao KHs 5 71) (.ptr 0 0 :: [.ss w]) (mkH (c6 (rdO R) 0)) 7 (RdK (dh w R).1 (dh w R).2) := by
  have leaf : ∀ {v : AV} {R' : Rd} {u : AV} {H' : AH} {n' : Nat} {l : List AV}, dh w R = (v, R') → mk u = v → PM.get H' 0 = some (.cells l true) → l.map mk = rdC 1 2 3 4 5 6 R' → PM.get H' 1 = some (.cells (aq R'.ks) true) → PM.get H' 2 = some (.cells (ints R'.ts) true) → PM.get H' 3 = some (.cells (ints R'.vs) true) → PM.get H' 4 = some (.cells (ba R'.ls) true) → PM.get H' 5 = some (.cells (ints R'.q.times) true) → PM.get H' 6 = some (.cells (aq R'.fs) true) → ∃ v2 H2 n2, VTo u v2 ∧ bX H' n' H2 n2 ∧ RdK (dh w R).1 (dh w R).2 v2 H2 n2 := fun e hu h0 hm r1 r2 r3 r4 r5 r6 => by
    rw [e]; exact eN (VTo.mkv hu) h0 hm r1 r2 r3 r4 r5 r6
  have hn := hok.next
  show ao KHs 5 71 _ _ _ _
  conv => whnf
  refine ⟨0, 1, 2, 3, 4, 5, 6, R, rfl, rfl, ⟨by decide, by decide, rfl, rfl, rfl, rfl, rfl, rfl, rfl⟩, trivial, ?_⟩
  conv => whnf
  refine ⟨(aa R).1, rfl, hn.1.1, hn.1.2, ?_⟩
  conv => whnf
  refine ak.nsb (fun hb => ?_) (fun hb => ?_)
  · conv => whnf
    refine ak.dec (fun he => ?_) (fun he => ?_)
    · have he : (aa R).2.e = 0 := he
      have e : dh w R = (.tup [], { (aa R).2 with e := 17 }) := by unfold dh cr; rw [if_neg (by rw [hb]; decide), if_pos he]
      conv => whnf
      exact leaf e rfl rfl rfl rfl rfl rfl rfl rfl rfl
    · have he : ¬ (aa R).2.e = 0 := he
      have e : dh w R = (.tup [], (aa R).2) := by unfold dh cr; rw [if_neg (by rw [hb]; decide), if_neg he]
      conv => whnf
      exact leaf e rfl rfl rfl rfl rfl rfl rfl rfl rfl
  · have e : dh w R = (.tup [], (aa R).2) := by unfold dh; rw [if_pos hb]
    conv => whnf
    exact leaf e rfl rfl rfl rfl rfl rfl rfl rfl rfl
theorem yT (w : List Nat) : aD 71 (bo WOk (s0 w) (dh w)) := cX (au uy 5 _) (by kernel_rfl) (rl w) (fun _ => rfl) (fun R => ⟨rfl, fun _ => rfl⟩) fun R h => wP w R h
noncomputable def KTo : FuncId → EP := aB 73 (bo (fun _ => True) noA jc) (aB 9 vk (aB 65 yP (aB 72 yR (evP))))
theorem uz : bZ KTo := ah (ah (ah (ah bt BZ) BX) sZ) kX
theorem oU (R : Rd) (hok : WOk R) : post (ao KTo 5 64) (.ptr 0 0 :: [.fn 9 [] []]) (mkH (c6 (rdO R) 0)) 7 (RdK (aG an R).1 (aG an R).2) := by
  have leaf : ∀ {v : AV} {R' : Rd} {u : AV} {H' : AH} {n' : Nat} {l : List AV}, aG an R = (v, R') → mk u = v → PM.get H' 0 = some (.cells l true) → l.map mk = rdC 1 2 3 4 5 6 R' → PM.get H' 1 = some (.cells (aq R'.ks) true) → PM.get H' 2 = some (.cells (ints R'.ts) true) → PM.get H' 3 = some (.cells (ints R'.vs) true) → PM.get H' 4 = some (.cells (ba R'.ls) true) → PM.get H' 5 = some (.cells (ints R'.q.times) true) → PM.get H' 6 = some (.cells (aq R'.fs) true) → ∃ v2 H2 n2, VTo u v2 ∧ bX H' n' H2 n2 ∧ RdK (aG an R).1 (aG an R).2 v2 H2 n2 := fun e hu h0 hm r1 r2 r3 r4 r5 r6 => by
    rw [e]; exact eN (VTo.mkv hu) h0 hm r1 r2 r3 r4 r5 r6
  have hn := hok.next
  show ao KTo 5 64 _ _ _ _
  conv => whnf
  refine ⟨0, 1, 2, 3, 4, 5, 6, R, rfl, rfl, ⟨by decide, by decide, rfl, rfl, rfl, rfl, rfl, rfl, rfl⟩, trivial, ?_⟩
  conv => whnf
  refine ⟨(aa R).1, rfl, hn.1.1, hn.1.2, ?_⟩
  conv => whnf
  refine ak.ir (fun hb => ?_) (fun hb => ?_)
  · have hb : ¬ (an (aa R).1).2 = 0 := hb
    conv => whnf
    refine ak.dec (fun he => ?_) (fun he => ?_)
    · have he : (aa R).2.e = 0 := he
      have e : aG an R = (.si .i64 (an (aa R).1).1, { (aa R).2 with e := (an (aa R).1).2 }) := by unfold aG ag cr; dsimp only; rw [if_neg hb, if_pos he]
      conv => whnf
      exact leaf e rfl rfl rfl rfl rfl rfl rfl rfl rfl
    · have he : ¬ (aa R).2.e = 0 := he
      have e : aG an R = (.si .i64 (an (aa R).1).1, (aa R).2) := by unfold aG ag cr; dsimp only; rw [if_neg hb, if_neg he]
      conv => whnf
      exact leaf e rfl rfl rfl rfl rfl rfl rfl rfl rfl
  · have hb : (an (aa R).1).2 = 0 := hb
    have e : aG an R = (.si .i64 (an (aa R).1).1, (aa R).2) := by unfold aG ag; dsimp only; rw [if_pos hb]
    conv => whnf
    exact leaf e rfl rfl rfl rfl rfl rfl rfl rfl rfl
theorem om : aD 64 (bo WOk (fnA 9) (aG an)) := cX (au uz 5 _) (by kernel_rfl) (ux _) (fun _ => rfl) (fun R => ⟨rfl, fun _ => rfl⟩) fun R h => oU R h
theorem oV (R : Rd) (hok : WOk R) : post (ao KTo 5 64) (.ptr 0 0 :: [.fn 65 [] []]) (mkH (c6 (rdO R) 0)) 7 (RdK (aG cI R).1 (aG cI R).2) := by
  have leaf : ∀ {v : AV} {R' : Rd} {u : AV} {H' : AH} {n' : Nat} {l : List AV}, aG cI R = (v, R') → mk u = v → PM.get H' 0 = some (.cells l true) → l.map mk = rdC 1 2 3 4 5 6 R' → PM.get H' 1 = some (.cells (aq R'.ks) true) → PM.get H' 2 = some (.cells (ints R'.ts) true) → PM.get H' 3 = some (.cells (ints R'.vs) true) → PM.get H' 4 = some (.cells (ba R'.ls) true) → PM.get H' 5 = some (.cells (ints R'.q.times) true) → PM.get H' 6 = some (.cells (aq R'.fs) true) → ∃ v2 H2 n2, VTo u v2 ∧ bX H' n' H2 n2 ∧ RdK (aG cI R).1 (aG cI R).2 v2 H2 n2 := fun e hu h0 hm r1 r2 r3 r4 r5 r6 => by
    rw [e]; exact eN (VTo.mkv hu) h0 hm r1 r2 r3 r4 r5 r6
  have hn := hok.next
  show ao KTo 5 64 _ _ _ _
  conv => whnf
  refine ⟨0, 1, 2, 3, 4, 5, 6, R, rfl, rfl, ⟨by decide, by decide, rfl, rfl, rfl, rfl, rfl, rfl, rfl⟩, trivial, ?_⟩
  conv => whnf
  refine ⟨(aa R).1, rfl, hn.1.1, hn.1.2, ?_⟩
  conv => whnf
  refine ak.ir (fun hb => ?_) (fun hb => ?_)
  · have hb : ¬ (cI (aa R).1).2 = 0 := hb
    conv => whnf
    refine ak.dec (fun he => ?_) (fun he => ?_)
    · have he : (aa R).2.e = 0 := he
      have e : aG cI R = (.si .i64 (cI (aa R).1).1, { (aa R).2 with e := (cI (aa R).1).2 }) := by unfold aG ag cr; dsimp only; rw [if_neg hb, if_pos he]
      conv => whnf
      exact leaf e rfl rfl rfl rfl rfl rfl rfl rfl rfl
    · have he : ¬ (aa R).2.e = 0 := he
      have e : aG cI R = (.si .i64 (cI (aa R).1).1, (aa R).2) := by unfold aG ag cr; dsimp only; rw [if_neg hb, if_neg he]
      conv => whnf
      exact leaf e rfl rfl rfl rfl rfl rfl rfl rfl rfl
  · have hb : (cI (aa R).1).2 = 0 := hb
    have e : aG cI R = (.si .i64 (cI (aa R).1).1, (aa R).2) := by unfold aG ag; dsimp only; rw [if_pos hb]
    conv => whnf
    exact leaf e rfl rfl rfl rfl rfl rfl rfl rfl rfl
theorem oo : aD 64 (bo WOk (fnA 65) (aG cI)) := cX (au uz 5 _) (by kernel_rfl) (ux _) (fun _ => rfl) (fun R => ⟨rfl, fun _ => rfl⟩) fun R h => oV R h
theorem oW (R : Rd) (hok : WOk R) : post (ao KTo 5 64) (.ptr 0 0 :: [.fn 72 [] []]) (mkH (c6 (rdO R) 0)) 7 (RdK (aG cf R).1 (aG cf R).2) := by
  have leaf : ∀ {v : AV} {R' : Rd} {u : AV} {H' : AH} {n' : Nat} {l : List AV}, aG cf R = (v, R') → mk u = v → PM.get H' 0 = some (.cells l true) → l.map mk = rdC 1 2 3 4 5 6 R' → PM.get H' 1 = some (.cells (aq R'.ks) true) → PM.get H' 2 = some (.cells (ints R'.ts) true) → PM.get H' 3 = some (.cells (ints R'.vs) true) → PM.get H' 4 = some (.cells (ba R'.ls) true) → PM.get H' 5 = some (.cells (ints R'.q.times) true) → PM.get H' 6 = some (.cells (aq R'.fs) true) → ∃ v2 H2 n2, VTo u v2 ∧ bX H' n' H2 n2 ∧ RdK (aG cf R).1 (aG cf R).2 v2 H2 n2 := fun e hu h0 hm r1 r2 r3 r4 r5 r6 => by
    rw [e]; exact eN (VTo.mkv hu) h0 hm r1 r2 r3 r4 r5 r6
  have hn := hok.next
  show ao KTo 5 64 _ _ _ _
  conv => whnf
  refine ⟨0, 1, 2, 3, 4, 5, 6, R, rfl, rfl, ⟨by decide, by decide, rfl, rfl, rfl, rfl, rfl, rfl, rfl⟩, trivial, ?_⟩
  conv => whnf
  refine ⟨(aa R).1, rfl, hn.1.1, hn.1.2, ?_⟩
  conv => whnf
  refine ak.ir (fun hb => ?_) (fun hb => ?_)
  · have hb : ¬ (cf (aa R).1).2 = 0 := hb
    conv => whnf
    refine ak.dec (fun he => ?_) (fun he => ?_)
    · have he : (aa R).2.e = 0 := he
      have e : aG cf R = (.si .i64 (cf (aa R).1).1, { (aa R).2 with e := (cf (aa R).1).2 }) := by unfold aG ag cr; dsimp only; rw [if_neg hb, if_pos he]
      conv => whnf
      exact leaf e rfl rfl rfl rfl rfl rfl rfl rfl rfl
    · have he : ¬ (aa R).2.e = 0 := he
      have e : aG cf R = (.si .i64 (cf (aa R).1).1, (aa R).2) := by unfold aG ag cr; dsimp only; rw [if_neg hb, if_neg he]
      conv => whnf
      exact leaf e rfl rfl rfl rfl rfl rfl rfl rfl rfl
  · have hb : (cf (aa R).1).2 = 0 := hb
    have e : aG cf R = (.si .i64 (cf (aa R).1).1, (aa R).2) := by unfold aG ag; dsimp only; rw [if_pos hb]
    conv => whnf
    exact leaf e rfl rfl rfl rfl rfl rfl rfl rfl rfl
theorem oq : aD 64 (bo WOk (fnA 72) (aG cf)) := cX (au uz 5 _) (by kernel_rfl) (ux _) (fun _ => rfl) (fun R => ⟨rfl, fun _ => rfl⟩) fun R h => oW R h
def rm (args : List AV) (H : AH) (n : Nat) (κ : PK) : Prop := bo WOk (fnA 9) (aG an) args H n κ ∨ bo WOk (fnA 65) (aG cI) args H n κ ∨ bo WOk (fnA 72) (aG cf) args H n κ
theorem yU : aD 64 rm := fun args H n κ hs => hs.elim (om args H n κ) fun hs => hs.elim (oo args H n κ) (oq args H n κ)
noncomputable def KNb : FuncId → EP := aB 64 rm evP
theorem B0 : bZ KNb := ah bt yU
theorem s4 (R : Rd) (hok : WOk R) : post (ao KNb 5 70) (.ptr 0 0 :: []) (mkH (c6 (rdO R) 0)) 7 (RdK (aG an R).1 (aG an R).2) := by
  have leaf : ∀ {v : AV} {R' : Rd} {u : AV} {H' : AH} {n' : Nat} {l : List AV}, aG an R = (v, R') → mk u = v → PM.get H' 0 = some (.cells l true) → l.map mk = rdC 1 2 3 4 5 6 R' → PM.get H' 1 = some (.cells (aq R'.ks) true) → PM.get H' 2 = some (.cells (ints R'.ts) true) → PM.get H' 3 = some (.cells (ints R'.vs) true) → PM.get H' 4 = some (.cells (ba R'.ls) true) → PM.get H' 5 = some (.cells (ints R'.q.times) true) → PM.get H' 6 = some (.cells (aq R'.fs) true) → ∃ v2 H2 n2, VTo u v2 ∧ bX H' n' H2 n2 ∧ RdK (aG an R).1 (aG an R).2 v2 H2 n2 := fun e hu h0 hm r1 r2 r3 r4 r5 r6 => by
    rw [e]; exact eN (VTo.mkv hu) h0 hm r1 r2 r3 r4 r5 r6
  show ao KNb 5 70 _ _ _ _
  conv => whnf
  refine .inl ⟨0, 1, 2, 3, 4, 5, 6, R, rfl, rfl, ⟨by decide, by decide, rfl, rfl, rfl, rfl, rfl, rfl, rfl⟩, hok, ?_⟩
  conv => whnf
  exact leaf rfl rfl rfl rfl rfl rfl rfl rfl rfl rfl
theorem gC : aD 70 (bo WOk noA (aG an)) := cX (au B0 5 _) (by kernel_rfl) cC (fun _ => rfl) (fun R => ⟨rfl, fun _ => rfl⟩) fun R h => s4 R h
noncomputable def KPo : FuncId → EP := aB 70 (bo WOk noA (aG an)) (aB 73 (bo (fun _ => True) noA jc) evP)
theorem yV : bZ KPo := ah (ah bt kX) gC
theorem oX (R : Rd) (hok : WOk R) : post (ao KPo 5 63) (.ptr 0 0 :: []) (mkH (c6 (rdO R) 0)) 7 (RdK (lT R).1 (lT R).2) := by
  have leaf : ∀ {v : AV} {R' : Rd} {u : AV} {H' : AH} {n' : Nat} {l : List AV}, lT R = (v, R') → mk u = v → PM.get H' 0 = some (.cells l true) → l.map mk = rdC 1 2 3 4 5 6 R' → PM.get H' 1 = some (.cells (aq R'.ks) true) → PM.get H' 2 = some (.cells (ints R'.ts) true) → PM.get H' 3 = some (.cells (ints R'.vs) true) → PM.get H' 4 = some (.cells (ba R'.ls) true) → PM.get H' 5 = some (.cells (ints R'.q.times) true) → PM.get H' 6 = some (.cells (aq R'.fs) true) → ∃ v2 H2 n2, VTo u v2 ∧ bX H' n' H2 n2 ∧ RdK (lT R).1 (lT R).2 v2 H2 n2 := fun e hu h0 hm r1 r2 r3 r4 r5 r6 => by
    rw [e]; exact eN (VTo.mkv hu) h0 hm r1 r2 r3 r4 r5 r6
  show ao KPo 5 63 _ _ _ _
  conv => whnf
  refine ⟨0, 1, 2, 3, 4, 5, 6, R, rfl, rfl, ⟨by decide, by decide, rfl, rfl, rfl, rfl, rfl, rfl, rfl⟩, hok, ?_⟩
  conv => whnf
  refine ak.dec (fun hb => ?_) (fun hb => ?_)
  · have hb : (ag an R).1 < 0 := hb
    conv => whnf
    refine ak.dec (fun he => ?_) (fun he => ?_)
    · have he : (ag an R).2.e = 0 := he
      have e : lT R = (.si .i64 (ag an R).1, { (ag an R).2 with e := 16 }) := by unfold lT kf cr; dsimp only; rw [if_pos hb, if_pos he]
      conv => whnf
      exact leaf e rfl rfl rfl rfl rfl rfl rfl rfl rfl
    · have he : ¬ (ag an R).2.e = 0 := he
      have e : lT R = (.si .i64 (ag an R).1, (ag an R).2) := by unfold lT kf cr; dsimp only; rw [if_pos hb, if_neg he]
      conv => whnf
      exact leaf e rfl rfl rfl rfl rfl rfl rfl rfl rfl
  · have hb : ¬ (ag an R).1 < 0 := hb
    have e : lT R = (.si .i64 (ag an R).1, (ag an R).2) := by unfold lT kf; dsimp only; rw [if_neg hb]
    conv => whnf
    exact leaf e rfl rfl rfl rfl rfl rfl rfl rfl rfl
theorem uA : aD 63 (bo WOk noA lT) := cX (au yV 5 _) (by kernel_rfl) cC (fun _ => rfl) (fun R => ⟨rfl, fun _ => rfl⟩) fun R h => oX R h
def orA (w : List Nat) (z : Int) (ar : List AV) : Prop := ∃ y x, ar = [y, x] ∧ mk y = .ss w ∧ mk x = .si .i64 z
theorem B1 (w : List Nat) (z : Int) : ∀ ar, orA w z ar → ∀ (φ : Ph) (vs : List Value), VRs φ ar vs → VRs φ [.ss w, .si .i64 z] vs := fun ar ⟨y, x, h, hy, hx⟩ φ vs hv => by
  subst h
  obtain ⟨v, us, rfl, h1, h2⟩ := hv.cons_inv
  obtain ⟨v2, us2, rfl, h3, h4⟩ := h2.cons_inv
  exact .cons (by have := h1.mk; rw [hy] at this; exact this) (.cons (by have := h3.mk; rw [hx] at this; exact this) h4)
theorem Ae (w : List Nat) (z : Int) (R : Rd) (hok : WOk R) : post (ao KPo 5 77) (.ptr 0 0 :: [.ss w, .si .i64 z]) (mkH (c6 (rdO R) 0)) 7 (RdK (orV w z R).1 (orV w z R).2) := by
  have leaf : ∀ {v : AV} {R' : Rd} {u : AV} {H' : AH} {n' : Nat} {l : List AV}, orV w z R = (v, R') → mk u = v → PM.get H' 0 = some (.cells l true) → l.map mk = rdC 1 2 3 4 5 6 R' → PM.get H' 1 = some (.cells (aq R'.ks) true) → PM.get H' 2 = some (.cells (ints R'.ts) true) → PM.get H' 3 = some (.cells (ints R'.vs) true) → PM.get H' 4 = some (.cells (ba R'.ls) true) → PM.get H' 5 = some (.cells (ints R'.q.times) true) → PM.get H' 6 = some (.cells (aq R'.fs) true) → ∃ v2 H2 n2, VTo u v2 ∧ bX H' n' H2 n2 ∧ RdK (orV w z R).1 (orV w z R).2 v2 H2 n2 := fun e hu h0 hm r1 r2 r3 r4 r5 r6 => by
    rw [e]; exact eN (VTo.mkv hu) h0 hm r1 r2 r3 r4 r5 r6
  show ao KPo 5 77 _ _ _ _
  conv => whnf
  refine ak.dec (fun h0 => ?_) (fun h0 => ?_)
  · conv => whnf
    refine ak.dec (fun hp => ?_) (fun hp => ?_)
    · have hp : 0 < R.ws.length := by exact Int.ofNat_lt.1 hp
      conv => whnf
      refine Idx.mk 0 rfl hp ?_
      conv => whnf
      refine bj (eK hp) ?_
      conv => whnf
      refine ak.sb (fun hq => ?_) (fun hq => ?_)
      · have e : orV w z R = (.si .i64 z, (aa R).2) := by unfold orV orR; rw [cx h0 hp, hq]; rfl
        conv => whnf
        refine ⟨0, 1, 2, 3, 4, 5, 6, R, rfl, rfl, ⟨by decide, by decide, rfl, rfl, rfl, rfl, rfl, rfl, rfl⟩, trivial, ?_⟩
        conv => whnf
        exact leaf e rfl rfl rfl rfl rfl rfl rfl rfl rfl
      · have e : orV w z R = aG an R := by unfold orV orR; rw [if_neg (by rw [Bool.and_eq_true]; exact fun q => by rw [hq] at q; cases q.2)]; rfl
        conv => whnf
        refine ⟨0, 1, 2, 3, 4, 5, 6, R, rfl, rfl, ⟨by decide, by decide, rfl, rfl, rfl, rfl, rfl, rfl, rfl⟩, hok, ?_⟩
        conv => whnf
        exact leaf e rfl rfl rfl rfl rfl rfl rfl rfl rfl
    · have hp : ¬ 0 < R.ws.length := fun q => hp (by exact Int.ofNat_lt.2 q)
      have e : orV w z R = aG an R := by unfold orV orR; rw [if_neg (by rw [Bool.and_eq_true]; exact fun q => cz hp q.1)]; rfl
      conv => whnf
      refine ⟨0, 1, 2, 3, 4, 5, 6, R, rfl, rfl, ⟨by decide, by decide, rfl, rfl, rfl, rfl, rfl, rfl, rfl⟩, hok, ?_⟩
      conv => whnf
      exact leaf e rfl rfl rfl rfl rfl rfl rfl rfl rfl
  · have e : orV w z R = aG an R := by unfold orV orR; rw [if_neg (by rw [Bool.and_eq_true]; exact fun q => cy h0 q.1)]; rfl
    conv => whnf
    refine ⟨0, 1, 2, 3, 4, 5, 6, R, rfl, rfl, ⟨by decide, by decide, rfl, rfl, rfl, rfl, rfl, rfl, rfl⟩, hok, ?_⟩
    conv => whnf
    exact leaf e rfl rfl rfl rfl rfl rfl rfl rfl rfl
theorem C4 (w : List Nat) (z : Int) : aD 77 (bo WOk (orA w z) (orV w z)) := cX (au yV 5 _) (by kernel_rfl) (B1 w z) (fun _ => rfl) (fun R => ⟨rfl, fun _ => rfl⟩) fun R h => Ae w z R h
end Go.Proofs.Ytdfeigkooeeeaaa
namespace Go.Proofs.Ytdfeigkooeeeaaa
open Go Go.RowKit
def di (g : List AV → AH → Nat → PK → Prop) (args : List AV) (H : AH) (n : Nat) (κ : PK) : Prop := g args H n fun u H' n' => ∃ (v : AV) (H2 : AH) (m : Nat), Cov n (mkE [(0, u)]) H' n' (mkE [(0, v)], H2, m) ∧ κ v H2 m
theorem aD.di {f : FuncId} {g : List AV → AH → Nat → PK → Prop} (hg : aD f g) : aD f (di g) := fun args H n κ hs φ h0 h vs K hr ha hk => hg args H n _ hs φ h0 h vs K hr ha fun ψ u H' n' w g' hle hg' hu ⟨v, H2, m, hc, hκ⟩ => by
  obtain ⟨χ, ⟨c1, c2, c3⟩, c4, c5⟩ := hc ψ h0 g' (fun _ => w) hg' (fun t a ht => by
    have := ra ht
    simp only [List.mem_cons, List.not_mem_nil, or_false] at this
    injection this with e1 e2
    subst e1 e2
    exact hu)
  exact hk χ v H2 m w g' ⟨fun b p e => c1 b p (hr.dom b p e).1 (hle.b b p e), fun q e => c2 q (hle.z q e), fun q e => hle.y q (c3 q e)⟩ c4 (c5 0 v rfl) hκ
def yW (m : Nat) : AV → Bool
  | .rw b _ _ _ _ => Nat.blt b m
  | .fr _ _ _ => true
  | .si _ _ => true
  | .sb _ => true
  | .ss _ => true
  | _ => false
theorem aR.wQ {H : AH} {m : Nat} {r : Nat → Nat} {a a' : AV} (hg : yW m a' = true) (e : Go.Proofs.Ytdfeigkooeeeaaa.mk a = ren r a') : aR H m r a a' := by
  cases a' with
  | rw b o n k x =>
    have ha : a = .rw (r b) o n k x := by cases a <;> first | exact e | cases e
    exact aR.rw (Nat.le_of_ble_eq_true hg) ha (hx := ⟨fun h => h, fun h => h, fun h => h⟩)
  | fr n k l =>
    have ha : a = .fr n k l := by cases a <;> first | exact e | cases e
    subst ha; exact .eu rfl
  | si k n => exact .int e
  | sb b => exact .bool e
  | ss s => exact .str e
  | _ => cases hg
theorem iY.wQ {H : AH} {m : Nat} {r : Nat → Nat} : ∀ {l l' : List AV}, l'.all (yW m) = true → l.map Go.Proofs.Ytdfeigkooeeeaaa.mk = l'.map (ren r) → iY H m r l l'
  | [], [], _, _ => .nil
  | [], _ :: _, _, e => by cases e
  | _ :: _, [], _, e => by cases e
  | a :: l, a' :: l', hg, e => by
    simp only [List.map_cons, List.cons.injEq] at e
    simp only [List.all_cons, Bool.and_eq_true] at hg
    exact .cons (aR.wQ hg.1 e.1) (iY.wQ hg.2 e.2)
def lU (k t v l q f nk nt nv nl nq nf : Nat) (R : Rd) : List AV := .fr R.ws.length 1 (aq R.ws) :: .si .i64 R.e :: cmC (.rw k 0 nk 1 0) (.rw t 0 nt 1 0) (.rw v 0 nv 1 0) (.rw l 0 nl 2 0) (.rw q 0 nq 1 0) (.rw f 0 nf 1 0) R
noncomputable def rdM (R : Rd) : AH := mkH [(0, .cells (rdC 7 8 9 10 11 12 R) true), (7, .cells (aq R.ks) true), (8, .cells (ints R.ts) true), (9, .cells (ints R.vs) true), (10, .cells (ba R.ls) true), (11, .cells (ints R.q.times) true), (12, .cells (aq R.fs) true)]
def rdN (j1 j2 j3 j4 j5 j6 : Nat) : Nat → Nat := fun b => if b = 7 then j1 else if b = 8 then j2 else if b = 9 then j3 else if b = 10 then j4 else if b = 11 then j5 else if b = 12 then j6 else b
theorem vo {j1 j2 j3 j4 j5 j6 : Nat} (hd : [0, j1, j2, j3, j4, j5, j6].Nodup) : ∀ a ∈ [0, 7, 8, 9, 10, 11, 12], ∀ b ∈ [0, 7, 8, 9, 10, 11, 12], rdN j1 j2 j3 j4 j5 j6 a = rdN j1 j2 j3 j4 j5 j6 b → a = b := by
  simp only [List.nodup_cons, List.mem_cons, List.not_mem_nil, or_false, not_or, List.nodup_nil, and_true, not_false_eq_true] at hd
  intro a ha b hb
  simp only [List.mem_cons, List.not_mem_nil, or_false] at ha hb
  rcases ha with rfl | rfl | rfl | rfl | rfl | rfl | rfl
  · rcases hb with rfl | rfl | rfl | rfl | rfl | rfl | rfl
    · exact fun _ => rfl
    · exact fun e => absurd (show 0 = j1 from e) (by omega)
    · exact fun e => absurd (show 0 = j2 from e) (by omega)
    · exact fun e => absurd (show 0 = j3 from e) (by omega)
    · exact fun e => absurd (show 0 = j4 from e) (by omega)
    · exact fun e => absurd (show 0 = j5 from e) (by omega)
    · exact fun e => absurd (show 0 = j6 from e) (by omega)
  · rcases hb with rfl | rfl | rfl | rfl | rfl | rfl | rfl
    · exact fun e => absurd (show j1 = 0 from e) (by omega)
    · exact fun _ => rfl
    · exact fun e => absurd (show j1 = j2 from e) (by omega)
    · exact fun e => absurd (show j1 = j3 from e) (by omega)
    · exact fun e => absurd (show j1 = j4 from e) (by omega)
    · exact fun e => absurd (show j1 = j5 from e) (by omega)
    · exact fun e => absurd (show j1 = j6 from e) (by omega)
  · rcases hb with rfl | rfl | rfl | rfl | rfl | rfl | rfl
    · exact fun e => absurd (show j2 = 0 from e) (by omega)
    · exact fun e => absurd (show j2 = j1 from e) (by omega)
    · exact fun _ => rfl
    · exact fun e => absurd (show j2 = j3 from e) (by omega)
    · exact fun e => absurd (show j2 = j4 from e) (by omega)
    · exact fun e => absurd (show j2 = j5 from e) (by omega)
    · exact fun e => absurd (show j2 = j6 from e) (by omega)
  · rcases hb with rfl | rfl | rfl | rfl | rfl | rfl | rfl
    · exact fun e => absurd (show j3 = 0 from e) (by omega)
    · exact fun e => absurd (show j3 = j1 from e) (by omega)
    · exact fun e => absurd (show j3 = j2 from e) (by omega)
    · exact fun _ => rfl
    · exact fun e => absurd (show j3 = j4 from e) (by omega)
    · exact fun e => absurd (show j3 = j5 from e) (by omega)
    · exact fun e => absurd (show j3 = j6 from e) (by omega)
  · rcases hb with rfl | rfl | rfl | rfl | rfl | rfl | rfl
    · exact fun e => absurd (show j4 = 0 from e) (by omega)
    · exact fun e => absurd (show j4 = j1 from e) (by omega)
    · exact fun e => absurd (show j4 = j2 from e) (by omega)
    · exact fun e => absurd (show j4 = j3 from e) (by omega)
    · exact fun _ => rfl
    · exact fun e => absurd (show j4 = j5 from e) (by omega)
    · exact fun e => absurd (show j4 = j6 from e) (by omega)
  · rcases hb with rfl | rfl | rfl | rfl | rfl | rfl | rfl
    · exact fun e => absurd (show j5 = 0 from e) (by omega)
    · exact fun e => absurd (show j5 = j1 from e) (by omega)
    · exact fun e => absurd (show j5 = j2 from e) (by omega)
    · exact fun e => absurd (show j5 = j3 from e) (by omega)
    · exact fun e => absurd (show j5 = j4 from e) (by omega)
    · exact fun _ => rfl
    · exact fun e => absurd (show j5 = j6 from e) (by omega)
  · rcases hb with rfl | rfl | rfl | rfl | rfl | rfl | rfl
    · exact fun e => absurd (show j6 = 0 from e) (by omega)
    · exact fun e => absurd (show j6 = j1 from e) (by omega)
    · exact fun e => absurd (show j6 = j2 from e) (by omega)
    · exact fun e => absurd (show j6 = j3 from e) (by omega)
    · exact fun e => absurd (show j6 = j4 from e) (by omega)
    · exact fun e => absurd (show j6 = j5 from e) (by omega)
    · exact fun _ => rfl
theorem uB {σ : AE} {H : AH} {n : Nat} {R : Rd} (j1 j2 j3 j4 j5 j6 : Nat) {l l1 l2 l3 l4 l5 l6 : List AV} {le : List (Nat × AV)} (he : ∀ x ∈ le, aR H 13 (rdN j1 j2 j3 j4 j5 j6) (aA (pa x.1) σ) x.2) (hd : [0, j1, j2, j3, j4, j5, j6].Nodup) (h0 : PM.get H 0 = some (.cells l true)) (hm : l.map mk = rdC j1 j2 j3 j4 j5 j6 R) (r1 : PM.get H j1 = some (.cells l1 true)) (m1 : l1.map mk = aq R.ks) (r2 : PM.get H j2 = some (.cells l2 true)) (m2 : l2.map mk = ints R.ts) (r3 : PM.get H j3 = some (.cells l3 true)) (m3 : l3.map mk = ints R.vs) (r4 : PM.get H j4 = some (.cells l4 true)) (m4 : l4.map mk = ba R.ls) (r5 : PM.get H j5 = some (.cells l5 true)) (m5 : l5.map mk = ints R.q.times) (r6 : PM.get H j6 = some (.cells l6 true)) (m6 : l6.map mk = aq R.fs) : Cov 7 σ H n (mkE le, rdM R, 13) := by
  refine Cov.ofR (rdN j1 j2 j3 j4 j5 j6) (by decide) (fun b hb => by unfold rdN; repeat' rw [if_neg (by omega)]) he ?_ ?_
  · intro x hx
    simp only [List.mem_cons, List.not_mem_nil, or_false] at hx
    rcases hx with rfl | rfl | rfl | rfl | rfl | rfl | rfl
    · exact ⟨Nat.le_of_ble_eq_true rfl, .inl ⟨_, h0, cB.st (iY.wQ rfl hm)⟩⟩
    · exact ⟨Nat.le_of_ble_eq_true rfl, .inl ⟨_, r1, cB.bh (aV _) (by rw [m1, aj]) (fun q => q)⟩⟩
    · exact ⟨Nat.le_of_ble_eq_true rfl, .inl ⟨_, r2, cB.bh (aT _) (by rw [m2, ae]) (fun q => q)⟩⟩
    · exact ⟨Nat.le_of_ble_eq_true rfl, .inl ⟨_, r3, cB.bh (aT _) (by rw [m3, ae]) (fun q => q)⟩⟩
    · exact ⟨Nat.le_of_ble_eq_true rfl, .inl ⟨_, r4, cB.bh (dF _) (by rw [m4, aN]) (fun q => q)⟩⟩
    · exact ⟨Nat.le_of_ble_eq_true rfl, .inl ⟨_, r5, cB.bh (aT _) (by rw [m5, ae]) (fun q => q)⟩⟩
    · exact ⟨Nat.le_of_ble_eq_true rfl, .inl ⟨_, r6, cB.bh (aV _) (by rw [m6, aj]) (fun q => q)⟩⟩
  · exact fun x hx y hy e => vo hd x.1 (List.mem_map_of_mem (f := Prod.fst) hx) y.1 (List.mem_map_of_mem (f := Prod.fst) hy) e
def RdP (v : AV) (R : Rd) : PK := fun u H' m => u = v ∧ H' = rdM R ∧ m = 13
theorem fj {u v : AV} {H : AH} {n : Nat} {R : Rd} (j1 j2 j3 j4 j5 j6 : Nat) {l l1 l2 l3 l4 l5 l6 : List AV} (hv : aR H 13 (rdN j1 j2 j3 j4 j5 j6) u v) (hd : [0, j1, j2, j3, j4, j5, j6].Nodup) (h0 : PM.get H 0 = some (.cells l true)) (hm : l.map mk = rdC j1 j2 j3 j4 j5 j6 R) (r1 : PM.get H j1 = some (.cells l1 true)) (m1 : l1.map mk = aq R.ks) (r2 : PM.get H j2 = some (.cells l2 true)) (m2 : l2.map mk = ints R.ts) (r3 : PM.get H j3 = some (.cells l3 true)) (m3 : l3.map mk = ints R.vs) (r4 : PM.get H j4 = some (.cells l4 true)) (m4 : l4.map mk = ba R.ls) (r5 : PM.get H j5 = some (.cells l5 true)) (m5 : l5.map mk = ints R.q.times) (r6 : PM.get H j6 = some (.cells l6 true)) (m6 : l6.map mk = aq R.fs) : ∃ v2 H2 m, Cov 7 (mkE [(0, u)]) H n (mkE [(0, v2)], H2, m) ∧ RdP v R v2 H2 m :=
  ⟨v, _, _, uB j1 j2 j3 j4 j5 j6 (le := [(0, v)]) (fun x hx => by
    simp only [List.mem_cons, List.not_mem_nil, or_false] at hx
    subst hx; exact hv) hd h0 hm r1 m1 r2 m2 r3 m3 r4 m4 r5 m5 r6 m6, rfl, rfl, rfl⟩
noncomputable def rn (H : AH) (n r k t v l q f : Nat) (R' : Rd) : AH := PM.set (some (.cells (rdC n (n + 1) (n + 2) (n + 3) (n + 4) (n + 5) R') true)) ab (PM.set none ab (PM.set none ab (PM.set none ab (PM.set none ab (PM.set none ab (PM.set none ab (PM.set (some (.cells (aq R'.ks) true)) ab (PM.set (some (.cells (ints R'.ts) true)) ab (PM.set (some (.cells (ints R'.vs) true)) ab (PM.set (some (.cells (ba R'.ls) true)) ab (PM.set (some (.cells (ints R'.q.times) true)) ab (PM.set (some (.cells (aq R'.fs) true)) ab H (n + 5)) (n + 4)) (n + 3)) (n + 2)) (n + 1)) n) f) q) l) v) t) k) r
def aX (ok : Rd → Prop) (A : List AV → Prop) (F : Rd → AV × Rd) (args : List AV) (H : AH) (n : Nat) (κ : PK) : Prop := match args with
  | x :: ar => ∃ (r k t v l q f : Nat) (R : Rd), x = .ptr r 0 ∧ A ar ∧ uv H n r k t v l q f R ∧ ok R ∧ κ (F R).1 (rn H n r k t v l q f (F R).2) (n + 6)
  | _ => False
theorem yX {r k t v l q f n : Nat} (R : Rd) : dV (bz [r, k, t, v, l, q, f] n) (rdC 7 8 9 10 11 12 R) = rdC n (n + 1) (n + 2) (n + 3) (n + 4) (n + 5) R := rfl
theorem bf {f : FuncId} {run : List AV → AH → Nat → PK → Prop} (hrun : aD f run) (hic : dj Try.prog f = true) {ok : Rd → Prop} {A : List AV → Prop} {ar0 : List AV} {F : Rd → AV × Rd} (hA : ∀ ar, A ar → ∀ (φ : Ph) (vs : List Value), VRs φ ar vs → VRs φ ar0 vs) (har : ∀ r, dV r ar0 = ar0)
    (hv : ∀ R, ltV 13 (F R).1 = true ∧ ∀ r, ren r (F R).1 = (F R).1) (h : ∀ R, ok R → di run (.ptr 0 0 :: ar0) (mkH (c6 (rdO R) 0)) 7 (RdP (F R).1 (F R).2)) : aD f (aX ok A F) := fun args H n κ hs φ h0' hp vs K hr hargs hk => by
  unfold aX at hs
  split at hs
  · rename_i x ar
    obtain ⟨r, k, t, v, l, q, f, R, rfl, ha, hR, hok, hs⟩ := hs
    obtain ⟨v1, us, e1, e2, e3⟩ := hargs.cons_inv
    have hargs' : VRs φ (dV (bz [r, k, t, v, l, q, f] n) (.ptr 0 0 :: ar0)) vs.toList := by
      show VRs φ (ren _ _ :: dV _ ar0) vs.toList
      rw [har, e1]
      exact .cons e2 (hA ar ha φ us e3)
    refine re (S := [r, k, t, v, l, q, f]) (O := rdO R) (args0 := .ptr 0 0 :: ar0) (aD.di hrun) hic hr hR.Be hargs' hk (h R hok) fun u H' n' ⟨g0, g1, g2⟩ => ?_
    subst g0 g1 g2
    refine ⟨13, lR [r, k, t, v, l, q, f] n H [(0, some (.cells (rdC 7 8 9 10 11 12 (F R).2) true)), (1, none), (2, none), (3, none), (4, none), (5, none), (6, none), (7, some (.cells (aq (F R).2.ks) true)), (8, some (.cells (ints (F R).2.ts) true)), (9, some (.cells (ints (F R).2.vs) true)), (10, some (.cells (ba (F R).2.ls) true)), (11, some (.cells (ints (F R).2.q.times) true)), (12, some (.cells (aq (F R).2.fs) true))], Nat.le_of_ble_eq_true rfl, jD.put (Nat.le_of_ble_eq_true rfl) rfl (fun x hx o ho => ?_), (hv R).1, ?_⟩
    · simp only [List.mem_cons, List.not_mem_nil, or_false] at hx
      rcases hx with rfl | rfl | rfl | rfl | rfl | rfl | rfl | rfl | rfl | rfl | rfl | rfl | rfl
      · injection ho with ho; subst ho; exact ⟨rfl, rfl, rfl⟩
      · cases ho
      · cases ho
      · cases ho
      · cases ho
      · cases ho
      · cases ho
      · injection ho with ho; subst ho; exact ⟨rfl, rfl, cH _ _ (aV _)⟩
      · injection ho with ho; subst ho; exact ⟨rfl, rfl, cH _ _ (aT _)⟩
      · injection ho with ho; subst ho; exact ⟨rfl, rfl, cH _ _ (aT _)⟩
      · injection ho with ho; subst ho; exact ⟨rfl, rfl, cH _ _ (dF _)⟩
      · injection ho with ho; subst ho; exact ⟨rfl, rfl, cH _ _ (aT _)⟩
      · injection ho with ho; subst ho; exact ⟨rfl, rfl, cH _ _ (aV _)⟩
    · rw [(hv R).2]
      have e : lR [r, k, t, v, l, q, f] n H [(0, some (.cells (rdC 7 8 9 10 11 12 (F R).2) true)), (1, none), (2, none), (3, none), (4, none), (5, none), (6, none), (7, some (.cells (aq (F R).2.ks) true)), (8, some (.cells (ints (F R).2.ts) true)), (9, some (.cells (ints (F R).2.vs) true)), (10, some (.cells (ba (F R).2.ls) true)), (11, some (.cells (ints (F R).2.q.times) true)), (12, some (.cells (aq (F R).2.fs) true))] = rn H n r k t v l q f (F R).2 := by
        simp only [lR, Option.map_some, Option.map_none, eH, yX, ck _ _ (aV _), ck _ _ (aT _), ck _ _ (dF _)]
        rfl
      rw [e]; exact hs
  · exact hs.elim
end Go.Proofs.Ytdfeigkooeeeaaa
namespace Go.Proofs.Ytdfeigkooeeeaaa
open Go Go.RowKit
theorem oY : RTy 28 28 1 16 := ⟨_, _, _, rfl, rfl, (fun q h => by cases h), rfl, rfl, rfl, rfl, by decide, by decide⟩
theorem uC : RTy 30 30 1 8 := ⟨_, _, _, rfl, rfl, (fun q h => by cases h), rfl, rfl, rfl, rfl, by decide, by decide⟩
theorem hU (L : List (List Nat)) : aP (aq L) 0 (L.length * 1) = some (aq L) := cT (by rw [dd, Nat.mul_one])
theorem dB (L : List Int) : aP (ints L) 0 (L.length * 1) = some (ints L) := cT (by rw [fV, Nat.mul_one])
theorem hY (L : List Int) (x : Int) : ints L ++ [.si .i64 x] = ints (L ++ [x]) := by simp [ints]
structure dS (R R' : Rd) : Prop where
  ks : R'.ks = R.ks
  ts : R'.ts = R.ts
  vs : R'.vs = R.vs
  ls : R'.ls = R.ls
  q : R'.q = R.q
  fs : R'.fs = R.fs
theorem dS.trans {A B C : Rd} (h : dS A B) (k : dS B C) : dS A C := ⟨k.ks.trans h.ks, k.ts.trans h.ts, k.vs.trans h.vs, k.ls.trans h.ls, k.q.trans h.q, k.fs.trans h.fs⟩
theorem lV (R : Rd) (e : Int) : dS R (cr R e) := by unfold cr; split <;> exact ⟨rfl, rfl, rfl, rfl, rfl, rfl⟩
theorem bg (R : Rd) : dS R (aa R).2 := by
  unfold aa
  split
  · exact ⟨rfl, rfl, rfl, rfl, rfl, rfl⟩
  · exact lV R 14
theorem dG (g : List Nat → Int × Int) (R : Rd) : dS R (ag g R).2 := by
  unfold ag
  dsimp only
  split
  · exact bg R
  · exact (bg R).trans (lV _ _)
theorem ju (w : List Nat) (z : Int) (R : Rd) : dS R (orR w z R).2 := by
  unfold orR
  split
  · exact bg R
  · exact dG _ R
theorem WOk.or {R : Rd} (h : WOk R) (w : List Nat) (z : Int) : WOk (orR w z R).2 := by
  unfold orR
  split
  · exact h.next.2
  · exact h.told _
def aK (R : Rd) : Rd := { (aa R).2 with ks := (aa R).2.ks ++ [(aa R).1] }
noncomputable def bJ (R : Rd) : Rd := { (orR [42] (-1) R).2 with ts := (orR [42] (-1) R).2.ts ++ [(orR [42] (-1) R).1] }
def cZ (R : Rd) : Rd := { (ag an R).2 with vs := (ag an R).2.vs ++ [(ag an R).1] }
def az (f : Rd → Rd) (R : Rd) : AV × Rd := (.tup [], f R)
def uD : DT := [(0, [(some 1000000, [5, 7]), (none, [0, 1, 2, 3, 4, 5, 6, 7, 8, 9, 10, 11, 12, 13]), (none, [0, 1, 2, 3, 4, 6, 7, 5, 8, 9, 10, 11, 12, 13])])]
noncomputable def KKy : FuncId → EP := dr 53 uD (aB 73 (bo (fun _ => True) noA jc) evP)
theorem B2 : bZ KKy := bu (ah bt kX) (by kernel_rfl) (by kernel_rfl)
theorem wR (R : Rd) (hok : R.ks.length ≤ 1000000) : di (ao KKy 4 53) (.ptr 0 0 :: []) (mkH (c6 (rdO R) 0)) 7 (RdP (az aK R).1 (az aK R).2) := by
  obtain ⟨X, hX⟩ : ∃ X, X = (aa R).2 := ⟨_, rfl⟩
  have hl : R.ks.length ≤ 1000000 := hok
  have hk : X.ks = R.ks := by rw [hX]; exact (bg R).ks
  have hlen1 : R.ks.length + 1 = (aK R).ks.length := by unfold aK; rw [← hX]; simp [hk]
  have hlen2 : X.ks.length + 1 = (aK R).ks.length := by rw [hk]; exact hlen1
  have hrow1 : aP (aq X.ks) 0 (R.ks.length * 1) = some (aq X.ks) := by rw [hk]; exact hU _
  have hrow2 : aP (aq X.ks) 0 (X.ks.length * 1) = some (aq X.ks) := hU _
  have hb1 : (R.ks.length + 1) * 16 ≤ 140737488355328 := by omega
  have hb2 : (X.ks.length + 1) * 16 ≤ 140737488355328 := by rw [hk]; omega
  have hm1 : lU 8 2 3 4 5 6 (R.ks.length + 1) (X.ts.length) (X.vs.length) (X.ls.length) (X.q.times.length) (X.fs.length) (aK R) = rdC 8 2 3 4 5 6 (aK R) := by rw [hlen1, hX]; rfl
  have hm2 : lU 8 2 3 4 5 6 (X.ks.length + 1) (X.ts.length) (X.vs.length) (X.ls.length) (X.q.times.length) (X.fs.length) (aK R) = rdC 8 2 3 4 5 6 (aK R) := by rw [hlen2, hX]; rfl
  have hc : (aq X.ks ++ [AV.ss (aa R).1]).map mk = aq (aK R).ks := by unfold aK; rw [pN, aj, ← hX]
  subst hX
  show ao KKy 4 53 _ _ _ _
  conv => whnf
  refine ⟨?_, ?_, trivial⟩
  · conv => whnf
    refine ⟨0, 1, 2, 3, 4, 5, 6, R, rfl, rfl, ⟨by decide, by decide, rfl, rfl, rfl, rfl, rfl, rfl, rfl⟩, trivial, ?_⟩
    conv => whnf
    refine eD.grow 1 16 _ _ _ _ _ _ oY (.old rfl) rfl rfl (.rw rfl hrow1) hb1 ?_
    conv => whnf
    exact fj 8 2 3 4 5 6 (.same rfl) (by decide) rfl hm1 rfl hc rfl (ae _) rfl (ae _) rfl (aN _) rfl (ae _) rfl (aj _)
  · conv => whnf
    refine ⟨0, 1, 2, 3, 4, 5, 6, R, rfl, rfl, ⟨by decide, by decide, rfl, rfl, rfl, rfl, rfl, rfl, rfl⟩, trivial, ?_⟩
    conv => whnf
    refine eD.grow 1 16 _ _ _ _ _ _ oY (.old rfl) rfl rfl (.rw rfl hrow2) hb2 ?_
    conv => whnf
    exact fj 8 2 3 4 5 6 (.same rfl) (by decide) rfl hm2 rfl hc rfl (ae _) rfl (ae _) rfl (aN _) rfl (ae _) rfl (aj _)
theorem rp : aD 53 (aX (fun R => R.ks.length ≤ 1000000) noA (az aK)) := bf (au B2 4 _) (by kernel_rfl) cC (fun _ => rfl) (fun R => ⟨rfl, fun _ => rfl⟩) fun R h => wR R h
noncomputable def KTi : FuncId → EP := dr 69 uD (aB 77 (bo WOk (orA [42] (-1)) (orV [42] (-1))) evP)
theorem B3 : bZ KTi := bu (ah bt (C4 [42] (-1))) (by kernel_rfl) (by kernel_rfl)
theorem uE (R : Rd) (hok : WOk R ∧ R.ts.length ≤ 1000000) : di (ao KTi 4 69) (.ptr 0 0 :: []) (mkH (c6 (rdO R) 0)) 7 (RdP (az bJ R).1 (az bJ R).2) := by
  obtain ⟨X, hX⟩ : ∃ X, X = (orR [42] (-1) R).2 := ⟨_, rfl⟩
  have hl : R.ts.length ≤ 1000000 := hok.2
  have hk : X.ts = R.ts := by rw [hX]; exact (ju [42] (-1) R).ts
  have hlen1 : R.ts.length + 1 = (bJ R).ts.length := by unfold bJ; rw [← hX]; simp [hk]
  have hlen2 : X.ts.length + 1 = (bJ R).ts.length := by rw [hk]; exact hlen1
  have hrow1 : aP (ints X.ts) 0 (R.ts.length * 1) = some (ints X.ts) := by rw [hk]; exact dB _
  have hrow2 : aP (ints X.ts) 0 (X.ts.length * 1) = some (ints X.ts) := dB _
  have hb1 : (R.ts.length + 1) * 8 ≤ 140737488355328 := by omega
  have hb2 : (X.ts.length + 1) * 8 ≤ 140737488355328 := by rw [hk]; omega
  have hm1 : lU 1 8 3 4 5 6 (X.ks.length) (R.ts.length + 1) (X.vs.length) (X.ls.length) (X.q.times.length) (X.fs.length) (bJ R) = rdC 1 8 3 4 5 6 (bJ R) := by rw [hlen1, hX]; rfl
  have hm2 : lU 1 8 3 4 5 6 (X.ks.length) (X.ts.length + 1) (X.vs.length) (X.ls.length) (X.q.times.length) (X.fs.length) (bJ R) = rdC 1 8 3 4 5 6 (bJ R) := by rw [hlen2, hX]; rfl
  have hc : (ints X.ts ++ [AV.si .i64 (orR [42] (-1) R).1]).map mk = ints (bJ R).ts := by unfold bJ; rw [hY, ae, ← hX]
  subst hX
  show ao KTi 4 69 _ _ _ _
  conv => whnf
  refine ⟨?_, ?_, trivial⟩
  · conv => whnf
    refine ⟨0, 1, 2, 3, 4, 5, 6, R, rfl, ⟨_, _, rfl, rfl, rfl⟩, ⟨by decide, by decide, rfl, rfl, rfl, rfl, rfl, rfl, rfl⟩, hok.1, ?_⟩
    conv => whnf
    refine eD.grow 1 8 _ _ _ _ _ _ uC (.old rfl) rfl rfl (.rw rfl hrow1) hb1 ?_
    conv => whnf
    exact fj 1 8 3 4 5 6 (.same rfl) (by decide) rfl hm1 rfl (aj _) rfl hc rfl (ae _) rfl (aN _) rfl (ae _) rfl (aj _)
  · conv => whnf
    refine ⟨0, 1, 2, 3, 4, 5, 6, R, rfl, ⟨_, _, rfl, rfl, rfl⟩, ⟨by decide, by decide, rfl, rfl, rfl, rfl, rfl, rfl, rfl⟩, hok.1, ?_⟩
    conv => whnf
    refine eD.grow 1 8 _ _ _ _ _ _ uC (.old rfl) rfl rfl (.rw rfl hrow2) hb2 ?_
    conv => whnf
    exact fj 1 8 3 4 5 6 (.same rfl) (by decide) rfl hm2 rfl (aj _) rfl hc rfl (ae _) rfl (aN _) rfl (ae _) rfl (aj _)
theorem vp : aD 69 (aX (fun R => WOk R ∧ R.ts.length ≤ 1000000) noA (az bJ)) := bf (au B3 4 _) (by kernel_rfl) cC (fun _ => rfl) (fun R => ⟨rfl, fun _ => rfl⟩) fun R h => uE R h
noncomputable def KVa : FuncId → EP := dr 68 uD (aB 70 (bo WOk noA (aG an)) evP)
theorem B4 : bZ KVa := bu (ah bt gC) (by kernel_rfl) (by kernel_rfl)
theorem wS (R : Rd) (hok : WOk R ∧ R.vs.length ≤ 1000000) : di (ao KVa 4 68) (.ptr 0 0 :: []) (mkH (c6 (rdO R) 0)) 7 (RdP (az cZ R).1 (az cZ R).2) := by
  obtain ⟨X, hX⟩ : ∃ X, X = (ag an R).2 := ⟨_, rfl⟩
  have hl : R.vs.length ≤ 1000000 := hok.2
  have hk : X.vs = R.vs := by rw [hX]; exact (dG an R).vs
  have hlen1 : R.vs.length + 1 = (cZ R).vs.length := by unfold cZ; rw [← hX]; simp [hk]
  have hlen2 : X.vs.length + 1 = (cZ R).vs.length := by rw [hk]; exact hlen1
  have hrow1 : aP (ints X.vs) 0 (R.vs.length * 1) = some (ints X.vs) := by rw [hk]; exact dB _
  have hrow2 : aP (ints X.vs) 0 (X.vs.length * 1) = some (ints X.vs) := dB _
  have hb1 : (R.vs.length + 1) * 8 ≤ 140737488355328 := by omega
  have hb2 : (X.vs.length + 1) * 8 ≤ 140737488355328 := by rw [hk]; omega
  have hm1 : lU 1 2 8 4 5 6 (X.ks.length) (X.ts.length) (R.vs.length + 1) (X.ls.length) (X.q.times.length) (X.fs.length) (cZ R) = rdC 1 2 8 4 5 6 (cZ R) := by rw [hlen1, hX]; rfl
  have hm2 : lU 1 2 8 4 5 6 (X.ks.length) (X.ts.length) (X.vs.length + 1) (X.ls.length) (X.q.times.length) (X.fs.length) (cZ R) = rdC 1 2 8 4 5 6 (cZ R) := by rw [hlen2, hX]; rfl
  have hc : (ints X.vs ++ [AV.si .i64 (ag an R).1]).map mk = ints (cZ R).vs := by unfold cZ; rw [hY, ae, ← hX]
  subst hX
  show ao KVa 4 68 _ _ _ _
  conv => whnf
  refine ⟨?_, ?_, trivial⟩
  · conv => whnf
    refine ⟨0, 1, 2, 3, 4, 5, 6, R, rfl, rfl, ⟨by decide, by decide, rfl, rfl, rfl, rfl, rfl, rfl, rfl⟩, hok.1, ?_⟩
    conv => whnf
    refine eD.grow 1 8 _ _ _ _ _ _ uC (.old rfl) rfl rfl (.rw rfl hrow1) hb1 ?_
    conv => whnf
    exact fj 1 2 8 4 5 6 (.same rfl) (by decide) rfl hm1 rfl (aj _) rfl (ae _) rfl hc rfl (aN _) rfl (ae _) rfl (aj _)
  · conv => whnf
    refine ⟨0, 1, 2, 3, 4, 5, 6, R, rfl, rfl, ⟨by decide, by decide, rfl, rfl, rfl, rfl, rfl, rfl, rfl⟩, hok.1, ?_⟩
    conv => whnf
    refine eD.grow 1 8 _ _ _ _ _ _ uC (.old rfl) rfl rfl (.rw rfl hrow2) hb2 ?_
    conv => whnf
    exact fj 1 2 8 4 5 6 (.same rfl) (by decide) rfl hm2 rfl (aj _) rfl (ae _) rfl hc rfl (aN _) rfl (ae _) rfl (aj _)
theorem yY : aD 68 (aX (fun R => WOk R ∧ R.vs.length ≤ 1000000) noA (az cZ)) := bf (au B4 4 _) (by kernel_rfl) cC (fun _ => rfl) (fun R => ⟨rfl, fun _ => rfl⟩) fun R h => wS R h
end Go.Proofs.Ytdfeigkooeeeaaa
namespace Go.Proofs.Ytdfeigkooeeeaaa
open Go Go.RowKit
noncomputable def bL (R : Rd) : Rd := cZ (bJ (aK R))
def fI (f : Rd → Rd) : Nat → Rd → Rd
  | 0, R => R
  | k + 1, R => if aC R = true then fI f k (f R) else R
noncomputable def gD (R : Rd) : Rd := fI bL (bL R).ws.length (bL R)
theorem dw (R : Rd) : (aa R).2.ws.length ≤ R.ws.length ∧ (aC R = true → (aa R).2.ws.length < R.ws.length) := by
  unfold aa
  split
  · rename_i h
    have hp : 0 < R.ws.length := by unfold aC at h; simp at h; exact h.2
    exact ⟨by simp, fun _ => by simp; omega⟩
  · rename_i h
    exact ⟨by rw [kW]; exact Nat.le_refl _, fun q => absurd q h⟩
theorem kY (g : List Nat → Int × Int) (R : Rd) : (ag g R).2.ws.length ≤ R.ws.length := by
  unfold ag
  dsimp only
  split
  · exact (dw R).1
  · rw [kW]; exact (dw R).1
theorem Bf (w : List Nat) (z : Int) (R : Rd) : (orR w z R).2.ws.length ≤ R.ws.length := by
  unfold orR
  split
  · exact (dw R).1
  · exact kY _ R
theorem m7 (R : Rd) : (bL R).ws.length ≤ R.ws.length ∧ (aC R = true → (bL R).ws.length < R.ws.length) := by
  have h1 : (aK R).ws.length = (aa R).2.ws.length := rfl
  have h2 : (bJ (aK R)).ws.length ≤ (aK R).ws.length := Bf [42] (-1) (aK R)
  have h3 : (bL R).ws.length ≤ (bJ (aK R)).ws.length := kY an (bJ (aK R))
  have h4 := dw R
  exact ⟨by omega, fun h => by have := h4.2 h; omega⟩
theorem ot {R : Rd} (h : aC R = true) : 0 < R.ws.length := by unfold aC at h; simp at h; exact h.2
theorem s5 {f : Rd → Rd} (hf : ∀ R, aC R = true → (f R).ws.length < R.ws.length) : ∀ (k l : Nat) (R : Rd), R.ws.length ≤ k → R.ws.length ≤ l → fI f k R = fI f l R
  | 0, 0, R, _, _ => rfl
  | 0, l + 1, R, h, _ => by
    have : ¬ aC R = true := fun q => by have := ot q; omega
    unfold fI; rw [if_neg this]
  | k + 1, 0, R, _, h => by
    have : ¬ aC R = true := fun q => by have := ot q; omega
    unfold fI; rw [if_neg this]
  | k + 1, l + 1, R, h1, h2 => by
    unfold fI
    split
    · rename_i q
      have := hf R q
      exact s5 hf k l (f R) (by omega) (by omega)
    · rfl
theorem Af {f : Rd → Rd} (hf : ∀ R, aC R = true → (f R).ws.length < R.ws.length) {R : Rd} (h : aC R = true) : fI f (f R).ws.length (f R) = fI f R.ws.length R := by
  have h1 := ot h
  have h2 := hf R h
  obtain ⟨k, hk⟩ : ∃ k, R.ws.length = k + 1 := ⟨R.ws.length - 1, by omega⟩
  rw [hk]
  conv => rhs; unfold fI
  rw [if_pos h]
  exact s5 hf _ _ _ (Nat.le_refl _) (by omega)
theorem pP {f : Rd → Rd} {R : Rd} (h : ¬ aC R = true) : ∀ k, fI f k R = R
  | 0 => rfl
  | k + 1 => by unfold fI; rw [if_neg h]
theorem s6 (R : Rd) : (aK R).ks.length = R.ks.length + 1 ∧ (aK R).ts = R.ts ∧ (aK R).vs = R.vs := by
  have h := bg R
  refine ⟨?_, h.ts, h.vs⟩
  show ((aa R).2.ks ++ [(aa R).1]).length = _
  rw [h.ks]; simp
theorem pQ (R : Rd) : (bJ R).ts.length = R.ts.length + 1 ∧ (bJ R).ks = R.ks ∧ (bJ R).vs = R.vs := by
  have h := ju [42] (-1) R
  refine ⟨?_, h.ks, h.vs⟩
  show ((orR [42] (-1) R).2.ts ++ [(orR [42] (-1) R).1]).length = _
  rw [h.ts]; simp
theorem yZ (R : Rd) : (cZ R).vs.length = R.vs.length + 1 ∧ (cZ R).ks = R.ks ∧ (cZ R).ts = R.ts := by
  have h := dG an R
  refine ⟨?_, h.ks, h.ts⟩
  show ((ag an R).2.vs ++ [(ag an R).1]).length = _
  rw [h.vs]; simp
theorem pR (R : Rd) : (bL R).ks.length = R.ks.length + 1 ∧ (bL R).ts.length = R.ts.length + 1 ∧ (bL R).vs.length = R.vs.length + 1 := by
  have k := s6 R
  have t := pQ (aK R)
  have v := yZ (bJ (aK R))
  refine ⟨?_, ?_, ?_⟩
  · show (cZ (bJ (aK R))).ks.length = _; rw [v.2.1, t.2.1, k.1]
  · show (cZ (bJ (aK R))).ts.length = _; rw [v.2.2, t.1, k.2.1]
  · show (cZ (bJ (aK R))).vs.length = _; rw [v.1, t.2.2, k.2.2]
theorem WOk.key {R : Rd} (h : WOk R) : WOk (aK R) := h.next.2
theorem WOk.time {R : Rd} (h : WOk R) : WOk (bJ R) := h.or [42] (-1)
theorem WOk.val {R : Rd} (h : WOk R) : WOk (cZ R) := h.told an
theorem WOk.mJ {R : Rd} (h : WOk R) : WOk (bL R) := h.key.time.val
def Bd (B : Nat) (R : Rd) : Prop := WOk R ∧ R.ks.length + R.ws.length ≤ B ∧ R.ts.length + R.ws.length ≤ B ∧ R.vs.length + R.ws.length ≤ B
theorem Bd.mJ {B : Nat} {R : Rd} (h : Bd B R) : Bd (B + 1) (bL R) ∧ (aC R = true → Bd B (bL R)) := by
  have r := pR R
  have w := m7 R
  obtain ⟨h0, h1, h2, h3⟩ := h
  exact ⟨⟨h0.mJ, by omega, by omega, by omega⟩, fun q => by have := w.2 q; exact ⟨h0.mJ, by omega, by omega, by omega⟩⟩
noncomputable def KSa : FuncId → EP := aB 53 (aX (fun R => R.ks.length ≤ 1000000) noA (az aK)) (aB 69 (aX (fun R => WOk R ∧ R.ts.length ≤ 1000000) noA (az bJ)) (aB 68 (aX (fun R => WOk R ∧ R.vs.length ≤ 1000000) noA (az cZ)) evP))
theorem B5 : bZ KSa := ah (ah (ah bt yY) vp) rp
theorem s7 (R : Rd) (hok : Bd 900000 R) : di (ao KSa 4 67) (.ptr 0 0 :: []) (mkH (c6 (rdO R) 0)) 7 (RdP (az bL R).1 (az bL R).2) := by
  obtain ⟨h0, h1, h2, h3⟩ := hok
  have k := s6 R
  have t := pQ (aK R)
  have b1 : R.ks.length ≤ 1000000 := by omega
  have b2 : (aK R).ts.length ≤ 1000000 := by rw [k.2.1]; omega
  have b3 : (bJ (aK R)).vs.length ≤ 1000000 := by rw [t.2.2, k.2.2]; omega
  show ao KSa 4 67 _ _ _ _
  conv => whnf
  refine ⟨0, 1, 2, 3, 4, 5, 6, R, rfl, rfl, ⟨by decide, by decide, rfl, rfl, rfl, rfl, rfl, rfl, rfl⟩, b1, ?_⟩
  conv => whnf
  refine ⟨0, 7, 8, 9, 10, 11, 12, aK R, rfl, rfl, ⟨by decide, by decide, rfl, rfl, rfl, rfl, rfl, rfl, rfl⟩, ⟨h0.key, b2⟩, ?_⟩
  conv => whnf
  refine ⟨0, 13, 14, 15, 16, 17, 18, bJ (aK R), rfl, rfl, ⟨by decide, by decide, rfl, rfl, rfl, rfl, rfl, rfl, rfl⟩, ⟨h0.key.time, b3⟩, ?_⟩
  conv => whnf
  exact fj 19 20 21 22 23 24 (.same rfl) (by decide) rfl rfl rfl (aj _) rfl (ae _) rfl (ae _) rfl (aN _) rfl (ae _) rfl (aj _)
theorem s8 : aD 67 (aX (Bd 900000) noA (az bL)) := bf (au B5 4 _) (by kernel_rfl) cC (fun _ => rfl) (fun R => ⟨rfl, fun _ => rfl⟩) fun R h => s7 R h
noncomputable def KMa : FuncId → EP := aB 67 (aX (Bd 900000) noA (az bL)) evP
theorem B6 : bZ KMa := ah bt s8
noncomputable def rdS (R : Rd) : AE × AH := (mkE [(0, .ptr 0 0)], rdM R)
theorem eW {σ : AE} {H : AH} {n : Nat} {R : Rd} (j1 j2 j3 j4 j5 j6 : Nat) {l l1 l2 l3 l4 l5 l6 : List AV} (he : aA (pa 0) σ = .ptr 0 0) (hd : [0, j1, j2, j3, j4, j5, j6].Nodup) (h0 : PM.get H 0 = some (.cells l true)) (hm : l.map mk = rdC j1 j2 j3 j4 j5 j6 R) (r1 : PM.get H j1 = some (.cells l1 true)) (m1 : l1.map mk = aq R.ks) (r2 : PM.get H j2 = some (.cells l2 true)) (m2 : l2.map mk = ints R.ts) (r3 : PM.get H j3 = some (.cells l3 true)) (m3 : l3.map mk = ints R.vs) (r4 : PM.get H j4 = some (.cells l4 true)) (m4 : l4.map mk = ba R.ls) (r5 : PM.get H j5 = some (.cells l5 true)) (m5 : l5.map mk = ints R.q.times) (r6 : PM.get H j6 = some (.cells l6 true)) (m6 : l6.map mk = aq R.fs) : Cov 7 σ H n ((rdS R).1, (rdS R).2, 13) :=
  uB j1 j2 j3 j4 j5 j6 (le := [(0, .ptr 0 0)]) (fun x hx => by
    simp only [List.mem_cons, List.not_mem_nil, or_false] at hx
    subst hx
    exact aR.ptr (Nat.le_of_ble_eq_true rfl) (by rw [he]; rfl)) hd h0 hm r1 m1 r2 m2 r3 m3 r4 m4 r5 m5 r6 m6
theorem wT (R : Rd) (hok : Bd 800000 R) : di (ao KMa 4 47) (.ptr 0 0 :: []) (mkH (c6 (rdO R) 0)) 7 (RdP (az gD R).1 (az gD R).2) := by
  have hs := hok.mJ.1
  have leaf : ∀ {R' : Rd} {H' : AH} {n' : Nat} {l : List AV}, gD R = R' → PM.get H' 0 = some (.cells l true) → l.map mk = rdC 7 8 9 10 11 12 R' → PM.get H' 7 = some (.cells (aq R'.ks) true) → PM.get H' 8 = some (.cells (ints R'.ts) true) → PM.get H' 9 = some (.cells (ints R'.vs) true) → PM.get H' 10 = some (.cells (ba R'.ls) true) → PM.get H' 11 = some (.cells (ints R'.q.times) true) → PM.get H' 12 = some (.cells (aq R'.fs) true) → ∃ v2 H2 m, Cov 7 (mkE [(0, .tup [])]) H' n' (mkE [(0, v2)], H2, m) ∧ RdP (az gD R).1 (az gD R).2 v2 H2 m := fun e h0 hm r1 r2 r3 r4 r5 r6 => by
    unfold az; rw [e]
    exact fj 7 8 9 10 11 12 (.same rfl) (by decide) h0 hm r1 (aj _) r2 (ae _) r3 (ae _) r4 (aN _) r5 (ae _) r6 (aj _)
  show ao KMa 4 47 _ _ _ _
  conv => whnf
  refine ⟨0, 1, 2, 3, 4, 5, 6, R, rfl, rfl, ⟨by decide, by decide, rfl, rfl, rfl, rfl, rfl, rfl, rfl⟩, ⟨hok.1, by have := hok.2.1; omega, by have := hok.2.2.1; omega, by have := hok.2.2.2; omega⟩, ?_⟩
  conv => whnf
  refine dg.mk { X : Rd // Bd 800001 X ∧ fI bL X.ws.length X = gD R } 13 (fun X => rdS X.val) (fun X => X.val.ws.length) ⟨bL R, hs, rfl⟩ ?_ ?_
  · exact eW 7 8 9 10 11 12 rfl (by decide) rfl rfl rfl (aj _) rfl (ae _) rfl (ae _) rfl (aN _) rfl (ae _) rfl (aj _)
  · intro ⟨X, hB, hX⟩
    conv => whnf
    refine ak.dec (fun h0 => ?_) (fun h0 => ?_)
    · conv => whnf
      refine ak.dec (fun hp => ?_) (fun hp => ?_)
      · have hp : 0 < X.ws.length := by exact Int.ofNat_lt.1 hp
        have hm := cx h0 hp
        have hg := (Af (f := bL) (fun R q => (m7 R).2 q) hm).trans hX
        have hb := hB.mJ.2 hm
        have hlt := (m7 X).2 hm
        conv => whnf
        refine ⟨0, 7, 8, 9, 10, 11, 12, X, rfl, rfl, ⟨by decide, by decide, rfl, rfl, rfl, rfl, rfl, rfl, rfl⟩, ⟨hB.1, by have := hB.2.1; omega, by have := hB.2.2.1; omega, by have := hB.2.2.2; omega⟩, ?_⟩
        conv => whnf
        exact ⟨⟨bL X, hb, hg⟩, hlt, eW 13 14 15 16 17 18 rfl (by decide) rfl rfl rfl (aj _) rfl (ae _) rfl (ae _) rfl (aN _) rfl (ae _) rfl (aj _)⟩
      · have hp : ¬ 0 < X.ws.length := fun q => hp (by exact Int.ofNat_lt.2 q)
        have e : gD R = X := by rw [← hX, pP (cz hp)]
        conv => whnf
        exact leaf e rfl rfl rfl rfl rfl rfl rfl rfl
    · have e : gD R = X := by rw [← hX, pP (cy h0)]
      conv => whnf
      exact leaf e rfl rfl rfl rfl rfl rfl rfl rfl
theorem B7 : aD 47 (aX (Bd 800000) noA (az gD)) := bf (au B6 4 _) (by kernel_rfl) cC (fun _ => rfl) (fun R => ⟨rfl, fun _ => rfl⟩) fun R h => wT R h
end Go.Proofs.Ytdfeigkooeeeaaa
namespace Go.Proofs.Ytdfeigkooeeeaaa
open Go Go.RowKit
theorem HR.C5 {φ : Ph} {H : AH} {n : Nat} {h0 h : Hp} (hr : HR φ H n h0 h) {b m k x : Nat} {l s : List AV} {z : Bool} {v : Value} (hb : H.get b = some (.cells l z)) (hv : VR φ (.rw b 0 m k x) v) (hx : x ≠ 4) (hs : s.all flat.flat1 = true) (hsl : s.length = m * k) (hmk : l.map Go.Proofs.Ytdfeigkooeeeaaa.mk = s.map Go.Proofs.Ytdfeigkooeeeaaa.mk) :
    ∃ χ, PLe φ χ ∧ HR χ (H.set none ab b) n h0 h ∧ VR χ (.fr m k s) v := by
  have hk := hr.kill ab b
  have hll : l.length = m * k := by have := congrArg List.length hmk; simp only [List.length_map] at this; omega
  have hst : s.all eu = true := by
    rw [List.all_eq_true] at hs ⊢
    intro y hy
    have := hs y hy
    cases y <;> first | rfl | cases this
  rcases hv.ep with ⟨h1, hem⟩ | ⟨p, a, C, hpb, rfl, h2, h3, h4, h5, _, _⟩
  · have hs0 : s = [] := List.eq_nil_of_length_eq_zero (by rw [hsl, h1, Nat.zero_mul])
    subst h1 hs0
    rw [hem.nil hx]
    exact ⟨φ, .refl φ, hk, .fre fun _ => rfl⟩
  · by_cases hm : m = 0
    · have hs0 : s = [] := List.eq_nil_of_length_eq_zero (by rw [hsl, hm, Nat.zero_mul])
      subst hm hs0
      exact ⟨φ, .refl φ, hk, .fre fun q => by cases q⟩
    · have ha := h2 hm
      subst ha
      obtain ⟨ob, hq0, hq1, cc, t, fz, rfl, o1, o2, o3, o4, o5⟩ := hr.of hb hpb
      refine ⟨φ.more fun q => q = ⟨p.B, p.s + 0, s⟩, φ.kU _, hk.more fun q hq => ?_, ?_⟩
      · subst hq
        refine ⟨⟨⟨(hr.dom _ _ hpb).2, hst⟩, cc, t, fz, hq1, (show p.s + 0 + s.length ≤ cc.size by omega), CR.mV o5 hmk hs⟩, hq0, fun b' o' p' e1 e2 e3 e4 => ?_⟩
        rcases PM.aI ab H b b' o' e1 with ⟨_, h⟩ | ⟨h6, h7⟩
        · cases h
        · exact h6 (hr.inj b' b o' _ p' p h7 hb e2 rfl e3 hpb e4)
      · have : VR (φ.more fun q => q = ⟨p.B, p.s + 0, s⟩) (.fr m k s) (.slice (some ⟨p.B, p.s + 0 + 0, none⟩) m C) := .fr (q := ⟨p.B, p.s + 0, s⟩) (o := 0) (.inr rfl) h4 (cT hsl)
        exact this
theorem VRs.at' {φ : Ph} : ∀ {l : List AV} {vs : List Value}, VRs φ l vs → ∀ {i : Nat} {a : AV}, l[i]? = some a → ∃ v, vs[i]? = some v ∧ VR φ a v
  | [], _, _, i, a, h => by simp at h
  | b :: l, vs, hv, i, a, h => by
    obtain ⟨v, us, rfl, h1, h2⟩ := hv.cons_inv
    cases i with
    | zero => simp at h; subst h; exact ⟨v, rfl, h1⟩
    | succ i => simp at h; obtain ⟨w, h3, h4⟩ := VRs.at' h2 h; exact ⟨w, by simpa using h3, h4⟩
theorem VRs.C6 {φ χ : Ph} (hle : SLe φ χ) : ∀ {l : List AV} {vs : List Value}, VRs φ l vs → ∀ {i : Nat} {a' : AV} {v : Value}, vs[i]? = some v → VR χ a' v → VRs χ (l.set i a') vs
  | [], _, hv, i, a', v, h, _ => by rw [hv.aH] at h; simp at h
  | b :: l, vs, hv, i, a', v, h, hx => by
    obtain ⟨w, us, rfl, h1, h2⟩ := hv.cons_inv
    cases i with
    | zero => simp at h; subst h; exact .cons hx (VRs.cL hle _ _ h2)
    | succ i => simp at h; exact .cons (h1.cL hle) (VRs.C6 hle h2 h hx)
theorem wU.lW {H : AH} {n i b m k : Nat} {l L s : List AV} {x : AV} {z : Bool} (hi : l[i]? = some (.rw b 0 m k 0)) (hb : H.get b = some (.cells L z)) (hs : s.all flat.flat1 = true) (hsl : s.length = m * k) (hmk : L.map mk = s.map mk) :
    ∀ (φ : Ph) (h0 h : Hp) (w : Value), HR φ H n h0 h → VR φ (.tup [.agg l, x]) w → ∃ ψ, PLe φ ψ ∧ HR ψ (H.set none ab b) n h0 h ∧ VR ψ (.tup [.agg (l.set i (.fr m k s)), x]) w := fun φ h0 h w hr hw => by
  obtain ⟨cs, rfl, hv⟩ := hw.du
  obtain ⟨v1, v2, rfl, e1, e2⟩ := vs2 hv
  obtain ⟨ds, rfl, hd⟩ := e1.dt
  obtain ⟨v, h1, h2⟩ := VRs.at' hd hi
  obtain ⟨χ, k1, k2, k3⟩ := hr.C5 hb h2 (by decide) hs hsl hmk
  exact ⟨χ, k1, k2, .tup (.cons (.agg (VRs.C6 k1.s hd h1 k3)) (.cons (e2.cL k1.s) .nil))⟩
end Go.Proofs.Ytdfeigkooeeeaaa
namespace Go.Proofs.Ytdfeigkooeeeaaa
open Go Go.RowKit
def D0 : AV → Bool
  | .tup [.agg l, x] => l.all eu && eu x
  | v => eu v
theorem ou {φ ψ : Ph} (hz : ∀ q, φ.z q → ψ.z q) : ∀ {l : List AV} {vs : List Value}, l.all eu = true → VRs φ l vs → VRs ψ l vs
  | [], _, _, h => by rw [h.aH]; exact .nil
  | a :: l, vs, hs, h => by
    obtain ⟨v, us, rfl, h1, h2⟩ := h.cons_inv
    simp only [List.all_cons, Bool.and_eq_true] at hs
    exact .cons (fg hz hs.1 h1) (ou hz hs.2 h2)
theorem y0 {φ ψ : Ph} (hz : ∀ q, φ.z q → ψ.z q) {l : List AV} {x : AV} {w : Value} (hl : l.all eu = true) (hx : eu x = true) (h : VR φ (.tup [.agg l, x]) w) : VR ψ (.tup [.agg l, x]) w := by
  obtain ⟨cs, rfl, hv⟩ := h.du
  obtain ⟨v1, v2, rfl, e1, e2⟩ := vs2 hv
  obtain ⟨ds, rfl, hd⟩ := e1.dt
  exact .tup (.cons (.agg (ou hz hl hd)) (.cons (fg hz hx e2) .nil))
def rq : List (Nat × List Nat) := [(1, [84, 83, 46, 67, 82, 69, 65, 84, 69]), (2, [84, 83, 46, 65, 76, 84, 69, 82]), (3, [84, 83, 46, 65, 68, 68]), (4, [84, 83, 46, 77, 65, 68, 68]), (5, [84, 83, 46, 73, 78, 67, 82, 66, 89]), (6, [84, 83, 46, 68, 69, 67, 82, 66, 89]), (7, [84, 83, 46, 68, 69, 76]), (8, [68, 69, 76]), (9, [84, 83, 46, 67, 82, 69, 65, 84, 69, 82, 85, 76, 69]), (10, [84, 83, 46, 68, 69, 76, 69, 84, 69, 82, 85, 76, 69]), (11, [84, 83, 46, 71, 69, 84]), (12, [84, 83, 46, 77, 71, 69, 84]), (13, [84, 83, 46, 82, 65, 78, 71, 69]), (14, [84, 83, 46, 77, 82, 65, 78, 71, 69]), (15, [84, 83, 46, 81, 85, 69, 82, 89, 73, 78, 68, 69, 88]), (16, [84, 83, 46, 73, 78, 70, 79])]
def gE : List (Nat × List Nat) := [(13, [84, 83, 46, 82, 69, 86, 82, 65, 78, 71, 69]), (14, [84, 83, 46, 77, 82, 69, 86, 82, 65, 78, 71, 69])]
def uF (args : List AV) (H : AH) (n : Nat) (κ : PK) : Prop := match args with
  | [x, y] => ∃ (b : Nat) (N : List (Nat × List Nat)) (w : List Nat) (k : Nat), mk x = .ss w ∧ y = .map b ∧ b < n ∧ H.get b = some (.map (eJ N)) ∧ gm N = true ∧ (∀ c ∈ w, c < 256) ∧ w.length ≤ 1000000 ∧ whF N (upF w) = k ∧ κ (.si .i64 (Int.ofNat k)) H n
  | _ => False
theorem y1 : aD 23 uF := fun args H n κ hs => vi args H n κ (by
  unfold uF at hs
  unfold yE
  split at hs
  · obtain ⟨b, N, w, k, h1, h2, h3, h4, h5, h6, h7, h8, h9⟩ := hs
    subst h8
    exact ⟨b, N, w, h1, h2, h3, h4, h5, h6, h7, h9⟩
  · exact hs.elim)
def noQ : Qry := ⟨0, 0, false, 0, 0, 0, 0, false, [], false, 0, 0⟩
def fL (ws : List (List Nat)) (k : Int) (b : Bool) : Rd := ⟨ws, 0, k, [], [], [], -1, -1, 0, [], false, 0, 0, 0, 0, 0, { noQ with back := b }, [], [], 0⟩
def Ag (R : Rd) : List AV := .fr R.ws.length 1 (aq R.ws) :: .si .i64 R.e :: cmC .nsl .nsl .nsl .nsl .nsl .nsl R
inductive NR : List AV → List AV → Prop where
  | nil : NR [] []
  | same (a : AV) {l m : List AV} (h : NR l m) : NR (a :: l) (a :: m)
  | row (b k : Nat) {l m : List AV} (h : NR l m) : NR (.nsl :: l) (.rw b 0 0 k 0 :: m)
theorem NR.at : ∀ {l0 l1 : List AV}, NR l0 l1 → ∀ {l : List AV}, l.map Go.Proofs.Ytdfeigkooeeeaaa.mk = l0 → ∀ (φ : Ph) (i : Nat) (a' : AV), l1[i]? = some a' → ∃ a, l[i]? = some a ∧ ∀ v, VR φ a v → VR φ a' v
  | _, _, .nil, l, e, φ, i, a', h => by simp at h
  | _, _, .same a hn, l, e, φ, i, a', h => by
    cases l with
    | nil => cases e
    | cons x l =>
      simp only [List.map_cons, List.cons.injEq] at e
      cases i with
      | zero => simp at h; subst h; exact ⟨x, rfl, fun v hv => by rw [← e.1]; exact hv.mk⟩
      | succ i => simp at h; obtain ⟨y, h1, h2⟩ := NR.at hn e.2 φ i a' h; exact ⟨y, by simpa using h1, h2⟩
  | _, _, .row b k hn, l, e, φ, i, a', h => by
    cases l with
    | nil => cases e
    | cons x l =>
      simp only [List.map_cons, List.cons.injEq] at e
      cases i with
      | zero =>
        simp at h; subst h
        refine ⟨x, rfl, fun v hv => ?_⟩
        have h1 := hv.mk
        rw [e.1] at h1
        rw [h1.cv]
        (try simp only [VR]); exact .inl ⟨trivial, .inl rfl⟩
      | succ i => simp at h; obtain ⟨y, h1, h2⟩ := NR.at hn e.2 φ i a' h; exact ⟨y, by simpa using h1, h2⟩
noncomputable def C7 (H : AH) (n r : Nat) (R : Rd) : AH := PM.set (some (.cells (rdC n (n + 1) (n + 2) (n + 3) (n + 4) (n + 5) R) true)) ab (PM.set (some (.cells [] true)) ab (PM.set (some (.cells [] true)) ab (PM.set (some (.cells [] true)) ab (PM.set (some (.cells [] true)) ab (PM.set (some (.cells [] true)) ab (PM.set (some (.cells [] true)) ab H n) (n + 1)) (n + 2)) (n + 3)) (n + 4)) (n + 5)) r
theorem Ah (ws : List (List Nat)) (k : Int) (b : Bool) (n : Nat) : NR (Ag (fL ws k b)) (rdC n (n + 1) (n + 2) (n + 3) (n + 4) (n + 5) (fL ws k b)) :=
  .same _ (.same _ (.same _ (.row _ _ (.row _ _ (.row _ _ (.same _ (.same _ (.same _ (.row _ _ (.same _ (.same _ (.same _ (.same _ (.same _ (.same _ (.same _ (.same _ (.same _ (.same _ (.same _ (.same _ (.same _ (.same _ (.row _ _ (.same _ (.same _ (.same _ (.row _ _ (.same _ (.same _ .nil))))))))))))))))))))))))))))))
theorem bX.reader {H : AH} {n r : Nat} {l : List AV} {ws : List (List Nat)} {k : Int} {b : Bool} (hr : H.get r = some (.cells l true)) (hl : l.map Go.Proofs.Ytdfeigkooeeeaaa.mk = Ag (fL ws k b)) (hrn : r < n) (hn : n + 10 < 2 ^ 40) : bX H n (C7 H n r (fL ws k b)) (n + 6) := fun φ h0 h h1 => by
  have a1 := h1.js (o := .cells [] true) rfl
  have a2 := a1.js (o := .cells [] true) rfl
  have a3 := a2.js (o := .cells [] true) rfl
  have a4 := a3.js (o := .cells [] true) rfl
  have a5 := a4.js (o := .cells [] true) rfl
  have a6 := a5.js (o := .cells [] true) rfl
  have g1 := PM.ax (v := some (AO.cells [] true)) ab _ n r (by show n + 1 < 2 ^ 40; omega) (by omega) hr
  have g2 := PM.ax (v := some (AO.cells [] true)) ab _ (n + 1) r (by show n + 1 + 1 < 2 ^ 40; omega) (by omega) g1
  have g3 := PM.ax (v := some (AO.cells [] true)) ab _ (n + 2) r (by show n + 2 + 1 < 2 ^ 40; omega) (by omega) g2
  have g4 := PM.ax (v := some (AO.cells [] true)) ab _ (n + 3) r (by show n + 3 + 1 < 2 ^ 40; omega) (by omega) g3
  have g5 := PM.ax (v := some (AO.cells [] true)) ab _ (n + 4) r (by show n + 4 + 1 < 2 ^ 40; omega) (by omega) g4
  have g6 := PM.ax (v := some (AO.cells [] true)) ab _ (n + 5) r (by show n + 5 + 1 < 2 ^ 40; omega) (by omega) g5
  exact a6.yy g6 (by have := congrArg List.length hl; rw [List.length_map] at this; rw [this]; rfl) fun i a' hi => (Ah ws k b n).at hl φ i a' hi
end Go.Proofs.Ytdfeigkooeeeaaa
namespace Go.Proofs.Ytdfeigkooeeeaaa
open Go Go.RowKit
def mA (es : List (AV × AV)) (args : List AV) (H : AH) (n : Nat) (κ : PK) : Prop := match args with
  | [] => κ (.map n) (H.set (some (.map es)) ab n) (n + 1)
  | _ => False
theorem ow {f : FuncId} {es : List (AV × AV)} (hic : dj Try.prog f = true) (hren : ∀ r, ur r es = es) (hlt : ltE 1 es = true) (h : ∀ Q : PK, ao evP 3 f [] .nil 0 Q = Q (.map 0) (mkH [(0, .map es)]) 1) : aD f (mA es) := fun args H n κ hs φ h0' hp vs K hr hargs hk => by
  unfold mA at hs
  split at hs
  · refine re (S := []) (O := []) (args0 := []) (au bt 3 _) hic hr ⟨List.nodup_nil, rfl, fun i s o h1 h2 => by simp at h1⟩ hargs hk (Q := fun u H' n' => u = .map 0 ∧ H' = mkH [(0, .map es)] ∧ n' = 1) ((h _).mpr ⟨rfl, rfl, rfl⟩) fun u H' n' ⟨g0, g1, g2⟩ => ?_
    subst g0 g1 g2
    refine ⟨1, lR [] n H [(0, some (.map es))], Nat.zero_le _, jD.put (Nat.zero_le _) rfl (fun x hx o ho => ?_), rfl, ?_⟩
    · simp only [List.mem_cons, List.not_mem_nil, or_false] at hx
      subst hx
      injection ho with ho; subst ho; exact ⟨rfl, rfl, hlt⟩
    · have e : lR [] n H [(0, some (.map es))] = H.set (some (.map es)) ab n := by
        simp only [lR, Option.map_some, eH, hren]
        rfl
      rw [e]; exact hs
  · exact hs.elim
def C8 : List (AV × AV) := [(.int .i64 1, .fn 45 [] []), (.int .i64 2, .fn 45 [] []), (.int .i64 3, .fn 46 [] []), (.int .i64 4, .fn 47 [] []), (.int .i64 5, .fn 48 [] []), (.int .i64 6, .fn 48 [] []), (.int .i64 7, .fn 49 [] []), (.int .i64 8, .fn 50 [] []), (.int .i64 9, .fn 51 [] []), (.int .i64 10, .fn 52 [] []), (.int .i64 11, .fn 53 [] []), (.int .i64 12, .fn 54 [] []), (.int .i64 13, .fn 55 [] []), (.int .i64 14, .fn 56 [] []), (.int .i64 15, .fn 57 [] []), (.int .i64 16, .fn 53 [] [])]
theorem Ai : aD 24 (mA (eJ rq)) := ow (by kernel_rfl) (fun r => ja r _) (mX 1 _) (fun Q => by kernel_rfl)
theorem B8 : aD 25 (mA (eJ gE)) := ow (by kernel_rfl) (fun r => ja r _) (mX 1 _) (fun Q => by kernel_rfl)
theorem Aj : aD 26 (mA C8) := ow (by kernel_rfl) (fun r => rfl) rfl (fun Q => by kernel_rfl)
end Go.Proofs.Ytdfeigkooeeeaaa
namespace Go.Proofs.Ytdfeigkooeeeaaa
open Go Go.RowKit
def cmF (R : Rd) : List AV := cmC (.fr R.ks.length 1 (aq R.ks)) (.fr R.ts.length 1 (ints R.ts)) (.fr R.vs.length 1 (ints R.vs)) (.fr R.ls.length 2 (ba R.ls)) (.fr R.q.times.length 1 (ints R.q.times)) (.fr R.fs.length 1 (aq R.fs)) R
def jd : Rd := ⟨[], 0, 0, [], [], [], 0, 0, 0, [], false, 0, 0, 0, 0, 0, noQ, [], [], 0⟩
def dI (R : Rd) : Rd := if aC R = true then cr R 14 else R
def kg (R : Rd) : AV := .tup [.agg (cmF (if R.e = 0 then R else jd)), .si .i64 R.e]
inductive NF : List AV → List AV → Prop where
  | nil : NF [] []
  | same (a : AV) {l m : List AV} (h : NF l m) : NF (a :: l) (a :: m)
  | row (k : Nat) {l m : List AV} (h : NF l m) : NF (.nsl :: l) (.fr 0 k [] :: m)
theorem NF.vrs {φ : Ph} : ∀ {l0 l1 : List AV}, NF l0 l1 → ∀ {l : List AV}, l.map Go.Proofs.Ytdfeigkooeeeaaa.mk = l0 → ∀ {vs : List Value}, VRs φ l vs → VRs φ l1 vs
  | _, _, .nil, l, e, vs, h => by
    cases l with
    | nil => exact h
    | cons _ _ => cases e
  | _, _, .same a hn, l, e, vs, h => by
    cases l with
    | nil => cases e
    | cons x l =>
      simp only [List.map_cons, List.cons.injEq] at e
      obtain ⟨v, us, rfl, h1, h2⟩ := h.cons_inv
      exact .cons (by rw [← e.1]; exact h1.mk) (NF.vrs hn e.2 h2)
  | _, _, .row k hn, l, e, vs, h => by
    cases l with
    | nil => cases e
    | cons x l =>
      simp only [List.map_cons, List.cons.injEq] at e
      obtain ⟨v, us, rfl, h1, h2⟩ := h.cons_inv
      refine .cons ?_ (NF.vrs hn e.2 h2)
      have h3 := h1.mk
      rw [e.1] at h3
      rw [h3.cv]; exact .fre fun _ => rfl
theorem B9 {φ : Ph} {l l1 : List AV} {x : AV} {z : Int} (h : NF (l.map Go.Proofs.Ytdfeigkooeeeaaa.mk) l1) (hx : Go.Proofs.Ytdfeigkooeeeaaa.mk x = .si .i64 z) {w : Value} (hw : VR φ (.tup [.agg l, x]) w) : VR φ (.tup [.agg l1, .si .i64 z]) w := by
  obtain ⟨cs, rfl, hv⟩ := hw.du
  obtain ⟨v1, v2, rfl, e1, e2⟩ := vs2 hv
  obtain ⟨ds, rfl, hd⟩ := e1.dt
  exact .tup (.cons (.agg (h.vrs rfl hd)) (.cons (by have := e2.mk; rw [hx] at this; exact this) .nil))
def FzT (u : AV) (H : AH) (n : Nat) (v : AV) : Prop := ∀ (φ : Ph) (h0 h : Hp) (w : Value), HR φ H n h0 h → VR φ u w → ∃ ψ, PLe φ ψ ∧ (∃ H2, HR ψ H2 n h0 h) ∧ VR ψ v w
def Bg (g : List AV → AH → Nat → PK → Prop) (args : List AV) (H : AH) (n : Nat) (Q : AV → Prop) : Prop := g args H n fun u H' n' => ∃ v, FzT u H' n' v ∧ Q v
theorem FzT.zero {l : List AV} {x : AV} {H : AH} {n : Nat} {R : Rd} (he : ¬ R.e = 0) (h : NF (l.map Go.Proofs.Ytdfeigkooeeeaaa.mk) (cmF jd)) (hx : Go.Proofs.Ytdfeigkooeeeaaa.mk x = .si .i64 R.e) : FzT (.tup [.agg l, x]) H n (kg R) := fun φ h0 h1 w hr hw => ⟨φ, .refl φ, ⟨H, hr⟩, by
  unfold kg; rw [if_neg he]; exact B9 h hx hw⟩
theorem FzT.rows {H : AH} {n : Nat} {R : Rd} {x : AV} (a b c d e f : Nat) (hd : [a, b, c, d, e, f].Nodup) (hn : a + 1 < 2 ^ 40 ∧ b + 1 < 2 ^ 40 ∧ c + 1 < 2 ^ 40 ∧ d + 1 < 2 ^ 40 ∧ e + 1 < 2 ^ 40) (he : R.e = 0) (hx : Go.Proofs.Ytdfeigkooeeeaaa.mk x = .si .i64 R.e)
    (r1 : H.get a = some (.cells (aq R.ks) true)) (r2 : H.get b = some (.cells (ints R.ts) true)) (r3 : H.get c = some (.cells (ints R.vs) true)) (r4 : H.get d = some (.cells (ba R.ls) true)) (r5 : H.get e = some (.cells (ints R.q.times) true)) (r6 : H.get f = some (.cells (aq R.fs) true)) :
    FzT (.tup [.agg (cmC (.rw a 0 R.ks.length 1 0) (.rw b 0 R.ts.length 1 0) (.rw c 0 R.vs.length 1 0) (.rw d 0 R.ls.length 2 0) (.rw e 0 R.q.times.length 1 0) (.rw f 0 R.fs.length 1 0) R), x]) H n (kg R) := fun φ h0 h w hr hw => by
  simp only [List.nodup_cons, List.mem_cons, List.not_mem_nil, or_false, not_or, List.nodup_nil, and_true, not_false_eq_true] at hd
  obtain ⟨ψ1, p1, q1, w1⟩ := wU.lW (i := 1) (s := aq R.ks) rfl r1 (aV _) (by rw [dd, Nat.mul_one]) rfl φ h0 h w hr hw
  obtain ⟨ψ2, p2, q2, w2⟩ := wU.lW (i := 2) (s := ints R.ts) rfl (PM.ax _ _ _ _ hn.1 (by omega) r2) (aT _) (by rw [fV, Nat.mul_one]) rfl ψ1 h0 h w q1 w1
  obtain ⟨ψ3, p3, q3, w3⟩ := wU.lW (i := 3) (s := ints R.vs) rfl (PM.ax _ _ _ _ hn.2.1 (by omega) (PM.ax _ _ _ _ hn.1 (by omega) r3)) (aT _) (by rw [fV, Nat.mul_one]) rfl ψ2 h0 h w q2 w2
  obtain ⟨ψ4, p4, q4, w4⟩ := wU.lW (i := 7) (s := ba R.ls) rfl (PM.ax _ _ _ _ hn.2.2.1 (by omega) (PM.ax _ _ _ _ hn.2.1 (by omega) (PM.ax _ _ _ _ hn.1 (by omega) r4))) (dF _) (mz _) rfl ψ3 h0 h w q3 w3
  obtain ⟨ψ5, p5, q5, w5⟩ := wU.lW (i := 22) (s := ints R.q.times) rfl (PM.ax _ _ _ _ hn.2.2.2.1 (by omega) (PM.ax _ _ _ _ hn.2.2.1 (by omega) (PM.ax _ _ _ _ hn.2.1 (by omega) (PM.ax _ _ _ _ hn.1 (by omega) r5)))) (aT _) (by rw [fV, Nat.mul_one]) rfl ψ4 h0 h w q4 w4
  obtain ⟨ψ6, p6, q6, w6⟩ := wU.lW (i := 26) (s := aq R.fs) rfl (PM.ax _ _ _ _ hn.2.2.2.2 (by omega) (PM.ax _ _ _ _ hn.2.2.2.1 (by omega) (PM.ax _ _ _ _ hn.2.2.1 (by omega) (PM.ax _ _ _ _ hn.2.1 (by omega) (PM.ax _ _ _ _ hn.1 (by omega) r6))))) (aV _) (by rw [dd, Nat.mul_one]) rfl ψ5 h0 h w q5 w5
  refine ⟨ψ6, ((((p1.trans p2).trans p3).trans p4).trans p5).trans p6, ⟨_, q6⟩, ?_⟩
  unfold kg; rw [if_pos he]
  obtain ⟨cs, rfl, hv⟩ := w6.du
  obtain ⟨v1, v2, rfl, e1, e2⟩ := vs2 hv
  exact .tup (.cons e1 (.cons (by have := e2.mk; rw [hx] at this; exact this) .nil))
theorem wV : gm rq = true := by decide +kernel
theorem wW : gm gE = true := by decide +kernel
def C9 : List AV := cmC .nsl .nsl .nsl .nsl .nsl .nsl jd
theorem jv : NF C9 (cmF jd) :=
  .same _ (.row _ (.row _ (.row _ (.same _ (.same _ (.same _ (.row _ (.same _ (.same _ (.same _ (.same _ (.same _ (.same _ (.same _ (.same _ (.same _ (.same _ (.same _ (.same _ (.same _ (.same _ (.row _ (.same _ (.same _ (.same _ (.row _ (.same _ (.same _ .nil))))))))))))))))))))))))))))
def y2 (g : List AV → AH → Nat → PK → Prop) (args : List AV) (H : AH) (n : Nat) (κ : PK) : Prop := ∃ H2 n2, bX H n H2 n2 ∧ g args H2 n2 κ
theorem aD.y2 {f : FuncId} {g : List AV → AH → Nat → PK → Prop} (hg : aD f g) : aD f (y2 g) := fun args H n κ ⟨H2, n2, h1, h2⟩ φ h0 h vs K hr ha hk => hg args H2 n2 κ h2 φ h0 h vs K (h1 φ h0 h hr) ha hk
def Ak : DT := [(4, [(some 1000000, [3, 4]), (none, [0, 1, 2, 3, 4, 5, 6, 7, 8, 9]), (none, [0, 1, 2, 4, 3, 5, 6, 7, 8, 9])]), (5, [(some 1000000, [2, 3]), (none, [0, 1, 2, 3, 4, 5]), (none, [0, 1, 3, 2, 4, 5])]),
  (8, [(some 1000000, [0, 5]), (none, [0, 1, 2, 3, 4, 5, 6, 7, 8, 9, 10, 11]), (none, [1, 2, 3, 4, 5, 0, 6, 7, 8, 9, 10, 11])]),
  (15, [(some 1000000, [4, 5]), (none, [0, 1, 2, 3, 4, 5, 6]), (none, [0, 1, 2, 3, 5, 4, 6])])]
end Go.Proofs.Ytdfeigkooeeeaaa
namespace Go.Proofs.Ytdfeigkooeeeaaa
open Go Go.RowKit
section
variable {φ ψ : Ph} {H : AH} {n : Nat} {h0 hp : Hp}
theorem s9 {H' : AH} {n' : Nat} {g : Hp} (hr : HR φ H n h0 hp) (hg : HR ψ H' n' hp g) (hy : ∀ q, ψ.y q → φ.z q) : ∃ χ, PLe φ χ ∧ HR χ H n h0 g ∧ ∀ q, ψ.z q → χ.z q := by
  have hg2 : HR φ H n h0 g := hr.grow (fun b o hb => (hg.base b o hb).2) hg.size
  have hb0 : ∀ B, hp.f B = none → h0.f B = none := fun B e => by
    cases q : h0.f B with
    | none => rfl
    | some o => have := (hr.base B o q).2; rw [e] at this; cases this
  have own : ∀ B, hp.f B = none → ∀ b o p, H.get b = some o → o.own = true → φ b = some p → p.B ≠ B := fun B e b o p hb hw hp' q => by
    obtain ⟨ob, _, h1, _⟩ := hr.of hb hp'
    rw [q, e] at h1; cases h1
  have sub : ∀ q, ψ.z q → (φ.more fun q => ψ.z q ∧ hp.f q.B = none).z q := fun q hq => by
    obtain ⟨⟨_, hyq⟩, _⟩ := hg.frz q hq
    rcases hyq with hyq | hyq
    · exact .inl (hy q hyq)
    · exact .inr ⟨hq, hyq⟩
  refine ⟨φ.more fun q => ψ.z q ∧ hp.f q.B = none, φ.kU _, hg2.more fun q hq => ?_, sub⟩
  obtain ⟨⟨hf, _⟩, _⟩ := hg.frz q hq.1
  exact ⟨FzR.mono sub hf, hb0 _ hq.2, own _ hq.2⟩
theorem y3 {f : FuncId} {run : List AV → AH → Nat → PK → Prop} (hrun : aD f run) {args0 : List AV} {H0 : AH} {n0 : Nat} {l : List AV} {x : AV} (hl : l.all eu = true) (hx : eu x = true) (h : Bg run args0 H0 n0 fun v => v = .tup [.agg l, x])
    {vs : Array Value} {κ : PK} {K : KH} (hk' : κ (.tup [.agg l, x]) H n) (hr : HR φ H n h0 hp) (hk : db φ h0 κ K) (hic : dj Try.prog f = true) {φ0 : Ph} (hr0 : Wf hp → HR φ0 H0 n0 hp hp) (hy : φ0.y = φ.z) (hargs : VRs φ0 args0 vs.toList) : dZ Try.prog f vs hp K := by
  have key : Wf hp → dZ Try.prog f vs hp K := fun hw => hrun args0 H0 n0 _ h φ0 hp hp vs K (hr0 hw) hargs fun ψ u H' n' w g hle hg hu ⟨v, hf, hv⟩ => by
    subst hv
    obtain ⟨ψ2, p2, ⟨H2, g2⟩, v2⟩ := hf ψ hp g w hg hu
    obtain ⟨χ, h1, h2, h3⟩ := s9 hr g2 (fun q hq => hy ▸ (hle.trans p2).y q hq)
    exact hk χ _ H n w g h1 h2 (y0 h3 hl hx v2) hk'
  exact ⟨hic, fun w hi => (key hi.wf).2 w hi⟩
end
theorem kZ (R : Rd) : (cmF R).all eu = true := rfl
end Go.Proofs.Ytdfeigkooeeeaaa
namespace Go.Proofs.Ytdfeigkooeeeaaa
open Go Go.RowKit
def Al : List Nat := [82, 69, 84, 69, 78, 84, 73, 79, 78]
def y4 : List Nat := [67, 72, 85, 78, 75, 95, 83, 73, 90, 69]
def Am : List Nat := [68, 85, 80, 76, 73, 67, 65, 84, 69, 95, 80, 79, 76, 73, 67, 89]
def Da : List Nat := [76, 65, 66, 69, 76, 83]
def Db : List Nat := [79, 78, 95, 68, 85, 80, 76, 73, 67, 65, 84, 69]
def Dc : List Nat := [84, 73, 77, 69, 83, 84, 65, 77, 80]
def wX : List Nat := [65, 71, 71, 82, 69, 71, 65, 84, 73, 79, 78]
def Dd : List Nat := [70, 73, 76, 84, 69, 82, 95, 66, 89, 95, 84, 83]
def De : List Nat := [70, 73, 76, 84, 69, 82, 95, 66, 89, 95, 86, 65, 76, 85, 69]
def Df : List Nat := [67, 79, 85, 78, 84]
def Dg : List Nat := [65, 76, 73, 71, 78]
def Dh : List Nat := [69, 77, 80, 84, 89]
def y5 : List Nat := [71, 82, 79, 85, 80, 66, 89]
def An : List Nat := [82, 69, 68, 85, 67, 69]
def Ao : List Nat := [70, 73, 76, 84, 69, 82]
def muR (R : Rd) : Nat := 2 * R.ws.length + (if R.e = 0 then 1 else 0)
def jE (c : Rd → Bool) (f : Rd → Rd) : Nat → Rd → Rd
  | 0, R => R
  | k + 1, R => if c R = true then jE c f k (f R) else R
def wh (c : Rd → Bool) (f : Rd → Rd) (R : Rd) : Rd := jE c f (muR R) R
theorem pS {c : Rd → Bool} {f : Rd → Rd} (hf : ∀ R, c R = true → muR (f R) < muR R) : ∀ (k l : Nat) (R : Rd), muR R ≤ k → muR R ≤ l → jE c f k R = jE c f l R
  | 0, 0, R, _, _ => rfl
  | 0, l + 1, R, h, _ => by
    have : ¬ c R = true := fun q => by have := hf R q; omega
    unfold jE; rw [if_neg this]
  | k + 1, 0, R, _, h => by
    have : ¬ c R = true := fun q => by have := hf R q; omega
    unfold jE; rw [if_neg this]
  | k + 1, l + 1, R, h1, h2 => by
    unfold jE
    split
    · rename_i q
      have := hf R q
      exact pS hf k l (f R) (by omega) (by omega)
    · rfl
theorem k7 {c : Rd → Bool} {f : Rd → Rd} (hf : ∀ R, c R = true → muR (f R) < muR R) {R : Rd} (h : c R = true) : wh c f (f R) = wh c f R := by
  have h1 := hf R h
  obtain ⟨k, hk⟩ : ∃ k, muR R = k + 1 := ⟨muR R - 1, by omega⟩
  unfold wh
  rw [hk]
  conv => rhs; unfold jE
  rw [if_pos h]
  exact pS hf _ _ _ (Nat.le_refl _) (by omega)
theorem cP {c : Rd → Bool} {f : Rd → Rd} {R : Rd} (h : ¬ c R = true) : wh c f R = R := by
  unfold wh
  generalize muR R = k
  cases k with
  | zero => rfl
  | succ k => unfold jE; rw [if_neg h]
theorem lX {c : Rd → Bool} {f : Rd → Rd} (P : Rd → Prop) (hP : ∀ R, c R = true → P R → P (f R)) (R : Rd) (h : P R) : P (wh c f R) := by
  unfold wh
  generalize muR R = k
  induction k generalizing R with
  | zero => exact h
  | succ k ih =>
    unfold jE
    split
    · rename_i q; exact ih _ (hP R q h)
    · exact h
def stF (f : Rd → Int × Rd) (g : Int → Rd → Rd) (R : Rd) : Rd := g (f R).1 (f R).2
def vq (z : Int) (R : Rd) : Rd := { R with fr := z }
def y6 (z : Int) (R : Rd) : Rd := { R with to := z }
def pT (z : Int) (R : Rd) : Rd := { R with kd := z }
def gF (z : Int) (R : Rd) : Rd := { R with bk := z }
def y7 (z : Int) (R : Rd) : Rd := { R with al := z }
def uG (z : Int) (R : Rd) : Rd := { R with ret := z }
def uH (z : Int) (R : Rd) : Rd := { R with siz := z }
def lY (z : Int) (R : Rd) : Rd := { R with pol := z }
def y8 (z : Int) (R : Rd) : Rd := { R with rd := z }
def vr (z : Int) (R : Rd) : Rd := { R with q := { R.q with f := z } }
def Di (z : Int) (R : Rd) : Rd := { R with q := { R.q with t := z } }
def y9 (z : Int) (R : Rd) : Rd := { R with q := { R.q with count := z } }
def pU (z : Int) (R : Rd) : Rd := { R with q := { R.q with kind := z } }
def vt (z : Int) (R : Rd) : Rd := { R with q := { R.q with size := z } }
def za (z : Int) (R : Rd) : Rd := { R with q := { R.q with align := z } }
def pV (z : Int) (R : Rd) : Rd := { R with q := { R.q with sN := true, low := z } }
def zb (z : Int) (R : Rd) : Rd := { R with q := { R.q with high := z } }
noncomputable def je (R : Rd) : Rd := aK (aK R)
noncomputable def wY (R : Rd) : Rd := stF (ag an) y6 (stF (ag an) vq (aK R))
noncomputable def mK (R : Rd) : Rd := if atR Dc (cZ (aK R)) = true then bJ (aa (cZ (aK R))).2 else { cZ (aK R) with ts := [-1] }
noncomputable def k8 (R : Rd) : Rd := wh aC aK (aK R)
noncomputable def pW (R : Rd) : Rd := stF (ag an) gF (stF (ag cf) pT (dh wX (je R)).2)
noncomputable def gG (R : Rd) : Rd := if aC (pW R) = true then stF (ag an) y7 (pW R) else pW R
noncomputable def lZ (R : Rd) : Rd := if atR Db (bL R) = true then stF (ag cI) lY (aa (bL R)).2 else bL R
def l7 (R : Rd) : Rd := { (aa (aa R).2).2 with ls := (aa (aa R).2).2.ls ++ [((aa R).1, (aa (aa R).2).1)] }
noncomputable def mL (R : Rd) : Rd := wh aC l7 { R with lbd := true }
noncomputable def iv (R : Rd) : Rd :=
  if R.ret = -1 ∧ atR Al R = true then stF kf uG (aa R).2
  else if R.nm = 1 ∧ R.siz = -1 ∧ atR y4 R = true then stF kf uH (aa R).2
  else if R.pol = 0 ∧ atR Am R = true then stF (ag cI) lY (aa R).2
  else if atR Da R = true then mL (aa R).2 else cr R 17
noncomputable def oz (R : Rd) : Rd := wh aC iv (aK R)
def gH (R : Rd) : Rd := { (aa R).2 with fs := (aa R).2.fs ++ [(aa R).1] }
noncomputable def fM (R : Rd) : Bool := aC R && !atR y5 R
noncomputable def jy (R : Rd) : Rd := wh fM gH (gH R)
noncomputable def jF (R : Rd) : Rd := jy (dh Ao R).2
def mM (z : Int) (R : Rd) : Rd := { R with q := { R.q with times := R.q.times ++ [z] } }
def oA (R : Rd) : Rd := mM (an (R.ws.headD [])).1 (aa R).2
def kh (R : Rd) : Bool := aC R && decide ((an (R.ws.headD [])).2 = 0)
noncomputable def mN (R : Rd) : Rd := stF (orR [43] 1099511627776) Di (stF (orR [45] 0) vr R)
noncomputable def l8 (R : Rd) : Rd := if atR Dd R = true then wh kh oA (stF (ag an) mM (aa R).2) else R
noncomputable def tc (R : Rd) : Rd := if atR De R = true then stF (ag an) zb (stF (ag an) pV (aa R).2) else R
noncomputable def td (R : Rd) : Rd := if atR Df R = true then stF (ag an) y9 (aa R).2 else R
noncomputable def zc (R : Rd) : Rd := stF (ag an) vt (stF (ag cf) pU (aa R).2)
noncomputable def k9 (R : Rd) : Rd := if atR Dg R = true then stF (ag an) za (aa R).2 else R
noncomputable def te (R : Rd) : Rd := if atR Dh R = true then { (aa R).2 with q := { (aa R).2.q with empty := true } } else { R with q := { R.q with empty := false } }
noncomputable def wZ (R : Rd) : Rd := if atR wX R = true then te (k9 (zc R)) else R
noncomputable def la (R : Rd) : Rd := wZ (td (tc (l8 (mN R))))
noncomputable def uI (R : Rd) : Rd := la (aK R)
noncomputable def uJ (R : Rd) : Rd := jF (la R)
noncomputable def Ca (R : Rd) : Rd := { (aa (aa R).2).2 with gr := (aa (aa R).2).1 }
noncomputable def oC (R : Rd) : Rd := if atR y5 (uJ R) = true then stF (ag cf) y8 (dh An (Ca (uJ R))).2 else uJ R
structure Bz (B : Nat) (R : Rd) : Prop where
  ok : WOk R
  ks : R.ks.length + R.ws.length ≤ B
  ts : R.ts.length + R.ws.length ≤ B
  vs : R.vs.length + R.ws.length ≤ B
  ls : R.ls.length + R.ws.length ≤ B
  q : R.q.times.length + R.ws.length ≤ B
  fs : R.fs.length + R.ws.length ≤ B
theorem Bz.mono {B C : Nat} {R : Rd} (h : Bz B R) (hc : B ≤ C) : Bz C R := ⟨h.ok, Nat.le_trans h.ks hc, Nat.le_trans h.ts hc, Nat.le_trans h.vs hc, Nat.le_trans h.ls hc, Nat.le_trans h.q hc, Nat.le_trans h.fs hc⟩
theorem Bz.same {B : Nat} {R S : Rd} (h : Bz B R) (hr : dS R S) (hw : S.ws.length ≤ R.ws.length) (hk : WOk S) : Bz B S := by
  obtain ⟨h0, h1, h2, h3, h4, h5, h6⟩ := h
  refine ⟨hk, ?_, ?_, ?_, ?_, ?_, ?_⟩
  · rw [hr.ks]; omega
  · rw [hr.ts]; omega
  · rw [hr.vs]; omega
  · rw [hr.ls]; omega
  · rw [hr.q]; omega
  · rw [hr.fs]; omega
theorem Bz.next {B : Nat} {R : Rd} (h : Bz B R) : Bz B (aa R).2 := h.same (bg R) (dw R).1 h.ok.next.2
theorem Bz.told {B : Nat} {R : Rd} (h : Bz B R) (g : List Nat → Int × Int) : Bz B (ag g R).2 := h.same (dG g R) (kY g R) (h.ok.told g)
theorem Bz.orW {B : Nat} {R : Rd} (h : Bz B R) (w : List Nat) (z : Int) : Bz B (orR w z R).2 := h.same (ju w z R) (Bf w z R) (h.ok.or w z)
theorem Bz.fail {B : Nat} {R : Rd} (h : Bz B R) (e : Int) : Bz B (cr R e) := h.same (lV R e) (by rw [kW]; exact Nat.le_refl _) (h.ok.fail e)
theorem Bz.pos {B : Nat} {R : Rd} (h : Bz B R) : Bz B (kf R).2 := by
  unfold kf
  dsimp only
  split
  · exact (h.told an).fail 16
  · exact h.told an
theorem Bz.w7 {B : Nat} {R : Rd} (h : Bz B R) (w : List Nat) : Bz B (dh w R).2 := by
  unfold dh
  dsimp only
  split
  · exact h.next
  · exact h.next.fail 17
theorem Bz.key {B : Nat} {R : Rd} (h : Bz B R) : Bz (B + 1) (aK R) := by
  have q := h.next.mono (Nat.le_succ B)
  have k := h.next.ks
  exact ⟨q.ok, by show ((aa R).2.ks ++ [(aa R).1]).length + (aa R).2.ws.length ≤ _; rw [List.length_append, List.length_singleton]; omega, q.ts, q.vs, q.ls, q.q, q.fs⟩
theorem Bz.time {B : Nat} {R : Rd} (h : Bz B R) : Bz (B + 1) (bJ R) := by
  have q := (h.orW [42] (-1)).mono (Nat.le_succ B)
  have k := (h.orW [42] (-1)).ts
  exact ⟨q.ok, q.ks, by show ((orR [42] (-1) R).2.ts ++ [(orR [42] (-1) R).1]).length + (orR [42] (-1) R).2.ws.length ≤ _; rw [List.length_append, List.length_singleton]; omega, q.vs, q.ls, q.q, q.fs⟩
theorem Bz.val {B : Nat} {R : Rd} (h : Bz B R) : Bz (B + 1) (cZ R) := by
  have q := (h.told an).mono (Nat.le_succ B)
  have k := (h.told an).vs
  exact ⟨q.ok, q.ks, q.ts, by show ((ag an R).2.vs ++ [(ag an R).1]).length + (ag an R).2.ws.length ≤ _; rw [List.length_append, List.length_singleton]; omega, q.ls, q.q, q.fs⟩
theorem Bz.Dj {B : Nat} {R : Rd} (h : Bz B R) (hm : aC R = true) : Bz B (aK R) := by
  have q := h.next
  have w := (dw R).2 hm
  exact ⟨q.ok, by show ((aa R).2.ks ++ [(aa R).1]).length + (aa R).2.ws.length ≤ _; rw [List.length_append, List.length_singleton, (bg R).ks]; have := h.ks; omega, q.ts, q.vs, q.ls, q.q, q.fs⟩
theorem Bz.mJ {B : Nat} {R : Rd} (h : Bz B R) : Bz (B + 3) (bL R) := h.key.time.val
theorem Bz.lb1 {B : Nat} {R : Rd} (h : Bz B R) (hm : aC R = true) : Bz B (l7 R) := by
  have q := h.next.next
  have w := (dw R).2 hm
  have w2 := (dw (aa R).2).1
  exact ⟨q.ok, q.ks, q.ts, q.vs, by show ((aa (aa R).2).2.ls ++ [_]).length + (aa (aa R).2).2.ws.length ≤ _; rw [List.length_append, List.length_singleton, (bg _).ls, (bg R).ls]; have := h.ls; omega, q.q, q.fs⟩
theorem Bz.fs1 {B : Nat} {R : Rd} (h : Bz B R) : Bz (B + 1) (gH R) := by
  have q := h.next.mono (Nat.le_succ B)
  have k := h.next.fs
  exact ⟨q.ok, q.ks, q.ts, q.vs, q.ls, q.q, by show ((aa R).2.fs ++ [(aa R).1]).length + (aa R).2.ws.length ≤ _; rw [List.length_append, List.length_singleton]; omega⟩
theorem Bz.zd {B : Nat} {R : Rd} (h : Bz B R) (hm : aC R = true) : Bz B (gH R) := by
  have q := h.next
  have w := (dw R).2 hm
  exact ⟨q.ok, q.ks, q.ts, q.vs, q.ls, q.q, by show ((aa R).2.fs ++ [(aa R).1]).length + (aa R).2.ws.length ≤ _; rw [List.length_append, List.length_singleton, (bg R).fs]; have := h.fs; omega⟩
theorem Bz.ptT {B : Nat} {R : Rd} (h : Bz B R) (z : Int) : Bz (B + 1) (mM z R) := by
  have q := h.mono (Nat.le_succ B)
  exact ⟨q.ok, q.ks, q.ts, q.vs, q.ls, by show (R.q.times ++ [z]).length + R.ws.length ≤ _; rw [List.length_append, List.length_singleton]; have := h.q; omega, q.fs⟩
theorem Bz.tm1 {B : Nat} {R : Rd} (h : Bz B R) (hm : aC R = true) : Bz B (oA R) := by
  have q := h.next
  have w := (dw R).2 hm
  exact ⟨q.ok, q.ks, q.ts, q.vs, q.ls, by show ((aa R).2.q.times ++ [_]).length + (aa R).2.ws.length ≤ _; rw [List.length_append, List.length_singleton, (bg R).q]; have := h.q; omega, q.fs⟩
theorem lb {R : Rd} (h : aC R = true) : muR (aa R).2 + 1 < muR R := by
  have h1 := (dw R).2 h
  have h2 : R.e = 0 := by unfold aC at h; simp at h; exact h.1
  have h3 : (aa R).2.e = 0 := by unfold aa; rw [if_pos h]; exact h2
  unfold muR
  rw [if_pos h2, if_pos h3]
  omega
theorem ze {R S : Rd} (hw : S.ws.length ≤ R.ws.length) (he : S.e = 0 → R.e = 0) : muR S ≤ muR R := by
  unfold muR
  by_cases h : S.e = 0
  · rw [if_pos h, if_pos (he h)]; omega
  · rw [if_neg h]; split <;> omega
theorem uK {R : Rd} {e : Int} (h : (cr R e).e = 0) : R.e = 0 := by
  unfold cr at h
  split at h
  · assumption
  · exact h
theorem uL {R : Rd} (h : (aa R).2.e = 0) : R.e = 0 := by
  unfold aa at h
  split at h
  · exact h
  · exact uK h
theorem zf {g : List Nat → Int × Int} {R : Rd} (h : (ag g R).2.e = 0) : R.e = 0 := by
  unfold ag at h
  dsimp only at h
  split at h
  · exact uL h
  · exact uL (uK h)
theorem vu (g : List Nat → Int × Int) (R : Rd) : muR (ag g R).2 ≤ muR R := ze (kY g R) zf
theorem zg (R : Rd) : muR (aa R).2 ≤ muR R := ze (dw R).1 uL
theorem zh (R : Rd) : muR (kf R).2 ≤ muR R := by
  unfold kf
  dsimp only
  split
  · exact ze (by rw [kW]; exact kY _ _) fun h => zf (uK h)
  · exact vu _ _
theorem zi {R : Rd} (h : aC R = true) : muR (aK R) < muR R := by have := lb h; exact Nat.lt_of_succ_lt this
theorem fX {R : Rd} (h : fM R = true) : muR (gH R) < muR R := by
  have := lb (show aC R = true by unfold fM at h; simp at h; exact h.1)
  exact Nat.lt_of_succ_lt this
theorem vw {R : Rd} (h : kh R = true) : muR (oA R) < muR R := by
  have := lb (show aC R = true by unfold kh at h; simp at h; exact h.1)
  exact Nat.lt_of_succ_lt this
theorem ld {R : Rd} (h : aC R = true) : muR (l7 R) < muR R := by
  have h1 := lb h
  have h2 := zg (aa R).2
  have h3 : muR (l7 R) = muR (aa (aa R).2).2 := rfl
  omega
theorem Dk {c : Rd → Bool} {f : Rd → Rd} (hf : ∀ R, c R = true → muR (f R) < muR R) (R : Rd) : muR (wh c f R) ≤ muR R :=
  lX (fun S => muR S ≤ muR R) (fun S h q => Nat.le_trans (Nat.le_of_lt (hf S h)) q) R (Nat.le_refl _)
theorem vx {R : Rd} (h : aC R = true) : muR (iv R) < muR R := by
  have h1 := lb h
  have h2 : muR (cr R 17) < muR R := by
    have h0 : R.e = 0 := by unfold aC at h; simp at h; exact h.1
    unfold cr
    rw [if_pos h0]
    unfold muR
    rw [if_pos h0, if_neg (by decide : ¬ (17 : Int) = 0)]
    show 2 * R.ws.length + 0 < _
    omega
  unfold iv
  split
  · exact Nat.lt_of_le_of_lt (zh (aa R).2) (by omega)
  · split
    · exact Nat.lt_of_le_of_lt (zh (aa R).2) (by omega)
    · split
      · exact Nat.lt_of_le_of_lt (vu cI (aa R).2) (by omega)
      · split
        · have h4 : muR (mL (aa R).2) ≤ muR (aa R).2 := Dk (fun _ => ld) { (aa R).2 with lbd := true }
          omega
        · exact h2
theorem Bz.lab {B : Nat} {R : Rd} (h : Bz B R) : Bz B (mL R) := lX (Bz B) (fun S hm q => q.lb1 hm) { R with lbd := true } ⟨h.ok, h.ks, h.ts, h.vs, h.ls, h.q, h.fs⟩
theorem Bz.set {B : Nat} {R : Rd} (h : Bz B R) (S : Rd) (hw : S.ws = R.ws := by rfl) (h1 : S.ks = R.ks := by rfl) (h2 : S.ts = R.ts := by rfl) (h3 : S.vs = R.vs := by rfl) (h4 : S.ls = R.ls := by rfl) (h5 : S.q.times = R.q.times := by rfl) (h6 : S.fs = R.fs := by rfl) : Bz B S :=
  ⟨fun w q => h.ok w (hw ▸ q), by rw [h1, hw]; exact h.ks, by rw [h2, hw]; exact h.ts, by rw [h3, hw]; exact h.vs, by rw [h4, hw]; exact h.ls, by rw [h5, hw]; exact h.q, by rw [h6, hw]; exact h.fs⟩
theorem Bz.cs1 {B : Nat} {R : Rd} (h : Bz B R) : Bz B (iv R) := by
  unfold iv
  split
  · exact h.next.pos.set _
  · split
    · exact h.next.pos.set _
    · split
      · exact (h.next.told cI).set _
      · split
        · exact h.next.lab
        · exact h.fail 17
theorem Bz.keys {B : Nat} {R : Rd} (h : Bz B R) : Bz (B + 2) (je R) := h.key.key
theorem Bz.fil {B : Nat} {R : Rd} (h : Bz B R) : Bz (B + 1) (jy R) := lX (Bz (B + 1)) (fun S hm q => q.zd (by unfold fM at hm; simp at hm; exact hm.1)) (gH R) h.fs1
theorem Bz.o1 {B : Nat} {R : Rd} (h : Bz B R) : Bz B (mN R) := (((h.orW [45] 0).set (stF (orR [45] 0) vr R)).orW [43] 1099511627776).set _
theorem Bz.o2 {B : Nat} {R : Rd} (h : Bz B R) : Bz (B + 1) (l8 R) := by
  unfold l8
  split
  · exact lX (Bz (B + 1)) (fun S hm q => q.tm1 (by unfold kh at hm; simp at hm; exact hm.1)) _ ((h.next.told an).ptT _)
  · exact h.mono (Nat.le_succ B)
theorem Bz.o3 {B : Nat} {R : Rd} (h : Bz B R) : Bz B (tc R) := by
  unfold tc
  split
  · exact (((h.next.told an).set (stF (ag an) pV (aa R).2)).told an).set _
  · exact h
theorem Bz.o4 {B : Nat} {R : Rd} (h : Bz B R) : Bz B (td R) := by
  unfold td
  split
  · exact (h.next.told an).set _
  · exact h
theorem Bz.o5a {B : Nat} {R : Rd} (h : Bz B R) : Bz B (zc R) := (((h.next.told cf).set (stF (ag cf) pU (aa R).2)).told an).set _
theorem Bz.o5b {B : Nat} {R : Rd} (h : Bz B R) : Bz B (k9 R) := by
  unfold k9
  split
  · exact (h.next.told an).set _
  · exact h
theorem Bz.o5c {B : Nat} {R : Rd} (h : Bz B R) : Bz B (te R) := by
  unfold te
  split
  · exact h.next.set _
  · exact h.set _
theorem Bz.o5 {B : Nat} {R : Rd} (h : Bz B R) : Bz B (wZ R) := by
  unfold wZ
  split
  · exact h.o5a.o5b.o5c
  · exact h
theorem Bz.opt {B : Nat} {R : Rd} (h : Bz B R) : Bz (B + 1) (la R) := h.o1.o2.o3.o4.o5
theorem Bz.Cb {B : Nat} {R : Rd} (h : Bz B R) : Bz (B + 1) (jF R) := (h.w7 Ao).fil
end Go.Proofs.Ytdfeigkooeeeaaa
namespace Go.Proofs.Ytdfeigkooeeeaaa
open Go Go.RowKit
def fY (ok : Rd → Prop) (A : List AV → Prop) (F : Rd → AV × Rd) (args : List AV) (H : AH) (n : Nat) (κ : PK) : Prop := match args with
  | x :: ar => ∃ (r k t v l q f : Nat) (R : Rd) (u : AV) (R' : Rd), x = .ptr r 0 ∧ A ar ∧ uv H n r k t v l q f R ∧ ok R ∧ F R = (u, R') ∧ κ u (uw H r k t v l q f R') n
  | _ => False
theorem aD.rdE {f : FuncId} {ok : Rd → Prop} {A : List AV → Prop} {F : Rd → AV × Rd} (h : aD f (bo ok A F)) : aD f (fY ok A F) := fun args H n κ hs => h args H n κ (by
  unfold fY at hs
  unfold bo
  split at hs
  · obtain ⟨r, k, t, v, l, q, f, R, u, R', h1, h2, h3, h4, h5, h6⟩ := hs
    exact ⟨r, k, t, v, l, q, f, R, h1, h2, h3, h4, by rw [h5]; exact h6⟩
  · exact hs.elim)
def zj (args : List AV) (H : AH) (n : Nat) (κ : PK) : Prop := ∃ w, fY WOk (s0 w) (gp w) args H n κ
theorem Cc : aD 62 zj := fun args H n κ ⟨w, h⟩ => (C3 w).rdE args H n κ h
def vy (args : List AV) (H : AH) (n : Nat) (κ : PK) : Prop := ∃ w, bo WOk (s0 w) (dh w) args H n κ
theorem Ap : aD 71 vy := fun args H n κ ⟨w, h⟩ => yT w args H n κ h
def Bh (args : List AV) (H : AH) (n : Nat) (κ : PK) : Prop := ∃ w z, bo WOk (orA w z) (orV w z) args H n κ
theorem Dl : aD 77 Bh := fun args H n κ ⟨w, z, h⟩ => C4 w z args H n κ h
theorem hZ {w : List Nat} {R : Rd} (h : atR w R = true) : gp w R = (.sb true, (aa R).2) := by unfold gp; rw [if_pos h]
theorem ki {w : List Nat} {R : Rd} (h : ¬ atR w R = true) : gp w R = (.sb false, R) := by unfold gp; rw [if_neg h]
theorem aZ {F : Rd → Rd} {S : Rd} {R : Rd} (e : F S = R) {u : AV} {H : AH} {n : Nat} (j1 j2 j3 j4 j5 j6 : Nat) {l : List AV} (hv : aR H 13 (rdN j1 j2 j3 j4 j5 j6) u (.tup [])) (hd : [0, j1, j2, j3, j4, j5, j6].Nodup) (h0 : PM.get H 0 = some (.cells l true)) (hm : l.map mk = rdC j1 j2 j3 j4 j5 j6 R) (r1 : PM.get H j1 = some (.cells (aq R.ks) true)) (r2 : PM.get H j2 = some (.cells (ints R.ts) true)) (r3 : PM.get H j3 = some (.cells (ints R.vs) true)) (r4 : PM.get H j4 = some (.cells (ba R.ls) true)) (r5 : PM.get H j5 = some (.cells (ints R.q.times) true)) (r6 : PM.get H j6 = some (.cells (aq R.fs) true)) :
    ∃ v2 H2 m, Cov 7 (mkE [(0, u)]) H n (mkE [(0, v2)], H2, m) ∧ RdP (az F S).1 (az F S).2 v2 H2 m := by
  subst e
  exact fj j1 j2 j3 j4 j5 j6 hv hd h0 hm r1 (aj _) r2 (ae _) r3 (ae _) r4 (aN _) r5 (ae _) r6 (aj _)
theorem jf {σ : AE} {H : AH} {n : Nat} {R : Rd} (j1 j2 j3 j4 j5 j6 : Nat) {l : List AV} (he : aA (pa 0) σ = .ptr 0 0) (hd : [0, j1, j2, j3, j4, j5, j6].Nodup) (h0 : PM.get H 0 = some (.cells l true)) (hm : l.map mk = rdC j1 j2 j3 j4 j5 j6 R) (r1 : PM.get H j1 = some (.cells (aq R.ks) true)) (r2 : PM.get H j2 = some (.cells (ints R.ts) true)) (r3 : PM.get H j3 = some (.cells (ints R.vs) true)) (r4 : PM.get H j4 = some (.cells (ba R.ls) true)) (r5 : PM.get H j5 = some (.cells (ints R.q.times) true)) (r6 : PM.get H j6 = some (.cells (aq R.fs) true)) : Cov 7 σ H n ((rdS R).1, (rdS R).2, 13) :=
  eW j1 j2 j3 j4 j5 j6 he hd h0 hm r1 (aj _) r2 (ae _) r3 (ae _) r4 (aN _) r5 (ae _) r6 (aj _)
theorem Bz.kk {B : Nat} {R : Rd} (h : Bz B R) (hb : B ≤ 1000000 := by decide) : R.ks.length ≤ 1000000 := by have := h.ks; omega
theorem Bz.tt {B : Nat} {R : Rd} (h : Bz B R) (hb : B ≤ 1000000 := by decide) : WOk R ∧ R.ts.length ≤ 1000000 := ⟨h.ok, by have := h.ts; omega⟩
theorem Bz.vv {B : Nat} {R : Rd} (h : Bz B R) (hb : B ≤ 1000000 := by decide) : WOk R ∧ R.vs.length ≤ 1000000 := ⟨h.ok, by have := h.vs; omega⟩
theorem Bz.bd {B : Nat} {R : Rd} (h : Bz B R) (hb : B ≤ 900000 := by decide) : Bd 900000 R := ⟨h.ok, by have := h.ks; omega, by have := h.ts; omega, by have := h.vs; omega⟩
noncomputable def atV (w : List Nat) (R : Rd) : AV × Rd := (.sb (atR w R), R)
theorem Aq (w : List Nat) (R : Rd) (hok : WOk R) : post (ao KHs 5 75) (.ptr 0 0 :: [.ss w]) (mkH (c6 (rdO R) 0)) 7 (RdK (atV w R).1 (atV w R).2) := by
  have leaf : ∀ {v : AV} {u : AV} {H' : AH} {n' : Nat} {l : List AV}, AV.sb (atR w R) = v → mk u = v → PM.get H' 0 = some (.cells l true) → l.map mk = rdC 1 2 3 4 5 6 R → PM.get H' 1 = some (.cells (aq R.ks) true) → PM.get H' 2 = some (.cells (ints R.ts) true) → PM.get H' 3 = some (.cells (ints R.vs) true) → PM.get H' 4 = some (.cells (ba R.ls) true) → PM.get H' 5 = some (.cells (ints R.q.times) true) → PM.get H' 6 = some (.cells (aq R.fs) true) → ∃ v2 H2 n2, VTo u v2 ∧ bX H' n' H2 n2 ∧ RdK (atV w R).1 (atV w R).2 v2 H2 n2 := fun e hu h0 hm r1 r2 r3 r4 r5 r6 => by
    unfold atV; rw [e]; exact eN (VTo.mkv hu) h0 hm r1 r2 r3 r4 r5 r6
  show ao KHs 5 75 _ _ _ _
  conv => whnf
  refine ak.dec (fun h0 => ?_) (fun h0 => ?_)
  · conv => whnf
    refine ak.dec (fun hp => ?_) (fun hp => ?_)
    · have hp : 0 < R.ws.length := by exact Int.ofNat_lt.1 hp
      have hw := hok _ (List.getElem_mem hp)
      rw [m0 hp] at hw
      conv => whnf
      refine Idx.mk 0 rfl hp ?_
      conv => whnf
      refine bj (eK hp) ?_
      conv => whnf
      refine ⟨R.ws.headD [], rfl, hw.1, hw.2, ?_⟩
      have e : AV.sb (atR w R) = .sb (aO (upF (R.ws.headD [])) w) := by unfold atR; rw [cx h0 hp]; rfl
      conv => whnf
      exact leaf e rfl rfl rfl rfl rfl rfl rfl rfl rfl
    · have hp : ¬ 0 < R.ws.length := fun q => hp (by exact Int.ofNat_lt.2 q)
      have e : AV.sb (atR w R) = .sb false := by unfold atR; rw [show aC R = false from Bool.eq_false_iff.2 (cz hp)]; rfl
      have hd : AV.sb (decide ((0 : Int) < (R.ws.length : Int))) = .sb false := congrArg AV.sb (decide_eq_false (fun q : (0 : Int) < (R.ws.length : Int) => hp (by omega)))
      conv => whnf
      exact leaf e (by first | rfl | exact hd) rfl rfl rfl rfl rfl rfl rfl rfl
  · have e : AV.sb (atR w R) = .sb false := by unfold atR; rw [show aC R = false from Bool.eq_false_iff.2 (cy h0)]; rfl
    conv => whnf
    exact leaf e rfl rfl rfl rfl rfl rfl rfl rfl rfl
theorem DQ (w : List Nat) : aD 75 (bo WOk (s0 w) (atV w)) := cX (au uy 5 _) (by kernel_rfl) (rl w) (fun _ => rfl) (fun R => ⟨rfl, fun _ => rfl⟩) fun R h => Aq w R h
def Bi (args : List AV) (H : AH) (n : Nat) (κ : PK) : Prop := ∃ w, fY WOk (s0 w) (atV w) args H n κ
theorem Dm : aD 75 Bi := fun args H n κ ⟨w, h⟩ => (DQ w).rdE args H n κ h
theorem zk {w : List Nat} {R : Rd} (h : atR w R = true) : atV w R = (.sb true, R) := by unfold atV; rw [h]
theorem Bj {w : List Nat} {R : Rd} (h : ¬ atR w R = true) : atV w R = (.sb false, R) := by unfold atV; rw [Bool.eq_false_iff.2 h]
theorem l9 {R : Rd} (hl : R.fs.length ≤ 1000000) : aP (aq (aa R).2.fs) 0 (R.fs.length * 1) = some (aq (aa R).2.fs) ∧ aP (aq (aa R).2.fs) 0 ((aa R).2.fs.length * 1) = some (aq (aa R).2.fs) ∧ (R.fs.length + 1) * 16 ≤ 140737488355328 ∧ ((aa R).2.fs.length + 1) * 16 ≤ 140737488355328 ∧
    (∀ a b c d e f, lU a b c d e f (aa R).2.ks.length (aa R).2.ts.length (aa R).2.vs.length (aa R).2.ls.length (aa R).2.q.times.length (R.fs.length + 1) (gH R) = rdC a b c d e f (gH R)) ∧
    (∀ a b c d e f, lU a b c d e f (aa R).2.ks.length (aa R).2.ts.length (aa R).2.vs.length (aa R).2.ls.length (aa R).2.q.times.length ((aa R).2.fs.length + 1) (gH R) = rdC a b c d e f (gH R)) ∧
    (∀ a, mk a = .ss (aa R).1 → (aq (aa R).2.fs ++ [a]).map mk = aq (gH R).fs) := by
  have hk : (aa R).2.fs = R.fs := (bg R).fs
  have h1 : (gH R).fs.length = R.fs.length + 1 := by show ((aa R).2.fs ++ [_]).length = _; rw [hk]; simp
  refine ⟨by rw [hk]; exact hU _, hU _, by omega, by rw [hk]; omega, fun a b c d e f => by rw [← h1]; rfl, fun a b c d e f => by rw [hk, ← h1]; rfl, fun a ha => ?_⟩
  rw [List.map_append, aj, List.map_cons, List.map_nil, ha]
  exact pN _ _
theorem Dn : RTy 31 31 2 32 := ⟨_, _, _, rfl, rfl, (fun q h => by cases h), rfl, rfl, rfl, rfl, by decide, by decide⟩
theorem oD (L : List (List Nat × List Nat)) : aP (ba L) 0 (L.length * 2) = some (ba L) := cT (by rw [mz])
theorem w8 {R : Rd} (hl : R.ls.length ≤ 1000000) : aP (ba (aa (aa R).2).2.ls) 0 ((aa R).2.ls.length * 2) = some (ba (aa (aa R).2).2.ls) ∧ aP (ba (aa (aa R).2).2.ls) 0 ((aa (aa R).2).2.ls.length * 2) = some (ba (aa (aa R).2).2.ls) ∧ ((aa R).2.ls.length + 1) * 32 ≤ 140737488355328 ∧ ((aa (aa R).2).2.ls.length + 1) * 32 ≤ 140737488355328 ∧
    (∀ a b c d e f, lU a b c d e f (aa (aa R).2).2.ks.length (aa (aa R).2).2.ts.length (aa (aa R).2).2.vs.length ((aa R).2.ls.length + 1) (aa (aa R).2).2.q.times.length (aa (aa R).2).2.fs.length (l7 R) = rdC a b c d e f (l7 R)) ∧
    (∀ a b c d e f, lU a b c d e f (aa (aa R).2).2.ks.length (aa (aa R).2).2.ts.length (aa (aa R).2).2.vs.length ((aa (aa R).2).2.ls.length + 1) (aa (aa R).2).2.q.times.length (aa (aa R).2).2.fs.length (l7 R) = rdC a b c d e f (l7 R)) ∧
    (∀ a b, mk a = .ss (aa R).1 → mk b = .ss (aa (aa R).2).1 → (ba (aa (aa R).2).2.ls ++ [a, b]).map mk = ba (l7 R).ls) := by
  have hk0 : (aa R).2.ls = R.ls := (bg R).ls
  have hk : (aa (aa R).2).2.ls = (aa R).2.ls := (bg _).ls
  have h1 : (l7 R).ls.length = R.ls.length + 1 := by show ((aa (aa R).2).2.ls ++ [_]).length = _; rw [hk, hk0]; simp
  refine ⟨by rw [hk]; exact oD _, oD _, by rw [hk0]; omega, by rw [hk, hk0]; omega, fun a b c d e f => by rw [hk0, ← h1]; rfl, fun a b c d e f => by rw [hk, hk0, ← h1]; rfl, fun a b ha hb => ?_⟩
  rw [List.map_append, aN, List.map_cons, List.map_cons, List.map_nil, ha, hb]
  exact wM _ (_, _)
noncomputable def KB : FuncId → EP := (aB 73 (bo (fun _ => True) noA jc) (aB 70 (bo WOk noA (aG an)) (aB 63 (bo WOk noA lT) (aB 64 rm (aB 77 Bh (aB 62 zj (aB 75 Bi (aB 71 vy (aB 53 (aX (fun R => R.ks.length ≤ 1000000) noA (az aK)) (aB 69 (aX (fun R => WOk R ∧ R.ts.length ≤ 1000000) noA (az bJ)) (aB 68 (aX (fun R => WOk R ∧ R.vs.length ≤ 1000000) noA (az cZ)) (aB 67 (aX (Bd 900000) noA (az bL)) evP))))))))))))
theorem jg : bZ KB := (ah (ah (ah (ah (ah (ah (ah (ah (ah (ah (ah (ah bt s8) yY) vp) rp) Ap) Dm) Cc) Dl) yU) uA) gC) kX)
theorem uM (R : Rd) (hok : Bz 890000 R) : di (ao KB 4 52) (.ptr 0 0 :: []) (mkH (c6 (rdO R) 0)) 7 (RdP (az je R).1 (az je R).2) := by
  show ao KB 4 52 _ _ _ _
  conv => whnf
  refine ⟨0, 1, 2, 3, 4, 5, 6, R, rfl, rfl, ⟨by decide, by decide, rfl, rfl, rfl, rfl, rfl, rfl, rfl⟩, hok.kk, ?_⟩
  conv => whnf
  refine ⟨0, 7, 8, 9, 10, 11, 12, aK R, rfl, rfl, ⟨by decide, by decide, rfl, rfl, rfl, rfl, rfl, rfl, rfl⟩, hok.key.kk, ?_⟩
  conv => whnf
  exact aZ (show je R = _ from rfl) 13 14 15 16 17 18 (.same rfl) (by decide) rfl rfl rfl rfl rfl rfl rfl rfl
theorem vz : aD 52 (aX (fun R => Bz 890000 R) noA (az je)) := bf (au jg 4 _) (by kernel_rfl) cC (fun _ => rfl) (fun R => ⟨rfl, fun _ => rfl⟩) fun R h => uM R h
theorem w9 (R : Rd) (hok : Bz 890000 R) : di (ao KB 4 49) (.ptr 0 0 :: []) (mkH (c6 (rdO R) 0)) 7 (RdP (az wY R).1 (az wY R).2) := by
  show ao KB 4 49 _ _ _ _
  conv => whnf
  refine ⟨0, 1, 2, 3, 4, 5, 6, R, rfl, rfl, ⟨by decide, by decide, rfl, rfl, rfl, rfl, rfl, rfl, rfl⟩, hok.kk, ?_⟩
  conv => whnf
  refine ⟨0, 7, 8, 9, 10, 11, 12, (aK R), rfl, rfl, ⟨by decide, by decide, rfl, rfl, rfl, rfl, rfl, rfl, rfl⟩, hok.key.ok, ?_⟩
  conv => whnf
  refine ⟨0, 7, 8, 9, 10, 11, 12, (stF (ag an) vq (aK R)), rfl, rfl, ⟨by decide, by decide, rfl, rfl, rfl, rfl, rfl, rfl, rfl⟩, (hok.key.told an).ok, ?_⟩
  conv => whnf
  exact aZ (show wY R = stF (ag an) y6 (stF (ag an) vq (aK R)) from rfl) 7 8 9 10 11 12 (.same rfl) (by decide) rfl rfl rfl rfl rfl rfl rfl rfl
theorem Cd : aD 49 (aX (fun R => Bz 890000 R) noA (az wY)) := bf (au jg 4 _) (by kernel_rfl) cC (fun _ => rfl) (fun R => ⟨rfl, fun _ => rfl⟩) fun R h => w9 R h
theorem xa (R : Rd) (hok : Bz 890000 R) : di (ao KB 4 46) (.ptr 0 0 :: []) (mkH (c6 (rdO R) 0)) 7 (RdP (az lZ R).1 (az lZ R).2) := by
  show ao KB 4 46 _ _ _ _
  conv => whnf
  refine ⟨0, 1, 2, 3, 4, 5, 6, R, rfl, rfl, ⟨by decide, by decide, rfl, rfl, rfl, rfl, rfl, rfl, rfl⟩, hok.bd, ?_⟩
  by_cases hw : atR Db (bL R) = true
  · conv => whnf
    refine ⟨_, 0, 7, 8, 9, 10, 11, 12, (bL R), _, _, rfl, ⟨_, rfl, rfl⟩, ⟨by decide, by decide, rfl, rfl, rfl, rfl, rfl, rfl, rfl⟩, hok.mJ.ok, hZ hw, ?_⟩
    conv => whnf
    refine ak.sb (fun _ => ?_) (fun q => absurd q (by decide))
    conv => whnf
    refine .inr (.inl ⟨0, 7, 8, 9, 10, 11, 12, (aa (bL R)).2, rfl, rfl, ⟨by decide, by decide, rfl, rfl, rfl, rfl, rfl, rfl, rfl⟩, hok.mJ.next.ok, ?_⟩)
    conv => whnf
    exact aZ (show lZ R = stF (ag cI) lY (aa (bL R)).2 by unfold lZ; rw [if_pos hw]) 7 8 9 10 11 12 (.same rfl) (by decide) rfl rfl rfl rfl rfl rfl rfl rfl
  · conv => whnf
    refine ⟨_, 0, 7, 8, 9, 10, 11, 12, (bL R), _, _, rfl, ⟨_, rfl, rfl⟩, ⟨by decide, by decide, rfl, rfl, rfl, rfl, rfl, rfl, rfl⟩, hok.mJ.ok, ki hw, ?_⟩
    conv => whnf
    refine ak.sb (fun q => absurd q (by decide)) (fun _ => ?_)
    conv => whnf
    exact aZ (show lZ R = bL R by unfold lZ; rw [if_neg hw]) 7 8 9 10 11 12 (.same rfl) (by decide) rfl rfl rfl rfl rfl rfl rfl rfl
theorem Ce : aD 46 (aX (fun R => Bz 890000 R) noA (az lZ)) := bf (au jg 4 _) (by kernel_rfl) cC (fun _ => rfl) (fun R => ⟨rfl, fun _ => rfl⟩) fun R h => xa R h
theorem uN (R : Rd) (hok : Bz 890000 R) : di (ao KB 4 50) (.ptr 0 0 :: []) (mkH (c6 (rdO R) 0)) 7 (RdP (az k8 R).1 (az k8 R).2) := by
  show ao KB 4 50 _ _ _ _
  conv => whnf
  refine ⟨0, 1, 2, 3, 4, 5, 6, R, rfl, rfl, ⟨by decide, by decide, rfl, rfl, rfl, rfl, rfl, rfl, rfl⟩, hok.kk, ?_⟩
  conv => whnf
  refine dg.mk { X : Rd // Bz 890001 X ∧ wh aC aK X = k8 R } 13 (fun X => rdS X.val) (fun X => muR X.val) ⟨aK R, hok.key, rfl⟩ ?_ ?_
  · exact jf 7 8 9 10 11 12 rfl (by decide) rfl rfl rfl rfl rfl rfl rfl rfl
  · intro ⟨X, hB, hX⟩
    conv => whnf
    refine ak.dec (fun h0 => ?_) (fun h0 => ?_)
    · conv => whnf
      refine ak.dec (fun hp => ?_) (fun hp => ?_)
      · have hp : 0 < X.ws.length := by exact Int.ofNat_lt.1 hp
        have hm := cx h0 hp
        conv => whnf
        refine ⟨0, 7, 8, 9, 10, 11, 12, X, rfl, rfl, ⟨by decide, by decide, rfl, rfl, rfl, rfl, rfl, rfl, rfl⟩, hB.kk, ?_⟩
        conv => whnf
        exact ⟨⟨aK X, hB.Dj hm, (k7 (fun _ => zi) hm).trans hX⟩, zi hm, eW 13 14 15 16 17 18 rfl (by decide) rfl rfl rfl (aj _) rfl (ae _) rfl (ae _) rfl (aN _) rfl (ae _) rfl (aj _)⟩
      · have hn : ¬ aC X = true := cz fun q => hp (by exact Int.ofNat_lt.2 q)
        conv => whnf
        exact aZ (show k8 R = X by rw [← hX, cP hn]) 7 8 9 10 11 12 (.same rfl) (by decide) rfl rfl rfl rfl rfl rfl rfl rfl
    · have hn : ¬ aC X = true := cy h0
      conv => whnf
      exact aZ (show k8 R = X by rw [← hX, cP hn]) 7 8 9 10 11 12 (.same rfl) (by decide) rfl rfl rfl rfl rfl rfl rfl rfl
theorem Ar : aD 50 (aX (fun R => Bz 890000 R) noA (az k8)) := bf (au jg 4 _) (by kernel_rfl) cC (fun _ => rfl) (fun R => ⟨rfl, fun _ => rfl⟩) fun R h => uN R h
end Go.Proofs.Ytdfeigkooeeeaaa
namespace Go.Proofs.Ytdfeigkooeeeaaa
open Go Go.RowKit
def oE (args : List AV) (H : AH) (n : Nat) (κ : PK) : Prop := fY WOk (fnA 9) (aG an) args H n κ ∨ fY WOk (fnA 65) (aG cI) args H n κ ∨ fY WOk (fnA 72) (aG cf) args H n κ
theorem vA : aD 64 oE := fun args H n κ hs => hs.elim (om.rdE args H n κ) fun hs => hs.elim (oo.rdE args H n κ) (oq.rdE args H n κ)
noncomputable def KB2 : FuncId → EP := aB 64 oE KB
theorem Cf : bZ KB2 := ah jg vA
theorem oG (g : List Nat → Int × Int) (R : Rd) : ∃ z S, aG g R = (.si .i64 z, S) ∧ ag g R = (z, S) := ⟨_, _, rfl, rfl⟩
def tf (args : List AV) (H : AH) (n : Nat) (κ : PK) : Prop := ∃ w, fY WOk (s0 w) (dh w) args H n κ
theorem zl : aD 71 tf := fun args H n κ ⟨w, h⟩ => (yT w).rdE args H n κ h
noncomputable def KB3 : FuncId → EP := aB 71 tf KB2
theorem zm : bZ KB3 := ah Cf zl
noncomputable def KLi : FuncId → EP := (aB 52 (aX (fun R => Bz 890000 R) noA (az je)) KB3)
theorem Cg : bZ KLi := (ah zm vz)
theorem uO (R : Rd) (hok : Bz 800000 R) : di (ao KLi 4 51) (.ptr 0 0 :: []) (mkH (c6 (rdO R) 0)) 7 (RdP (az gG R).1 (az gG R).2) := by
  obtain ⟨M, hM⟩ : ∃ M, dh wX (je R) = (.tup [], M) := ⟨_, rfl⟩
  have b1 : Bz 800002 M := by have := hok.keys.w7 wX; rw [hM] at this; exact this
  obtain ⟨z, T, hT, hT'⟩ := oG cf M
  have b2 : Bz 800002 { T with kd := z } := by have := (b1.told cf).set (stF (ag cf) pT M); unfold stF pT at this; rw [hT'] at this; exact this
  have el : pW R = stF (ag an) gF { T with kd := z } := by unfold pW; rw [hM]; show stF (ag an) gF (stF (ag cf) pT M) = _; congr 1; unfold stF pT; rw [hT']
  have b3 : Bz 800002 (stF (ag an) gF { T with kd := z }) := (b2.told an).set _
  show ao KLi 4 51 _ _ _ _
  conv => whnf
  refine ⟨0, 1, 2, 3, 4, 5, 6, R, rfl, rfl, ⟨by decide, by decide, rfl, rfl, rfl, rfl, rfl, rfl, rfl⟩, hok.mono (by decide), ?_⟩
  conv => whnf
  refine ⟨_, 0, 7, 8, 9, 10, 11, 12, (je R), _, _, rfl, ⟨_, rfl, rfl⟩, ⟨by decide, by decide, rfl, rfl, rfl, rfl, rfl, rfl, rfl⟩, hok.keys.ok, hM, ?_⟩
  conv => whnf
  refine .inr (.inr ⟨0, 7, 8, 9, 10, 11, 12, M, _, _, rfl, rfl, ⟨by decide, by decide, rfl, rfl, rfl, rfl, rfl, rfl, rfl⟩, b1.ok, hT, ?_⟩)
  conv => whnf
  refine ⟨0, 7, 8, 9, 10, 11, 12, { T with kd := z }, rfl, rfl, ⟨by decide, by decide, rfl, rfl, rfl, rfl, rfl, rfl, rfl⟩, b2.ok, ?_⟩
  conv => whnf
  refine ak.dec (fun h0 => ?_) (fun h0 => ?_)
  · conv => whnf
    refine ak.dec (fun hp => ?_) (fun hp => ?_)
    · have h0 : (stF (ag an) gF { T with kd := z }).e = 0 := h0
      have hp : 0 < (stF (ag an) gF { T with kd := z }).ws.length := by exact Int.ofNat_lt.1 hp
      conv => whnf
      refine ⟨0, 7, 8, 9, 10, 11, 12, (stF (ag an) gF { T with kd := z }), rfl, rfl, ⟨by decide, by decide, rfl, rfl, rfl, rfl, rfl, rfl, rfl⟩, b3.ok, ?_⟩
      conv => whnf
      exact aZ (show gG R = stF (ag an) y7 (stF (ag an) gF { T with kd := z }) by unfold gG; rw [el, if_pos (cx h0 hp)]) 7 8 9 10 11 12 (.same rfl) (by decide) rfl rfl rfl rfl rfl rfl rfl rfl
    · have hn : ¬ aC (stF (ag an) gF { T with kd := z }) = true := cz fun q => hp (by exact Int.ofNat_lt.2 q)
      conv => whnf
      exact aZ (show gG R = (stF (ag an) gF { T with kd := z }) by unfold gG; rw [el, if_neg hn]) 7 8 9 10 11 12 (.same rfl) (by decide) rfl rfl rfl rfl rfl rfl rfl rfl
  · have hn : ¬ aC (stF (ag an) gF { T with kd := z }) = true := cy h0
    conv => whnf
    exact aZ (show gG R = (stF (ag an) gF { T with kd := z }) by unfold gG; rw [el, if_neg hn]) 7 8 9 10 11 12 (.same rfl) (by decide) rfl rfl rfl rfl rfl rfl rfl rfl
theorem As : aD 51 (aX (fun R => Bz 800000 R) noA (az gG)) := bf (au Cg 4 _) (by kernel_rfl) cC (fun _ => rfl) (fun R => ⟨rfl, fun _ => rfl⟩) fun R h => uO R h
end Go.Proofs.Ytdfeigkooeeeaaa
namespace Go.Proofs.Ytdfeigkooeeeaaa
open Go Go.RowKit
theorem iY.zn {H : AH} {m : Nat} {r : Nat → Nat} : ∀ {l l' : List AV} (i : Nat) (a a' : AV), l[i]? = some a → l'[i]? = some a' → aR H m r a a' → l'.all (yW m) = true → (l.set i (ren r a')).map Go.Proofs.Ytdfeigkooeeeaaa.mk = l'.map (ren r) → iY H m r l l'
  | [], _, _, _, _, h, _, _, _, _ => by simp at h
  | _ :: _, [], _, _, _, _, h, _, _, _ => by simp at h
  | x :: l, x' :: l', 0, a, a', h1, h2, hs, hg, e => by
    simp only [List.getElem?_cons_zero, Option.some.injEq] at h1 h2
    subst h1 h2
    simp only [List.set_cons_zero, List.map_cons, List.cons.injEq] at e
    simp only [List.all_cons, Bool.and_eq_true] at hg
    exact .cons hs (iY.wQ hg.2 e.2)
  | x :: l, x' :: l', i + 1, a, a', h1, h2, hs, hg, e => by
    simp only [List.getElem?_cons_succ] at h1 h2
    simp only [List.set_cons_succ, List.map_cons, List.cons.injEq] at e
    simp only [List.all_cons, Bool.and_eq_true] at hg
    exact .cons (aR.wQ hg.1 e.1) (iY.zn i a a' h1 h2 hs hg.2 e.2)
theorem Au {R : Rd} {H : AH} {n : Nat} (j1 j2 j3 j4 j5 j6 : Nat) {l l2 : List AV} (ht : R.ts = [-1]) (hd : [0, j1, j2, j3, j4, j5, j6].Nodup) (h0 : PM.get H 0 = some (.cells l true)) (hi : l[4]? = some (.sl j2 0 1 1 0)) (hm : (l.set 4 (.rw j2 0 R.ts.length 1 0)).map mk = rdC j1 j2 j3 j4 j5 j6 R) (r1 : PM.get H j1 = some (.cells (aq R.ks) true)) (r2 : PM.get H j2 = some (.cells l2 true)) (m2 : l2.map mk = ints [-1]) (r3 : PM.get H j3 = some (.cells (ints R.vs) true)) (r4 : PM.get H j4 = some (.cells (ba R.ls) true)) (r5 : PM.get H j5 = some (.cells (ints R.q.times) true)) (r6 : PM.get H j6 = some (.cells (aq R.fs) true)) :
    ∃ v2 H2 m, Cov 7 (mkE [(0, .tup [])]) H n (mkE [(0, v2)], H2, m) ∧ RdP (.tup []) R v2 H2 m := by
  have hl : l2.length = 1 := by have := congrArg List.length m2; simpa [ints] using this
  refine ⟨.tup [], _, _, Cov.ofR (rdN j1 j2 j3 j4 j5 j6) (le := [(0, .tup [])]) (by decide) (fun b hb => by unfold rdN; repeat' rw [if_neg (by omega)]) (fun x hx => by
    simp only [List.mem_cons, List.not_mem_nil, or_false] at hx
    subst hx; exact .same rfl) ?_ ?_, rfl, rfl, rfl⟩
  · intro x hx
    simp only [List.mem_cons, List.not_mem_nil, or_false] at hx
    rcases hx with rfl | rfl | rfl | rfl | rfl | rfl | rfl
    · exact ⟨Nat.le_of_ble_eq_true rfl, .inl ⟨_, h0, cB.st (iY.zn 4 (.sl j2 0 1 1 0) (.rw 8 0 R.ts.length 1 0) hi rfl (aR.BF (Nat.le_of_ble_eq_true rfl) rfl (.inr ⟨rfl, _, r2, by show 0 + 1 * 1 ≤ l2.length; omega⟩) (Nat.le_refl 1) (by rw [ht]; rfl)) rfl hm)⟩⟩
    · exact ⟨Nat.le_of_ble_eq_true rfl, .inl ⟨_, r1, cB.bh (aV _) rfl (fun q => q)⟩⟩
    · exact ⟨Nat.le_of_ble_eq_true rfl, .inl ⟨_, r2, cB.bh (aT _) (by rw [m2, ae, ht]) (fun q => q)⟩⟩
    · exact ⟨Nat.le_of_ble_eq_true rfl, .inl ⟨_, r3, cB.bh (aT _) rfl (fun q => q)⟩⟩
    · exact ⟨Nat.le_of_ble_eq_true rfl, .inl ⟨_, r4, cB.bh (dF _) rfl (fun q => q)⟩⟩
    · exact ⟨Nat.le_of_ble_eq_true rfl, .inl ⟨_, r5, cB.bh (aT _) rfl (fun q => q)⟩⟩
    · exact ⟨Nat.le_of_ble_eq_true rfl, .inl ⟨_, r6, cB.bh (aV _) rfl (fun q => q)⟩⟩
  · exact fun x hx y hy e => vo hd x.1 (List.mem_map_of_mem (f := Prod.fst) hx) y.1 (List.mem_map_of_mem (f := Prod.fst) hy) e
theorem xb (R : Rd) (hok : Bz 800000 R) : di (ao KB 4 48) (.ptr 0 0 :: []) (mkH (c6 (rdO R) 0)) 7 (RdP (az mK R).1 (az mK R).2) := by
  show ao KB 4 48 _ _ _ _
  conv => whnf
  refine ⟨0, 1, 2, 3, 4, 5, 6, R, rfl, rfl, ⟨by decide, by decide, rfl, rfl, rfl, rfl, rfl, rfl, rfl⟩, hok.kk, ?_⟩
  conv => whnf
  refine ⟨0, 7, 8, 9, 10, 11, 12, aK R, rfl, rfl, ⟨by decide, by decide, rfl, rfl, rfl, rfl, rfl, rfl, rfl⟩, hok.key.vv, ?_⟩
  by_cases hw : atR Dc (cZ (aK R)) = true
  · conv => whnf
    refine ⟨_, 0, 13, 14, 15, 16, 17, 18, (cZ (aK R)), _, _, rfl, ⟨_, rfl, rfl⟩, ⟨by decide, by decide, rfl, rfl, rfl, rfl, rfl, rfl, rfl⟩, hok.key.val.ok, hZ hw, ?_⟩
    conv => whnf
    refine ak.sb (fun _ => ?_) (fun q => absurd q (by decide))
    conv => whnf
    refine ⟨0, 13, 14, 15, 16, 17, 18, (aa (cZ (aK R))).2, rfl, rfl, ⟨by decide, by decide, rfl, rfl, rfl, rfl, rfl, rfl, rfl⟩, hok.key.val.next.tt, ?_⟩
    conv => whnf
    exact aZ (show mK R = bJ (aa (cZ (aK R))).2 by unfold mK; rw [if_pos hw]) 19 20 21 22 23 24 (.same rfl) (by decide) rfl rfl rfl rfl rfl rfl rfl rfl
  · have e : mK R = { cZ (aK R) with ts := [-1] } := by unfold mK; rw [if_neg hw]
    conv => whnf
    refine ⟨_, 0, 13, 14, 15, 16, 17, 18, (cZ (aK R)), _, _, rfl, ⟨_, rfl, rfl⟩, ⟨by decide, by decide, rfl, rfl, rfl, rfl, rfl, rfl, rfl⟩, hok.key.val.ok, ki hw, ?_⟩
    conv => whnf
    refine ak.sb (fun q => absurd q (by decide)) (fun _ => ?_)
    conv => whnf
    unfold az; rw [e]
    exact Au 13 19 15 16 17 18 rfl (by decide) rfl rfl rfl rfl rfl rfl rfl rfl rfl rfl
theorem Ch : aD 48 (aX (fun R => Bz 800000 R) noA (az mK)) := bf (au jg 4 _) (by kernel_rfl) cC (fun _ => rfl) (fun R => ⟨rfl, fun _ => rfl⟩) fun R h => xb R h
end Go.Proofs.Ytdfeigkooeeeaaa
namespace Go.Proofs.Ytdfeigkooeeeaaa
open Go Go.RowKit
def Ci : DT := [(3, [(some 1000000, [5, 8]), (none, [0, 1, 2, 3, 4, 5, 6, 7, 8, 9, 10, 11, 12, 13, 14, 15]), (none, [0, 1, 2, 3, 4, 6, 7, 8, 5, 9, 10, 11, 12, 13, 14, 15])])]
noncomputable def KLa : FuncId → EP := (dr 66 Ci KB)
theorem Cj : bZ KLa := (bu jg (by kernel_rfl) (by kernel_rfl))
theorem xc (R : Rd) (hok : Bz 890000 R) : di (ao KLa 4 66) (.ptr 0 0 :: []) (mkH (c6 (rdO R) 0)) 7 (RdP (az mL R).1 (az mL R).2) := by
  show ao KLa 4 66 _ _ _ _
  conv => whnf
  refine dg.mk { X : Rd // Bz 890000 X ∧ wh aC l7 X = mL R } 13 (fun X => rdS X.val) (fun X => muR X.val) ⟨{ R with lbd := true }, hok.set _, rfl⟩ ?_ ?_
  · exact jf 1 2 3 4 5 6 rfl (by decide) rfl rfl rfl rfl rfl rfl rfl rfl
  · intro ⟨X, hB, hX⟩
    conv => whnf
    refine ak.dec (fun h0 => ?_) (fun h0 => ?_)
    · conv => whnf
      refine ak.dec (fun hp => ?_) (fun hp => ?_)
      · have hp : 0 < X.ws.length := by exact Int.ofNat_lt.1 hp
        have hm := cx h0 hp
        obtain ⟨f1, f2, f3, f4, f5, f6, f7⟩ := w8 (R := X) (by have := hB.ls; omega)
        conv => whnf
        refine ⟨0, 7, 8, 9, 10, 11, 12, X, rfl, rfl, ⟨by decide, by decide, rfl, rfl, rfl, rfl, rfl, rfl, rfl⟩, trivial, ?_⟩
        conv => whnf
        refine ⟨?_, ?_, trivial⟩
        · conv => whnf
          refine ⟨0, 7, 8, 9, 10, 11, 12, (aa X).2, rfl, rfl, ⟨by decide, by decide, rfl, rfl, rfl, rfl, rfl, rfl, rfl⟩, trivial, ?_⟩
          conv => whnf
          refine eD.grow 2 32 _ _ _ _ _ _ Dn (.old rfl) rfl rfl (.rw rfl f1) f3 ?_
          conv => whnf
          exact ⟨⟨l7 X, hB.lb1 hm, (k7 (fun _ => ld) hm).trans hX⟩, ld hm, eW 7 8 9 14 11 12 rfl (by decide) rfl (f5 _ _ _ _ _ _) rfl (aj _) rfl (ae _) rfl (ae _) rfl (f7 _ _ rfl rfl) rfl (ae _) rfl (aj _)⟩
        · conv => whnf
          refine ⟨0, 7, 8, 9, 10, 11, 12, (aa X).2, rfl, rfl, ⟨by decide, by decide, rfl, rfl, rfl, rfl, rfl, rfl, rfl⟩, trivial, ?_⟩
          conv => whnf
          refine eD.grow 2 32 _ _ _ _ _ _ Dn (.old rfl) rfl rfl (.rw rfl f2) f4 ?_
          conv => whnf
          exact ⟨⟨l7 X, hB.lb1 hm, (k7 (fun _ => ld) hm).trans hX⟩, ld hm, eW 7 8 9 14 11 12 rfl (by decide) rfl (f6 _ _ _ _ _ _) rfl (aj _) rfl (ae _) rfl (ae _) rfl (f7 _ _ rfl rfl) rfl (ae _) rfl (aj _)⟩
      · have hn : ¬ aC X = true := cz fun q => hp (by exact Int.ofNat_lt.2 q)
        conv => whnf
        exact aZ (show mL R = X by rw [← hX, cP hn]) 7 8 9 10 11 12 (.same rfl) (by decide) rfl rfl rfl rfl rfl rfl rfl rfl
    · have hn : ¬ aC X = true := cy h0
      conv => whnf
      exact aZ (show mL R = X by rw [← hX, cP hn]) 7 8 9 10 11 12 (.same rfl) (by decide) rfl rfl rfl rfl rfl rfl rfl rfl
theorem Ck : aD 66 (aX (fun R => Bz 890000 R) noA (az mL)) := bf (au Cj 4 _) (by kernel_rfl) cC (fun _ => rfl) (fun R => ⟨rfl, fun _ => rfl⟩) fun R h => xc R h
end Go.Proofs.Ytdfeigkooeeeaaa
namespace Go.Proofs.Ytdfeigkooeeeaaa
open Go Go.RowKit
noncomputable def KCr : FuncId → EP := (aB 66 (aX (fun R => Bz 890000 R) noA (az mL)) KB)
theorem Cl : bZ KCr := (ah jg Ck)
theorem xd (R : Rd) (hok : Bz 880000 R) : di (ao KCr 4 45) (.ptr 0 0 :: []) (mkH (c6 (rdO R) 0)) 7 (RdP (az oz R).1 (az oz R).2) := by
  show ao KCr 4 45 _ _ _ _
  conv => whnf
  refine ⟨0, 1, 2, 3, 4, 5, 6, R, rfl, rfl, ⟨by decide, by decide, rfl, rfl, rfl, rfl, rfl, rfl, rfl⟩, hok.kk, ?_⟩
  conv => whnf
  refine dg.mk { X : Rd // Bz 880001 X ∧ wh aC iv X = oz R } 13 (fun X => rdS X.val) (fun X => muR X.val) ⟨aK R, hok.key, rfl⟩ ?_ ?_
  focus exact jf 7 8 9 10 11 12 rfl (by decide) rfl rfl rfl rfl rfl rfl rfl rfl
  intro ⟨X, hB, hX⟩
  conv => whnf
  refine ak.dec (fun h0 => ?_) (fun h0 => ?_)
  rotate_left
  focus
    have hn : ¬ aC X = true := cy h0
    conv => whnf
    exact aZ (show oz R = X by rw [← hX, cP hn]) _ _ _ _ _ _ (.same rfl) (by decide) rfl rfl rfl rfl rfl rfl rfl rfl
  rotate_right
  conv => whnf
  refine ak.dec (fun hp => ?_) (fun hp => ?_)
  rotate_left
  focus
    have hn : ¬ aC X = true := cz fun q => hp (by exact Int.ofNat_lt.2 q)
    conv => whnf
    exact aZ (show oz R = X by rw [← hX, cP hn]) _ _ _ _ _ _ (.same rfl) (by decide) rfl rfl rfl rfl rfl rfl rfl rfl
  rotate_right
  have hp : 0 < X.ws.length := by exact Int.ofNat_lt.1 hp
  have hm := cx h0 hp
  have go : ∀ Y, iv X = Y → Bz 880001 Y ∧ wh aC iv Y = oz R ∧ muR Y < muR X := fun Y e => by subst e; exact ⟨hB.cs1, (k7 (fun _ => vx) hm).trans hX, vx hm⟩
  conv => whnf
  refine ak.dec (fun c1 => ?_) (fun c1 => ?_)
  rotate_left
  focus
    have n1 : ¬ (X.ret = -1 ∧ atR Al X = true) := fun q => c1 (by exact q.1)
  rotate_right
  focus
    have c1 : X.ret = -1 := c1
    by_cases hw : atR Al X = true
    focus
      conv => whnf
      refine ⟨_, 0, _, _, _, _, _, _, X, _, _, rfl, ⟨_, rfl, rfl⟩, ⟨by decide, by decide, rfl, rfl, rfl, rfl, rfl, rfl, rfl⟩, hB.ok, hZ hw, ?_⟩
      conv => whnf
      refine ak.sb (fun _ => ?_) (fun q => absurd q (by decide))
      conv => whnf
      refine ⟨0, _, _, _, _, _, _, (aa X).2, rfl, rfl, ⟨by decide, by decide, rfl, rfl, rfl, rfl, rfl, rfl, rfl⟩, hB.next.ok, ?_⟩
      have ee : iv X = stF kf uG (aa X).2 := (by unfold iv; rw [if_pos ⟨c1, hw⟩])
      conv => whnf
      exact ⟨⟨stF kf uG (aa X).2, (go _ ee).1, (go _ ee).2.1⟩, (go _ ee).2.2, jf _ _ _ _ _ _ rfl (by decide) rfl rfl rfl rfl rfl rfl rfl rfl⟩
    have n1 : ¬ (X.ret = -1 ∧ atR Al X = true) := fun q => hw (by exact q.2)
    conv => whnf
    refine ⟨_, 0, _, _, _, _, _, _, X, _, _, rfl, ⟨_, rfl, rfl⟩, ⟨by decide, by decide, rfl, rfl, rfl, rfl, rfl, rfl, rfl⟩, hB.ok, ki hw, ?_⟩
    conv => whnf
    refine ak.sb (fun q => absurd q (by decide)) (fun _ => ?_)
  all_goals
    conv => whnf
    refine ak.dec (fun c2 => ?_) (fun c2 => ?_)
    rotate_left
    focus
      have n2 : ¬ (X.nm = 1 ∧ X.siz = -1 ∧ atR y4 X = true) := fun q => c2 (by exact q.1)
    rotate_right
    focus
      have d2 : X.nm = 1 := c2
      conv => whnf
      refine ak.dec (fun c2 => ?_) (fun c2 => ?_)
      rotate_left
      focus
        have n2 : ¬ (X.nm = 1 ∧ X.siz = -1 ∧ atR y4 X = true) := fun q => c2 (by exact q.2.1)
      rotate_right
      focus
        have c2 : X.siz = -1 := c2
        by_cases hw : atR y4 X = true
        focus
          conv => whnf
          refine ⟨_, 0, _, _, _, _, _, _, X, _, _, rfl, ⟨_, rfl, rfl⟩, ⟨by decide, by decide, rfl, rfl, rfl, rfl, rfl, rfl, rfl⟩, hB.ok, hZ hw, ?_⟩
          conv => whnf
          refine ak.sb (fun _ => ?_) (fun q => absurd q (by decide))
          conv => whnf
          refine ⟨0, _, _, _, _, _, _, (aa X).2, rfl, rfl, ⟨by decide, by decide, rfl, rfl, rfl, rfl, rfl, rfl, rfl⟩, hB.next.ok, ?_⟩
          have ee : iv X = stF kf uH (aa X).2 := (by unfold iv; rw [if_neg n1, if_pos ⟨d2, c2, hw⟩])
          conv => whnf
          exact ⟨⟨stF kf uH (aa X).2, (go _ ee).1, (go _ ee).2.1⟩, (go _ ee).2.2, jf _ _ _ _ _ _ rfl (by decide) rfl rfl rfl rfl rfl rfl rfl rfl⟩
        have n2 : ¬ (X.nm = 1 ∧ X.siz = -1 ∧ atR y4 X = true) := fun q => hw (by exact q.2.2)
        conv => whnf
        refine ⟨_, 0, _, _, _, _, _, _, X, _, _, rfl, ⟨_, rfl, rfl⟩, ⟨by decide, by decide, rfl, rfl, rfl, rfl, rfl, rfl, rfl⟩, hB.ok, ki hw, ?_⟩
        conv => whnf
        refine ak.sb (fun q => absurd q (by decide)) (fun _ => ?_)
  all_goals
    conv => whnf
    refine ak.dec (fun c3 => ?_) (fun c3 => ?_)
    rotate_left
    focus
      have n3 : ¬ (X.pol = 0 ∧ atR Am X = true) := fun q => c3 (by exact q.1)
    rotate_right
    focus
      have c3 : X.pol = 0 := c3
      by_cases hw : atR Am X = true
      focus
        conv => whnf
        refine ⟨_, 0, _, _, _, _, _, _, X, _, _, rfl, ⟨_, rfl, rfl⟩, ⟨by decide, by decide, rfl, rfl, rfl, rfl, rfl, rfl, rfl⟩, hB.ok, hZ hw, ?_⟩
        conv => whnf
        refine ak.sb (fun _ => ?_) (fun q => absurd q (by decide))
        conv => whnf
        refine .inr (.inl ⟨0, _, _, _, _, _, _, (aa X).2, rfl, rfl, ⟨by decide, by decide, rfl, rfl, rfl, rfl, rfl, rfl, rfl⟩, hB.next.ok, ?_⟩)
        have ee : iv X = stF (ag cI) lY (aa X).2 := (by unfold iv; rw [if_neg n1, if_neg n2, if_pos ⟨c3, hw⟩])
        conv => whnf
        exact ⟨⟨stF (ag cI) lY (aa X).2, (go _ ee).1, (go _ ee).2.1⟩, (go _ ee).2.2, jf _ _ _ _ _ _ rfl (by decide) rfl rfl rfl rfl rfl rfl rfl rfl⟩
      have n3 : ¬ (X.pol = 0 ∧ atR Am X = true) := fun q => hw (by exact q.2)
      conv => whnf
      refine ⟨_, 0, _, _, _, _, _, _, X, _, _, rfl, ⟨_, rfl, rfl⟩, ⟨by decide, by decide, rfl, rfl, rfl, rfl, rfl, rfl, rfl⟩, hB.ok, ki hw, ?_⟩
      conv => whnf
      refine ak.sb (fun q => absurd q (by decide)) (fun _ => ?_)
  all_goals
    by_cases hw : atR Da X = true
    focus
      conv => whnf
      refine ⟨_, 0, _, _, _, _, _, _, X, _, _, rfl, ⟨_, rfl, rfl⟩, ⟨by decide, by decide, rfl, rfl, rfl, rfl, rfl, rfl, rfl⟩, hB.ok, hZ hw, ?_⟩
      conv => whnf
      refine ak.sb (fun _ => ?_) (fun q => absurd q (by decide))
      conv => whnf
      refine ⟨0, _, _, _, _, _, _, (aa X).2, rfl, rfl, ⟨by decide, by decide, rfl, rfl, rfl, rfl, rfl, rfl, rfl⟩, hB.next.mono (by decide), ?_⟩
      have ee : iv X = mL (aa X).2 := (by unfold iv; rw [if_neg n1, if_neg n2, if_neg n3, if_pos hw])
      conv => whnf
      exact ⟨⟨mL (aa X).2, (go _ ee).1, (go _ ee).2.1⟩, (go _ ee).2.2, jf _ _ _ _ _ _ rfl (by decide) rfl rfl rfl rfl rfl rfl rfl rfl⟩
    conv => whnf
    refine ⟨_, 0, _, _, _, _, _, _, X, _, _, rfl, ⟨_, rfl, rfl⟩, ⟨by decide, by decide, rfl, rfl, rfl, rfl, rfl, rfl, rfl⟩, hB.ok, ki hw, ?_⟩
    conv => whnf
    refine ak.sb (fun q => absurd q (by decide)) (fun _ => ?_)
    conv => whnf
    refine ak.dec (fun h1 => ?_) (fun q => absurd h0 q)
    have ee : iv X = { X with e := 17 } := (by unfold iv cr; rw [if_neg n1, if_neg n2, if_neg n3, if_neg hw, if_pos h0])
    conv => whnf
    exact ⟨⟨{ X with e := 17 }, (go _ ee).1, (go _ ee).2.1⟩, (go _ ee).2.2, jf _ _ _ _ _ _ rfl (by decide) rfl rfl rfl rfl rfl rfl rfl rfl⟩
theorem Cm : aD 45 (aX (fun R => Bz 880000 R) noA (az oz)) := bf (au Cl 4 _) (by kernel_rfl) cC (fun _ => rfl) (fun R => ⟨rfl, fun _ => rfl⟩) fun R h => xd R h
end Go.Proofs.Ytdfeigkooeeeaaa
namespace Go.Proofs.Ytdfeigkooeeeaaa
open Go Go.RowKit
def Cn : DT := [(4, [(some 1000000, [4, 6]), (none, [0, 1, 2, 3, 4, 5, 6, 7, 8, 9, 10, 11]), (none, [0, 1, 2, 3, 5, 6, 4, 7, 8, 9, 10, 11])]), (1000010, []), (1000013, []), (1000015, []), (1000020, [])]
def Bk (args : List AV) (H : AH) (n : Nat) (κ : PK) : Prop := bo WOk noA (aG an) args H n κ ∨ y2 (bo WOk noA (aG an)) args H n κ
theorem DR : aD 70 Bk := fun args H n κ hs => hs.elim (gC args H n κ) (gC.y2 args H n κ)
noncomputable def KOp : FuncId → EP := (dr 74 Cn (aB 70 Bk (aB 64 oE (aB 9 vk KB))))
theorem Co : bZ KOp := (bu (ah (ah (ah jg sZ) vA) DR) (by kernel_rfl) (by kernel_rfl))
theorem xe {S : Rd} {B : Nat} {g : List Nat → Int × Int} (hl : S.q.times.length ≤ 1000000) : aP (ints (ag g S).2.q.times) 0 (S.q.times.length * 1) = some (ints (ag g S).2.q.times) ∧ aP (ints (ag g S).2.q.times) 0 ((ag g S).2.q.times.length * 1) = some (ints (ag g S).2.q.times) ∧ (S.q.times.length + 1) * 8 ≤ 140737488355328 ∧ ((ag g S).2.q.times.length + 1) * 8 ≤ 140737488355328 ∧
    (∀ a b c d e f, lU a b c d e f (ag g S).2.ks.length (ag g S).2.ts.length (ag g S).2.vs.length (ag g S).2.ls.length (S.q.times.length + 1) (ag g S).2.fs.length (stF (ag g) mM S) = rdC a b c d e f (stF (ag g) mM S)) ∧
    (∀ a b c d e f, lU a b c d e f (ag g S).2.ks.length (ag g S).2.ts.length (ag g S).2.vs.length (ag g S).2.ls.length ((ag g S).2.q.times.length + 1) (ag g S).2.fs.length (stF (ag g) mM S) = rdC a b c d e f (stF (ag g) mM S)) ∧
    (ints (ag g S).2.q.times ++ [AV.si .i64 (ag g S).1]).map mk = ints (stF (ag g) mM S).q.times := by
  have hk : (ag g S).2.q = S.q := (dG g S).q
  have h1 : (stF (ag g) mM S).q.times.length = S.q.times.length + 1 := by show ((ag g S).2.q.times ++ [_]).length = _; rw [hk]; simp
  refine ⟨by rw [hk]; exact dB _, dB _, by omega, by rw [hk]; omega, fun a b c d e f => by rw [← h1]; rfl, fun a b c d e f => by rw [hk, ← h1]; rfl, ?_⟩
  rw [hY, ae]; rfl
theorem xf {S : Rd} (hl : S.q.times.length ≤ 1000000) : aP (ints (aa S).2.q.times) 0 ((aa S).2.q.times.length * 1) = some (ints (aa S).2.q.times) ∧ ((aa S).2.q.times.length + 1) * 8 ≤ 140737488355328 ∧
    (∀ a b c d e f, lU a b c d e f (aa S).2.ks.length (aa S).2.ts.length (aa S).2.vs.length (aa S).2.ls.length ((aa S).2.q.times.length + 1) (aa S).2.fs.length (oA S) = rdC a b c d e f (oA S)) ∧
    (ints (aa S).2.q.times ++ [AV.si .i64 (an (S.ws.headD [])).1]).map mk = ints (oA S).q.times := by
  have hk : (aa S).2.q = S.q := (bg S).q
  have h1 : (oA S).q.times.length = S.q.times.length + 1 := by show ((aa S).2.q.times ++ [_]).length = _; rw [hk]; simp
  refine ⟨dB _, by rw [hk]; omega, fun a b c d e f => by rw [hk, ← h1]; rfl, ?_⟩
  rw [hY, ae]; rfl
noncomputable def opS (R : Rd) : AE × AH := (mkE [(0, .ptr 0 0), (2, .ptr 0 16)], rdM R)
theorem vB {σ : AE} {H : AH} {n : Nat} {R : Rd} (j1 j2 j3 j4 j5 j6 : Nat) {l l1 l2 l3 l4 l5 l6 : List AV} (he : aA (pa 0) σ = .ptr 0 0) (he2 : aA (pa 2) σ = .ptr 0 16) (hd : [0, j1, j2, j3, j4, j5, j6].Nodup) (h0 : PM.get H 0 = some (.cells l true)) (hm : l.map mk = rdC j1 j2 j3 j4 j5 j6 R) (r1 : PM.get H j1 = some (.cells l1 true)) (m1 : l1.map mk = aq R.ks) (r2 : PM.get H j2 = some (.cells l2 true)) (m2 : l2.map mk = ints R.ts) (r3 : PM.get H j3 = some (.cells l3 true)) (m3 : l3.map mk = ints R.vs) (r4 : PM.get H j4 = some (.cells l4 true)) (m4 : l4.map mk = ba R.ls) (r5 : PM.get H j5 = some (.cells l5 true)) (m5 : l5.map mk = ints R.q.times) (r6 : PM.get H j6 = some (.cells l6 true)) (m6 : l6.map mk = aq R.fs) : Cov 7 σ H n ((opS R).1, (opS R).2, 13) :=
  uB j1 j2 j3 j4 j5 j6 (le := [(0, .ptr 0 0), (2, .ptr 0 16)]) (fun x hx => by
    simp only [List.mem_cons, List.not_mem_nil, or_false] at hx
    rcases hx with rfl | rfl
    · exact aR.ptr (Nat.le_of_ble_eq_true rfl) (by rw [he]; rfl)
    · exact aR.ptr (Nat.le_of_ble_eq_true rfl) (by rw [he2]; rfl)) hd h0 hm r1 m1 r2 m2 r3 m3 r4 m4 r5 m5 r6 m6
theorem gq {σ : AE} {H : AH} {n : Nat} {R : Rd} (j1 j2 j3 j4 j5 j6 : Nat) {l : List AV} (he : aA (pa 0) σ = .ptr 0 0) (he2 : aA (pa 2) σ = .ptr 0 16) (hd : [0, j1, j2, j3, j4, j5, j6].Nodup) (h0 : PM.get H 0 = some (.cells l true)) (hm : l.map mk = rdC j1 j2 j3 j4 j5 j6 R) (r1 : PM.get H j1 = some (.cells (aq R.ks) true)) (r2 : PM.get H j2 = some (.cells (ints R.ts) true)) (r3 : PM.get H j3 = some (.cells (ints R.vs) true)) (r4 : PM.get H j4 = some (.cells (ba R.ls) true)) (r5 : PM.get H j5 = some (.cells (ints R.q.times) true)) (r6 : PM.get H j6 = some (.cells (aq R.fs) true)) : Cov 7 σ H n ((opS R).1, (opS R).2, 13) :=
  vB j1 j2 j3 j4 j5 j6 he he2 hd h0 hm r1 (aj _) r2 (ae _) r3 (ae _) r4 (aN _) r5 (ae _) r6 (aj _)
theorem ia (w : List Nat) (R : Rd) : ∃ q Y, gp w R = (.sb q, Y) ∧ (q = true → atR w R = true ∧ Y = (aa R).2) ∧ (q = false → ¬ atR w R = true ∧ Y = R) := by
  by_cases h : atR w R = true
  · exact ⟨true, _, hZ h, (fun _ => ⟨h, rfl⟩), fun q => by cases q⟩
  · exact ⟨false, _, ki h, (fun q => by cases q), fun _ => ⟨h, rfl⟩⟩
theorem xg (R : Rd) (hok : Bz 790000 R) : di (ao KOp 4 74) (.ptr 0 0 :: []) (mkH (c6 (rdO R) 0)) 7 (RdP (az la R).1 (az la R).2) := by
  show ao KOp 4 74 _ _ _ _
  conv => whnf
  refine ⟨_, _, 0, _, _, _, _, _, _, R, rfl, ⟨_, _, rfl, rfl, rfl⟩, ⟨by decide, by decide, rfl, rfl, rfl, rfl, rfl, rfl, rfl⟩, hok.ok, ?_⟩
  conv => whnf
  refine ⟨_, _, 0, _, _, _, _, _, _, (stF (orR [45] 0) vr R), rfl, ⟨_, _, rfl, rfl, rfl⟩, ⟨by decide, by decide, rfl, rfl, rfl, rfl, rfl, rfl, rfl⟩, ((hok.orW [45] 0).set (stF (orR [45] 0) vr R)).ok, ?_⟩
  obtain ⟨q1, Y, hh, ht, hf⟩ := ia Dd (mN R)
  conv => whnf
  refine kN.mk { X : Rd // l8 (mN R) = X ∧ Bz 790001 X } 13 (fun X => opS X.val) ?_ ?_
  focus
    conv => whnf
    refine ⟨_, 0, _, _, _, _, _, _, (mN R), _, _, rfl, ⟨_, rfl, rfl⟩, ⟨by decide, by decide, rfl, rfl, rfl, rfl, rfl, rfl, rfl⟩, hok.o1.ok, hh, ?_⟩
    conv => whnf
    refine ak.sb (fun hb => ?_) (fun hb => ?_)
    focus
      have bY : Bz 790000 Y := by rw [(ht hb).2]; exact hok.o1.next
      have e2 : l8 (mN R) = wh kh oA (stF (ag an) mM Y) := by unfold l8; rw [if_pos (ht hb).1, (ht hb).2]
      obtain ⟨f1, f2, f3, f4, f5, f6, f7⟩ := xe (B := 0) (g := an) (S := Y) (by have := bY.q; omega)
      conv => whnf
      refine ⟨?_, ?_, trivial⟩
      focus
        conv => whnf
        refine .inl ⟨0, _, _, _, _, _, _, Y, rfl, rfl, ⟨by decide, by decide, rfl, rfl, rfl, rfl, rfl, rfl, rfl⟩, bY.ok, ?_⟩
        conv => whnf
        refine eD.grow 1 8 _ _ _ _ _ _ uC (.old rfl) rfl rfl (.rw rfl f1) f3 ?_
        conv => whnf
        refine dg.mk { X : Rd // Bz 790001 X ∧ wh kh oA X = l8 (mN R) } 13 (fun X => opS X.val) (fun X => muR X.val) ⟨stF (ag an) mM Y, (bY.told an).ptT _, e2.symm⟩ ?_ ?_
        focus
          exact vB _ _ _ _ _ _ rfl rfl (by decide) rfl (f5 _ _ _ _ _ _) rfl (aj _) rfl (ae _) rfl (ae _) rfl (aN _) rfl f7 rfl (aj _)
      rotate_left
      focus
        conv => whnf
        refine .inl ⟨0, _, _, _, _, _, _, Y, rfl, rfl, ⟨by decide, by decide, rfl, rfl, rfl, rfl, rfl, rfl, rfl⟩, bY.ok, ?_⟩
        conv => whnf
        refine eD.grow 1 8 _ _ _ _ _ _ uC (.old rfl) rfl rfl (.rw rfl f2) f4 ?_
        conv => whnf
        refine dg.mk { X : Rd // Bz 790001 X ∧ wh kh oA X = l8 (mN R) } 13 (fun X => opS X.val) (fun X => muR X.val) ⟨stF (ag an) mM Y, (bY.told an).ptT _, e2.symm⟩ ?_ ?_
        focus
          exact vB _ _ _ _ _ _ rfl rfl (by decide) rfl (f6 _ _ _ _ _ _) rfl (aj _) rfl (ae _) rfl (ae _) rfl (aN _) rfl f7 rfl (aj _)
      all_goals
        intro ⟨X, hB, hX⟩
        conv => whnf
        refine ak.dec (fun h0 => ?_) (fun h0 => ?_)
        rotate_left
        focus
          have ee : l8 (mN R) = X := by rw [← hX, cP (show ¬ kh X = true by unfold kh; rw [show aC X = false from Bool.eq_false_iff.2 (cy h0)]; simp)]
          conv => whnf
          exact ⟨⟨X, ee, hB⟩, gq _ _ _ _ _ _ rfl rfl (by decide) rfl rfl rfl rfl rfl rfl rfl rfl⟩
        conv => whnf
        refine ak.dec (fun hp => ?_) (fun hp => ?_)
        rotate_left
        focus
          have ee : l8 (mN R) = X := by rw [← hX, cP (show ¬ kh X = true by unfold kh; rw [show aC X = false from Bool.eq_false_iff.2 (cz fun q => hp (by exact Int.ofNat_lt.2 q))]; simp)]
          conv => whnf
          exact ⟨⟨X, ee, hB⟩, gq _ _ _ _ _ _ rfl rfl (by decide) rfl rfl rfl rfl rfl rfl rfl rfl⟩
        have hp : 0 < X.ws.length := by exact Int.ofNat_lt.1 hp
        have hm := cx h0 hp
        have hwd := hB.ok _ (List.getElem_mem hp)
        rw [m0 hp] at hwd
        conv => whnf
        refine Idx.mk 0 rfl hp ?_
        conv => whnf
        refine bj (eK hp) ?_
        conv => whnf
        refine ⟨X.ws.headD [], rfl, hwd.1, hwd.2, ?_⟩
        conv => whnf
        refine ak.ir (fun hb => ?_) (fun hb => ?_)
        focus
          have hb : ¬ (an (X.ws.headD [])).2 = 0 := hb
          have ee : l8 (mN R) = X := by rw [← hX, cP (show ¬ kh X = true by unfold kh; rw [show decide ((an (X.ws.headD [])).2 = 0) = false from decide_eq_false hb]; simp)]
          conv => whnf
          exact ⟨⟨X, ee, hB⟩, gq _ _ _ _ _ _ rfl rfl (by decide) rfl rfl rfl rfl rfl rfl rfl rfl⟩
        have hb : (an (X.ws.headD [])).2 = 0 := hb
        have hc : kh X = true := by unfold kh; rw [hm, decide_eq_true hb]; rfl
        obtain ⟨g1, g2, g3, g4⟩ := xf (S := X) (by have := hB.q; omega)
        conv => whnf
        refine ⟨0, _, _, _, _, _, _, X, rfl, rfl, ⟨by decide, by decide, rfl, rfl, rfl, rfl, rfl, rfl, rfl⟩, trivial, ?_⟩
        conv => whnf
        refine eD.grow 1 8 _ _ _ _ _ _ uC (.old rfl) rfl rfl (.rw rfl g1) g2 ?_
        conv => whnf
        exact ⟨⟨oA X, hB.tm1 hm, (k7 (fun _ => vw) hc).trans hX⟩, vw hc, vB _ _ _ _ _ _ rfl rfl (by decide) rfl (g3 _ _ _ _ _ _) rfl (aj _) rfl (ae _) rfl (ae _) rfl (aN _) rfl g4 rfl (aj _)⟩
    have ee : l8 (mN R) = Y := by unfold l8; rw [if_neg (hf hb).1, (hf hb).2]
    conv => whnf
    exact ⟨⟨Y, ee, (by rw [(hf hb).2]; exact hok.o1.mono (by decide))⟩, gq _ _ _ _ _ _ rfl rfl (by decide) rfl rfl rfl rfl rfl rfl rfl rfl⟩
  intro ⟨A, eA, bA⟩
  obtain ⟨q3, Y3, hh3, ht, hf⟩ := ia De A
  conv => whnf
  refine kN.mk { X : Rd // tc A = X ∧ Bz 790001 X } 13 (fun X => opS X.val) ?_ ?_
  focus
    conv => whnf
    refine ⟨_, 0, _, _, _, _, _, _, A, _, _, rfl, ⟨_, rfl, rfl⟩, ⟨by decide, by decide, rfl, rfl, rfl, rfl, rfl, rfl, rfl⟩, bA.ok, hh3, ?_⟩
    conv => whnf
    refine ak.sb (fun hb => ?_) (fun hb => ?_)
    focus
      have bY : Bz 790001 Y3 := by rw [(ht hb).2]; exact bA.next
      conv => whnf
      refine .inl ⟨0, _, _, _, _, _, _, Y3, rfl, rfl, ⟨by decide, by decide, rfl, rfl, rfl, rfl, rfl, rfl, rfl⟩, bY.ok, ?_⟩
      conv => whnf
      refine .inr ⟨_, _, bX.vm (b := 0) rfl, 0, _, _, _, _, _, _, (stF (ag an) pV Y3), rfl, rfl, ⟨by decide, by decide, rfl, rfl, rfl, rfl, rfl, rfl, rfl⟩, (bY.told an).ok, ?_⟩
      have ee : tc A = stF (ag an) zb (stF (ag an) pV Y3) := by unfold tc; rw [if_pos (ht hb).1, (ht hb).2]
      conv => whnf
      exact ⟨⟨stF (ag an) zb (stF (ag an) pV Y3), ee, (((bY.told an).set (stF (ag an) pV Y3)).told an).set _⟩, gq _ _ _ _ _ _ rfl rfl (by decide) rfl rfl rfl rfl rfl rfl rfl rfl⟩
    have ee : tc A = Y3 := by unfold tc; rw [if_neg (hf hb).1, (hf hb).2]
    conv => whnf
    exact ⟨⟨Y3, ee, (by rw [(hf hb).2]; exact bA)⟩, gq _ _ _ _ _ _ rfl rfl (by decide) rfl rfl rfl rfl rfl rfl rfl rfl⟩
  intro ⟨B, eB, bB⟩
  obtain ⟨q4, Y4, hh4, ht, hf⟩ := ia Df B
  conv => whnf
  refine kN.mk { X : Rd // td B = X ∧ Bz 790001 X } 13 (fun X => opS X.val) ?_ ?_
  focus
    conv => whnf
    refine ⟨_, 0, _, _, _, _, _, _, B, _, _, rfl, ⟨_, rfl, rfl⟩, ⟨by decide, by decide, rfl, rfl, rfl, rfl, rfl, rfl, rfl⟩, bB.ok, hh4, ?_⟩
    conv => whnf
    refine ak.sb (fun hb => ?_) (fun hb => ?_)
    focus
      have bY : Bz 790001 Y4 := by rw [(ht hb).2]; exact bB.next
      conv => whnf
      refine .inl ⟨0, _, _, _, _, _, _, Y4, rfl, rfl, ⟨by decide, by decide, rfl, rfl, rfl, rfl, rfl, rfl, rfl⟩, bY.ok, ?_⟩
      have ee : td B = stF (ag an) y9 Y4 := by unfold td; rw [if_pos (ht hb).1, (ht hb).2]
      conv => whnf
      exact ⟨⟨stF (ag an) y9 Y4, ee, (bY.told an).set _⟩, gq _ _ _ _ _ _ rfl rfl (by decide) rfl rfl rfl rfl rfl rfl rfl rfl⟩
    have ee : td B = Y4 := by unfold td; rw [if_neg (hf hb).1, (hf hb).2]
    conv => whnf
    exact ⟨⟨Y4, ee, (by rw [(hf hb).2]; exact bB)⟩, gq _ _ _ _ _ _ rfl rfl (by decide) rfl rfl rfl rfl rfl rfl rfl rfl⟩
  intro ⟨C, eC, bC⟩
  have eX : la R = wZ C := by unfold la; rw [eA, eB, eC]
  obtain ⟨q5, Y5, hh5, ht, hf⟩ := ia wX C
  conv => whnf
  refine ⟨_, 0, _, _, _, _, _, _, C, _, _, rfl, ⟨_, rfl, rfl⟩, ⟨by decide, by decide, rfl, rfl, rfl, rfl, rfl, rfl, rfl⟩, bC.ok, hh5, ?_⟩
  conv => whnf
  refine ak.sb (fun hb => ?_) (fun hb => ?_)
  rotate_left
  focus
    conv => whnf
    exact aZ (show la R = Y5 by rw [eX]; unfold wZ; rw [if_neg (hf hb).1, (hf hb).2]) _ _ _ _ _ _ (.same rfl) (by decide) rfl rfl rfl rfl rfl rfl rfl rfl
  have bY : Bz 790001 Y5 := by rw [(ht hb).2]; exact bC.next
  obtain ⟨z, T, hT, hT'⟩ := oG cf Y5
  have bT : Bz 790001 { T with q := { T.q with kind := z } } := by have := (bY.told cf).set (stF (ag cf) pU Y5); unfold stF pU at this; rw [hT'] at this; exact this
  conv => whnf
  refine .inr (.inr ⟨0, _, _, _, _, _, _, Y5, _, _, rfl, rfl, ⟨by decide, by decide, rfl, rfl, rfl, rfl, rfl, rfl, rfl⟩, bY.ok, hT, ?_⟩)
  conv => whnf
  refine .inl ⟨0, _, _, _, _, _, _, { T with q := { T.q with kind := z } }, rfl, rfl, ⟨by decide, by decide, rfl, rfl, rfl, rfl, rfl, rfl, rfl⟩, bT.ok, ?_⟩
  obtain ⟨D, hD⟩ : ∃ D, D = stF (ag an) vt { T with q := { T.q with kind := z } } := ⟨_, rfl⟩
  have bD : Bz 790001 D := by rw [hD]; exact (bT.told an).set _
  have e5 : la R = te (k9 D) := by rw [eX, hD]; unfold wZ; rw [if_pos (ht hb).1]; unfold zc; rw [← (ht hb).2]; congr 2; show stF (ag an) vt (stF (ag cf) pU Y5) = _; congr 1; unfold stF pU; rw [hT']
  obtain ⟨q6, Y6, hh6, ht, hf⟩ := ia Dg D
  rw [hD] at hh6
  conv => whnf
  refine kN.mk { X : Rd // k9 D = X ∧ Bz 790001 X } 13 (fun X => opS X.val) ?_ ?_
  focus
    conv => whnf
    refine ⟨_, 0, _, _, _, _, _, _, (stF (ag an) vt { T with q := { T.q with kind := z } }), _, _, rfl, ⟨_, rfl, rfl⟩, ⟨by decide, by decide, rfl, rfl, rfl, rfl, rfl, rfl, rfl⟩, (hD ▸ bD.ok), hh6, ?_⟩
    conv => whnf
    refine ak.sb (fun hb => ?_) (fun hb => ?_)
    focus
      have bY : Bz 790001 Y6 := by rw [(ht hb).2]; exact bD.next
      conv => whnf
      refine .inl ⟨0, _, _, _, _, _, _, Y6, rfl, rfl, ⟨by decide, by decide, rfl, rfl, rfl, rfl, rfl, rfl, rfl⟩, bY.ok, ?_⟩
      have ee : k9 D = stF (ag an) za Y6 := by unfold k9; rw [if_pos (ht hb).1, (ht hb).2]
      conv => whnf
      exact ⟨⟨stF (ag an) za Y6, ee, (bY.told an).set _⟩, gq _ _ _ _ _ _ rfl rfl (by decide) rfl rfl rfl rfl rfl rfl rfl rfl⟩
    have ee : k9 D = Y6 := by unfold k9; rw [if_neg (hf hb).1, (hf hb).2]
    conv => whnf
    exact ⟨⟨Y6, ee, (by rw [(hf hb).2]; exact bD)⟩, gq _ _ _ _ _ _ rfl rfl (by decide) rfl rfl rfl rfl rfl rfl rfl rfl⟩
  intro ⟨E, eE, bE⟩
  obtain ⟨q7, Y7, hh7, ht, hf⟩ := ia Dh E
  have e7 : la R = { Y7 with q := { Y7.q with empty := q7 } } := by
      rw [e5, eE]; unfold te
      cases q7 with
      | true => rw [if_pos (ht rfl).1, (ht rfl).2]
      | false => rw [if_neg (hf rfl).1, (hf rfl).2]
  conv => whnf
  refine ⟨_, 0, _, _, _, _, _, _, E, _, _, rfl, ⟨_, rfl, rfl⟩, ⟨by decide, by decide, rfl, rfl, rfl, rfl, rfl, rfl, rfl⟩, bE.ok, hh7, ?_⟩
  conv => whnf
  exact aZ e7 _ _ _ _ _ _ (.same rfl) (by decide) rfl rfl rfl rfl rfl rfl rfl rfl
theorem Cp : aD 74 (aX (fun R => Bz 790000 R) noA (az la)) := bf (au Co 4 _) (by kernel_rfl) cC (fun _ => rfl) (fun R => ⟨rfl, fun _ => rfl⟩) fun R h => xg R h
end Go.Proofs.Ytdfeigkooeeeaaa
namespace Go.Proofs.Ytdfeigkooeeeaaa
open Go Go.RowKit
def Cq : DT := [(0, [(some 1000000, [5, 7]), (none, [0, 1, 2, 3, 4, 5, 6, 7, 8, 9, 10, 11, 12, 13]), (none, [0, 1, 2, 3, 4, 6, 7, 5, 8, 9, 10, 11, 12, 13])]), (2, [(some 1000000, [5, 7]), (none, [0, 1, 2, 3, 4, 5, 6, 7, 8, 9, 10, 11, 12, 13]), (none, [0, 1, 2, 3, 4, 6, 7, 5, 8, 9, 10, 11, 12, 13])])]
noncomputable def KFi : FuncId → EP := (dr 57 Cq KB)
theorem Cr : bZ KFi := (bu jg (by kernel_rfl) (by kernel_rfl))
theorem xh (R : Rd) (hok : Bz 880000 R) : di (ao KFi 4 57) (.ptr 0 0 :: []) (mkH (c6 (rdO R) 0)) 7 (RdP (az jy R).1 (az jy R).2) := by
  obtain ⟨g1, g2, g3, g4, g5, g6, g7⟩ := l9 (R := R) (by have := hok.fs; omega)
  show ao KFi 4 57 _ _ _ _
  conv => whnf
  refine ⟨?_, ?_, trivial⟩
  · conv => whnf
    refine ⟨0, 1, 2, 3, 4, 5, 6, R, rfl, rfl, ⟨by decide, by decide, rfl, rfl, rfl, rfl, rfl, rfl, rfl⟩, trivial, ?_⟩
    conv => whnf
    refine eD.grow 1 16 _ _ _ _ _ _ oY (.old rfl) rfl rfl (.rw rfl g1) g3 ?_
    conv => whnf
    refine dg.mk { X : Rd // Bz 880001 X ∧ wh fM gH X = jy R } 13 (fun X => rdS X.val) (fun X => muR X.val) ⟨gH R, hok.fs1, rfl⟩ ?_ ?_
    · exact eW 1 2 3 4 5 8 rfl (by decide) rfl (g5 _ _ _ _ _ _) rfl (aj _) rfl (ae _) rfl (ae _) rfl (aN _) rfl (ae _) rfl (g7 _ rfl)
    · intro ⟨X, hB, hX⟩
      conv => whnf
      refine ak.dec (fun h0 => ?_) (fun h0 => ?_)
      · conv => whnf
        refine ak.dec (fun hp => ?_) (fun hp => ?_)
        · have hp : 0 < X.ws.length := by exact Int.ofNat_lt.1 hp
          have hm := cx h0 hp
          by_cases hw : atR y5 X = true
          · conv => whnf
            refine ⟨_, 0, 7, 8, 9, 10, 11, 12, X, _, _, rfl, ⟨_, rfl, rfl⟩, ⟨by decide, by decide, rfl, rfl, rfl, rfl, rfl, rfl, rfl⟩, hB.ok, zk hw, ?_⟩
            conv => whnf
            refine ak.nsb (fun q => absurd q (by decide)) (fun _ => ?_)
            conv => whnf
            exact aZ (show jy R = X by rw [← hX, cP (show ¬ fM X = true by unfold fM; rw [hw]; simp)]) 7 8 9 10 11 12 (.same rfl) (by decide) rfl rfl rfl rfl rfl rfl rfl rfl
          · have hc : fM X = true := by unfold fM; rw [hm, Bool.eq_false_iff.2 hw]; rfl
            obtain ⟨f1, f2, f3, f4, f5, f6, f7⟩ := l9 (R := X) (by have := hB.fs; omega)
            conv => whnf
            refine ⟨_, 0, 7, 8, 9, 10, 11, 12, X, _, _, rfl, ⟨_, rfl, rfl⟩, ⟨by decide, by decide, rfl, rfl, rfl, rfl, rfl, rfl, rfl⟩, hB.ok, Bj hw, ?_⟩
            conv => whnf
            refine ak.nsb (fun _ => ?_) (fun q => absurd q (by decide))
            conv => whnf
            refine ⟨?_, ?_, trivial⟩
            · conv => whnf
              refine ⟨0, 7, 8, 9, 10, 11, 12, X, rfl, rfl, ⟨by decide, by decide, rfl, rfl, rfl, rfl, rfl, rfl, rfl⟩, trivial, ?_⟩
              conv => whnf
              refine eD.grow 1 16 _ _ _ _ _ _ oY (.old rfl) rfl rfl (.rw rfl f1) f3 ?_
              conv => whnf
              exact ⟨⟨gH X, hB.zd hm, (k7 (fun _ => fX) hc).trans hX⟩, fX hc, eW 7 8 9 10 11 14 rfl (by decide) rfl (f5 _ _ _ _ _ _) rfl (aj _) rfl (ae _) rfl (ae _) rfl (aN _) rfl (ae _) rfl (f7 _ rfl)⟩
            · conv => whnf
              refine ⟨0, 7, 8, 9, 10, 11, 12, X, rfl, rfl, ⟨by decide, by decide, rfl, rfl, rfl, rfl, rfl, rfl, rfl⟩, trivial, ?_⟩
              conv => whnf
              refine eD.grow 1 16 _ _ _ _ _ _ oY (.old rfl) rfl rfl (.rw rfl f2) f4 ?_
              conv => whnf
              exact ⟨⟨gH X, hB.zd hm, (k7 (fun _ => fX) hc).trans hX⟩, fX hc, eW 7 8 9 10 11 14 rfl (by decide) rfl (f6 _ _ _ _ _ _) rfl (aj _) rfl (ae _) rfl (ae _) rfl (aN _) rfl (ae _) rfl (f7 _ rfl)⟩
        · have hn : ¬ aC X = true := cz fun q => hp (by exact Int.ofNat_lt.2 q)
          conv => whnf
          exact aZ (show jy R = X by rw [← hX, cP (show ¬ fM X = true by unfold fM; rw [Bool.eq_false_iff.2 hn]; simp)]) 7 8 9 10 11 12 (.same rfl) (by decide) rfl rfl rfl rfl rfl rfl rfl rfl
      · have hn : ¬ aC X = true := cy h0
        conv => whnf
        exact aZ (show jy R = X by rw [← hX, cP (show ¬ fM X = true by unfold fM; rw [Bool.eq_false_iff.2 hn]; simp)]) 7 8 9 10 11 12 (.same rfl) (by decide) rfl rfl rfl rfl rfl rfl rfl rfl
  · conv => whnf
    refine ⟨0, 1, 2, 3, 4, 5, 6, R, rfl, rfl, ⟨by decide, by decide, rfl, rfl, rfl, rfl, rfl, rfl, rfl⟩, trivial, ?_⟩
    conv => whnf
    refine eD.grow 1 16 _ _ _ _ _ _ oY (.old rfl) rfl rfl (.rw rfl g2) g4 ?_
    conv => whnf
    refine dg.mk { X : Rd // Bz 880001 X ∧ wh fM gH X = jy R } 13 (fun X => rdS X.val) (fun X => muR X.val) ⟨gH R, hok.fs1, rfl⟩ ?_ ?_
    · exact eW 1 2 3 4 5 8 rfl (by decide) rfl (g6 _ _ _ _ _ _) rfl (aj _) rfl (ae _) rfl (ae _) rfl (aN _) rfl (ae _) rfl (g7 _ rfl)
    · intro ⟨X, hB, hX⟩
      conv => whnf
      refine ak.dec (fun h0 => ?_) (fun h0 => ?_)
      · conv => whnf
        refine ak.dec (fun hp => ?_) (fun hp => ?_)
        · have hp : 0 < X.ws.length := by exact Int.ofNat_lt.1 hp
          have hm := cx h0 hp
          by_cases hw : atR y5 X = true
          · conv => whnf
            refine ⟨_, 0, 7, 8, 9, 10, 11, 12, X, _, _, rfl, ⟨_, rfl, rfl⟩, ⟨by decide, by decide, rfl, rfl, rfl, rfl, rfl, rfl, rfl⟩, hB.ok, zk hw, ?_⟩
            conv => whnf
            refine ak.nsb (fun q => absurd q (by decide)) (fun _ => ?_)
            conv => whnf
            exact aZ (show jy R = X by rw [← hX, cP (show ¬ fM X = true by unfold fM; rw [hw]; simp)]) 7 8 9 10 11 12 (.same rfl) (by decide) rfl rfl rfl rfl rfl rfl rfl rfl
          · have hc : fM X = true := by unfold fM; rw [hm, Bool.eq_false_iff.2 hw]; rfl
            obtain ⟨f1, f2, f3, f4, f5, f6, f7⟩ := l9 (R := X) (by have := hB.fs; omega)
            conv => whnf
            refine ⟨_, 0, 7, 8, 9, 10, 11, 12, X, _, _, rfl, ⟨_, rfl, rfl⟩, ⟨by decide, by decide, rfl, rfl, rfl, rfl, rfl, rfl, rfl⟩, hB.ok, Bj hw, ?_⟩
            conv => whnf
            refine ak.nsb (fun _ => ?_) (fun q => absurd q (by decide))
            conv => whnf
            refine ⟨?_, ?_, trivial⟩
            · conv => whnf
              refine ⟨0, 7, 8, 9, 10, 11, 12, X, rfl, rfl, ⟨by decide, by decide, rfl, rfl, rfl, rfl, rfl, rfl, rfl⟩, trivial, ?_⟩
              conv => whnf
              refine eD.grow 1 16 _ _ _ _ _ _ oY (.old rfl) rfl rfl (.rw rfl f1) f3 ?_
              conv => whnf
              exact ⟨⟨gH X, hB.zd hm, (k7 (fun _ => fX) hc).trans hX⟩, fX hc, eW 7 8 9 10 11 14 rfl (by decide) rfl (f5 _ _ _ _ _ _) rfl (aj _) rfl (ae _) rfl (ae _) rfl (aN _) rfl (ae _) rfl (f7 _ rfl)⟩
            · conv => whnf
              refine ⟨0, 7, 8, 9, 10, 11, 12, X, rfl, rfl, ⟨by decide, by decide, rfl, rfl, rfl, rfl, rfl, rfl, rfl⟩, trivial, ?_⟩
              conv => whnf
              refine eD.grow 1 16 _ _ _ _ _ _ oY (.old rfl) rfl rfl (.rw rfl f2) f4 ?_
              conv => whnf
              exact ⟨⟨gH X, hB.zd hm, (k7 (fun _ => fX) hc).trans hX⟩, fX hc, eW 7 8 9 10 11 14 rfl (by decide) rfl (f6 _ _ _ _ _ _) rfl (aj _) rfl (ae _) rfl (ae _) rfl (aN _) rfl (ae _) rfl (f7 _ rfl)⟩
        · have hn : ¬ aC X = true := cz fun q => hp (by exact Int.ofNat_lt.2 q)
          conv => whnf
          exact aZ (show jy R = X by rw [← hX, cP (show ¬ fM X = true by unfold fM; rw [Bool.eq_false_iff.2 hn]; simp)]) 7 8 9 10 11 12 (.same rfl) (by decide) rfl rfl rfl rfl rfl rfl rfl rfl
      · have hn : ¬ aC X = true := cy h0
        conv => whnf
        exact aZ (show jy R = X by rw [← hX, cP (show ¬ fM X = true by unfold fM; rw [Bool.eq_false_iff.2 hn]; simp)]) 7 8 9 10 11 12 (.same rfl) (by decide) rfl rfl rfl rfl rfl rfl rfl rfl
theorem zo : aD 57 (aX (fun R => Bz 880000 R) noA (az jy)) := bf (au Cr 4 _) (by kernel_rfl) cC (fun _ => rfl) (fun R => ⟨rfl, fun _ => rfl⟩) fun R h => xh R h
noncomputable def KMg : FuncId → EP := (aB 57 (aX (fun R => Bz 880000 R) noA (az jy)) KB)
theorem Cs : bZ KMg := (ah jg zo)
theorem uP (R : Rd) (hok : Bz 870000 R) : di (ao KMg 4 54) (.ptr 0 0 :: []) (mkH (c6 (rdO R) 0)) 7 (RdP (az jF R).1 (az jF R).2) := by
  show ao KMg 4 54 _ _ _ _
  conv => whnf
  refine ⟨_, 0, 1, 2, 3, 4, 5, 6, R, rfl, ⟨_, rfl, rfl⟩, ⟨by decide, by decide, rfl, rfl, rfl, rfl, rfl, rfl, rfl⟩, hok.ok, ?_⟩
  conv => whnf
  refine ⟨0, 1, 2, 3, 4, 5, 6, (dh Ao R).2, rfl, rfl, ⟨by decide, by decide, rfl, rfl, rfl, rfl, rfl, rfl, rfl⟩, ((hok.w7 Ao).mono (by decide)), ?_⟩
  conv => whnf
  exact aZ (show jF R = _ from rfl) 7 8 9 10 11 12 (.same rfl) (by decide) rfl rfl rfl rfl rfl rfl rfl rfl
theorem vC : aD 54 (aX (fun R => Bz 870000 R) noA (az jF)) := bf (au Cs 4 _) (by kernel_rfl) cC (fun _ => rfl) (fun R => ⟨rfl, fun _ => rfl⟩) fun R h => uP R h
end Go.Proofs.Ytdfeigkooeeeaaa
namespace Go.Proofs.Ytdfeigkooeeeaaa
open Go Go.RowKit
def tg (ok : Rd → Prop) (F : Rd → Rd) (args : List AV) (H : AH) (n : Nat) (κ : PK) : Prop := match args with
  | [x] => ∃ (r k t v l q f : Nat) (R R' : Rd), x = .ptr r 0 ∧ uv H n r k t v l q f R ∧ ok R ∧ F R = R' ∧ κ (.tup []) (rn H n r k t v l q f R') (n + 6)
  | _ => False
theorem aD.Ct {f : FuncId} {ok : Rd → Prop} {F : Rd → Rd} (h : aD f (aX ok noA (az F))) : aD f (tg ok F) := fun args H n κ hs => h args H n κ (by
  unfold tg at hs
  split at hs
  · obtain ⟨r, k, t, v, l, q, f, R, R', h2, h3, h4, h5, h6⟩ := hs
    subst h5
    exact ⟨r, k, t, v, l, q, f, R, h2, rfl, h3, h4, h6⟩
  · exact hs.elim)
noncomputable def KOn : FuncId → EP := (aB 74 (tg (fun R => Bz 790000 R) la) (aB 54 (tg (fun R => Bz 870000 R) jF) (aB 53 (tg (fun R => R.ks.length ≤ 1000000) aK) KB3)))
theorem zp : bZ KOn := (ah (ah (ah zm rp.Ct) vC.Ct) Cp.Ct)
theorem xi (R : Rd) (hok : Bz 780000 R) : di (ao KOn 4 55) (.ptr 0 0 :: []) (mkH (c6 (rdO R) 0)) 7 (RdP (az uI R).1 (az uI R).2) := by
  show ao KOn 4 55 _ _ _ _
  obtain ⟨K, hK⟩ : ∃ K, aK R = K := ⟨_, rfl⟩
  have bK : Bz 780001 K := by rw [← hK]; exact hok.key
  obtain ⟨O, hO⟩ : ∃ O, la K = O := ⟨_, rfl⟩
  conv => whnf
  refine ⟨0, _, _, _, _, _, _, R, K, rfl, ⟨by decide, by decide, rfl, rfl, rfl, rfl, rfl, rfl, rfl⟩, hok.kk, hK, ?_⟩
  conv => whnf
  refine ⟨0, _, _, _, _, _, _, K, O, rfl, ⟨by decide, by decide, rfl, rfl, rfl, rfl, rfl, rfl, rfl⟩, bK.mono (by decide), hO, ?_⟩
  conv => whnf
  exact aZ (show uI R = O by unfold uI; rw [hK, hO]) _ _ _ _ _ _ (.same rfl) (by decide) rfl rfl rfl rfl rfl rfl rfl rfl
theorem Cu : aD 55 (aX (fun R => Bz 780000 R) noA (az uI)) := bf (au zp 4 _) (by kernel_rfl) cC (fun _ => rfl) (fun R => ⟨rfl, fun _ => rfl⟩) fun R h => xi R h
theorem xj (R : Rd) (hok : Bz 780000 R) : di (ao KOn 4 56) (.ptr 0 0 :: []) (mkH (c6 (rdO R) 0)) 7 (RdP (az oC R).1 (az oC R).2) := by
  show ao KOn 4 56 _ _ _ _
  obtain ⟨O, hO⟩ : ∃ O, la R = O := ⟨_, rfl⟩
  have bO : Bz 790001 O := by rw [← hO]; exact (hok.mono (by decide)).opt
  obtain ⟨M, hM⟩ : ∃ M, jF O = M := ⟨_, rfl⟩
  have bM : Bz 790002 M := by rw [← hM]; exact bO.Cb
  have e1 : uJ R = M := by unfold uJ; rw [hO, hM]
  obtain ⟨q, Y, hh, ht, hf⟩ := ia y5 M
  have bY : Bz 790002 Y := by
    cases q with
    | true => rw [(ht rfl).2]; exact bM.next
    | false => rw [(hf rfl).2]; exact bM
  obtain ⟨N, hN⟩ : ∃ N, N = { (aa Y).2 with gr := (aa Y).1 } := ⟨_, rfl⟩
  have bN : Bz 790002 { (aa Y).2 with gr := (aa Y).1 } := bY.next.set _
  obtain ⟨P, hP⟩ : ∃ P, dh An { (aa Y).2 with gr := (aa Y).1 } = (.tup [], P) := ⟨_, rfl⟩
  have bP : Bz 790002 P := by have := bN.w7 An; rw [hP] at this; exact this
  obtain ⟨z, T, hT, hT'⟩ := oG cf P
  conv => whnf
  refine ⟨0, _, _, _, _, _, _, R, O, rfl, ⟨by decide, by decide, rfl, rfl, rfl, rfl, rfl, rfl, rfl⟩, hok.mono (by decide), hO, ?_⟩
  conv => whnf
  refine ⟨0, _, _, _, _, _, _, O, M, rfl, ⟨by decide, by decide, rfl, rfl, rfl, rfl, rfl, rfl, rfl⟩, bO.mono (by decide), hM, ?_⟩
  conv => whnf
  refine ⟨_, 0, _, _, _, _, _, _, M, _, _, rfl, ⟨_, rfl, rfl⟩, ⟨by decide, by decide, rfl, rfl, rfl, rfl, rfl, rfl, rfl⟩, bM.ok, hh, ?_⟩
  conv => whnf
  refine ak.sb (fun hb => ?_) (fun hb => ?_)
  focus
    conv => whnf
    refine ⟨0, _, _, _, _, _, _, Y, rfl, rfl, ⟨by decide, by decide, rfl, rfl, rfl, rfl, rfl, rfl, rfl⟩, trivial, ?_⟩
    conv => whnf
    refine ⟨_, 0, _, _, _, _, _, _, { (aa Y).2 with gr := (aa Y).1 }, _, _, rfl, ⟨_, rfl, rfl⟩, ⟨by decide, by decide, rfl, rfl, rfl, rfl, rfl, rfl, rfl⟩, bN.ok, hP, ?_⟩
    conv => whnf
    refine .inr (.inr ⟨0, _, _, _, _, _, _, P, _, _, rfl, rfl, ⟨by decide, by decide, rfl, rfl, rfl, rfl, rfl, rfl, rfl⟩, bP.ok, hT, ?_⟩)
    conv => whnf
    exact aZ (show oC R = { T with rd := z } by unfold oC; rw [e1, if_pos (ht hb).1]; unfold Ca; rw [← (ht hb).2, hP]; unfold stF y8; rw [hT']) _ _ _ _ _ _ (.same rfl) (by decide) rfl rfl rfl rfl rfl rfl rfl rfl
  conv => whnf
  exact aZ (show oC R = Y by unfold oC; rw [e1, if_neg (hf hb).1, (hf hb).2]) _ _ _ _ _ _ (.same rfl) (by decide) rfl rfl rfl rfl rfl rfl rfl rfl
theorem Cv : aD 56 (aX (fun R => Bz 780000 R) noA (az oC)) := bf (au zp 4 _) (by kernel_rfl) cC (fun _ => rfl) (fun R => ⟨rfl, fun _ => rfl⟩) fun R h => xj R h
end Go.Proofs.Ytdfeigkooeeeaaa
namespace Go.Proofs.Ytdfeigkooeeeaaa
open Go Go.RowKit
def cE (F : Rd → Rd) (args : List AV) (H : AH) (n : Nat) (κ : PK) : Prop := match args with
  | [x] => ∃ (H0 : AH) (n0 : Nat), bX H n H0 n0 ∧ ∃ (r k t v l q f : Nat) (R R' : Rd), x = .ptr r 0 ∧ uv H0 n0 r k t v l q f R ∧ Bz 780000 R ∧ F R = R' ∧ κ (.tup []) (rn H0 n0 r k t v l q f R') (n0 + 6)
  | _ => False
theorem aD.ma {f : FuncId} {ok : Rd → Prop} {F : Rd → Rd} (h : aD f (aX ok noA (az F))) (hw : ∀ R, Bz 780000 R → ok R) : aD f (cE F) := fun args H n κ hs => h.y2 args H n κ (by
  unfold cE at hs
  split at hs
  · obtain ⟨H0, n0, h1, r, k, t, v, l, q, f, R, R', h2, h3, h4, h5, h6⟩ := hs
    subst h5
    exact ⟨H0, n0, h1, r, k, t, v, l, q, f, R, h2, rfl, h3, hw R h4, h6⟩
  · exact hs.elim)
noncomputable def mB : Nat → Rd → Rd
  | 1 => oz
  | 2 => oz
  | 3 => lZ
  | 4 => gD
  | 5 => mK
  | 6 => mK
  | 7 => wY
  | 8 => k8
  | 9 => gG
  | 10 => je
  | 11 => aK
  | 12 => jF
  | 13 => uI
  | 14 => oC
  | 15 => jy
  | 16 => aK
  | _ => id
def th : Nat → FuncId
  | 1 => 45
  | 2 => 45
  | 3 => 46
  | 4 => 47
  | 5 => 48
  | 6 => 48
  | 7 => 49
  | 8 => 50
  | 9 => 51
  | 10 => 52
  | 11 => 53
  | 12 => 54
  | 13 => 55
  | 14 => 56
  | 15 => 57
  | 16 => 53
  | _ => 0
theorem zq {P : Nat → Prop} (h1 : P 1) (h2 : P 2) (h3 : P 3) (h4 : P 4) (h5 : P 5) (h6 : P 6) (h7 : P 7) (h8 : P 8) (h9 : P 9) (h10 : P 10) (h11 : P 11) (h12 : P 12) (h13 : P 13) (h14 : P 14) (h15 : P 15) (h16 : P 16) : ∀ k, 1 ≤ k → k ≤ 16 → P k
  | 0, h, _ => absurd h (by decide)
  | 1, _, _ => h1
  | 2, _, _ => h2
  | 3, _, _ => h3
  | 4, _, _ => h4
  | 5, _, _ => h5
  | 6, _, _ => h6
  | 7, _, _ => h7
  | 8, _, _ => h8
  | 9, _, _ => h9
  | 10, _, _ => h10
  | 11, _, _ => h11
  | 12, _, _ => h12
  | 13, _, _ => h13
  | 14, _, _ => h14
  | 15, _, _ => h15
  | 16, _, _ => h16
  | k + 17, _, h => absurd h (by omega)
noncomputable def KPa : FuncId → EP := (dr 14 Ak (aB 23 uF (aB 45 (cE oz) (aB 46 (cE lZ) (aB 47 (cE gD) (aB 48 (cE mK) (aB 49 (cE wY) (aB 50 (cE k8) (aB 51 (cE gG) (aB 52 (cE je) (aB 53 (cE aK) (aB 54 (cE jF) (aB 55 (cE uI) (aB 56 (cE oC) (aB 57 (cE jy) (aB 24 (mA (eJ rq)) (aB 25 (mA (eJ gE)) (aB 26 (mA C8) evP))))))))))))))))))
theorem zr : bZ KPa := (bu (ah (ah (ah (ah (ah (ah (ah (ah (ah (ah (ah (ah (ah (ah (ah (ah (ah bt Aj) B8) Ai) (zo.ma (fun R h => h.mono (by decide)))) (Cv.ma (fun R h => h.mono (by decide)))) (Cu.ma (fun R h => h.mono (by decide)))) (vC.ma (fun R h => h.mono (by decide)))) (rp.ma (fun R h => h.kk))) (vz.ma (fun R h => h.mono (by decide)))) (As.ma (fun R h => h.mono (by decide)))) (Ar.ma (fun R h => h.mono (by decide)))) (Cd.ma (fun R h => h.mono (by decide)))) (Ch.ma (fun R h => h.mono (by decide)))) (B7.ma (fun R h => ⟨h.ok, by have := h.ks; omega, by have := h.ts; omega, by have := h.vs; omega⟩))) (Ce.ma (fun R h => h.mono (by decide)))) (Cm.ma (fun R h => h.mono (by decide)))) y1) (by kernel_rfl) (by kernel_rfl))
theorem pX {args : List AV} {H : AH} {n : Nat} {κ : PK} : ∀ k, 1 ≤ k → k ≤ 16 → cE (mB k) args H n κ → ao KPa 4 (th k) args H n κ := zq (fun h => h) (fun h => h) (fun h => h) (fun h => h) (fun h => h) (fun h => h) (fun h => h) (fun h => h) (fun h => h) (fun h => h) (fun h => h) (fun h => h) (fun h => h) (fun h => h) (fun h => h) (fun h => h)
theorem rr : ∀ {N : List (Nat × List Nat)} {u : List Nat}, whF N u ≠ 0 → ∃ x ∈ N, x.1 = whF N u ∧ aO x.2 u = true
  | [], _, h => absurd rfl h
  | x :: N, u, h => by
    unfold whF at h ⊢
    cases e : aO x.2 u with
    | true => exact ⟨x, List.mem_cons_self, rfl, e⟩
    | false =>
      rw [e] at h
      obtain ⟨y, h1, h2⟩ := rr h
      exact ⟨y, List.mem_cons_of_mem _ h1, h2⟩
theorem Cw (u : List Nat) : whF rq u ≤ 16 := by
  by_cases h : whF rq u = 0
  · omega
  · obtain ⟨x, h1, h2, _⟩ := rr h
    rw [← h2]
    exact (show ∀ y ∈ rq, y.1 ≤ 16 by decide) x h1
theorem Cx (u : List Nat) : whF gE u = 0 ∨ (1 ≤ whF gE u ∧ whF gE u ≤ 16) := by
  by_cases h : whF gE u = 0
  · exact .inl h
  · obtain ⟨x, h1, h2, _⟩ := rr h
    rw [← h2]
    exact .inr ((show ∀ y ∈ gE, 1 ≤ y.1 ∧ y.1 ≤ 16 by decide) x h1)
def xk : Rd := { jd with e := 15 }
noncomputable def eY (u : List Nat) : Nat := if whF gE u = 0 then whF rq u else whF gE u
noncomputable def cQ (W : List (List Nat)) : Rd := if W.length = 0 then xk else if eY (upF (W.headD [])) = 0 then xk else dI (mB (eY (upF (W.headD []))) (fL W.tail (eY (upF (W.headD [])) : Nat) (!decide (whF gE (upF (W.headD [])) = 0))))
theorem uQ {W : List (List Nat)} (hl : W.length ≤ 700000) (hw : ∀ w ∈ W, (∀ c ∈ w, c < 256) ∧ w.length ≤ 1000000) (k : Int) (b : Bool) : Bz 780000 (fL W.tail k b) :=
  ⟨fun w h => hw w (List.mem_of_mem_tail h), by simp [fL]; omega, by simp [fL]; omega, by simp [fL]; omega, by simp [fL]; omega, by simp [fL, noQ]; omega, by simp [fL]; omega⟩
theorem pY (W : List (List Nat)) (hl : W.length ≤ 700000) (hw : ∀ w ∈ W, (∀ c ∈ w, c < 256) ∧ w.length ≤ 1000000) :
    Bg (ao KPa 5 14) [.fr W.length 1 (aq W)] .nil 0 (fun v => v = kg (cQ W)) := by
  obtain ⟨P, hP'⟩ : ∃ P, cQ W = P := ⟨_, rfl⟩
  rw [hP']
  show ao KPa 5 14 _ _ _ _
  conv => whnf
  refine ak.dec (fun q => ?_) (fun hne => ?_)
  focus
    have hP : xk = P := by rw [← hP']; unfold cQ; rw [if_pos (by omega)]
    conv => whnf
    exact ⟨_, FzT.zero (R := xk) (by decide) jv rfl, congrArg kg hP⟩
  have hp : 0 < W.length := by omega
  have hh := hw _ (List.getElem_mem hp)
  rw [m0 hp] at hh
  obtain ⟨k, hk⟩ : ∃ k, whF rq (upF (W.headD [])) = k := ⟨_, rfl⟩
  obtain ⟨b, hb⟩ : ∃ b, whF gE (upF (W.headD [])) = b := ⟨_, rfl⟩
  have k16 : k ≤ 16 := by rw [← hk]; exact Cw _
  have b16 : b = 0 ∨ (1 ≤ b ∧ b ≤ 16) := by rw [← hb]; exact Cx _
  have hpar : ∀ nm bb X, eY (upF (W.headD [])) = nm → (!decide (whF gE (upF (W.headD [])) = 0)) = bb → 1 ≤ nm → mB nm (fL W.tail (nm : Int) bb) = X → dI X = P := fun nm bb X h1 h2 h3 h4 => by rw [← hP']; unfold cQ; rw [if_neg (by omega), h1, h2, if_neg (by omega), h4]
  conv => whnf
  refine RSl.mk 1 _ rfl rfl (.inl rfl) hp (Nat.le_refl _) ?_
  conv => whnf
  refine ⟨?_, ?_, trivial⟩
  all_goals
    conv => whnf
    refine Idx.mk 0 rfl hp ?_
    conv => whnf
    refine bj (eK hp) ?_
    conv => whnf
    refine ⟨_, rq, W.headD [], k, rfl, rfl, by decide, rfl, wV, hh.1, hh.2, hk, ?_⟩
    conv => whnf
    refine ⟨?_, ?_, trivial⟩
    all_goals
      conv => whnf
      refine Idx.mk 0 rfl hp ?_
      conv => whnf
      refine bj (eK hp) ?_
      conv => whnf
      refine ⟨_, gE, W.headD [], b, rfl, rfl, by decide, rfl, wW, hh.1, hh.2, hb, ?_⟩
      conv => whnf
      refine ak.dec (fun hg => ?_) (fun hg => ?_)
      focus
        have hg : 0 < b := by exact Int.ofNat_lt.1 hg
        let nm := b
        let bb := true
        have n1 : 1 ≤ nm := hg
        have n16 : nm ≤ 16 := b16.elim (fun h => absurd h (by omega)) fun h => h.2
        have hnm : eY (upF (W.headD [])) = nm := by unfold eY; rw [hb, if_neg (by omega)]
        have hbb : (!decide (whF gE (upF (W.headD [])) = 0)) = bb := by rw [hb, decide_eq_false (by omega)]; rfl
        obtain ⟨X, hX⟩ : ∃ X, mB nm (fL W.tail (nm : Int) bb) = X := ⟨_, rfl⟩
        have hP : dI X = P := hpar nm bb X hnm hbb n1 hX
        conv => whnf
        refine ⟨?_, ?_, trivial⟩
        all_goals
          conv => whnf
          refine Ask.mk (.tup [.fn (th nm) [] [], .bool true]) (zq (P := fun j => gR _ _ _ (hd (.si .i64 (Int.ofNat j))) _ _ = some (AV.tup [.fn (th j) [] [], .bool true])) (by rfl) (by rfl) (by rfl) (by rfl) (by rfl) (by rfl) (by rfl) (by rfl) (by rfl) (by rfl) (by rfl) (by rfl) (by rfl) (by rfl) (by rfl) (by rfl) nm n1 n16) ?_
          conv => whnf
          refine pX nm n1 n16 ?_
          refine ⟨_, _, bX.reader (r := 1) (ws := W.tail) (k := (nm : Int)) (b := bb) rfl (congrArg (fun a => a :: (Ag (fL W.tail (nm : Int) bb)).tail) (rj W)) (by decide) (by decide), 1, 5, 6, 7, 8, 9, 10, fL W.tail (nm : Int) bb, X, rfl, ⟨by decide, by decide, rfl, rfl, rfl, rfl, rfl, rfl, rfl⟩, uQ hl hw _ _, hX, ?_⟩
          conv => whnf
          refine ak.dec (fun he => ?_) (fun he => ?_)
          focus
            have he : X.e = 0 := he
            conv => whnf
            refine ak.dec (fun hq => ?_) (fun hq => ?_)
            focus
              have hq : 0 < X.ws.length := by exact Int.ofNat_lt.1 hq
              have hf : dI X = { X with e := 14 } := by unfold dI cr; rw [if_pos (cx he hq), if_pos he]
              have hz : ¬ (dI X).e = 0 := by rw [hf]; show ¬ (14 : Int) = 0; decide
              have hx : AV.si .i64 14 = .si .i64 (dI X).e := by rw [hf]
              conv => whnf
              refine ak.dec (fun _ => ?_) (fun q => absurd he q)
              conv => whnf
              refine ⟨?_, ?_, trivial⟩
              all_goals
                conv => whnf
                exact ⟨_, FzT.zero (R := dI X) hz jv hx, congrArg kg hP⟩
            have hq : ¬ 0 < X.ws.length := fun q => hq (by exact Int.ofNat_lt.2 q)
            have hf : dI X = X := by unfold dI; rw [if_neg (cz hq)]
            have hx : AV.si .i64 0 = .si .i64 X.e := by rw [he]
            conv => whnf
            refine ak.ir (fun q => absurd he q) (fun _ => ?_)
            conv => whnf
            exact ⟨_, FzT.rows 11 12 13 14 15 16 (by decide) (by decide) he hx rfl rfl rfl rfl rfl rfl, congrArg kg (hf.symm.trans hP)⟩
          focus
            have he : ¬ X.e = 0 := he
            have hf : dI X = X := by unfold dI; rw [if_neg (cy he)]
            have hz : ¬ (dI X).e = 0 := by rw [hf]; exact he
            have hx : AV.si .i64 X.e = .si .i64 (dI X).e := by rw [hf]
            conv => whnf
            refine ak.ir (fun _ => ?_) (fun q => absurd q he)
            conv => whnf
            refine ⟨?_, ?_, trivial⟩
            all_goals
              conv => whnf
              exact ⟨_, FzT.zero (R := dI X) hz jv hx, congrArg kg hP⟩
      focus
        have hg : ¬ 0 < b := fun q => hg (by exact Int.ofNat_lt.2 q)
        have b0 : b = 0 := by omega
        by_cases k0 : k = 0
        focus
          have hP : xk = P := by rw [← hP']; unfold cQ eY; rw [if_neg (by omega), hb, if_pos b0, hk, if_pos k0]
          subst k0
          conv => whnf
          refine ⟨?_, ?_, trivial⟩
          all_goals
            conv => whnf
            refine Ask.mk _ rfl ?_
            conv => whnf
            exact ⟨_, FzT.zero (R := xk) (by decide) jv rfl, congrArg kg hP⟩
        let nm := k
        let bb := false
        have n1 : 1 ≤ nm := by show 1 ≤ k; omega
        have n16 : nm ≤ 16 := k16
        have hnm : eY (upF (W.headD [])) = nm := by unfold eY; rw [hb, if_pos b0, hk]
        have hbb : (!decide (whF gE (upF (W.headD [])) = 0)) = bb := by rw [hb, decide_eq_true b0]; rfl
        obtain ⟨X, hX⟩ : ∃ X, mB nm (fL W.tail (nm : Int) bb) = X := ⟨_, rfl⟩
        have hP : dI X = P := hpar nm bb X hnm hbb n1 hX
        conv => whnf
        refine ⟨?_, ?_, trivial⟩
        all_goals
          conv => whnf
          refine Ask.mk (.tup [.fn (th nm) [] [], .bool true]) (zq (P := fun j => gR _ _ _ (hd (.si .i64 (Int.ofNat j))) _ _ = some (AV.tup [.fn (th j) [] [], .bool true])) (by rfl) (by rfl) (by rfl) (by rfl) (by rfl) (by rfl) (by rfl) (by rfl) (by rfl) (by rfl) (by rfl) (by rfl) (by rfl) (by rfl) (by rfl) (by rfl) nm n1 n16) ?_
          conv => whnf
          refine pX nm n1 n16 ?_
          refine ⟨_, _, bX.reader (r := 1) (ws := W.tail) (k := (nm : Int)) (b := bb) rfl (congrArg (fun a => a :: (Ag (fL W.tail (nm : Int) bb)).tail) (rj W)) (by decide) (by decide), 1, 5, 6, 7, 8, 9, 10, fL W.tail (nm : Int) bb, X, rfl, ⟨by decide, by decide, rfl, rfl, rfl, rfl, rfl, rfl, rfl⟩, uQ hl hw _ _, hX, ?_⟩
          conv => whnf
          refine ak.dec (fun he => ?_) (fun he => ?_)
          focus
            have he : X.e = 0 := he
            conv => whnf
            refine ak.dec (fun hq => ?_) (fun hq => ?_)
            focus
              have hq : 0 < X.ws.length := by exact Int.ofNat_lt.1 hq
              have hf : dI X = { X with e := 14 } := by unfold dI cr; rw [if_pos (cx he hq), if_pos he]
              have hz : ¬ (dI X).e = 0 := by rw [hf]; show ¬ (14 : Int) = 0; decide
              have hx : AV.si .i64 14 = .si .i64 (dI X).e := by rw [hf]
              conv => whnf
              refine ak.dec (fun _ => ?_) (fun q => absurd he q)
              conv => whnf
              refine ⟨?_, ?_, trivial⟩
              all_goals
                conv => whnf
                exact ⟨_, FzT.zero (R := dI X) hz jv hx, congrArg kg hP⟩
            have hq : ¬ 0 < X.ws.length := fun q => hq (by exact Int.ofNat_lt.2 q)
            have hf : dI X = X := by unfold dI; rw [if_neg (cz hq)]
            have hx : AV.si .i64 0 = .si .i64 X.e := by rw [he]
            conv => whnf
            refine ak.ir (fun q => absurd he q) (fun _ => ?_)
            conv => whnf
            exact ⟨_, FzT.rows 11 12 13 14 15 16 (by decide) (by decide) he hx rfl rfl rfl rfl rfl rfl, congrArg kg (hf.symm.trans hP)⟩
          focus
            have he : ¬ X.e = 0 := he
            have hf : dI X = X := by unfold dI; rw [if_neg (cy he)]
            have hz : ¬ (dI X).e = 0 := by rw [hf]; exact he
            have hx : AV.si .i64 X.e = .si .i64 (dI X).e := by rw [hf]
            conv => whnf
            refine ak.ir (fun _ => ?_) (fun q => absurd q he)
            conv => whnf
            refine ⟨?_, ?_, trivial⟩
            all_goals
              conv => whnf
              exact ⟨_, FzT.zero (R := dI X) hz jv hx, congrArg kg hP⟩
def zt (args : List AV) (H : AH) (n : Nat) (κ : PK) : Prop := match args with
  | [x] => ∃ (W : List (List Nat)) (X : Rd), W.length ≤ 700000 ∧ (∀ w ∈ W, (∀ c ∈ w, c < 256) ∧ w.length ≤ 1000000) ∧ cQ W = X ∧ ((x = .fr W.length 1 (aq W) ∧ κ (kg X) H n) ∨ ∃ (b m : Nat) (l : List AV), x = .rw b 0 m 1 0 ∧ m = W.length ∧ H.get b = some (.cells l true) ∧ l.map mk = aq W ∧ κ (kg X) (H.set none ab b) n)
  | _ => False
theorem Av : aD 14 zt := fun args H n κ hs φ h0' hp vs K hr hargs hk => by
  unfold zt at hs
  split at hs
  · obtain ⟨x, rfl, e1⟩ := vs1 hargs
    obtain ⟨W, X, g1, g2, g3, hs⟩ := hs
    subst g3
    rcases hs with ⟨rfl, hs⟩ | ⟨b, m, l, rfl, rfl, hb, hl, hs⟩
    · exact y3 (au zr 5 _) (l := cmF (if (cQ W).e = 0 then cQ W else jd)) (x := .si .i64 (cQ W).e) (kZ _) rfl (pY W g1 g2) hs hr hk (by kernel_rfl) (φ0 := ⟨fun _ => none, φ.z, φ.z⟩) (fun hw => hr.vc (ew hw) (fun _ _ h => by cases h) (fun _ h => h)) rfl
        (.cons (fg (ψ := ⟨fun _ => none, φ.z, φ.z⟩) (fun _ h => h) rfl e1) .nil)
    · obtain ⟨χ, h1, h2, h3⟩ := hr.C5 (s := aq W) hb e1 (by decide) (aV W) (by rw [dd, Nat.mul_one]) (by rw [hl, aj])
      exact y3 (au zr 5 _) (l := cmF (if (cQ W).e = 0 then cQ W else jd)) (x := .si .i64 (cQ W).e) (kZ _) rfl (pY W g1 g2) hs h2 (fun ψ v H' n' u g hle => hk ψ v H' n' u g (h1.trans hle)) (by kernel_rfl) (φ0 := ⟨fun _ => none, χ.z, χ.z⟩) (fun hw => h2.vc (ew hw) (fun _ _ h => by cases h) (fun _ h => h)) rfl
        (.cons (fg (ψ := ⟨fun _ => none, χ.z, χ.z⟩) (fun _ h => h) rfl h3) .nil)
  · exact hs.elim
end Go.Proofs.Ytdfeigkooeeeaaa
namespace Go.Proofs.Ytdfeigkooeeeaaa
open Go Go.RowKit
theorem pZ : ∀ {es : List (AV × AV)} {N : List (Nat × List Nat)}, z8 es = some N → es = eJ N
  | [], N, h => by
    injection h with h; subst h; rfl
  | (a, b) :: es, N, h => by
    unfold z8 at h
    split at h
    · rename_i q; cases q
    · rename_i k s es' e
      injection e with e1 e2; injection e1 with e1 e3; subst e1 e2 e3
      split at h
      · rename_i N' hN'
        injection h with h; subst h
        rw [pZ hN']; rfl
      · cases h
    · cases h
theorem vD {args : List AV} {H : AH} {n : Nat} {κ : KA} {r : AV × AH × Nat} (h : whQ args H n κ = some r) : ∃ (b : Nat) (N : List (Nat × List Nat)) (w : List Nat), args = [.str w, .map b] ∧ H.get b = some (.map (eJ N)) ∧ gm N = true ∧ (∀ c ∈ w, c < 256) ∧ w.length ≤ 1000000 ∧ ∀ κ' : KA, whQ args H n κ' = κ' (.int .i64 (Int.ofNat (whF N (upF w)))) H n := by
  unfold whQ at h
  split at h
  · rename_i w b
    split at h
    · rename_i es hb
      split at h
      · rename_i N hN
        split at h
        · rename_i hok
          simp only [Bool.and_eq_true] at hok
          have e := pZ hN
          subst e
          refine ⟨b, N, w, rfl, hb, hok.1, fun c hc => ?_, ?_, fun κ' => ?_⟩
          · have := List.all_eq_true.1 hok.2.1 c hc
            exact Nat.le_of_ble_eq_true this
          · have : w.length < 1000 := Nat.le_of_ble_eq_true hok.2.2
            omega
          · unfold whQ
            simp only [hb, hN, hok.1, hok.2.1, hok.2.2, Bool.and_self]
        · cases h
      · cases h
    · cases h
  · cases h
theorem Dp : zW whQ := fun args H n κ r h => by
  obtain ⟨b, N, w, _, _, _, _, _, hk⟩ := vD h
  exact ⟨_, _, _, hk⟩
theorem Cy : COk Try.prog 23 fun args H n => whQ args H n jV := fun args H n v H' n' e φ h0 h vs K hr hargs hk => by
  have e : whQ args H n jV = some (v, H', n') := e
  obtain ⟨b, N, w, rfl, hb, hN, h1, h2, hq⟩ := vD e
  rw [hq jV] at e
  injection e with e; injection e with e1 e2; injection e2 with e2 e3
  subst e1 e2 e3
  obtain ⟨x, y, rfl, ex, ey⟩ := vs2 hargs
  obtain ⟨p, hp, _⟩ := ey.gS
  exact vi [.str w, .map b] H n (fun v' H1 n1 => v' = .si .i64 ((whF N (upF w) : Nat) : Int) ∧ H1 = H ∧ n1 = n) ⟨b, N, w, rfl, rfl, (hr.dom b p hp).1, hb, hN, h1, h2, rfl, rfl, rfl⟩ φ h0 h _ K hr hargs
    fun ψ v' H1 n1 u g hle hg hu ⟨f1, f2, f3⟩ => by
      subst f1 f2 f3
      exact hk ψ u g hle hg hu.hd
theorem zu {F : FuncId → EQ} (hF : ua F) {k : FuncId} {g : List AV → AH → Nat → KA → AR} (h1 : zW g) (h2 : COk Try.prog k fun args H n => g args H n jV) : ua (yz k g F) := fun f => by
  unfold yz
  cases hb : Nat.beq f k with
  | false => exact hF f
  | true =>
    have := Nat.eq_of_beq_eq_true hb
    subst this
    exact ⟨h1, h2⟩
theorem Cz : ua evC := zu Bw Dp Cy
theorem lf : isTrue (kL evC 60 8 [] .nil 0 jV) = true := by kernel_rfl
theorem xl : aD 8 (yo uZ) := z5 (x4 Cz lf)
end Go.Proofs.Ytdfeigkooeeeaaa
namespace Go.Proofs.Ytdfeigkooeeeaaa
open Go Go.RowKit
theorem aR.frE {H : AH} {m : Nat} {r : Nat → Nat} {a : AV} {n k : Nat} {l : List AV} (e : a = .fr n k l) : aR H m r a (.fr n k l) := by subst e; exact .eu rfl
theorem cB.Bl {H : AH} {m : Nat} {r : Nat → Nat} {l : List AV} {z : Bool} (h : l.all eu = true) : cB H m r (.cells l z) (.cells l z) :=
  cB.cells (Nat.le_refl _) (fun q => q) fun i a' hi => ⟨a', hi, .eu (List.all_eq_true.1 h a' (List.mem_of_getElem? hi))⟩
end Go.Proofs.Ytdfeigkooeeeaaa
namespace Go.Proofs.Ytdfeigkooeeeaaa
open Go Go.RowKit
def Aw : AV → Bool
  | .agg l => l.all eu
  | v => eu v
theorem vE {φ ψ : Ph} (hz : ∀ q, φ.z q → ψ.z q) {a : AV} {w : Value} (h : Aw a = true) (hw : VR φ a w) : VR ψ a w := by
  cases a
  case agg l =>
    obtain ⟨cs, rfl, hv⟩ := hw.dt
    exact .agg (ou hz h hv)
  all_goals exact fg hz h hw
theorem ti {φ ψ : Ph} (hz : ∀ q, φ.z q → ψ.z q) : ∀ {l : List AV} {vs : List Value}, l.all Aw = true → VRs φ l vs → VRs ψ l vs
  | [], _, _, h => by rw [h.aH]; exact .nil
  | a :: l, vs, hs, h => by
    obtain ⟨v, us, rfl, h1, h2⟩ := h.cons_inv
    simp only [List.all_cons, Bool.and_eq_true] at hs
    exact .cons (vE hz hs.1 h1) (ti hz hs.2 h2)
def fZ (A : List AV → AV → Prop) (args : List AV) (H : AH) (n : Nat) (κ : PK) : Prop := ∃ v, A args v ∧ κ v H n
theorem mb (A : List AV → AV → Prop) : od (fZ A) := .pure fun _ _ _ _ ⟨v, h1, h2⟩ => ⟨v, h2, fun _ h => ⟨v, h1, h⟩⟩
theorem gI {F : FuncId → EP} (hF : bZ F) (d : Nat) {f : FuncId} (hic : dj Try.prog f = true) {A : List AV → AV → Prop} (h : ∀ args v, A args v → args.all Aw = true ∧ Aw v = true ∧ ao F d f args .nil 0 fun u _ _ => VTo u v) : aD f (fZ A) := fun args H n κ ⟨v, ha, hs⟩ φ h0 hp vs K hr hargs hk => by
  obtain ⟨s1, s2, s3⟩ := h args v ha
  have key : Wf hp → dZ Try.prog f vs hp K := fun hw => au hF d f args .nil 0 _ s3 ⟨fun _ => none, φ.z, φ.z⟩ hp hp vs K (hr.vc (ew hw) (fun _ _ h => by cases h) (fun _ h => h)) (ti (φ := φ) (ψ := ⟨fun _ => none, φ.z, φ.z⟩) (fun _ h => h) s1 hargs) fun ψ u H' n' w g hle hg hu he => by
    obtain ⟨χ, h1, h2, h3⟩ := s9 hr hg (fun q hq => hle.y q hq)
    exact hk χ v H n w g h1 h2 (vE h3 s2 (he ψ w hu)) hs
  exact ⟨hic, fun w hi => (key hi.wf).2 w hi⟩
theorem vF {P : Program} {t : TypeId} {H : AH} {xs ys : List AV} {pl : List (Nat × Nat)} {q : Bool} (hp : jH P t = some pl) (hq : ik xs ys pl = some q) : mE P .eql t (.agg xs) (.agg ys) H = some (.bool q) := by
  show ij .eql ((jH P t).bind (ik xs ys)) = _
  rw [hp]; show ij .eql (ik xs ys pl) = _; rw [hq]; rfl
theorem Ax {P : Program} {t : TypeId} {H : AH} {xs ys : List AV} {pl : List (Nat × Nat)} {q : Bool} (hp : jH P t = some pl) (hq : ik xs ys pl = some q) : mE P .neq t (.agg xs) (.agg ys) H = some (.bool (!q)) := by
  show ij .neq ((jH P t).bind (ik xs ys)) = _
  rw [hp]; show ij .neq (ik xs ys pl) = _; rw [hq]; rfl
theorem VTo.isb {a b : Bool} {u : AV} (hu : mk u = .sb a) (h : a = b) : VTo u (.sb b) := by subst h; exact VTo.mkv hu
theorem p7 {V : List Int} {i : Nat} (h : i < V.length) : nth (ints V) (i * 1) = some (.si .i64 V[i]) := yr h (Nat.mul_one _)
theorem mc {V : List (List Nat)} {i : Nat} (h : i < V.length) : nth (aq V) (i * 1) = some (.ss V[i]) := by
  rw [dz, Nat.mul_one]; simp [aq, h]
theorem me : ∀ {V : List (List Nat × List Nat)} {i : Nat} (h : i < V.length), aP (ba V) (i * 2) 2 = some [.ss V[i].1, .ss V[i].2]
  | x :: V, 0, h => by
    show aP (AV.ss x.1 :: AV.ss x.2 :: ba V) 0 2 = _
    unfold aP
    rw [show Nat.ble (0 + 2) (AV.ss x.1 :: AV.ss x.2 :: ba V).length = true from Nat.ble_eq_true_of_le (by simp)]
    rfl
  | x :: V, i + 1, h => by
    have ih := me (V := V) (i := i) (by simpa using h)
    obtain ⟨h1, h2⟩ := aM ih
    show aP (AV.ss x.1 :: AV.ss x.2 :: ba V) ((i + 1) * 2) 2 = _
    have hl : ((i + 1) * 2 + 2) ≤ (AV.ss x.1 :: AV.ss x.2 :: ba V).length := by simp only [List.length_cons]; omega
    unfold aP
    rw [Nat.ble_eq_true_of_le hl]
    have : (AV.ss x.1 :: AV.ss x.2 :: ba V).drop ((i + 1) * 2) = (ba V).drop (i * 2) := by
      rw [show (i + 1) * 2 = i * 2 + 1 + 1 by omega]; rfl
    show some (((AV.ss x.1 :: AV.ss x.2 :: ba V).drop ((i + 1) * 2)).take 2) = _
    rw [this, ← h2]; rfl
def Dq (args : List AV) (v : AV) : Prop := ∃ V W : List (List Nat), args = [.fr V.length 1 (aq V), .fr W.length 1 (aq W)] ∧ V.length ≤ 1000000 ∧ v = .sb (decide (V = W))
noncomputable def zv (V : List (List Nat)) (W : List (List Nat)) (i : Nat) : AE × AH := (mkE [(0, .fr V.length 1 (aq V)), (1, .fr W.length 1 (aq W)), (12, .si .i64 ((V.length : Nat))), (13, .si .i64 (i))], mkH [])
theorem p8 {V : List (List Nat)} {W : List (List Nat)} {i : Nat} {p n : Nat} {σ : AE} {H : AH} (hp : p ≤ 0) (e0 : aA (pa 0) σ = .fr V.length 1 (aq V)) (e1 : aA (pa 1) σ = .fr W.length 1 (aq W)) (e12 : mk (aA (pa 12) σ) = .si .i64 ((V.length : Nat))) (e13 : mk (aA (pa 13) σ) = .si .i64 (i)) : Cov p σ H n ((zv V W i).1, (zv V W i).2, 0) := by
  refine Cov.ofR (fun b => b) (by omega) (fun b hb => rfl) ?_ ?_ ?_
  · intro x hx
    simp only [List.mem_cons, List.not_mem_nil, or_false] at hx
    rcases hx with rfl | rfl | rfl | rfl
    · exact aR.frE e0
    · exact aR.frE e1
    · exact .int e12
    · exact .int e13
  · intro x hx
    cases hx
  · intro x hx y hy
    cases hx
noncomputable def Dr : FuncId → EP := dr 38 [] evP
theorem Ay : bZ Dr := bu bt (by kernel_rfl) (by kernel_rfl)
theorem CA (V W : List (List Nat)) (hV : V.length ≤ 1000000) : ao Dr 3 38 [.fr V.length 1 (aq V), .fr W.length 1 (aq W)] .nil 0 fun u _ _ => VTo u (.sb (decide (V = W))) := by
  conv => whnf
  refine ak.ir (fun h1 => ?_) (fun h1 => ?_)
  · have h2 : decide (V = W) = false := decide_eq_false fun e => h1 (by subst e; rfl)
    conv => whnf
    exact VTo.isb rfl h2.symm
  · have hl : V.length = W.length := Int.ofNat_inj.1 h1
    conv => whnf
    refine dg.mk { i : Nat // i ≤ V.length ∧ V.take i = W.take i } 0 (fun i => zv V W i.val) (fun i => V.length - i.val) ⟨0, Nat.zero_le _, rfl⟩ ?_ ?_
    · exact p8 (i := 0) (Nat.le_refl 0) rfl rfl rfl rfl
    · intro ⟨i, hi, he⟩
      conv => whnf
      refine ak.dec (fun h3 => ?_) (fun h3 => ?_)
      · have h4 : i < V.length := Int.ofNat_lt.1 h3
        have h5 : i < W.length := hl ▸ h4
        have hlt : V.length - (i + 1) < V.length - i := by omega
        have hw : IntKind.i64.wrap ((i : Int) + 1) = ((i + 1 : Nat) : Int) := by rw [iI (by omega) (by omega)]; omega
        have hsn : V[i] = W[i] → V.take (i + 1) = W.take (i + 1) := fun e => by rw [List.take_succ_eq_append_getElem h4, List.take_succ_eq_append_getElem h5, he, e]
        have hne : ¬ V[i] = W[i] → decide (V = W) = false := fun q => decide_eq_false fun e => q (by subst e; rfl)
        conv => whnf
        refine Idx.mk i rfl h4 ?_
        conv => whnf
        refine bj (mc (V := V) h4) ?_
        conv => whnf
        refine Idx.mk i rfl h5 ?_
        conv => whnf
        refine bj (mc (V := W) h5) ?_
        conv => whnf
        refine ak.nsb (fun h6 => ?_) (fun h6 => ?_)
        · have h6 : ¬ V[i] = W[i] := fun e => by rw [e, cD.2 rfl] at h6; cases h6
          conv => whnf
          exact VTo.isb rfl (hne h6).symm
        · have h6 : V[i] = W[i] := cD.1 h6
          conv => whnf
          exact ⟨⟨i + 1, h4, hsn h6⟩, hlt, (p8 (Nat.le_refl 0) rfl rfl rfl (congrArg (AV.si .i64) hw))⟩
      · have h4 : i = V.length := by have : ¬ (i : Int) < (V.length : Int) := h3; omega
        have h5 : decide (V = W) = true := decide_eq_true (by rw [h4, List.take_length, hl, List.take_length] at he; exact he)
        conv => whnf
        exact VTo.isb rfl h5.symm
theorem DS : aD 38 (fZ Dq) := gI Ay 3 (by kernel_rfl) fun args v ⟨V, W, h1, h2, h3⟩ => by
  subst h1 h3; exact ⟨rfl, rfl, CA V W h2⟩
def Ds (args : List AV) (v : AV) : Prop := ∃ V W : List (Int), args = [.fr V.length 1 (ints V), .fr W.length 1 (ints W)] ∧ V.length ≤ 1000000 ∧ v = .sb (decide (V = W))
noncomputable def zw (V : List (Int)) (W : List (Int)) (i : Nat) : AE × AH := (mkE [(0, .fr V.length 1 (ints V)), (1, .fr W.length 1 (ints W)), (12, .si .i64 ((V.length : Nat))), (13, .si .i64 (i))], mkH [])
theorem p9 {V : List (Int)} {W : List (Int)} {i : Nat} {p n : Nat} {σ : AE} {H : AH} (hp : p ≤ 0) (e0 : aA (pa 0) σ = .fr V.length 1 (ints V)) (e1 : aA (pa 1) σ = .fr W.length 1 (ints W)) (e12 : mk (aA (pa 12) σ) = .si .i64 ((V.length : Nat))) (e13 : mk (aA (pa 13) σ) = .si .i64 (i)) : Cov p σ H n ((zw V W i).1, (zw V W i).2, 0) := by
  refine Cov.ofR (fun b => b) (by omega) (fun b hb => rfl) ?_ ?_ ?_
  · intro x hx
    simp only [List.mem_cons, List.not_mem_nil, or_false] at hx
    rcases hx with rfl | rfl | rfl | rfl
    · exact aR.frE e0
    · exact aR.frE e1
    · exact .int e12
    · exact .int e13
  · intro x hx
    cases hx
  · intro x hx y hy
    cases hx
noncomputable def Dt : FuncId → EP := dr 39 [] evP
theorem Az : bZ Dt := bu bt (by kernel_rfl) (by kernel_rfl)
theorem CB (V W : List (Int)) (hV : V.length ≤ 1000000) : ao Dt 3 39 [.fr V.length 1 (ints V), .fr W.length 1 (ints W)] .nil 0 fun u _ _ => VTo u (.sb (decide (V = W))) := by
  conv => whnf
  refine ak.ir (fun h1 => ?_) (fun h1 => ?_)
  · have h2 : decide (V = W) = false := decide_eq_false fun e => h1 (by subst e; rfl)
    conv => whnf
    exact VTo.isb rfl h2.symm
  · have hl : V.length = W.length := Int.ofNat_inj.1 h1
    conv => whnf
    refine dg.mk { i : Nat // i ≤ V.length ∧ V.take i = W.take i } 0 (fun i => zw V W i.val) (fun i => V.length - i.val) ⟨0, Nat.zero_le _, rfl⟩ ?_ ?_
    · exact p9 (i := 0) (Nat.le_refl 0) rfl rfl rfl rfl
    · intro ⟨i, hi, he⟩
      conv => whnf
      refine ak.dec (fun h3 => ?_) (fun h3 => ?_)
      · have h4 : i < V.length := Int.ofNat_lt.1 h3
        have h5 : i < W.length := hl ▸ h4
        have hlt : V.length - (i + 1) < V.length - i := by omega
        have hw : IntKind.i64.wrap ((i : Int) + 1) = ((i + 1 : Nat) : Int) := by rw [iI (by omega) (by omega)]; omega
        have hsn : V[i] = W[i] → V.take (i + 1) = W.take (i + 1) := fun e => by rw [List.take_succ_eq_append_getElem h4, List.take_succ_eq_append_getElem h5, he, e]
        have hne : ¬ V[i] = W[i] → decide (V = W) = false := fun q => decide_eq_false fun e => q (by subst e; rfl)
        conv => whnf
        refine Idx.mk i rfl h4 ?_
        conv => whnf
        refine bj (p7 (V := V) h4) ?_
        conv => whnf
        refine Idx.mk i rfl h5 ?_
        conv => whnf
        refine bj (p7 (V := W) h5) ?_
        conv => whnf
        refine ak.ir (fun h6 => ?_) (fun h6 => ?_)
        · have h6 : ¬ V[i] = W[i] := h6
          conv => whnf
          exact VTo.isb rfl (hne h6).symm
        · have h6 : V[i] = W[i] := h6
          conv => whnf
          exact ⟨⟨i + 1, h4, hsn h6⟩, hlt, (p9 (Nat.le_refl 0) rfl rfl rfl (congrArg (AV.si .i64) hw))⟩
      · have h4 : i = V.length := by have : ¬ (i : Int) < (V.length : Int) := h3; omega
        have h5 : decide (V = W) = true := decide_eq_true (by rw [h4, List.take_length, hl, List.take_length] at he; exact he)
        conv => whnf
        exact VTo.isb rfl h5.symm
theorem DU : aD 39 (fZ Ds) := gI Az 3 (by kernel_rfl) fun args v ⟨V, W, h1, h2, h3⟩ => by
  subst h1 h3; exact ⟨rfl, rfl, CB V W h2⟩
def Du (args : List AV) (v : AV) : Prop := ∃ V W : List (List Nat × List Nat), args = [.fr V.length 2 (ba V), .fr W.length 2 (ba W)] ∧ V.length ≤ 1000000 ∧ v = .sb (decide (V = W))
noncomputable def zx (V : List (List Nat × List Nat)) (W : List (List Nat × List Nat)) (i : Nat) : AE × AH := (mkE [(0, .fr V.length 2 (ba V)), (1, .fr W.length 2 (ba W)), (12, .si .i64 ((V.length : Nat))), (13, .si .i64 (i))], mkH [])
theorem qa {V : List (List Nat × List Nat)} {W : List (List Nat × List Nat)} {i : Nat} {p n : Nat} {σ : AE} {H : AH} (hp : p ≤ 0) (e0 : aA (pa 0) σ = .fr V.length 2 (ba V)) (e1 : aA (pa 1) σ = .fr W.length 2 (ba W)) (e12 : mk (aA (pa 12) σ) = .si .i64 ((V.length : Nat))) (e13 : mk (aA (pa 13) σ) = .si .i64 (i)) : Cov p σ H n ((zx V W i).1, (zx V W i).2, 0) := by
  refine Cov.ofR (fun b => b) (by omega) (fun b hb => rfl) ?_ ?_ ?_
  · intro x hx
    simp only [List.mem_cons, List.not_mem_nil, or_false] at hx
    rcases hx with rfl | rfl | rfl | rfl
    · exact aR.frE e0
    · exact aR.frE e1
    · exact .int e12
    · exact .int e13
  · intro x hx
    cases hx
  · intro x hx y hy
    cases hx
noncomputable def Dv : FuncId → EP := dr 40 [] evP
theorem AA : bZ Dv := bu bt (by kernel_rfl) (by kernel_rfl)
theorem CC (V W : List (List Nat × List Nat)) (hV : V.length ≤ 1000000) : ao Dv 3 40 [.fr V.length 2 (ba V), .fr W.length 2 (ba W)] .nil 0 fun u _ _ => VTo u (.sb (decide (V = W))) := by
  conv => whnf
  refine ak.ir (fun h1 => ?_) (fun h1 => ?_)
  · have h2 : decide (V = W) = false := decide_eq_false fun e => h1 (by subst e; rfl)
    conv => whnf
    exact VTo.isb rfl h2.symm
  · have hl : V.length = W.length := Int.ofNat_inj.1 h1
    conv => whnf
    refine dg.mk { i : Nat // i ≤ V.length ∧ V.take i = W.take i } 0 (fun i => zx V W i.val) (fun i => V.length - i.val) ⟨0, Nat.zero_le _, rfl⟩ ?_ ?_
    · exact qa (i := 0) (Nat.le_refl 0) rfl rfl rfl rfl
    · intro ⟨i, hi, he⟩
      conv => whnf
      refine ak.dec (fun h3 => ?_) (fun h3 => ?_)
      · have h4 : i < V.length := Int.ofNat_lt.1 h3
        have h5 : i < W.length := hl ▸ h4
        have hlt : V.length - (i + 1) < V.length - i := by omega
        have hw : IntKind.i64.wrap ((i : Int) + 1) = ((i + 1 : Nat) : Int) := by rw [iI (by omega) (by omega)]; omega
        have hsn : V[i] = W[i] → V.take (i + 1) = W.take (i + 1) := fun e => by rw [List.take_succ_eq_append_getElem h4, List.take_succ_eq_append_getElem h5, he, e]
        have hne : ¬ V[i] = W[i] → decide (V = W) = false := fun q => decide_eq_false fun e => q (by subst e; rfl)
        conv => whnf
        refine Idx.mk i rfl h4 ?_
        conv => whnf
        refine bj (me (V := V) h4) ?_
        conv => whnf
        refine Idx.mk i rfl h5 ?_
        conv => whnf
        refine bj (me (V := W) h5) ?_
        conv => whnf
        refine bj (Ax (pl := [(1, 0), (1, 1)]) (q := aO V[i].1 W[i].1 && (aO V[i].2 W[i].2 && true)) (by kernel_rfl) rfl) ?_
        conv => whnf
        refine ak.nsb (fun h6 => ?_) (fun h6 => ?_)
        · have h6 : ¬ V[i] = W[i] := fun e => by rw [e, cD.2 rfl, cD.2 rfl] at h6; cases h6
          conv => whnf
          exact VTo.isb rfl (hne h6).symm
        · have h6 : V[i] = W[i] := by simp only [Bool.and_eq_true] at h6; exact Prod.ext (cD.1 h6.1) (cD.1 h6.2.1)
          conv => whnf
          exact ⟨⟨i + 1, h4, hsn h6⟩, hlt, (qa (Nat.le_refl 0) rfl rfl rfl (congrArg (AV.si .i64) hw))⟩
      · have h4 : i = V.length := by have : ¬ (i : Int) < (V.length : Int) := h3; omega
        have h5 : decide (V = W) = true := decide_eq_true (by rw [h4, List.take_length, hl, List.take_length] at he; exact he)
        conv => whnf
        exact VTo.isb rfl h5.symm
theorem DV : aD 40 (fZ Du) := gI AA 3 (by kernel_rfl) fun args v ⟨V, W, h1, h2, h3⟩ => by
  subst h1 h3; exact ⟨rfl, rfl, CC V W h2⟩
end Go.Proofs.Ytdfeigkooeeeaaa
namespace Go.Proofs.Ytdfeigkooeeeaaa
open Go Go.RowKit
theorem VTo.zy (u : AV) : VTo u u := fun _ _ h => h
def cmT (R : Rd) : Rd := { R with ws := [], e := 0 }
noncomputable def eqC (A B : Rd) : Bool := @decide (cmT A = cmT B) (Classical.propDecidable _)
theorem uR {A B : Rd} (h : ¬ cmT A = cmT B) : eqC A B = false := @decide_eq_false _ (Classical.propDecidable _) h
theorem zA (A : Rd) : eqC A A = true := @decide_eq_true _ (Classical.propDecidable _) rfl
theorem AB {A B : Qry} (h0 : A.f = B.f) (h1 : A.t = B.t) (h2 : A.back = B.back) (h3 : A.count = B.count) (h4 : A.kind = B.kind) (h5 : A.size = B.size) (h6 : A.align = B.align) (h7 : A.empty = B.empty) (h8 : A.times = B.times) (h9 : A.sN = B.sN) (h10 : A.low = B.low) (h11 : A.high = B.high) : A = B := by
  cases A; cases B; simp_all
theorem AD {A B : Rd} (h0 : A.nm = B.nm) (h1 : A.ks = B.ks) (h2 : A.ts = B.ts) (h3 : A.vs = B.vs) (h4 : A.ret = B.ret) (h5 : A.siz = B.siz) (h6 : A.pol = B.pol) (h7 : A.ls = B.ls) (h8 : A.lbd = B.lbd) (h9 : A.fr = B.fr) (h10 : A.to = B.to) (h11 : A.kd = B.kd) (h12 : A.bk = B.bk) (h13 : A.al = B.al) (h14 : A.q = B.q) (h15 : A.fs = B.fs) (h16 : A.gr = B.gr) (h17 : A.rd = B.rd) : cmT A = cmT B := by
  cases A; cases B; simp_all [cmT]
theorem AF {A B : Rd} (h : cmT A = cmT B) : eqC A B = true := @decide_eq_true _ (Classical.propDecidable _) h
def o1C (R : Rd) : List AV := [.si .i64 R.nm, .si .i64 R.ret, .si .i64 R.siz, .si .i64 R.pol, .si .i64 R.fr, .si .i64 R.to, .si .i64 R.kd, .si .i64 R.bk, .si .i64 R.al, .si .i64 R.rd]
def o2C (R : Rd) : List AV := [.si .i64 R.q.f, .si .i64 R.q.t, .si .i64 R.q.count, .si .i64 R.q.kind, .si .i64 R.q.size, .si .i64 R.q.align, .si .i64 R.q.low, .si .i64 R.q.high, .sb R.q.back, .sb R.q.empty, .sb R.q.sN, .sb R.lbd, .ss R.gr]
def Dw (args : List AV) (v : AV) : Prop := ∃ R : Rd, args = [.agg (cmF R)] ∧ v = .agg (o1C R)
noncomputable def Dx : FuncId → EP := dr 36 [] (evP)
theorem AG : bZ Dx := bu (bt) (by kernel_rfl) (by kernel_rfl)
theorem CD (R : Rd) : ao Dx 3 36 [.agg (cmF R)] .nil 0 fun u _ _ => VTo u (.agg (o1C R)) := by
  conv => whnf
  exact VTo.zy _
theorem DW : aD 36 (fZ Dw) := gI AG 3 (by kernel_rfl) fun args v ⟨R, h1, h2⟩ => by
  subst h1 h2; exact ⟨rfl, rfl, CD R⟩
def Dy (args : List AV) (v : AV) : Prop := ∃ R : Rd, args = [.agg (cmF R)] ∧ v = .agg (o2C R)
noncomputable def Dz : FuncId → EP := dr 37 [] (evP)
theorem AI : bZ Dz := bu (bt) (by kernel_rfl) (by kernel_rfl)
theorem CE (R : Rd) : ao Dz 3 37 [.agg (cmF R)] .nil 0 fun u _ _ => VTo u (.agg (o2C R)) := by
  conv => whnf
  exact VTo.zy _
theorem DX : aD 37 (fZ Dy) := gI AI 3 (by kernel_rfl) fun args v ⟨R, h1, h2⟩ => by
  subst h1 h2; exact ⟨rfl, rfl, CE R⟩
def SmR (R : Rd) : Prop := R.ks.length ≤ 1000000 ∧ R.ts.length ≤ 1000000 ∧ R.vs.length ≤ 1000000 ∧ R.ls.length ≤ 1000000 ∧ R.q.times.length ≤ 1000000 ∧ R.fs.length ≤ 1000000
end Go.Proofs.Ytdfeigkooeeeaaa
