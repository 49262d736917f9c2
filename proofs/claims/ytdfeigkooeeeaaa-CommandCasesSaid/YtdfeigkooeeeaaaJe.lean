/- Texts of our own, joined: the engine, the machine that runs code, and what is known of the functions. -/
import Derived.Test.YtdfeigkooeeeaaaRows
import Derived.WalkKit
import Derived.Deep.Quiet
import Derived.ProofKit
import Derived.Laws.StructEq
import Derived.LaidEql
import Derived.Laws.BytesArg
import Derived.Maps.RangeRun
import Derived.Scope
import Derived.Laws.Strings
import Derived.Laws.Strings2
import Derived.Below
import Derived.Carry
import Derived.OpenShut
import Derived.ChangeMaps5
import Derived.Deep.Slices
import Derived.Deep.SlicePairs
import Derived.SizedLaws
import Derived.Laws.BitsAllLaws
import Derived.Test.YtdfeigkooeeeaaaJd
set_option linter.unusedSimpArgs false
set_option linter.unusedVariables false
set_option maxHeartbeats 16000000
set_option maxRecDepth 100000
namespace Go.Proofs.Ytdfeigkooeeeaaa
open Go Go.RowKit
theorem aR.fn0 {H : AH} {m : Nat} {r : Nat → Nat} {a : AV} {f : Nat} (e : a = .fn f [] []) : aR H m r a (.fn f [] []) := fun φ ψ v _ _ hv => by
  subst e
  obtain ⟨xs, cs, rfl, h1, h2⟩ := hv.lz
  exact .fn (by rw [h1.aH]; exact .nil) (by rw [h2.aH]; exact .nil)
noncomputable def sm0 (A : Rd) (B : Rd) (q : Bool) : AE × AH := (mkE [(2, .ptr 0 (0)), (3, .ptr 1 (0)), (5, .fn 36 [] []), (6, .fn 37 [] []), (7, .sb (q))], mkH [(0, .cells (cmF A) true), (1, .cells (cmF B) true)])
theorem jw {A : Rd} {B : Rd} {q : Bool} {p n : Nat} {σ : AE} {H : AH} (hp : p ≤ 0) (e2 : aA (pa 2) σ = .ptr 0 (0)) (e3 : aA (pa 3) σ = .ptr 1 (0)) (e5 : aR H 2 (fun b => b) (aA (pa 5) σ) (.fn 36 [] [])) (e6 : aR H 2 (fun b => b) (aA (pa 6) σ) (.fn 37 [] [])) (e7 : mk (aA (pa 7) σ) = .sb (q)) (h0 : H.get 0 = some (.cells (cmF A) true)) (h1 : H.get 1 = some (.cells (cmF B) true)) : Cov p σ H n ((sm0 A B q).1, (sm0 A B q).2, 2) := by
  refine Cov.ofR (fun b => b) (by omega) (fun b hb => rfl) ?_ ?_ ?_
  · intro x hx
    simp only [List.mem_cons, List.not_mem_nil, or_false] at hx
    rcases hx with rfl | rfl | rfl | rfl | rfl
    · exact .ptr (by decide) e2
    · exact .ptr (by decide) e3
    · exact e5
    · exact e6
    · exact .bool e7
  · intro x hx
    simp only [List.mem_cons, List.not_mem_nil, or_false] at hx
    rcases hx with rfl | rfl
    · exact ⟨by simp, .inl ⟨_, h0, cB.Bl (kZ A)⟩⟩
    · exact ⟨by simp, .inl ⟨_, h1, cB.Bl (kZ B)⟩⟩
  · intro x hx y hy
    simp only [List.mem_cons, List.not_mem_nil, or_false] at hx hy
    rcases hx with rfl | rfl <;> rcases hy with rfl | rfl <;> simp <;> omega
def CF : DT := [(4, [(some 0, [5]), (some 0, [2]), (none, [50, 51]), (some 1, [5]), (some 2, [3]), (none, [53, 54]), (some 0, [52, 55]), (some 0, [56]), (some 0, [6, 57]), (some 0, [2, 57]), (none, [58, 59, 57]), (some 1, [6, 57]), (some 2, [3, 57]), (none, [61, 62, 57]), (some 0, [60, 63, 57]), (some 0, [57, 64]), (some 0, [65]), (some 0, [7, 66]), (some 0, [66, 67]), (some 0, [68])]), (1000004, [])]
def DA (args : List AV) (v : AV) : Prop := ∃ A B : Rd, args = [.agg (cmF A), .agg (cmF B)] ∧ SmR A ∧ v = .sb (eqC A B)
noncomputable def DC : FuncId → EP := dr 16 CF (kT 36 (fZ Dw) (kT 37 (fZ Dy) (kT 38 (fZ Dq) (kT 39 (fZ Ds) (kT 40 (fZ Du) evP)))))
theorem AJ : bZ DC := bu (fG (fG (fG (fG (fG bt DV (mb _)) DU (mb _)) DS (mb _)) DX (mb _)) DW (mb _)) (by kernel_rfl) (by kernel_rfl)
def lsE (A B : Rd) : Prop := A.ks = B.ks ∧ A.ts = B.ts ∧ A.vs = B.vs ∧ A.ls = B.ls ∧ A.q.times = B.q.times ∧ A.fs = B.fs
noncomputable def o1E (A B : Rd) : Bool := decide (A.nm = B.nm) && (decide (A.ret = B.ret) && (decide (A.siz = B.siz) && (decide (A.pol = B.pol) && (decide (A.fr = B.fr) && (decide (A.to = B.to) && (decide (A.kd = B.kd) && (decide (A.bk = B.bk) && (decide (A.al = B.al) && (decide (A.rd = B.rd) && true)))))))))
noncomputable def o2E (A B : Rd) : Bool := decide (A.q.f = B.q.f) && (decide (A.q.t = B.q.t) && (decide (A.q.count = B.q.count) && (decide (A.q.kind = B.q.kind) && (decide (A.q.size = B.q.size) && (decide (A.q.align = B.q.align) && (decide (A.q.low = B.q.low) && (decide (A.q.high = B.q.high) && ((A.q.back == B.q.back) && ((A.q.empty == B.q.empty) && ((A.q.sN == B.q.sN) && ((A.lbd == B.lbd) && (aO A.gr B.gr && true))))))))))))
theorem CG {A B : Rd} (h1 : o1E A B = true) (h2 : o2E A B = true) (h3 : lsE A B) : cmT A = cmT B := by
  unfold o1E at h1
  unfold o2E at h2
  obtain ⟨k1, k2, k3, k4, k5, k6⟩ := h3
  simp only [Bool.and_eq_true, decide_eq_true_eq, beq_iff_eq, and_true, cD] at h1 h2
  obtain ⟨a1, a2, a3, a4, a5, a6, a7, a8, a9, a10⟩ := h1
  obtain ⟨b1, b2, b3, b4, b5, b6, b7, b8, b9, b10, b11, b12, b13⟩ := h2
  exact AD a1 k1 k2 k3 a2 a3 a4 k4 b12 a5 a6 a7 a8 a9 (AB b1 b2 b9 b3 b4 b5 b6 b10 k5 b11 b7 b8) k6 b13 a10
theorem uS {A B : Rd} (e : cmT A = cmT B) : o1E A B = true ∧ o2E A B = true ∧ lsE A B := by
  have h0 : A.nm = B.nm := by have q := congrArg Rd.nm e; exact q
  have h1 : A.ks = B.ks := by have q := congrArg Rd.ks e; exact q
  have h2 : A.ts = B.ts := by have q := congrArg Rd.ts e; exact q
  have h3 : A.vs = B.vs := by have q := congrArg Rd.vs e; exact q
  have h4 : A.ret = B.ret := by have q := congrArg Rd.ret e; exact q
  have h5 : A.siz = B.siz := by have q := congrArg Rd.siz e; exact q
  have h6 : A.pol = B.pol := by have q := congrArg Rd.pol e; exact q
  have h7 : A.ls = B.ls := by have q := congrArg Rd.ls e; exact q
  have h8 : A.lbd = B.lbd := by have q := congrArg Rd.lbd e; exact q
  have h9 : A.fr = B.fr := by have q := congrArg Rd.fr e; exact q
  have h10 : A.to = B.to := by have q := congrArg Rd.to e; exact q
  have h11 : A.kd = B.kd := by have q := congrArg Rd.kd e; exact q
  have h12 : A.bk = B.bk := by have q := congrArg Rd.bk e; exact q
  have h13 : A.al = B.al := by have q := congrArg Rd.al e; exact q
  have h14 : A.q = B.q := by have q := congrArg Rd.q e; exact q
  have h15 : A.fs = B.fs := by have q := congrArg Rd.fs e; exact q
  have h16 : A.gr = B.gr := by have q := congrArg Rd.gr e; exact q
  have h17 : A.rd = B.rd := by have q := congrArg Rd.rd e; exact q
  refine ⟨?_, ?_, h1, h2, h3, h7, by rw [h14], h15⟩
  · unfold o1E; rw [h0, h4, h5, h6, h9, h10, h11, h12, h13, h17]; simp
  · unfold o2E; rw [h14, h8, h16, cD.2 rfl]; simp
theorem CH (A B : Rd) (hb : SmR A) : ao DC 3 16 [.agg (cmF A), .agg (cmF B)] .nil 0 fun u _ _ => VTo u (.sb (eqC A B)) := by
  conv => whnf
  refine kN.mk { q : Bool // q = true ↔ lsE A B } 2 (fun q => sm0 A B q.val) ?_ ?_
  focus
    conv => whnf
    refine ⟨_, ⟨A.ks, B.ks, rfl, hb.1, rfl⟩, ?_⟩
    conv => whnf
    refine ak.dec (fun q => ?_) (fun q => ?_)
    rotate_left
    focus
      conv => whnf
      exact ⟨⟨false, (fun z => by cases z), fun z => absurd z.1 q⟩, jw (Nat.le_refl 0) rfl rfl (.fn0 rfl) (.fn0 rfl) rfl rfl rfl⟩
    have h0 : A.ks = B.ks := q
    conv => whnf
    refine ⟨_, ⟨A.ts, B.ts, rfl, hb.2.1, rfl⟩, ?_⟩
    conv => whnf
    refine ak.dec (fun q => ?_) (fun q => ?_)
    rotate_left
    focus
      conv => whnf
      exact ⟨⟨false, (fun z => by cases z), fun z => absurd z.2.1 q⟩, jw (Nat.le_refl 0) rfl rfl (.fn0 rfl) (.fn0 rfl) rfl rfl rfl⟩
    have h1 : A.ts = B.ts := q
    conv => whnf
    refine ⟨_, ⟨A.vs, B.vs, rfl, hb.2.2.1, rfl⟩, ?_⟩
    conv => whnf
    refine ak.dec (fun q => ?_) (fun q => ?_)
    rotate_left
    focus
      conv => whnf
      exact ⟨⟨false, (fun z => by cases z), fun z => absurd z.2.2.1 q⟩, jw (Nat.le_refl 0) rfl rfl (.fn0 rfl) (.fn0 rfl) rfl rfl rfl⟩
    have h2 : A.vs = B.vs := q
    conv => whnf
    refine ⟨_, ⟨A.ls, B.ls, rfl, hb.2.2.2.1, rfl⟩, ?_⟩
    conv => whnf
    refine ak.dec (fun q => ?_) (fun q => ?_)
    rotate_left
    focus
      conv => whnf
      exact ⟨⟨false, (fun z => by cases z), fun z => absurd z.2.2.2.1 q⟩, jw (Nat.le_refl 0) rfl rfl (.fn0 rfl) (.fn0 rfl) rfl rfl rfl⟩
    have h3 : A.ls = B.ls := q
    conv => whnf
    refine ⟨_, ⟨A.q.times, B.q.times, rfl, hb.2.2.2.2.1, rfl⟩, ?_⟩
    conv => whnf
    refine ak.dec (fun q => ?_) (fun q => ?_)
    rotate_left
    focus
      conv => whnf
      exact ⟨⟨false, (fun z => by cases z), fun z => absurd z.2.2.2.2.1 q⟩, jw (Nat.le_refl 0) rfl rfl (.fn0 rfl) (.fn0 rfl) rfl rfl rfl⟩
    have h4 : A.q.times = B.q.times := q
    conv => whnf
    refine ⟨_, ⟨A.fs, B.fs, rfl, hb.2.2.2.2.2, rfl⟩, ?_⟩
    conv => whnf
    exact ⟨⟨decide (A.fs = B.fs), ⟨fun z => ⟨h0, h1, h2, h3, h4, of_decide_eq_true z⟩, fun z => decide_eq_true z.2.2.2.2.2⟩⟩, jw (Nat.le_refl 0) rfl rfl (.fn0 rfl) (.fn0 rfl) rfl rfl rfl⟩
  intro ⟨q, hq⟩
  conv => whnf
  refine ⟨_, ⟨A, rfl, rfl⟩, ?_⟩
  conv => whnf
  refine ⟨_, ⟨B, rfl, rfl⟩, ?_⟩
  conv => whnf
  refine bj (vF (pl := [(0, 0), (0, 1), (0, 2), (0, 3), (0, 4), (0, 5), (0, 6), (0, 7), (0, 8), (0, 9)]) (q := o1E A B) (by kernel_rfl) rfl) ?_
  conv => whnf
  refine ak.sb (fun g1 => ?_) (fun g1 => ?_)
  rotate_left
  focus
    conv => whnf
    exact VTo.isb rfl (uR fun e => by rw [(uS e).1] at g1; cases g1).symm
  conv => whnf
  refine ⟨_, ⟨A, rfl, rfl⟩, ?_⟩
  conv => whnf
  refine ⟨_, ⟨B, rfl, rfl⟩, ?_⟩
  conv => whnf
  refine bj (vF (pl := [(0, 0), (0, 1), (0, 2), (0, 3), (0, 4), (0, 5), (0, 6), (0, 7), (2, 8), (2, 9), (2, 10), (2, 11), (1, 12)]) (q := o2E A B) (by kernel_rfl) rfl) ?_
  conv => whnf
  refine ak.sb (fun g2 => ?_) (fun g2 => ?_)
  rotate_left
  focus
    conv => whnf
    exact VTo.isb rfl (uR fun e => by rw [(uS e).2.1] at g2; cases g2).symm
  conv => whnf
  exact VTo.isb rfl (by
    cases q with
    | true => exact (AF (CG g1 g2 (hq.1 rfl))).symm
    | false => exact (uR fun e => by have := hq.2 (uS e).2.2; cases this).symm)
theorem DY : aD 16 (fZ DA) := gI AJ 3 (by kernel_rfl) fun args v ⟨A, B, h1, h2, h3⟩ => by
  subst h1 h3; exact ⟨rfl, rfl, CH A B h2⟩
end Go.Proofs.Ytdfeigkooeeeaaa
namespace Go.Proofs.Ytdfeigkooeeeaaa
open Go Go.RowKit
theorem Bz.DD {B : Nat} {R : Rd} (h : Bz B R) (hm : aC R = true) : Bz B (bL R) := by
  have r := pR R
  have w := (m7 R).2 hm
  have k := h.key.time.val
  have e1 : (bL R).ls = R.ls := by show (cZ (bJ (aK R))).ls = _; exact ((dG an (bJ (aK R))).ls.trans ((ju [42] (-1) (aK R)).ls.trans (bg R).ls))
  have e2 : (bL R).q = R.q := by show (cZ (bJ (aK R))).q = _; exact ((dG an (bJ (aK R))).q.trans ((ju [42] (-1) (aK R)).q.trans (bg R).q))
  have e3 : (bL R).fs = R.fs := by show (cZ (bJ (aK R))).fs = _; exact ((dG an (bJ (aK R))).fs.trans ((ju [42] (-1) (aK R)).fs.trans (bg R).fs))
  exact ⟨k.ok, by have := h.ks; omega, by have := h.ts; omega, by have := h.vs; omega, by rw [e1]; have := h.ls; omega, by rw [e2]; have := h.q; omega, by rw [e3]; have := h.fs; omega⟩
theorem Bz.stf {B : Nat} {R : Rd} {f : Rd → Int × Rd} (s : Int → Rd → Rd) (h : Bz B (f R).2) (hs : ∀ z T, Bz B T → Bz B (s z T)) : Bz B (stF f s R) := hs _ _ h
theorem Bz.lZ {B : Nat} {R : Rd} (h : Bz B R) : Bz (B + 3) (lZ R) := by
  unfold Go.Proofs.Ytdfeigkooeeeaaa.lZ
  split
  · exact Bz.stf lY (h.mJ.next.told cI) fun _ _ q => q.set _
  · exact h.mJ
theorem Bz.DZ {B : Nat} {R : Rd} (h : Bz B R) : Bz (B + 3) (gD R) := by
  unfold gD
  generalize (bL R).ws.length = k
  have : ∀ (k : Nat) (S : Rd), Bz (B + 3) S → Bz (B + 3) (fI bL k S) := fun k => by
    induction k with
    | zero => exact fun S h => h
    | succ k ih =>
      intro S hS
      unfold fI
      split
      · rename_i hm
        exact ih _ (hS.DD hm)
      · exact hS
  exact this k _ h.mJ
theorem Bz.inc {B : Nat} {R : Rd} (h : Bz B R) : Bz (B + 3) (mK R) := by
  unfold mK
  split
  · exact h.key.val.next.time
  · have q : Bz (B + 2) (cZ (aK R)) := h.key.val
    have k := q.ts
    have m := q.mono (Nat.le_succ (B + 2))
    exact ⟨m.ok, m.ks, by show [(-1 : Int)].length + (cZ (aK R)).ws.length ≤ _; simp only [List.length_singleton]; omega, m.vs, m.ls, m.q, m.fs⟩
theorem Bz.drop {B : Nat} {R : Rd} (h : Bz B R) : Bz (B + 1) (k8 R) := lX (Bz (B + 1)) (fun S hm q => q.Dj hm) (aK R) h.key
theorem Bz.link {B : Nat} {R : Rd} (h : Bz B R) : Bz (B + 2) (gG R) := by
  have h1 : Bz (B + 2) (pW R) := Bz.stf gF ((Bz.stf pT ((h.keys.w7 wX).told cf) fun _ _ q => q.set _).told an) fun _ _ q => q.set _
  unfold gG
  split
  · exact Bz.stf y7 (h1.told an) fun _ _ q => q.set _
  · exact h1
theorem Bz.cre {B : Nat} {R : Rd} (h : Bz B R) : Bz (B + 1) (oz R) := lX (Bz (B + 1)) (fun S _ q => q.cs1) (aK R) h.key
theorem Bz.man {B : Nat} {R : Rd} (h : Bz B R) : Bz (B + 2) (oC R) := by
  have h1 : Bz (B + 2) (uJ R) := h.opt.Cb
  unfold oC
  split
  · exact Bz.stf y8 (((h1.next.next.set (Ca (uJ R))).w7 An).told cf) fun _ _ q => q.set _
  · exact h1
theorem AK {R : Rd} (h : Bz 780000 R) : ∀ k, Bz 790000 (mB k R)
  | 0 => h.mono (by decide)
  | 1 => h.cre.mono (by decide)
  | 2 => h.cre.mono (by decide)
  | 3 => h.lZ.mono (by decide)
  | 4 => h.DZ.mono (by decide)
  | 5 => h.inc.mono (by decide)
  | 6 => h.inc.mono (by decide)
  | 7 => (Bz.stf y6 ((Bz.stf vq (h.key.told an) fun _ _ q => q.set _).told an) fun _ _ q => q.set _).mono (by decide)
  | 8 => h.drop.mono (by decide)
  | 9 => h.link.mono (by decide)
  | 10 => h.keys.mono (by decide)
  | 11 => h.key.mono (by decide)
  | 12 => h.Cb.mono (by decide)
  | 13 => h.key.opt.mono (by decide)
  | 14 => h.man.mono (by decide)
  | 15 => h.fil.mono (by decide)
  | 16 => h.key.mono (by decide)
  | k + 17 => h.mono (by decide)
theorem zB {W : List (List Nat)} {X : Rd} (hl : W.length ≤ 700000) (hw : ∀ w ∈ W, (∀ c ∈ w, c < 256) ∧ w.length ≤ 1000000) (e : cQ W = X) : SmR (if X.e = 0 then X else jd) := by
  have z : SmR jd := ⟨by decide, by decide, by decide, by decide, by decide, by decide⟩
  split
  · rename_i h
    rw [← e] at h ⊢
    unfold cQ at h ⊢
    split
    · exact absurd h (by rw [if_pos (by assumption)]; decide)
    · split
      · exact absurd h (by rw [if_neg (by assumption), if_pos (by assumption)]; decide)
      · have b0 := uQ hl hw (eY (upF (W.headD [])) : Nat) (!decide (whF gE (upF (W.headD [])) = 0))
        have b1 : Bz 790000 (mB (eY (upF (W.headD []))) (fL W.tail (eY (upF (W.headD [])) : Nat) (!decide (whF gE (upF (W.headD [])) = 0)))) := by
          generalize fL W.tail (eY (upF (W.headD [])) : Nat) (!decide (whF gE (upF (W.headD [])) = 0)) = R at b0
          generalize eY (upF (W.headD [])) = k
          exact AK b0 k
        have b2 : Bz 790000 (dI (mB (eY (upF (W.headD []))) (fL W.tail (eY (upF (W.headD [])) : Nat) (!decide (whF gE (upF (W.headD [])) = 0))))) := by
          unfold dI
          split
          · exact b1.fail 14
          · exact b1
        exact ⟨by have := b2.ks; omega, by have := b2.ts; omega, by have := b2.vs; omega, by have := b2.ls; omega, by have := b2.q; omega, by have := b2.fs; omega⟩
  · exact z
end Go.Proofs.Ytdfeigkooeeeaaa
namespace Go.Proofs.Ytdfeigkooeeeaaa
open Go Go.RowKit
def xm : List (List Nat) := [[], [84, 83, 46, 67, 82, 69, 65, 84, 69], [84, 83, 46, 65, 76, 84, 69, 82], [84, 83, 46, 65, 68, 68], [84, 83, 46, 77, 65, 68, 68], [84, 83, 46, 73, 78, 67, 82, 66, 89], [84, 83, 46, 68, 69, 67, 82, 66, 89], [84, 83, 46, 68, 69, 76], [68, 69, 76], [84, 83, 46, 67, 82, 69, 65, 84, 69, 82, 85, 76, 69], [84, 83, 46, 68, 69, 76, 69, 84, 69, 82, 85, 76, 69], [84, 83, 46, 71, 69, 84], [84, 83, 46, 77, 71, 69, 84], [84, 83, 46, 82, 65, 78, 71, 69], [84, 83, 46, 77, 82, 65, 78, 71, 69], [84, 83, 46, 81, 85, 69, 82, 89, 73, 78, 68, 69, 88], [84, 83, 46, 73, 78, 70, 79]]
def zC : List (List Nat) := [[115, 117, 109], [109, 105, 110], [109, 97, 120], [99, 111, 117, 110, 116], [102, 105, 114, 115, 116], [108, 97, 115, 116], [114, 97, 110, 103, 101], [83, 85, 77], [77, 105, 110]]
def jh (q : Bool) (c : Nat) : Nat := if 65 ≤ c ∧ c ≤ 90 ∧ q = true then c + 32 else c
def gu (F : List Nat) (S : Nat → Bool) (i : Nat) : List Nat := (List.range i).map fun j => jh (S j) (F.getD j 0)
theorem xn (F : List Nat) (S : Nat → Bool) (i : Nat) : gu F S (i + 1) = gu F S i ++ [jh (S i) (F.getD i 0)] := by simp [gu, List.range_succ]
theorem ga (F : List Nat) (S : Nat → Bool) (i : Nat) : (gu F S i).length = i := by simp [gu]
theorem AL {q : Bool} {c : Nat} (h : c < 200) : jh q c < 256 := by unfold jh; split <;> omega
theorem AM {q : Bool} {c : Nat} (h : c < 97) : upC (jh q c) = c := by
  unfold jh upC
  split
  · rw [if_pos (by omega)]; omega
  · rw [if_neg (by omega)]
def zD (F : List Nat) : Prop := F.length ≤ 20 ∧ ∀ c ∈ F, c < 97
theorem zE {F : List Nat} {j : Nat} (h : j < F.length) : F.getD j 0 ∈ F := by rw [List.getD_eq_getElem?_getD, List.getElem?_eq_getElem h]; exact List.getElem_mem h
theorem AN {F : List Nat} (h : zD F) (S : Nat → Bool) {i : Nat} (hi : i ≤ F.length) : ∀ c ∈ gu F S i, c < 256 := fun c hc => by
  unfold gu at hc
  rw [List.mem_map] at hc
  obtain ⟨j, hj, rfl⟩ := hc
  rw [List.mem_range] at hj
  exact AL (Nat.lt_trans (h.2 _ (zE (by omega))) (by decide))
theorem AP {F : List Nat} (h : zD F) (S : Nat → Bool) : upF (gu F S F.length) = upF F := by
  have e : ∀ c ∈ F, upC c = c := fun c hc => by have := h.2 c hc; unfold upC; rw [if_neg (by omega)]
  have e2 : upF F = F := by unfold upF; exact (List.map_congr_left e).trans (List.map_id F)
  rw [e2]
  unfold upF gu
  rw [List.map_map]
  apply List.ext_getElem
  · simp
  · intro j h1 h2
    simp only [List.getElem_map, List.getElem_range, Function.comp]
    rw [List.getD_eq_getElem?_getD, List.getElem?_eq_getElem h2]
    exact AM (h.2 _ (List.getElem_mem h2))
theorem CI : ∀ F ∈ xm, zD F := by unfold zD; decide
theorem zF {A B : List Nat} {R : List (List Nat)} (h : upF A = upF B) : cQ (A :: R) = cQ (B :: R) := by
  unfold cQ
  simp only [List.headD_cons, List.tail_cons, h]
  rfl
def Bm (args : List AV) (H : AH) (n : Nat) (κ : PK) : Prop := args = [] ∧ κ (.fr 17 1 (aq xm)) H n
theorem CJ : aD 18 Bm := fun args H n κ ⟨h1, hs⟩ φ h0' hp vs K hr hargs hk => by
  subst h1
  exact z7 bt (d := 3) (args0 := []) (s := aq xm) (m := 17) (k := 1) (aV _) rfl (by
    conv => whnf
    exact .inr (.inr (.inr ⟨_, _, _, _, _, _, _, rfl, Nat.le_refl _, rfl, rfl, rfl⟩))) hs hr hk (by kernel_rfl) (φ0 := ⟨fun _ => none, φ.z, φ.z⟩) (fun hw => hr.vc (ew hw) (fun _ _ h => by cases h) (fun _ h => h)) rfl (by rw [hargs.aH]; exact .nil)
noncomputable def cs0 (nn : Int) (pp : Int) (k : Int) (a : Int) (F : List Nat) (S : Nat → Bool) (i : Nat) : AE × AH := (mkE [(1, .si .i64 nn), (5, .si .u8 a), (6, .si .u8 pp), (7, .si .u8 k), (9, .ss (F)), (10, .rw 0 0 (gu F S i).length 1 0), (11, .si .i64 ((i : Int)))], mkH [(0, .cells (bp ((gu F S i))) true)])
theorem lg {nn : Int} {pp : Int} {k : Int} {a : Int} {F : List Nat} {S : Nat → Bool} {i : Nat} {p n : Nat} {σ : AE} {H : AH} (j0 : Nat) (hp : p ≤ 0) (e1 : aR H 1 (fun b => if b = 0 then j0 else b) (aA (pa 1) σ) (.si .i64 nn)) (e5 : aR H 1 (fun b => if b = 0 then j0 else b) (aA (pa 5) σ) (.si .u8 a)) (e6 : aR H 1 (fun b => if b = 0 then j0 else b) (aA (pa 6) σ) (.si .u8 pp)) (e7 : aR H 1 (fun b => if b = 0 then j0 else b) (aA (pa 7) σ) (.si .u8 k)) (e9 : mk (aA (pa 9) σ) = .ss (F)) (e10 : aR H 1 (fun b => if b = 0 then j0 else b) (aA (pa 10) σ) (.rw 0 0 (gu F S i).length 1 0)) (e11 : mk (aA (pa 11) σ) = .si .i64 ((i : Int))) (h0 : (∃ l, H.get j0 = some (.cells l true) ∧ l.map mk = bp ((gu F S i))) ∨ (((gu F S i)) = [] ∧ n ≤ j0)) : Cov p σ H n ((cs0 nn pp k a F S i).1, (cs0 nn pp k a F S i).2, 1) := by
  refine Cov.ofR (fun b => if b = 0 then j0 else b) (by omega) (fun b hb => by repeat' rw [if_neg (by omega)]) ?_ ?_ ?_
  · intro x hx
    simp only [List.mem_cons, List.not_mem_nil, or_false] at hx
    rcases hx with rfl | rfl | rfl | rfl | rfl | rfl | rfl
    · exact e1
    · exact e5
    · exact e6
    · exact e7
    · exact .str e9
    · exact e10
    · exact .int e11
  · intro x hx
    simp only [List.mem_cons, List.not_mem_nil, or_false] at hx
    subst hx
    exact ⟨by simp, h0.elim (fun ⟨l, h, g⟩ => .inl ⟨_, h, cB.bh (eI _) (by rw [g, cq]) (fun q => q)⟩) (fun h => .inr ⟨by rw [h.1]; rfl, h.2⟩)⟩
  · intro x hx y hy
    simp only [List.mem_cons, List.not_mem_nil, or_false] at hx hy
    subst hx hy
    exact fun q => rfl
noncomputable def cs1 (pp : Int) (F : List Nat) (L : List Nat) (R : List (List Nat)) : AE × AH := (mkE [(6, .si .u8 pp), (9, .ss (F)), (10, .rw 0 0 L.length 1 0), (14, .rw 1 0 R.length 1 0)], mkH [(0, .cells (bp (L)) true), (1, .cells (aq (R)) true)])
theorem vG {pp : Int} {F : List Nat} {L : List Nat} {R : List (List Nat)} {p n : Nat} {σ : AE} {H : AH} (j0 : Nat) (j1 : Nat) (hj : j0 ≠ j1) (hp : p ≤ 0) (e6 : aR H 2 (fun b => if b = 0 then j0 else if b = 1 then j1 else b) (aA (pa 6) σ) (.si .u8 pp)) (e9 : mk (aA (pa 9) σ) = .ss (F)) (e10 : aR H 2 (fun b => if b = 0 then j0 else if b = 1 then j1 else b) (aA (pa 10) σ) (.rw 0 0 L.length 1 0)) (e14 : aR H 2 (fun b => if b = 0 then j0 else if b = 1 then j1 else b) (aA (pa 14) σ) (.rw 1 0 R.length 1 0)) (h0 : (∃ l, H.get j0 = some (.cells l true) ∧ l.map mk = bp (L)) ∨ ((L) = [] ∧ n ≤ j0)) (h1 : (∃ l, H.get j1 = some (.cells l true) ∧ l.map mk = aq (R)) ∨ ((R) = [] ∧ n ≤ j1)) : Cov p σ H n ((cs1 pp F L R).1, (cs1 pp F L R).2, 2) := by
  refine Cov.ofR (fun b => if b = 0 then j0 else if b = 1 then j1 else b) (by omega) (fun b hb => by repeat' rw [if_neg (by omega)]) ?_ ?_ ?_
  · intro x hx
    simp only [List.mem_cons, List.not_mem_nil, or_false] at hx
    rcases hx with rfl | rfl | rfl | rfl
    · exact e6
    · exact .str e9
    · exact e10
    · exact e14
  · intro x hx
    simp only [List.mem_cons, List.not_mem_nil, or_false] at hx
    rcases hx with rfl | rfl
    · exact ⟨by simp, h0.elim (fun ⟨l, h, g⟩ => .inl ⟨_, h, cB.bh (eI _) (by rw [g, cq]) (fun q => q)⟩) (fun h => .inr ⟨by rw [h.1]; rfl, h.2⟩)⟩
    · exact ⟨by simp, h1.elim (fun ⟨l, h, g⟩ => .inl ⟨_, h, cB.bh (aV _) (by rw [g, aj]) (fun q => q)⟩) (fun h => .inr ⟨by rw [h.1]; rfl, h.2⟩)⟩
  · intro x hx y hy
    simp only [List.mem_cons, List.not_mem_nil, or_false] at hx hy
    rcases hx with rfl | rfl <;> rcases hy with rfl | rfl <;> simp <;> omega
noncomputable def cs2 (pp : Int) (F : List Nat) (X : List (List Nat)) (R : List (List Nat)) : AE × AH := (mkE [(6, .si .u8 pp), (9, .ss (F)), (14, .rw 1 0 R.length 1 0), (15, .rw 0 0 X.length 1 0)], mkH [(0, .cells (aq (X)) true), (1, .cells (aq (R)) true)])
theorem AQ {pp : Int} {F : List Nat} {X : List (List Nat)} {R : List (List Nat)} {p n : Nat} {σ : AE} {H : AH} (j0 : Nat) (j1 : Nat) (hj : j0 ≠ j1) (hp : p ≤ 0) (e6 : aR H 2 (fun b => if b = 0 then j0 else if b = 1 then j1 else b) (aA (pa 6) σ) (.si .u8 pp)) (e9 : mk (aA (pa 9) σ) = .ss (F)) (e14 : aR H 2 (fun b => if b = 0 then j0 else if b = 1 then j1 else b) (aA (pa 14) σ) (.rw 1 0 R.length 1 0)) (e15 : aR H 2 (fun b => if b = 0 then j0 else if b = 1 then j1 else b) (aA (pa 15) σ) (.rw 0 0 X.length 1 0)) (h0 : (∃ l, H.get j0 = some (.cells l true) ∧ l.map mk = aq (X)) ∨ ((X) = [] ∧ n ≤ j0)) (h1 : (∃ l, H.get j1 = some (.cells l true) ∧ l.map mk = aq (R)) ∨ ((R) = [] ∧ n ≤ j1)) : Cov p σ H n ((cs2 pp F X R).1, (cs2 pp F X R).2, 2) := by
  refine Cov.ofR (fun b => if b = 0 then j0 else if b = 1 then j1 else b) (by omega) (fun b hb => by repeat' rw [if_neg (by omega)]) ?_ ?_ ?_
  · intro x hx
    simp only [List.mem_cons, List.not_mem_nil, or_false] at hx
    rcases hx with rfl | rfl | rfl | rfl
    · exact e6
    · exact .str e9
    · exact e14
    · exact e15
  · intro x hx
    simp only [List.mem_cons, List.not_mem_nil, or_false] at hx
    rcases hx with rfl | rfl
    · exact ⟨by simp, h0.elim (fun ⟨l, h, g⟩ => .inl ⟨_, h, cB.bh (aV _) (by rw [g, aj]) (fun q => q)⟩) (fun h => .inr ⟨by rw [h.1]; rfl, h.2⟩)⟩
    · exact ⟨by simp, h1.elim (fun ⟨l, h, g⟩ => .inl ⟨_, h, cB.bh (aV _) (by rw [g, aj]) (fun q => q)⟩) (fun h => .inr ⟨by rw [h.1]; rfl, h.2⟩)⟩
  · intro x hx y hy
    simp only [List.mem_cons, List.not_mem_nil, or_false] at hx hy
    rcases hx with rfl | rfl <;> rcases hy with rfl | rfl <;> simp <;> omega
def zG : DT := [(15, [(some 1000000, [5, 7]), (none, [0, 1, 2, 3, 4, 5, 6, 7, 8, 9]), (none, [0, 1, 2, 3, 4, 6, 7, 5, 8, 9])]), (1000016, []), (1000017, [])]
noncomputable def KCc : FuncId → EP := dr 5 zG (aB 18 Bm (aB 11 vj (aB 14 zt (kT 16 (fZ DA) (kT 8 (yo uZ) evP)))))
theorem CK : bZ KCc := bu (ah (ah (ah (fG (fG bt xl yq) DY (mb _)) Av) sY) CJ) (by kernel_rfl) (by kernel_rfl)
theorem AT : RTy 43 43 1 1 := ⟨_, _, _, rfl, rfl, (fun q h => by cases h), rfl, rfl, rfl, rfl, by decide, by decide⟩
theorem tj (L : List Nat) : aP (bp L) 0 (L.length * 1) = some (bp L) := cT (by rw [bV, Nat.mul_one])
theorem qb (R : List (List Nat)) {h : Nat} (hh : h ≤ R.length) : aP (aq R) 0 (h * 1) = some (aq (R.take h)) := by
  unfold aP
  rw [Nat.ble_eq_true_of_le (by rw [dd]; omega)]
  simp [aq, List.map_take]
theorem DE {P : Nat → Prop} (h : P 0 ∧ P 1 ∧ P 2 ∧ P 3 ∧ P 4 ∧ P 5 ∧ P 6 ∧ P 7 ∧ P 8) : ∀ m, m < 9 → P m
  | 0, _ => h.1
  | 1, _ => h.2.1
  | 2, _ => h.2.2.1
  | 3, _ => h.2.2.2.1
  | 4, _ => h.2.2.2.2.1
  | 5, _ => h.2.2.2.2.2.1
  | 6, _ => h.2.2.2.2.2.2.1
  | 7, _ => h.2.2.2.2.2.2.2.1
  | 8, _ => h.2.2.2.2.2.2.2.2
  | m + 9, h => absurd h (by omega)
theorem tk (L : List (List Nat)) : (aq L).all kD = true := by
  induction L with
  | nil => rfl
  | cons x L ih => exact ih
theorem xo (L : List Nat) (c : Nat) (x : AV) (e : mk x = .si .u8 (Int.ofNat c)) : (bp L ++ [x]).map mk = bp (L ++ [c]) := by
  rw [List.map_append, List.map_cons, List.map_nil, e]; simp [bp, mk]
def CL : List AV := zC.map .str
theorem zH : ∀ m, m < 9 → nth CL (0 + m * 1) = some (AV.str (zC.getD m [])) := DE ⟨rfl, rfl, rfl, rfl, rfl, rfl, rfl, rfl, rfl⟩
theorem jG (x : AV) (A : List Nat) (R : List (List Nat)) (e : mk x = .ss A) : ([x] ++ aq R).map mk = aq (A :: R) := by
  rw [List.map_append, aj, List.map_cons, List.map_nil, e]; rfl
theorem DF {z : Int} (h1 : 0 ≤ z) (h2 : z < 256) : IntKind.u8.wrap z = z := by
  simp [IntKind.wrap, IntKind.bits, IntKind.signed]; omega
theorem oH (a p k n : Int) (ha : 0 ≤ a ∧ a ≤ 255) (hp : 0 ≤ p ∧ p ≤ 255) (hk : 0 ≤ k ∧ k ≤ 255) (hn : eS n) : ao KCc 6 5 [.agg [.si .u8 a, .si .u8 p, .si .u8 k], .si .i64 n] .nil 0 fun v _ _ => v = .bool true ∨ v = .sb true := by
  have hA : IntKind.i64.wrap a = a := dR ⟨by omega, by omega⟩
  have hK : IntKind.i64.wrap k = k := dR ⟨by omega, by omega⟩
  have hP : IntKind.i64.wrap p = p := dR ⟨by omega, by omega⟩
  have h16 : IntKind.i64.wrap (((17 : Nat) : Int) - 1) = 16 := dR (x := 16) ⟨by decide, by decide⟩
  obtain ⟨j, hj⟩ : ∃ j : Nat, 1 + a.tmod 16 = (j : Int) ∧ j < 17 := by
    have h1 := Int.tmod_lt_of_pos a (b := 16) (by decide)
    have h2 := Int.tmod_nonneg 16 ha.1
    exact ⟨(1 + a.tmod 16).toNat, by omega, by omega⟩
  have hj17 : j < xm.length := hj.2
  have hjw : IntKind.i64.wrap (1 + (IntKind.i64.wrap a).tmod (IntKind.i64.wrap (((17 : Nat) : Int) - 1))) = (j : Int) := by rw [h16, hA, hj.1]; exact dR ⟨by omega, by omega⟩
  obtain ⟨F, hF⟩ : ∃ F, F = xm[j] := ⟨_, rfl⟩
  have hN : zD F := by rw [hF]; exact CI _ (List.getElem_mem hj17)
  obtain ⟨S, hS⟩ : ∃ S : Nat → Bool, S = fun i : Nat => decide (dX .and .i64 ((IntKind.i64.wrap a).fdiv (2 ^ min (i : Int).toNat 64)) 1 = 1) := ⟨_, rfl⟩
  conv => whnf
  refine ⟨rfl, ?_⟩
  conv => whnf
  refine ⟨by rw [h16]; decide, ?_⟩
  conv => whnf
  refine Idx.mk j hjw hj.2 ?_
  conv => whnf
  refine bj (mc (V := xm) hj17) ?_
  rw [← hF]
  conv => whnf
  refine dg.mk { i : Nat // i ≤ F.length } 1 (fun i => cs0 n p k a F S i.val) (fun i => F.length - i.val) ⟨0, Nat.zero_le _⟩ ?_ ?_
  focus
    exact lg 1 (Nat.le_refl 0) (.same rfl) (.same rfl) (.same rfl) (.same rfl) rfl (.Bc rfl) rfl (.inr ⟨rfl, Nat.le_refl _⟩)
  intro ⟨i, hi⟩
  conv => whnf
  refine ak.dec (fun h => ?_) (fun h => ?_)
  focus
    have hi2 : i < F.length := Int.ofNat_lt.1 h
    have hw : IntKind.i64.wrap ((i : Int) + 1) = ((i + 1 : Nat) : Int) := dR ⟨by have := hN.1; omega, by have := hN.1; omega⟩
    have hc := hN.2 _ (List.getElem_mem hi2)
    have hD : F.getD i 0 = F[i] := by rw [List.getD_eq_getElem?_getD, List.getElem?_eq_getElem hi2]; rfl
    have hlen : (gu F S i).length + 1 = (gu F S (i + 1)).length := by rw [ga, ga]
    have hrow := tj (gu F S i)
    have hbig : ((gu F S i).length + 1) * 1 ≤ 140737488355328 := by rw [ga]; have := hN.1; omega
    have hcell : ∀ (x : AV), mk x = .si .u8 (Int.ofNat (jh (S i) F[i])) → (bp (gu F S i) ++ [x]).map mk = bp (gu F S (i + 1)) := fun x e => (xo _ _ x e).trans (congrArg bp ((xn F S i).trans (by rw [hD])).symm)
    have fin : ∀ {x : AV}, mk x = .si .u8 (Int.ofNat (jh (S i) F[i])) → mk x = .si .u8 (Int.ofNat (jh (S i) F[i])) := fun e => e
    conv => whnf
    refine Idx.mk i rfl hi2 ?_
    conv => whnf
    refine Ask.mk _ (by rw [dz]; exact List.getElem?_eq_getElem hi2) ?_
    conv => whnf
    refine ak.dec (fun g1 => ?_) (fun g1 => ?_)
    rotate_left
    focus
      have g1 : ¬ 65 ≤ F[i] := fun q => g1 (by show (65 : Int) ≤ Int.ofNat F[i]; exact Int.ofNat_le.2 q)
      have ec : AV.si .u8 (Int.ofNat F[i]) = .si .u8 (Int.ofNat (jh (S i) F[i])) := congrArg (AV.si .u8) (by unfold jh; rw [if_neg (fun q => g1 q.1)])
      conv => whnf
      refine eD.grow 1 1 _ _ _ _ _ _ AT (.old rfl) rfl rfl (.rw rfl hrow) hbig ?_
      conv => whnf
      exact ⟨⟨i + 1, hi2⟩, by show F.length - (i + 1) < F.length - i; omega, lg 2 (Nat.le_refl 0) (.same rfl) (.same rfl) (.same rfl) (.same rfl) rfl (.rw (by decide) (congrArg (fun q => AV.rw 2 0 q 1 0) hlen)) (congrArg (AV.si .i64) hw) (.inl ⟨_, rfl, hcell _ ec⟩)⟩
    have g1 : 65 ≤ F[i] := by have : (65 : Int) ≤ Int.ofNat F[i] := g1; exact Int.ofNat_le.1 this
    conv => whnf
    refine ak.dec (fun g2 => ?_) (fun g2 => ?_)
    rotate_left
    focus
      have g2 : ¬ F[i] ≤ 90 := fun q => g2 (by show Int.ofNat F[i] ≤ (90 : Int); exact Int.ofNat_le.2 q)
      have ec : AV.si .u8 (Int.ofNat F[i]) = .si .u8 (Int.ofNat (jh (S i) F[i])) := congrArg (AV.si .u8) (by unfold jh; rw [if_neg (fun q => g2 q.2.1)])
      conv => whnf
      refine eD.grow 1 1 _ _ _ _ _ _ AT (.old rfl) rfl rfl (.rw rfl hrow) hbig ?_
      conv => whnf
      exact ⟨⟨i + 1, hi2⟩, by show F.length - (i + 1) < F.length - i; omega, lg 2 (Nat.le_refl 0) (.same rfl) (.same rfl) (.same rfl) (.same rfl) rfl (.rw (by decide) (congrArg (fun q => AV.rw 2 0 q 1 0) hlen)) (congrArg (AV.si .i64) hw) (.inl ⟨_, rfl, hcell _ ec⟩)⟩
    have g2 : F[i] ≤ 90 := by have : Int.ofNat F[i] ≤ (90 : Int) := g2; exact Int.ofNat_le.1 this
    conv => whnf
    refine ⟨Int.natCast_nonneg _, ?_⟩
    conv => whnf
    refine ak.dec (fun g3 => ?_) (fun g3 => ?_)
    rotate_left
    focus
      have g3 : S i = false := by rw [hS]; exact decide_eq_false g3
      have ec : AV.si .u8 (Int.ofNat F[i]) = .si .u8 (Int.ofNat (jh (S i) F[i])) := congrArg (AV.si .u8) (by unfold jh; rw [if_neg (fun q => by rw [g3] at q; cases q.2.2)])
      conv => whnf
      refine eD.grow 1 1 _ _ _ _ _ _ AT (.old rfl) rfl rfl (.rw rfl hrow) hbig ?_
      conv => whnf
      exact ⟨⟨i + 1, hi2⟩, by show F.length - (i + 1) < F.length - i; omega, lg 2 (Nat.le_refl 0) (.same rfl) (.same rfl) (.same rfl) (.same rfl) rfl (.rw (by decide) (congrArg (fun q => AV.rw 2 0 q 1 0) hlen)) (congrArg (AV.si .i64) hw) (.inl ⟨_, rfl, hcell _ ec⟩)⟩
    have g3 : S i = true := by rw [hS]; exact decide_eq_true g3
    have ec : AV.si .u8 (IntKind.u8.wrap (Int.ofNat F[i] + 32)) = .si .u8 (Int.ofNat (jh (S i) F[i])) := congrArg (AV.si .u8) (by unfold jh; rw [if_pos ⟨g1, g2, g3⟩, DF (by omega) (by omega)]; rfl)
    conv => whnf
    refine eD.grow 1 1 _ _ _ _ _ _ AT (.old rfl) rfl rfl (.rw rfl hrow) hbig ?_
    conv => whnf
    exact ⟨⟨i + 1, hi2⟩, by show F.length - (i + 1) < F.length - i; omega, lg 2 (Nat.le_refl 0) (.same rfl) (.same rfl) (.same rfl) (.same rfl) rfl (.rw (by decide) (congrArg (fun q => AV.rw 2 0 q 1 0) hlen)) (congrArg (AV.si .i64) hw) (.inl ⟨_, rfl, hcell _ ec⟩)⟩
  have hin : i = F.length := by have : ¬ i < F.length := fun q => h (Int.ofNat_lt.2 q); omega
  subst hin
  obtain ⟨B, hB⟩ : ∃ B, B = gu F S F.length := ⟨_, rfl⟩
  have hup : upF B = upF F := by rw [hB]; exact AP hN S
  have hB2 : (∀ c ∈ B, c < 256) ∧ B.length ≤ 20 := by rw [hB]; exact ⟨AN hN S (Nat.le_refl _), by rw [ga]; exact hN.1⟩
  have hK9 : (IntKind.i64.wrap k).tmod 9 = k.tmod 9 := by rw [hK]
  obtain ⟨m, hm⟩ : ∃ m : Nat, k.tmod 9 = (m : Int) ∧ m < 9 := by
    have h1 := Int.tmod_lt_of_pos k (b := 9) (by decide)
    have h2 := Int.tmod_nonneg 9 hk.1
    exact ⟨(k.tmod 9).toNat, by omega, by omega⟩
  obtain ⟨h7, hh⟩ : ∃ m : Nat, p.tmod 7 = (m : Int) ∧ m < 7 := by
    have h1 := Int.tmod_lt_of_pos p (b := 7) (by decide)
    have h2 := Int.tmod_nonneg 7 hp.1
    exact ⟨(p.tmod 7).toNat, by omega, by omega⟩
  have hP7 : (IntKind.i64.wrap p).tmod 7 = (h7 : Int) := by rw [hP, hh.1]
  obtain ⟨K, hKn⟩ : ∃ K, K = zC.getD m [] := ⟨_, rfl⟩
  obtain ⟨D, hD⟩ : ∃ D, D = lS n := ⟨_, rfl⟩
  have hK2 : (∀ c ∈ K, c < 256) ∧ K.length ≤ 20 := by
    rw [hKn]
    exact DE (P := fun m => (∀ c ∈ zC.getD m [], c < 256) ∧ (zC.getD m []).length ≤ 20) (by decide) m hm.2
  have hD2 : (∀ c ∈ D, c < 256) ∧ D.length ≤ 100 := by rw [hD]; exact ⟨Aa n, Nat.le_trans (yG n) (by decide)⟩
  obtain ⟨R, hR⟩ : ∃ R : List (List Nat), R = [[65], [49], [50], [97, 103, 103, 114, 101, 103, 97, 116, 105, 111, 110], K, D] := ⟨_, rfl⟩
  have hR6 : R.length = 6 := by rw [hR]; rfl
  have hRok : ∀ w ∈ R, (∀ c ∈ w, c < 256) ∧ w.length ≤ 1000000 := fun w hw => by
    rw [hR] at hw
    simp only [List.mem_cons, List.not_mem_nil, or_false] at hw
    rcases hw with rfl | rfl | rfl | rfl | rfl | rfl
    · exact ⟨by decide, by decide⟩
    · exact ⟨by decide, by decide⟩
    · exact ⟨by decide, by decide⟩
    · exact ⟨by decide, by decide⟩
    · exact ⟨hK2.1, Nat.le_trans hK2.2 (by decide)⟩
    · exact ⟨hD2.1, Nat.le_trans hD2.2 (by decide)⟩
  conv => whnf
  refine kN.mk Unit 2 (fun _ => cs1 p F B R) ?_ ?_
  focus
    conv => whnf
    refine ⟨?_, ?_, trivial⟩
    focus
      conv => whnf
      refine Idx.mk m (by rw [hK9]; exact hm.1) hm.2 ?_
      conv => whnf
      refine bj (Eq.trans (b := nth CL (0 + m * 1)) rfl (zH m hm.2)) ?_
      conv => whnf
      refine ⟨n, rfl, hn, ?_⟩
      conv => whnf
      exact ⟨(), vG 0 2 (by decide) (Nat.le_refl 0) (.same rfl) rfl (.rw (by decide) rfl (by rw [hB])) (.BF (by decide) rfl (by first | exact .inl rfl | exact .inr ⟨rfl, _, rfl, Nat.le_of_ble_eq_true rfl⟩) (by decide) (by rw [hR6])) (.inl ⟨_, rfl, by rw [hB]; exact cq _⟩) (.inl ⟨_, rfl, by rw [hR, hKn, hD]; rfl⟩)⟩
    focus
      conv => whnf
      refine Idx.mk m (by rw [hK9]; exact hm.1) hm.2 ?_
      conv => whnf
      refine ⟨n, rfl, hn, ?_⟩
      conv => whnf
      refine bj (Eq.trans (b := nth CL (0 + m * 1)) rfl (zH m hm.2)) ?_
      conv => whnf
      exact ⟨(), vG 0 2 (by decide) (Nat.le_refl 0) (.same rfl) rfl (.rw (by decide) rfl (by rw [hB])) (.BF (by decide) rfl (by first | exact .inl rfl | exact .inr ⟨rfl, _, rfl, Nat.le_of_ble_eq_true rfl⟩) (by decide) (by rw [hR6])) (.inl ⟨_, rfl, by rw [hB]; exact cq _⟩) (.inl ⟨_, rfl, by rw [hR, hKn, hD]; rfl⟩)⟩
  intro _
  have hlB : 1 + h7 = (B :: R.take h7).length := by rw [List.length_cons, List.length_take]; omega
  have hlF : 1 + h7 = (F :: R.take h7).length := by rw [List.length_cons, List.length_take]; omega
  conv => whnf
  refine kN.mk Unit 2 (fun _ => cs2 p F (B :: R.take h7) R) ?_ ?_
  focus
    conv => whnf
    refine zY.mk _ _ _ _ _ _ _ _ rfl (by decide) ⟨_, rfl, rfl, rfl⟩ (.inr ⟨_, rfl⟩) (by have := tj B; rwa [Nat.mul_one] at this) (fW hB2.1) ?_
    conv => whnf
    refine RSl.mk 0 h7 rfl (congrArg (fun x : Int => gv (some (AV.int .i64 x)) R.length) hP7) (.inl rfl) (Nat.zero_le _) (by omega) ?_
    conv => whnf
    refine eD.grow 1 16 h7 _ _ _ _ _ oY (.rw (.inr ⟨_, rfl⟩) (qb R (h := h7) (by omega))) (by rw [dd, List.length_take]; omega) (tk _) (.sl rfl rfl (Nat.le_refl _) (Nat.le_refl _)) (by omega) ?_
    conv => whnf
    exact ⟨(), AQ 3 1 (by decide) (Nat.le_refl 0) (.same rfl) rfl (.rw (by decide) rfl) (.rw (by decide) (congrArg (fun q => AV.rw 3 0 q 1 0) hlB)) (.inl ⟨_, rfl, jG _ _ _ rfl⟩) (.inl ⟨_, rfl, aj R⟩)⟩
  intro _
  conv => whnf
  refine RSl.mk 0 h7 rfl (congrArg (fun x : Int => gv (some (AV.int .i64 x)) R.length) hP7) (.inl rfl) (Nat.zero_le _) (by omega) ?_
  conv => whnf
  refine eD.grow 1 16 h7 _ _ _ _ _ oY (.rw (.inr ⟨_, rfl⟩) (qb R (h := h7) (by omega))) (by rw [dd, List.length_take]; omega) (tk _) (.sl rfl rfl (Nat.le_refl _) (Nat.le_refl _)) (by omega) ?_
  obtain ⟨X, hX⟩ : ∃ X, cQ (F :: R.take h7) = X := ⟨_, rfl⟩
  have hX2 : cQ (B :: R.take h7) = X := (zF hup).trans hX
  have oR : ∀ w ∈ R.take h7, (∀ c ∈ w, c < 256) ∧ w.length ≤ 1000000 := fun w h => hRok w (List.mem_of_mem_take h)
  have oB : ∀ w ∈ B :: R.take h7, (∀ c ∈ w, c < 256) ∧ w.length ≤ 1000000 := fun w h => by
    rcases List.mem_cons.1 h with rfl | h
    · exact ⟨hB2.1, Nat.le_trans hB2.2 (by decide)⟩
    · exact oR w h
  have oF : ∀ w ∈ F :: R.take h7, (∀ c ∈ w, c < 256) ∧ w.length ≤ 1000000 := fun w h => by
    rcases List.mem_cons.1 h with rfl | h
    · exact ⟨fun c hc => Nat.lt_trans (hN.2 c hc) (by decide), Nat.le_trans hN.1 (by decide)⟩
    · exact oR w h
  have lB : (B :: R.take h7).length ≤ 700000 := by rw [List.length_cons, List.length_take]; omega
  have lF : (F :: R.take h7).length ≤ 700000 := by rw [List.length_cons, List.length_take]; omega
  have sX := zB lF oF hX
  conv => whnf
  refine ⟨B :: R.take h7, X, lB, oB, hX2, .inr ⟨_, _, _, rfl, rfl, rfl, aj _, ?_⟩⟩
  conv => whnf
  refine ⟨F :: R.take h7, X, lF, oF, hX, .inr ⟨_, _, _, rfl, hlF, rfl, jG _ _ _ rfl, ?_⟩⟩
  conv => whnf
  refine ⟨_, ⟨(if X.e = 0 then X else jd), (if X.e = 0 then X else jd), rfl, sX, rfl⟩, ?_⟩
  conv => whnf
  refine ak.sb (fun _ => ?_) (fun q => absurd (zA _) (by rw [q]; decide))
  conv => whnf
  refine ak.dec (fun _ => ?_) (fun q => absurd rfl q)
  conv => whnf
  exact .inl rfl
end Go.Proofs.Ytdfeigkooeeeaaa
