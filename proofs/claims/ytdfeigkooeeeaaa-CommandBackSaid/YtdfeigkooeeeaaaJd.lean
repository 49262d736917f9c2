/- Texts of our own, joined: the engine, the machine that runs code, and what is known of the functions. -/
import Derived.Test.YtdfeigkooeeeaaaRows
import Derived.WalkKit
import Derived.Deep.Quiet
import Derived.ProofKit
import Derived.Laws.StructEq
import Derived.LaidEql
import Derived.Laws.BytesArg
import Derived.Maps.RangeRun
import Derived.Scope
import Derived.Laws.Strings
import Derived.Laws.Strings2
import Derived.Below
import Derived.Carry
import Derived.OpenShut
import Derived.Test.YtdfeigkooeeeaaaJb
import Derived.ChangeMaps5
import Derived.Deep.Slices
import Derived.Deep.SlicePairs
import Derived.SizedLaws
import Derived.Laws.BitsAllLaws
import Derived.Test.YtdfeigkooeeeaaaJc
set_option linter.unusedSimpArgs false
set_option linter.unusedVariables false
set_option maxHeartbeats 16000000
set_option maxRecDepth 100000
namespace Go.Proofs.Ytdfeigkooeeeaaa
open Go Go.RowKit
def upC (c : Nat) : Nat := if 97 ≤ c ∧ c ≤ 122 then c - 32 else c
def upF (s : List Nat) : List Nat := s.map upC
noncomputable def whF : List (Nat × List Nat) → List Nat → Nat
  | [], _ => 0
  | e :: N, u => match bg e.2 u with
    | true => e.1
    | false => whF N u
def fB (N : List (Nat × List Nat)) : List (AV × AV) := N.map fun e => (.int .i64 (e.1 : Int), .str e.2)
noncomputable def EJ : List (AV × AV) → Option (List (Nat × List Nat))
  | [] => some []
  | (.int .i64 (.ofNat k), .str s) :: es => (match EJ es with
    | some N => some ((k, s) :: N)
    | none => none)
  | _ => none
noncomputable def jn : List (Nat × List Nat) → Bool
  | [] => true
  | e :: N => N.all (fun f => !bg e.2 f.2) && jn N
noncomputable def whQ (args : List AV) (H : AH) (n : Nat) (κ : KA) : AR := match args with
  | [.str w, .map b] => (match H.get b with
    | some (.map es) => (match EJ es with
      | some N => (match jn N && (w.all (fun c => Nat.blt c 256) && Nat.blt w.length 1000) with
        | true => κ (.int .i64 (Int.ofNat (whF N (upF w)))) H n
        | false => none)
      | none => none)
    | _ => none)
  | _ => none
noncomputable def CE (k : FuncId) (g : List AV → AH → Nat → KA → AR) (F : FuncId → EQ) (f : FuncId) : EQ := Bool.rec (F f) (.nat g) (Nat.beq f k)
noncomputable def evC : FuncId → EQ := CE 23 whQ evQ
end Go.Proofs.Ytdfeigkooeeeaaa
namespace Go.Proofs.Ytdfeigkooeeeaaa
open Go Go.RowKit
theorem bH : ∀ {a b : List Nat}, bg a b = true ↔ a = b
  | [], [] => by simp [bg]
  | [], _ :: _ => by simp [bg]
  | _ :: _, [] => by simp [bg]
  | a :: x, b :: y => by
    unfold bg
    cases h : Nat.beq a b with
    | true =>
      have := Nat.eq_of_beq_eq_true h
      subst this
      simp [bH (a := x) (b := y)]
    | false =>
      have : a ≠ b := fun e => by subst e; rw [Nat.beq_refl] at h; cases h
      simp [this]
theorem Gy {H : AH} {n b : Nat} {o : AO} (hb : b < n) (h : H.get b = some (fk (aZ [b] n) o)) (hv : o.void = false ∨ o.own = true) : iG H n [b] [o] := ⟨by simp, rfl, fun i s q h1 h2 => by
  match i, h1, h2 with
  | 0, h1, h2 => injection h1 with h1; injection h2 with h2; subst h1 h2; exact ⟨hb, h, hv⟩⟩
def iM (s : List Nat) (i : Nat) : List Nat := (s.take i).map upC ++ s.drop i
theorem lf (s : List Nat) (i : Nat) : (iM s i).length = s.length := by simp [iM]; omega
theorem y0 {s : List Nat} {i : Nat} (h : i < s.length) : (iM s i)[i]? = some s[i] := by
  unfold iM
  rw [List.getElem?_append_right (by simp; omega), List.getElem?_drop]
  simp [Nat.min_eq_left (Nat.le_of_lt h), h]
theorem td {s : List Nat} {i : Nat} (h : i < s.length) : iM s (i + 1) = (iM s i).set i (upC s[i]) := by
  unfold iM
  rw [List.take_succ_eq_append_getElem h, List.map_append, List.set_append, if_neg (by simp; omega)]
  have hd := List.drop_eq_getElem_cons h
  have hz : i - (List.map upC (List.take i s)).length = 0 := by simp; omega
  rw [hz, hd, List.append_assoc]; rfl
theorem AI {s : List Nat} {i : Nat} (h : i < s.length) (e : upC s[i] = s[i]) : iM s (i + 1) = iM s i := by
  rw [td h, e]
  apply List.ext_getElem?
  intro j
  by_cases hj : j = i
  · subst hj; rw [y0 h]; simp [lf, h]
  · rw [List.getElem?_set_ne (Ne.symm hj)]
theorem CF (s : List Nat) : iM s s.length = upF s := by simp [iM, upF]
theorem Gz {s : List Nat} (h : ∀ c ∈ s, c < 256) : ∀ c ∈ upF s, c < 256 := fun c hc => by
  obtain ⟨a, ha, rfl⟩ := List.mem_map.1 hc
  have := h a ha
  unfold upC
  split <;> omega
noncomputable def upb (s : List Nat) (i : Nat) : AE × AH := (mkE [(3, .sy 0 0 s.length s.length 1), (8, .sy 0 0 s.length s.length 1), (9, .si .i64 (((s.length : Nat) : Int))), (10, .si .i64 (((i : Nat) : Int)))], mkH [(0, .cells (cM (iM s i)) false)])
theorem pI {s : List Nat} {i : Nat} {p n : Nat} {σ : AE} {H : AH} {l0 : List AV} (hp : p ≤ 0) (e3 : mk (aL (pa 3) σ) = .sy 0 0 s.length s.length 1) (e8 : mk (aL (pa 8) σ) = .sy 0 0 s.length s.length 1) (e9 : mk (aL (pa 9) σ) = .si .i64 (((s.length : Nat) : Int))) (e10 : mk (aL (pa 10) σ) = .si .i64 (((i : Nat) : Int))) (h0 : H.get 0 = some (.cells l0 false)) (g0 : l0.map mk = cM (iM s i)) : Cov p σ H n ((upb s i).1, (upb s i).2, 1) := by
  refine Cov.ofR (fun b => b) (by omega) (fun b hb => rfl) ?_ ?_ ?_
  · intro x hx
    simp only [List.mem_cons, List.not_mem_nil, or_false] at hx
    rcases hx with rfl | rfl | rfl | rfl
    · exact .sy (by decide) e3
    · exact .sy (by decide) e8
    · exact .int e9
    · exact .int e10
  · intro x hx
    simp only [List.mem_cons, List.not_mem_nil, or_false] at hx
    subst hx
    exact ⟨by simp, .inl ⟨_, h0, cU.cn (jB _) (by rw [g0, ec]) (fun q => q)⟩⟩
  · intro x hx y hy
    simp only [List.mem_cons, List.not_mem_nil, or_false] at hx hy
    subst hx hy
    exact fun q => rfl
noncomputable def KUp : FuncId → EP := dg 44 [] evP
theorem GA : cm KUp := aX ba (by kernel_rfl) (by kernel_rfl)
theorem GB (s : List Nat) (hs : ∀ c ∈ s, c < 256) (hl : s.length ≤ 1000000) : aw KUp 3 44 [.ss s] .nil 0 fun u _ _ => mkT u = mkT (.ss (upF s)) := by
  conv => whnf
  refine Ask.mk (.sl 0 0 s.length s.length 1, _, 1) rfl ?_
  conv => whnf
  refine cW.mk { i : Nat // i ≤ s.length } 1 (fun i => upb s i.val) (fun i => s.length - i.val) ⟨0, Nat.zero_le _⟩ ?_ ?_
  · exact pI (Nat.le_refl 0) rfl rfl rfl rfl rfl (by simp [iM, cM, mk])
  · intro ⟨i, hi⟩
    have hsub : br (cM (iM s i)) 0 (s.length * 1) = some (cM (iM s i)) := cS (by rw [cO, lf, Nat.mul_one])
    conv => whnf
    refine ab.dec (fun h => ?_) (fun h => ?_)
    · have hi2 : i < s.length := by exact Int.ofNat_lt.1 h
      have hc := hs _ (List.getElem_mem hi2)
      have hi1 : IntKind.i64.wrap ((i : Int) + 1) = ((i + 1 : Nat) : Int) := eF ⟨by omega, by omega⟩
      have hnth : nth (cM (iM s i)) (0 + i * 1) = some (.si .u8 (Int.ofNat s[i])) := by
        rw [fA, Nat.zero_add, Nat.mul_one]
        simp only [cM, List.getElem?_map, y0 hi2]; rfl
      have hset : 97 ≤ s[i] → s[i] ≤ 122 → gZ (cM (iM s i)) (0 + i * 1) [.si .u8 (IntKind.u8.wrap (Int.ofNat s[i] - 32))] = some (cM (iM s (i + 1))) := fun h1 h2 => by
        rw [Nat.zero_add, Nat.mul_one, rj _ _ _ (by rw [cO, lf]; exact hi2)]
        have e : IntKind.u8.wrap (Int.ofNat s[i] - 32) = Int.ofNat (upC s[i]) := by
          unfold upC; rw [if_pos ⟨h1, h2⟩]
          simp [IntKind.wrap, IntKind.bits, IntKind.signed]
          omega
        rw [e, wy, ← td hi2]
      have hsame : ¬ (97 ≤ s[i] ∧ s[i] ≤ 122) → (cM (iM s i)).map mk = cM (iM s (i + 1)) := fun q => by
        rw [AI hi2 (by unfold upC; rw [if_neg q]), ec]
      conv => whnf
      refine Idx.mk i rfl hi2 ?_
      conv => whnf
      refine aO hnth ?_
      conv => whnf
      refine ab.dec (fun h1 => ?_) (fun h1 => ?_)
      · have h1 : 97 ≤ s[i] := by exact Int.ofNat_le.1 h1
        conv => whnf
        refine ab.dec (fun h2 => ?_) (fun h2 => ?_)
        · have h2 : s[i] ≤ 122 := by exact Int.ofNat_le.1 h2
          conv => whnf
          refine Idx.mk i rfl hi2 ?_
          conv => whnf
          refine aO (hset h1 h2) ?_
          conv => whnf
          exact ⟨⟨i + 1, hi2⟩, (show s.length - (i + 1) < s.length - i by omega), pI (Nat.le_refl 0) rfl rfl rfl (congrArg (AV.si .i64) hi1) rfl (ec _)⟩
        · have h2 : ¬ s[i] ≤ 122 := fun q => h2 (by exact Int.ofNat_le.2 q)
          conv => whnf
          exact ⟨⟨i + 1, hi2⟩, (show s.length - (i + 1) < s.length - i by omega), pI (Nat.le_refl 0) rfl rfl rfl (congrArg (AV.si .i64) hi1) rfl (hsame fun q => h2 q.2)⟩
      · have h1 : ¬ 97 ≤ s[i] := fun q => h1 (by exact Int.ofNat_le.2 q)
        conv => whnf
        exact ⟨⟨i + 1, hi2⟩, (show s.length - (i + 1) < s.length - i by omega), pI (Nat.le_refl 0) rfl rfl rfl (congrArg (AV.si .i64) hi1) rfl (hsame fun q => h1 q.1)⟩
    · have hi3 : i = s.length := by have : ¬ i < s.length := fun q => h (Int.ofNat_lt.2 q); omega
      have hconv : (br (cM (iM s i)) 0 s.length).bind fY = some (upF s) := by
        rw [hi3, CF, cS (by rw [cO]; simp [upF])]
        exact ld (Gz hs)
      conv => whnf
      refine Ask.mk (.str (upF s), _, _) (congrArg (Option.map fun s => (AV.str s, _, _)) hconv) ?_
      conv => whnf
      rfl
def y1 (args : List AV) (H : AH) (n : Nat) (κ : PK) : Prop := match args with
  | [x] => ∃ s, mk x = .ss s ∧ (∀ c ∈ s, c < 256) ∧ s.length ≤ 1000000 ∧ κ (.ss (upF s)) H n
  | _ => False
theorem y2 : aI 44 y1 := fun args H n κ hs φ h0' hp vs K hr hargs hk => by
  unfold y1 at hs
  split at hs
  · obtain ⟨x, rfl, e1⟩ := vs1 hargs
    obtain ⟨s, hx, h1, h2, hs⟩ := hs
    exact mI GA (v := .ss (upF s)) rfl (GB s h1 h2) hs hr hk (by kernel_rfl) HR.ro0 (.cons (dG rfl (hx ▸ e1.mk)) .nil)
  · exact hs.elim
theorem CG : ∀ {N : List (Nat × List Nat)} {u : List Nat}, (∀ i (h : i < N.length), bg N[i].2 u = false) → whF N u = 0
  | [], _, _ => rfl
  | e :: N, u, h => by
    unfold whF
    have h0 := h 0 (by simp)
    simp only [List.getElem_cons_zero] at h0
    rw [h0]
    exact CG fun i hi => h (i + 1) (by simp; omega)
theorem CH : ∀ {N : List (Nat × List Nat)} {u : List Nat} {i : Nat} (h : i < N.length), jn N = true → bg N[i].2 u = true → whF N u = N[i].1
  | [], _, _, h, _, _ => by simp at h
  | e :: N, u, i, h, ha, hb => by
    unfold jn at ha
    simp only [Bool.and_eq_true] at ha
    unfold whF
    cases i with
    | zero => simp only [List.getElem_cons_zero] at hb ⊢; rw [hb]
    | succ i =>
      simp only [List.getElem_cons_succ] at hb ⊢
      have hi : i < N.length := by simp at h; omega
      have h1 := List.all_eq_true.1 ha.1 _ (List.getElem_mem hi)
      have h2 : bg e.2 u = false := by
        cases q : bg e.2 u with
        | false => rfl
        | true => rw [bH.1 q, bH.1 hb, bH.2 rfl] at h1; cases h1
      rw [h2]
      exact CH hi ha.2 hb
theorem cU.Jm {H : AH} {m : Nat} {r : Nat → Nat} {es : List (AV × AV)} (h : ∀ e ∈ es, dV e.1 = true ∧ dV e.2 = true) : cU H m r (.map es) (.map es) :=
  ⟨⟨rfl, rfl⟩, fun φ ψ p ob hr _ ⟨ms, cl, h1, h2, h3⟩ => ⟨ms, cl, h1, by
    have : ∀ (es : List (AV × AV)) (ms : List MapEntry), (∀ e ∈ es, dV e.1 = true ∧ dV e.2 = true) → MR φ es ms → MR ψ es ms := fun es => by
      induction es with
      | nil => intro ms _ k; exact k
      | cons e es ih => intro ms h ⟨m, us, k1, k2, k3, k4⟩; exact ⟨m, us, k1, hE hr.2 (h e List.mem_cons_self).1 k2, hE hr.2 (h e List.mem_cons_self).2 k3, ih us (fun e he => h e (List.mem_cons_of_mem _ he)) k4⟩
    exact this es _ h h2, h3⟩⟩
theorem cU.Ic {H : AH} {m : Nat} {r : Nat → Nat} {b k : Nat} {seen : List Nat} (hb : b < m) (hr : r b = b) : cU H m r (.iter b k seen) (.iter b k seen) :=
  ⟨⟨rfl, rfl⟩, fun φ ψ p ob hren _ ⟨h0, q, h1, h2⟩ => ⟨h0, q, by rw [hren.1 b hb, hr]; exact h1, h2⟩⟩
theorem AJ (N : List (Nat × List Nat)) : ∀ e ∈ fB N, dV e.1 = true ∧ dV e.2 = true := fun e he => by
  simp only [fB, List.mem_map] at he
  obtain ⟨x, _, rfl⟩ := he
  exact ⟨rfl, rfl⟩
theorem wz (N : List (Nat × List Nat)) : (fB N).length = N.length := by simp [fB]
theorem EK {N : List (Nat × List Nat)} {i : Nat} {e : AV × AV} (h : (fB N)[i]? = some e) : ∃ hl : i < N.length, e = (.int .i64 (N[i].1 : Int), .str N[i].2) := by
  simp only [fB, List.getElem?_map, Option.map_eq_some_iff] at h
  obtain ⟨x, h1, rfl⟩ := h
  obtain ⟨h2, h3⟩ := List.getElem?_eq_some_iff.1 h1
  exact ⟨h2, by rw [h3]⟩
theorem lg (r : Nat → Nat) : ∀ N : List (Nat × List Nat), xX r (fB N) = fB N
  | [] => rfl
  | e :: N => by
    have := lg r N
    show (_, _) :: xX r (fB N) = _
    rw [this]; rfl
theorem pJ (m : Nat) : ∀ N : List (Nat × List Nat), ltE m (fB N) = true
  | [] => rfl
  | e :: N => by
    have := pJ m N
    show (ltV m _ && (ltV m _ && ltE m (fB N))) = true
    rw [this]; rfl
noncomputable def whs (N : List (Nat × List Nat)) (w : List Nat) (seen : List Nat) : AE × AH := (mkE [(0, .ss (w)), (8, .ptr 1 (0))], mkH [(0, AO.map (fB N)), (1, AO.iter 0 (fB N).length seen)])
theorem y3 {N : List (Nat × List Nat)} {w : List Nat} {seen : List Nat} {p n : Nat} {σ : AE} {H : AH} (hp : p ≤ 1) (e0 : mk (aL (pa 0) σ) = .ss (w)) (e8 : aL (pa 8) σ = .ptr 1 (0)) (h0 : H.get 0 = some (AO.map (fB N))) (h1 : H.get 1 = some (AO.iter 0 (fB N).length seen)) : Cov p σ H n ((whs N w seen).1, (whs N w seen).2, 2) := by
  refine Cov.ofR (fun b => b) (by omega) (fun b hb => rfl) ?_ ?_ ?_
  · intro x hx
    simp only [List.mem_cons, List.not_mem_nil, or_false] at hx
    rcases hx with rfl | rfl
    · exact .str e0
    · exact .ptr (by decide) e8
  · intro x hx
    simp only [List.mem_cons, List.not_mem_nil, or_false] at hx
    rcases hx with rfl | rfl
    · exact ⟨by simp, .inl ⟨_, h0, cU.Jm (AJ N)⟩⟩
    · exact ⟨by simp, .inl ⟨_, h1, cU.Ic (by decide) rfl⟩⟩
  · intro x hx y hy
    simp only [List.mem_cons, List.not_mem_nil, or_false] at hx hy
    rcases hx with rfl | rfl <;> rcases hy with rfl | rfl <;> simp <;> omega
noncomputable def KWh : FuncId → EP := dg 23 [] (aG 44 y1 evP)
theorem GC : cm KWh := aX (an ba y2) (by kernel_rfl) (by kernel_rfl)
def WhQ (N : List (Nat × List Nat)) (k : Nat) : PK := fun u H' _ => u = .si .i64 (k : Int) ∧ PM.get H' 0 = some (.map (fB N))
theorem CI {u : AV} {H' : AH} {n' k : Nat} {N : List (Nat × List Nat)} (hu : mk u = .si .i64 (k : Int)) (hm : PM.get H' 0 = some (.map (fB N))) : ∃ v H2 n2, VTo u v ∧ cJ H' n' H2 n2 ∧ WhQ N k v H2 n2 := ⟨_, H', n', (fun φ w h => by rw [← hu]; exact h.mk), .refl _ _, rfl, hm⟩
theorem GD (N : List (Nat × List Nat)) (w : List Nat) (hN : jn N = true) (hw : ∀ c ∈ w, c < 256) (hl : w.length ≤ 1000000) : post (aw KWh 4 23) [.ss w, .map 0] (mkH [(0, .map (fB N))]) 1 (WhQ N (whF N (upF w))) := by
  show aw KWh 4 23 _ _ _ _
  conv => whnf
  refine cW.mk { seen : List Nat // seen.Nodup ∧ ∀ i ∈ seen, ∃ h : i < N.length, bg N[i].2 (upF w) = false } 2 (fun s => whs N w s.val) (fun s => N.length - s.val.length) ⟨[], by simp, by simp⟩ ?_ ?_
  · exact y3 (seen := []) (Nat.le_refl 1) rfl rfl rfl rfl
  · intro ⟨seen, hn, hs⟩
    have hsl : seen.length ≤ N.length := by
      have := (List.Nodup.length_le_of_subset hn (l₂ := List.range N.length) fun i hi => List.mem_range.2 (hs i hi).1)
      simpa using this
    conv => whnf
    refine Nxt.mk 1 0 _ seen _ rfl rfl rfl rfl rfl (fun hall => ?_) (fun i e he hns => ?_)
    · have hz : AV.si .i64 0 = .si .i64 ((whF N (upF w) : Nat) : Int) := by rw [CG fun i hi => (hs i (hall i (by rw [wz]; exact hi))).2]; rfl
      conv => whnf
      exact CI hz rfl
    · obtain ⟨hi, rfl⟩ := EK he
      have hnd : (seen ++ [i]).Nodup := by rw [List.nodup_append]; exact ⟨hn, by simp, fun a ha b hb e => by simp at hb; subst hb e; exact hns ha⟩
      have hlt : bg N[i].2 (upF w) = false → N.length - (seen ++ [i]).length < N.length - seen.length := fun _ => by
        have := List.Nodup.length_le_of_subset (l₁ := seen ++ [i]) (l₂ := List.range N.length) hnd (fun j hj => List.mem_range.2 (by rcases List.mem_append.1 hj with hj | hj; exact (hs j hj).1; simp at hj; subst hj; exact hi))
        simp at this ⊢; omega
      conv => whnf
      refine Ent.mk 1 0 _ i seen _ _ rfl rfl rfl rfl he ?_
      conv => whnf
      refine ⟨w, rfl, hw, hl, ?_⟩
      conv => whnf
      refine ab.sb (fun hy => ?_) (fun hno => ?_)
      · have hz : AV.si .i64 (N[i].1 : Int) = .si .i64 ((whF N (upF w) : Nat) : Int) := by rw [CH hi hN hy]
        conv => whnf
        exact CI hz rfl
      · conv => whnf
        exact ⟨⟨seen ++ [i], hnd, fun j hj => by rcases List.mem_append.1 hj with hj | hj; exact hs j hj; simp at hj; subst hj; exact ⟨hi, hno⟩⟩, hlt hno, y3 (Nat.le_refl 1) rfl rfl rfl rfl⟩
def CJ (args : List AV) (H : AH) (n : Nat) (κ : PK) : Prop := match args with
  | [x, y] => ∃ (b : Nat) (N : List (Nat × List Nat)) (w : List Nat), mk x = .ss w ∧ y = .map b ∧ b < n ∧ H.get b = some (.map (fB N)) ∧ jn N = true ∧ (∀ c ∈ w, c < 256) ∧ w.length ≤ 1000000 ∧ κ (.si .i64 ((whF N (upF w) : Nat) : Int)) H n
  | _ => False
theorem y4 : aI 23 CJ := fun args H n κ hs φ h0' hp vs K hr hargs hk => by
  unfold CJ at hs
  split at hs
  · obtain ⟨x, y, rfl, e1, e2⟩ := vs2 hargs
    obtain ⟨b, N, w, hx, rfl, hbn, hb, hN, h1, h2, hs⟩ := hs
    refine ri (S := [b]) (O := [.map (fB N)]) (args0 := [.ss w, .map 0]) (aI.post (az GC 4 _)) (by kernel_rfl) hr
      (Gy hbn (by rw [fk, lg]; exact hb) (.inr rfl)) (.cons (dG rfl (hx ▸ e1.mk)) (.cons e2 .nil)) hk (GD N w hN h1 h2) fun u H' n' ⟨g1, g2⟩ => ?_
    subst g1
    refine ⟨1, H, Nat.le_refl _, k8.same fun i s o h3 h4 _ => ?_, rfl, hs⟩
    cases i with
    | zero =>
      injection h3 with h3; subst h3
      rw [hb] at h4; injection h4 with h4; subst h4
      exact ⟨_, g2, rfl, pJ _ N, by rw [fk, lg]⟩
    | succ i => simp at h3
  · exact hs.elim
end Go.Proofs.Ytdfeigkooeeeaaa
namespace Go.Proofs.Ytdfeigkooeeeaaa
open Go Go.RowKit
def lW : Nat → Nat → List Nat
  | 0, _ => []
  | f + 1, k => if k < 10 then [48 + k] else lW f (k / 10) ++ [48 + k % 10]
def aq (z : Int) : List Nat := if z < 0 then 45 :: lW 20 z.natAbs else lW 20 z.natAbs
def dgo : Nat → Nat → List Nat → List Nat
  | 0, _, l => l
  | f + 1, k, l => if k = 0 ∧ l ≠ [] then l else dgo f (k / 10) ((48 + k % 10) :: l)
theorem rl {f : Nat} {l : List Nat} (h : l ≠ []) : dgo f 0 l = l := by
  cases f with
  | zero => rfl
  | succ f => unfold dgo; rw [if_pos ⟨rfl, h⟩]
theorem GF : ∀ (f k : Nat) (l : List Nat), k < 10 ^ (f + 1) → (k ≠ 0 ∨ l = []) → dgo (f + 2) k l = lW (f + 1) k ++ l := by
  intro f
  induction f with
  | zero =>
    intro k l h h0
    have hk : k < 10 := by simpa using h
    unfold dgo lW
    rw [if_neg (fun q => h0.elim (fun n => n q.1) (fun e => q.2 e)), if_pos hk, show k / 10 = 0 by omega, rl (by simp), show k % 10 = k by omega]
    rfl
  | succ f ih =>
    intro k l h h0
    unfold dgo lW
    rw [if_neg (fun q => h0.elim (fun n => n q.1) (fun e => q.2 e))]
    by_cases hk : k < 10
    · rw [if_pos hk, show k / 10 = 0 by omega, rl (by simp), show k % 10 = k by omega]
      rfl
    · rw [if_neg hk, ih (k / 10) _ (by rw [Nat.pow_succ] at h; omega) (.inl (by omega)), List.append_assoc]
      rfl
theorem iH : ∀ (f k : Nat), ∀ c ∈ lW f k, 48 ≤ c ∧ c ≤ 57 := by
  intro f
  induction f with
  | zero => intro k c h; cases h
  | succ f ih =>
    intro k c h
    unfold lW at h
    split at h
    · simp at h; omega
    · rcases List.mem_append.1 h with h | h
      · exact ih _ _ h
      · simp at h; omega
theorem CK : ∀ (f k : Nat), (lW f k).length ≤ f := by
  intro f
  induction f with
  | zero => intro k; exact Nat.le_refl _
  | succ f ih =>
    intro k
    unfold lW
    split
    · simp
    · rw [List.length_append]; have := ih (k / 10); simp; omega
theorem EL (z : Int) : ∀ c ∈ aq z, c < 256 := fun c h => by
  unfold aq at h
  split at h
  · rcases List.mem_cons.1 h with h | h
    · omega
    · have := iH _ _ _ h; omega
  · have := iH _ _ _ h; omega
theorem CL (z : Int) : (aq z).length ≤ 21 := by
  have := CK 20 z.natAbs
  unfold aq
  split
  · simp; omega
  · omega
theorem CM {z : Int} (h : bn z) : z.natAbs < 10 ^ 20 := by unfold bn at h; omega
def pgo : Nat → List Nat → Int → Int → Option Int
  | _, [], n, _ => some n
  | i, c :: r, n, sg => if 48 ≤ c ∧ c ≤ 57 then pgo (i + 1) r (W64 (W64 (10 * n) + W64 (sg * ((c : Int) - 48)))) sg else if i = 0 ∧ c = 45 then pgo (i + 1) r n (-1) else none
def ah (s : List Nat) : Int × Int := match pgo 0 s 0 1 with
  | some n => if aq n = s then (n, 0) else (0, 16)
  | none => (0, 16)
theorem y5 : ∀ (f k i : Nat) (r : List Nat) (sg : Int), k < 10 ^ (f + 1) → (sg = 1 ∧ k ≤ 9223372036854775807 ∨ sg = -1 ∧ k ≤ 9223372036854775808) → pgo i (lW (f + 1) k ++ r) 0 sg = pgo (i + (lW (f + 1) k).length) r (sg * k) sg := by
  intro f
  have one : ∀ (i c : Nat) (r : List Nat) (a sg : Int), c < 10 → pgo i ((48 + c) :: r) a sg = pgo (i + 1) r (W64 (W64 (10 * a) + W64 (sg * (c : Int)))) sg := fun i c r a sg hc => by
    rw [pgo, if_pos (by omega)]
    congr 3
    congr 1
    have : ((48 + c : Nat) : Int) - 48 = (c : Int) := by omega
    rw [this]
  induction f with
  | zero =>
    intro k i r sg h hs
    have hk : k < 10 := by simpa using h
    unfold lW
    rw [if_pos hk]
    show pgo i ((48 + k) :: r) 0 sg = _
    rw [one i k r 0 sg hk]
    rcases hs with ⟨rfl, h1⟩ | ⟨rfl, h1⟩
    · have e : W64 (W64 (10 * 0) + W64 (1 * (k : Int))) = 1 * (k : Int) := by simp only [oD]; omega
      rw [e]; rfl
    · have e : W64 (W64 (10 * 0) + W64 (-1 * (k : Int))) = -1 * (k : Int) := by simp only [oD]; omega
      rw [e]; rfl
  | succ f ih =>
    intro k i r sg h hs
    unfold lW
    by_cases hk : k < 10
    · rw [if_pos hk]
      show pgo i ((48 + k) :: r) 0 sg = _
      rw [one i k r 0 sg hk]
      rcases hs with ⟨rfl, h1⟩ | ⟨rfl, h1⟩
      · have e : W64 (W64 (10 * 0) + W64 (1 * (k : Int))) = 1 * (k : Int) := by simp only [oD]; omega
        rw [e]; rfl
      · have e : W64 (W64 (10 * 0) + W64 (-1 * (k : Int))) = -1 * (k : Int) := by simp only [oD]; omega
        rw [e]; rfl
    · rw [if_neg hk, List.append_assoc, ih (k / 10) i _ sg (by rw [Nat.pow_succ] at h; omega) (by omega)]
      show pgo _ ((48 + k % 10) :: r) _ sg = _
      rw [one _ (k % 10) r _ sg (by omega), List.length_append]
      rcases hs with ⟨rfl, h1⟩ | ⟨rfl, h1⟩
      · have e : W64 (W64 (10 * (1 * ((k / 10 : Nat) : Int))) + W64 (1 * ((k % 10 : Nat) : Int))) = 1 * (k : Int) := by simp only [oD]; omega
        rw [e]; rfl
      · have e : W64 (W64 (10 * (-1 * ((k / 10 : Nat) : Int))) + W64 (-1 * ((k % 10 : Nat) : Int))) = -1 * (k : Int) := by simp only [oD]; omega
        rw [e]; rfl
theorem CN {n : Int} (h : bn n) : ah (aq n) = (n, 0) := by
  have key : pgo 0 (aq n) 0 1 = some n := by
    unfold bn at h
    unfold aq
    by_cases hn : n < 0
    · rw [if_pos hn]
      rw [pgo, if_neg (by omega), if_pos ⟨rfl, rfl⟩]
      have := y5 19 n.natAbs 1 [] (-1) (by omega) (.inr ⟨rfl, by omega⟩)
      rw [List.append_nil] at this
      rw [this]
      (try simp only [pgo])
      congr 1; omega
    · rw [if_neg hn]
      have := y5 19 n.natAbs 0 [] 1 (by omega) (.inl ⟨rfl, by omega⟩)
      rw [List.append_nil] at this
      rw [this]
      (try simp only [pgo])
      congr 1; omega
  unfold ah
  rw [key]
  simp
theorem AK (z : Int) : ∀ (c : Nat) (r : List Nat), aq z = c :: r → (c = 45 ∨ (48 ≤ c ∧ c ≤ 57)) ∧ ∀ d ∈ r, 48 ≤ d ∧ d ≤ 57 := fun c r h => by
  unfold aq at h
  split at h
  · injection h with h1 h2
    subst h1
    exact ⟨.inl rfl, fun d hd => iH _ _ _ (h2 ▸ hd)⟩
  · exact ⟨.inr (iH _ _ _ (h ▸ List.mem_cons_self)), fun d hd => iH _ _ _ (h ▸ List.mem_cons_of_mem _ hd)⟩
end Go.Proofs.Ytdfeigkooeeeaaa
namespace Go.Proofs.Ytdfeigkooeeeaaa
open Go Go.RowKit
theorem Ie : RTy 43 43 1 1 := ⟨_, _, _, rfl, rfl, (fun q h => by cases h), rfl, rfl, rfl, rfl, by decide, by decide⟩
theorem wA (s : List Nat) : (cM s).all m7 = true := by
  rw [List.all_eq_true]
  intro y hy
  have := List.all_eq_true.1 (jB s) y hy
  cases y <;> first | rfl | cases this
theorem x0 (s : List Nat) : br (cM s) 0 (s.length * 1) = some (cM s) := cS (by rw [cO, Nat.mul_one])
theorem wB (s : List Nat) : br (cM s) 0 s.length = some (cM s) := cS (cO s)
theorem CO {s : List Nat} {i o : Nat} (h : i < s.length) (ho : o = i) : nth (cM s) o = some (.si .u8 (Int.ofNat s[i])) := by
  subst ho
  rw [fA]
  simp only [cM, List.getElem?_map, List.getElem?_eq_getElem h]; rfl
theorem CS {m : Int} (h : bn m) : AV.si .u8 (IntKind.u8.wrap (IntKind.i64.wrap (48 + max (m.tmod 10) (IntKind.i64.wrap (0 - m.tmod 10))))) = .si .u8 (Int.ofNat (48 + m.natAbs % 10)) := by
  unfold bn at h
  have h1 : m.tmod 10 = if m < 0 then -((m.natAbs % 10 : Nat) : Int) else ((m.natAbs % 10 : Nat) : Int) := by
    split
    · rename_i hn
      rw [show m = -((m.natAbs : Nat) : Int) by omega, Int.neg_tmod]
      simp [Int.tmod]
    · rename_i hn
      rw [show m = ((m.natAbs : Nat) : Int) by omega]
      simp [Int.tmod]
  have h2 : m.natAbs % 10 < 10 := Nat.mod_lt _ (by decide)
  have h3 : IntKind.i64.wrap (0 - m.tmod 10) = -(m.tmod 10) := (eF (by unfold bn; split at h1 <;> omega)).trans (by omega)
  have h4 : max (m.tmod 10) (-(m.tmod 10)) = ((m.natAbs % 10 : Nat) : Int) := by
    split at h1 <;> (rw [h1]; omega)
  rw [h3, h4]
  have h5 : IntKind.i64.wrap (48 + ((m.natAbs % 10 : Nat) : Int)) = ((48 + m.natAbs % 10 : Nat) : Int) := (eF (by unfold bn; omega)).trans (by omega)
  rw [h5]
  congr 1
  simp [IntKind.wrap, IntKind.bits, IntKind.signed]
  omega
theorem wC {m : Int} (h : bn m) : IntKind.i64.wrap (m.tdiv 10) = m.tdiv 10 ∧ bn (m.tdiv 10) ∧ (m.tdiv 10).natAbs = m.natAbs / 10 := by
  have h1 : (m.tdiv 10).natAbs = m.natAbs / 10 := by rw [Int.natAbs_tdiv]; rfl
  unfold bn at h
  have h2 : bn (m.tdiv 10) := by unfold bn; omega
  exact ⟨eF h2, h2, h1⟩
noncomputable def dgt (z : Int) (m : Int) (D : List Nat) : AE × AH := (mkE [(0, .si .i64 (z)), (3, .rw 0 0 D.length 1 0), (4, .si .i64 (m))], mkH [(0, .cells (cM (D)) true)])
theorem uP {z : Int} {m : Int} {D : List Nat} {p n : Nat} {σ : AE} {H : AH} (j0 : Nat) (hp : p ≤ 0) (e0 : mk (aL (pa 0) σ) = .si .i64 (z)) (e3 : ak H 1 (fun b => if b = 0 then j0 else b) (aL (pa 3) σ) (.rw 0 0 D.length 1 0)) (e4 : mk (aL (pa 4) σ) = .si .i64 (m)) (h0 : (∃ l, H.get j0 = some (.cells l true) ∧ l.map mk = cM (D)) ∨ ((D) = [] ∧ n ≤ j0)) : Cov p σ H n ((dgt z m D).1, (dgt z m D).2, 1) := by
  refine Cov.ofR (fun b => if b = 0 then j0 else b) (by omega) (fun b hb => by repeat' rw [if_neg (by omega)]) ?_ ?_ ?_
  · intro x hx
    simp only [List.mem_cons, List.not_mem_nil, or_false] at hx
    rcases hx with rfl | rfl | rfl
    · exact .int e0
    · exact e3
    · exact .int e4
  · intro x hx
    simp only [List.mem_cons, List.not_mem_nil, or_false] at hx
    subst hx
    exact ⟨by simp, h0.elim (fun ⟨l, h, g⟩ => .inl ⟨_, h, cU.cn (jB _) (by rw [g, ec]) (fun q => q)⟩) (fun h => .inr ⟨by rw [h.1]; rfl, h.2⟩)⟩
  · intro x hx y hy
    simp only [List.mem_cons, List.not_mem_nil, or_false] at hx hy
    subst hx hy
    exact fun q => rfl
noncomputable def KDg : FuncId → EP := dg 11 [] evP
theorem GG : cm KDg := aX ba (by kernel_rfl) (by kernel_rfl)
def DgI (z : Int) (x : Nat × Int × List Nat) : Prop := bn x.2.1 ∧ x.2.1.natAbs < 10 ^ x.1 ∧ dgo (x.1 + 1) x.2.1.natAbs x.2.2 = lW 20 z.natAbs ∧ x.2.2.length + x.1 ≤ 20 ∧ (∀ c ∈ x.2.2, c < 256) ∧ (x.2.2 = [] → x.1 = 20)
theorem DgI.step {z m : Int} {f : Nat} {l : List Nat} (h : DgI z (f, m, l)) (hc : m ≠ 0 ∨ l.length = 0) : 1 ≤ f ∧ DgI z (f - 1, m.tdiv 10, (48 + m.natAbs % 10) :: l) := by
  obtain ⟨h1, h2, h3, h4, h5, h6⟩ := h
  dsimp only at h1 h2 h3 h4 h5 h6
  have hf : 1 ≤ f := by
    rcases Nat.eq_zero_or_pos f with q | q
    · subst q
      rcases hc with hc | hc
      · simp at h2; omega
      · have := h6 (List.eq_nil_of_length_eq_zero hc); omega
    · exact q
  obtain ⟨g, rfl⟩ : ∃ g, f = g + 1 := ⟨f - 1, by omega⟩
  obtain ⟨d1, d2, d3⟩ := wC h1
  refine ⟨hf, d2, ?_, ?_, ?_, ?_, fun q => by cases q⟩
  · show (m.tdiv 10).natAbs < 10 ^ g
    rw [d3]; rw [Nat.pow_succ] at h2; omega
  · show dgo (g + 1) (m.tdiv 10).natAbs _ = _
    rw [d3, ← h3]
    conv => rhs; unfold dgo
    rw [if_neg (fun q => hc.elim (fun n => n (Int.natAbs_eq_zero.1 q.1)) (fun e => q.2 (List.eq_nil_of_length_eq_zero e)))]
  · show ((48 + m.natAbs % 10) :: l).length + (g + 1 - 1) ≤ 20
    simp; omega
  · intro c hc
    rcases List.mem_cons.1 hc with rfl | hc
    · omega
    · exact h5 c hc
theorem DgI.stop {z m : Int} {f : Nat} {l : List Nat} (h : DgI z (f, m, l)) (h0 : m = 0) (hl : ¬ l.length = 0) : l = lW 20 z.natAbs := by
  obtain ⟨h1, h2, h3, _⟩ := h
  dsimp only at h3
  rw [h0] at h3
  rw [← h3]
  exact (rl (fun e => hl (by rw [e]; rfl))).symm
theorem GH (z : Int) (hz : bn z) : aw KDg 3 11 [.si .i64 z] .nil 0 fun u _ _ => mkT u = mkT (.ss (aq z)) := by
  conv => whnf
  refine cW.mk { x : Nat × Int × List Nat // DgI z x } 1 (fun x => dgt z x.val.2.1 x.val.2.2) (fun x => x.val.1) ⟨(20, z, []), hz, CM hz, GF 19 _ _ (CM hz) (.inr rfl) |>.trans (List.append_nil _), Nat.le_refl _, (fun c h => by cases h), fun _ => rfl⟩ ?_ ?_
  · exact uP (j0 := 0) (Nat.le_refl 0) rfl (.Ia rfl) rfl (.inr ⟨rfl, Nat.le_refl _⟩)
  · intro ⟨(f, m, l), hI⟩
    have hm : bn m := hI.1
    have hll : l.length ≤ 20 := by have := hI.2.2.2.1; dsimp only at this; omega
    have hb256 : ∀ c ∈ l, c < 256 := hI.2.2.2.2.1
    have hrow := x0 l
    have hbig : (1 + l.length) * 1 ≤ 140737488355328 := by omega
    have hlen : 1 + l.length = ((48 + m.natAbs % 10) :: l).length := by simp; omega
    have hby := CS hm
    have hcell : ([AV.si .u8 (IntKind.u8.wrap (IntKind.i64.wrap (48 + max (m.tmod 10) (IntKind.i64.wrap (0 - m.tmod 10)))))] ++ cM l).map mk = cM ((48 + m.natAbs % 10) :: l) := by
      rw [hby, List.map_append, ec]; rfl
    have hmt : AV.si .i64 (IntKind.i64.wrap (m.tdiv 10)) = .si .i64 (m.tdiv 10) := by rw [(wC hm).1]
    have go : ∀ hc : m ≠ 0 ∨ l.length = 0, f - 1 < f := fun hc => by have := (hI.step hc).1; omega
    conv => whnf
    refine ab.gQ (fun h0 => ?_) (fun h0 => ?_)
    · have hst := hI.step (.inl h0)
      conv => whnf
      refine iL.grow 1 1 _ _ _ _ _ _ Ie (.rw (.inr ⟨_, rfl⟩) hrow) (by rw [cO, Nat.mul_one]) (wA l) (.sl rfl rfl (Nat.le_refl _) (Nat.le_refl _)) hbig ?_
      conv => whnf
      exact ⟨⟨(f - 1, m.tdiv 10, (48 + m.natAbs % 10) :: l), hst.2⟩, go (.inl h0), uP (j0 := 2) (Nat.le_refl 0) rfl (ak.rw (by decide) rfl (hn := hlen)) hmt (.inl ⟨_, rfl, hcell⟩)⟩
    · conv => whnf
      refine ab.dec (fun h1 => ?_) (fun h1 => ?_)
      · have h1 : l.length = 0 := by exact Int.ofNat_inj.1 h1
        have hst := hI.step (.inr h1)
        conv => whnf
        refine iL.grow 1 1 _ _ _ _ _ _ Ie (.rw (.inr ⟨_, rfl⟩) hrow) (by rw [cO, Nat.mul_one]) (wA l) (.sl rfl rfl (Nat.le_refl _) (Nat.le_refl _)) hbig ?_
        conv => whnf
        exact ⟨⟨(f - 1, m.tdiv 10, (48 + m.natAbs % 10) :: l), hst.2⟩, go (.inr h1), uP (j0 := 2) (Nat.le_refl 0) rfl (ak.rw (by decide) rfl (hn := hlen)) hmt (.inl ⟨_, rfl, hcell⟩)⟩
      · have h1 : ¬ l.length = 0 := fun q => h1 (by exact Int.ofNat_inj.2 q)
        have hl := hI.stop h0 h1
        have hbyt : fY (cM l) = some l := ld hb256
        have hwh := wB l
        have hadd : ([45] : List Nat).length + l.length ≤ 9223372036854775807 := by simp; omega
        conv => whnf
        refine ab.dec (fun hn => ?_) (fun hn => ?_)
        · have e : mkT (AV.ss ([45] ++ l)) = mkT (.ss (aq z)) := by unfold aq; rw [if_pos hn, hl]; rfl
          conv => whnf
          refine Gp.mk _ _ _ _ _ _ _ _ rfl (by decide) ⟨_, rfl, rfl, rfl⟩ (.inr ⟨_, rfl⟩) hwh hbyt ?_
          conv => whnf
          refine ⟨hadd, ?_⟩
          conv => whnf
          exact e
        · have e : mkT (AV.ss l) = mkT (.ss (aq z)) := by unfold aq; rw [if_neg hn, hl]
          conv => whnf
          refine Gp.mk _ _ _ _ _ _ _ _ rfl (by decide) ⟨_, rfl, rfl, rfl⟩ (.inr ⟨_, rfl⟩) hwh hbyt ?_
          conv => whnf
          exact e
def wD (args : List AV) (H : AH) (n : Nat) (κ : PK) : Prop := match args with
  | [x] => ∃ z : Int, mk x = .si .i64 z ∧ bn z ∧ κ (.ss (aq z)) H n
  | _ => False
theorem rm : aI 11 wD := fun args H n κ hs φ h0' hp vs K hr hargs hk => by
  unfold wD at hs
  split at hs
  · obtain ⟨x, rfl, e1⟩ := vs1 hargs
    obtain ⟨z, hx, h1, hs⟩ := hs
    exact mI GG (v := .ss (aq z)) rfl (GH z h1) hs hr hk (by kernel_rfl) HR.ro0 (.cons (dG rfl (hx ▸ e1.mk)) .nil)
  · exact hs.elim
theorem Ig {c : Nat} (h1 : 48 ≤ c) (h2 : c ≤ 57) : IntKind.i64.wrap (IntKind.u8.wrap (Int.ofNat c - 48)) = (c : Int) - 48 := by
  have e : IntKind.u8.wrap (Int.ofNat c - 48) = (c : Int) - 48 := by
    simp [IntKind.wrap, IntKind.bits, IntKind.signed]
    omega
  rw [e]
  exact eF (by unfold bn; omega)
noncomputable def nmt (s : List Nat) (m : Int) (g : Int) (i : Nat) : AE × AH := (mkE [(0, .ss (s)), (4, .si .i64 (m)), (5, .si .i64 (g)), (9, .sy 0 0 s.length s.length 1), (10, .si .i64 (((s.length : Nat) : Int))), (11, .si .i64 (((i : Nat) : Int)))], mkH [(0, .cells (cM (s)) false)])
theorem uQ {s : List Nat} {m : Int} {g : Int} {i : Nat} {p n : Nat} {σ : AE} {H : AH} {l0 : List AV} (hp : p ≤ 0) (e0 : mk (aL (pa 0) σ) = .ss (s)) (e4 : mk (aL (pa 4) σ) = .si .i64 (m)) (e5 : mk (aL (pa 5) σ) = .si .i64 (g)) (e9 : mk (aL (pa 9) σ) = .sy 0 0 s.length s.length 1) (e10 : mk (aL (pa 10) σ) = .si .i64 (((s.length : Nat) : Int))) (e11 : mk (aL (pa 11) σ) = .si .i64 (((i : Nat) : Int))) (h0 : H.get 0 = some (.cells l0 false)) (g0 : l0.map mk = cM (s)) : Cov p σ H n ((nmt s m g i).1, (nmt s m g i).2, 1) := by
  refine Cov.ofR (fun b => b) (by omega) (fun b hb => rfl) ?_ ?_ ?_
  · intro x hx
    simp only [List.mem_cons, List.not_mem_nil, or_false] at hx
    rcases hx with rfl | rfl | rfl | rfl | rfl | rfl
    · exact .str e0
    · exact .int e4
    · exact .int e5
    · exact .sy (by decide) e9
    · exact .int e10
    · exact .int e11
  · intro x hx
    simp only [List.mem_cons, List.not_mem_nil, or_false] at hx
    subst hx
    exact ⟨by simp, .inl ⟨_, h0, cU.cn (jB _) (by rw [g0, ec]) (fun q => q)⟩⟩
  · intro x hx y hy
    simp only [List.mem_cons, List.not_mem_nil, or_false] at hx hy
    subst hx hy
    exact fun q => rfl
noncomputable def KNm : FuncId → EP := aG 11 wD evP
theorem GI : cm KNm := an ba rm
theorem drop_cons {s : List Nat} {i : Nat} (h : i < s.length) : s.drop i = s[i] :: s.drop (i + 1) := List.drop_eq_getElem_cons h
theorem GJ (s : List Nat) (hs : ∀ c ∈ s, c < 256) (hl : s.length ≤ 1000000) : aw KNm 3 9 [.ss s] .nil 0 fun u _ _ => mkT u = mkT (.tup [.si .i64 (ah s).1, .si .i64 (ah s).2]) := by
  have key : ∀ {x y : Int}, ah s = (x, y) → mkT (.tup [.si .i64 x, .si .i64 y]) = mkT (.tup [.si .i64 (ah s).1, .si .i64 (ah s).2]) := fun e => by rw [e]
  conv => whnf
  refine Ask.mk (.sl 0 0 s.length s.length 1, _, 1) rfl ?_
  conv => whnf
  refine cW.mk { x : Nat × Int × Int // x.1 ≤ s.length ∧ bn x.2.1 ∧ pgo x.1 (s.drop x.1) x.2.1 x.2.2 = pgo 0 s 0 1 } 1 (fun x => nmt s x.val.2.1 x.val.2.2 x.val.1) (fun x => s.length - x.val.1) ⟨(0, 0, 1), Nat.zero_le _, (show bn 0 by unfold bn; omega), rfl⟩ ?_ ?_
  · exact uQ (Nat.le_refl 0) rfl rfl rfl rfl rfl rfl rfl (by simp [cM, mk])
  · intro ⟨(i, m, g), hi, hm, hp⟩
    dsimp only at hi hm hp
    conv => whnf
    refine ab.dec (fun h => ?_) (fun h => ?_)
    · have hi2 : i < s.length := by exact Int.ofNat_lt.1 h
      have hc := hs _ (List.getElem_mem hi2)
      have hi1 : IntKind.i64.wrap ((i : Int) + 1) = ((i + 1 : Nat) : Int) := eF ⟨by omega, by omega⟩
      have hlt : s.length - (i + 1) < s.length - i := by omega
      rw [drop_cons hi2, pgo] at hp
      have hno : ¬ (48 ≤ s[i] ∧ s[i] ≤ 57) → pgo 0 s 0 1 = if i = 0 ∧ s[i] = 45 then pgo (i + 1) (s.drop (i + 1)) m (-1) else none := fun q => by rw [← hp, if_neg q]
      have hbad : ¬ (48 ≤ s[i] ∧ s[i] ≤ 57) → ¬ (i = 0 ∧ s[i] = 45) → mkT (.tup [.si .i64 0, .si .i64 16]) = mkT (.tup [.si .i64 (ah s).1, .si .i64 (ah s).2]) := fun q1 q2 => key (by unfold ah; rw [hno q1, if_neg q2])
      conv => whnf
      refine Idx.mk i rfl hi2 ?_
      conv => whnf
      refine aO (CO hi2 (show 0 + i * 1 = i by omega)) ?_
      conv => whnf
      refine ab.dec (fun h1 => ?_) (fun h1 => ?_)
      · have h1 : 48 ≤ s[i] := by exact Int.ofNat_le.1 h1
        conv => whnf
        refine ab.dec (fun h2 => ?_) (fun h2 => ?_)
        · have h2 : s[i] ≤ 57 := by exact Int.ofNat_le.1 h2
          have hp2 : pgo (i + 1) (s.drop (i + 1)) (W64 (W64 (10 * m) + W64 (g * ((s[i] : Int) - 48)))) g = pgo 0 s 0 1 := by rw [← hp, if_pos ⟨h1, h2⟩]
          have hv : AV.si .i64 (IntKind.i64.wrap (IntKind.i64.wrap (10 * m) + IntKind.i64.wrap (g * IntKind.i64.wrap (IntKind.u8.wrap (Int.ofNat s[i] - 48))))) = .si .i64 (W64 (W64 (10 * m) + W64 (g * ((s[i] : Int) - 48)))) := by rw [Ig h1 h2]
          conv => whnf
          exact ⟨⟨(i + 1, W64 (W64 (10 * m) + W64 (g * ((s[i] : Int) - 48))), g), hi2, CD _, hp2⟩, hlt, uQ (Nat.le_refl 0) rfl hv rfl rfl rfl (congrArg (AV.si .i64) hi1) rfl (ec s)⟩
        · have h2 : ¬ s[i] ≤ 57 := fun q => h2 (by exact Int.ofNat_le.2 q)
          have q1 : ¬ (48 ≤ s[i] ∧ s[i] ≤ 57) := fun q => h2 q.2
          have q2 : ¬ (i = 0 ∧ s[i] = 45) := fun q => by omega
          have hbad := hbad q1 q2
          conv => whnf
          refine ab.dec (fun h0 => ?_) (fun h0 => ?_)
          · conv => whnf
            refine ab.dec (fun h45 => absurd (show s[i] = 45 by exact Int.ofNat_inj.1 h45) (by omega)) (fun h45 => ?_)
            conv => whnf
            exact hbad
          · conv => whnf
            exact hbad
      · have h1 : ¬ 48 ≤ s[i] := fun q => h1 (by exact Int.ofNat_le.2 q)
        have q1 : ¬ (48 ≤ s[i] ∧ s[i] ≤ 57) := fun q => h1 q.1
        conv => whnf
        refine ab.dec (fun h0 => ?_) (fun h0 => ?_)
        · have h0 : i = 0 := by exact Int.ofNat_inj.1 h0
          conv => whnf
          refine ab.dec (fun h45 => ?_) (fun h45 => ?_)
          · have h45 : s[i] = 45 := by exact Int.ofNat_inj.1 h45
            have hp2 : pgo (i + 1) (s.drop (i + 1)) m (-1) = pgo 0 s 0 1 := by rw [hno q1, if_pos ⟨h0, h45⟩]
            conv => whnf
            exact ⟨⟨(i + 1, m, -1), hi2, hm, hp2⟩, hlt, uQ (Nat.le_refl 0) rfl rfl rfl rfl rfl (congrArg (AV.si .i64) hi1) rfl (ec s)⟩
          · have hbad := hbad q1 (fun q => h45 (by exact Int.ofNat_inj.2 q.2))
            conv => whnf
            exact hbad
        · have hbad := hbad q1 (fun q => h0 (by exact Int.ofNat_inj.2 q.1))
          conv => whnf
          exact hbad
    · have hi3 : i = s.length := by have : ¬ i < s.length := fun q => h (Int.ofNat_lt.2 q); omega
      have hp2 : pgo 0 s 0 1 = some m := by rw [← hp, hi3, List.drop_length]; rfl
      conv => whnf
      refine ⟨m, rfl, hm, ?_⟩
      conv => whnf
      refine ab.nsb (fun he => ?_) (fun he => ?_)
      · have e := key (x := 0) (y := 16) (by unfold ah; rw [hp2]; dsimp only; rw [if_neg (fun q => by rw [bH.2 q] at he; cases he)])
        conv => whnf
        exact e
      · have e := key (x := m) (y := 0) (by unfold ah; rw [hp2]; dsimp only; rw [if_pos (bH.1 he)])
        conv => whnf
        exact e
def y6 (args : List AV) (H : AH) (n : Nat) (κ : PK) : Prop := match args with
  | [x] => ∃ s, mk x = .ss s ∧ (∀ c ∈ s, c < 256) ∧ s.length ≤ 1000000 ∧ κ (.tup [.si .i64 (ah s).1, .si .i64 (ah s).2]) H n
  | _ => False
theorem wE : aI 9 y6 := fun args H n κ hs φ h0' hp vs K hr hargs hk => by
  unfold y6 at hs
  split at hs
  · obtain ⟨x, rfl, e1⟩ := vs1 hargs
    obtain ⟨s, hx, h1, h2, hs⟩ := hs
    exact mI GI (v := .tup [.si .i64 (ah s).1, .si .i64 (ah s).2]) rfl (GJ s h1 h2) hs hr hk (by kernel_rfl) HR.ro0 (.cons (dG rfl (hx ▸ e1.mk)) .nil)
  · exact hs.elim
end Go.Proofs.Ytdfeigkooeeeaaa
namespace Go.Proofs.Ytdfeigkooeeeaaa
open Go Go.RowKit
def au (L : List (List Nat)) : List AV := L.map AV.ss
theorem c7 (L : List (List Nat)) : (au L).length = L.length := by simp [au]
theorem aR (L : List (List Nat)) : (au L).all flat.flat1 = true := by
  induction L with
  | nil => rfl
  | cons x L ih => exact ih
theorem aj (L : List (List Nat)) : (au L).map mk = au L := by simp [au, mk]
theorem te (L : List (List Nat)) (x : List Nat) : au L ++ [.ss x] = au (L ++ [x]) := by simp [au]
def bw (L : List (List Nat × List Nat)) : List AV := L.flatMap fun x => [.ss x.1, .ss x.2]
theorem pd (L : List (List Nat × List Nat)) : (bw L).length = L.length * 2 := by
  induction L with
  | nil => rfl
  | cons x L ih => simp only [bw, List.flatMap_cons, List.length_append, List.length_cons, List.length_nil] at ih ⊢; omega
theorem fb (L : List (List Nat × List Nat)) : (bw L).all flat.flat1 = true := by
  induction L with
  | nil => rfl
  | cons x L ih => exact ih
theorem bf (L : List (List Nat × List Nat)) : (bw L).map mk = bw L := by
  induction L with
  | nil => rfl
  | cons x L ih =>
    simp only [bw, List.flatMap_cons, List.map_append] at ih ⊢
    rw [ih]; rfl
theorem AL (L : List (List Nat × List Nat)) (x : List Nat × List Nat) : bw L ++ [.ss x.1, .ss x.2] = bw (L ++ [x]) := by simp [bw]
structure Rd where
  ws : List (List Nat)
  e : Int
  nm : Int
  ks : List (List Nat)
  ts : List Int
  vs : List Int
  ret : Int
  siz : Int
  pol : Int
  ls : List (List Nat × List Nat)
  lbd : Bool
  fr : Int
  to : Int
  kd : Int
  bk : Int
  al : Int
  q : Qry
  fs : List (List Nat)
  gr : List Nat
  rd : Int
def cmC (k t v l q f : AV) (R : Rd) : List AV := [.si .i64 R.nm, k, t, v, .si .i64 R.ret, .si .i64 R.siz, .si .i64 R.pol, l, .sb R.lbd, .si .i64 R.fr, .si .i64 R.to, .si .i64 R.kd, .si .i64 R.bk, .si .i64 R.al,
  .si .i64 R.q.f, .si .i64 R.q.t, .sb R.q.back, .si .i64 R.q.count, .si .i64 R.q.kind, .si .i64 R.q.size, .si .i64 R.q.align, .sb R.q.empty, q, .sb R.q.kC, .si .i64 R.q.low, .si .i64 R.q.high, f, .ss R.gr, .si .i64 R.rd]
def rdC (k t v l q f : Nat) (R : Rd) : List AV := .fr R.ws.length 1 (au R.ws) :: .si .i64 R.e :: cmC (.rw k 0 R.ks.length 1 0) (.rw t 0 R.ts.length 1 0) (.rw v 0 R.vs.length 1 0) (.rw l 0 R.ls.length 2 0) (.rw q 0 R.q.times.length 1 0) (.rw f 0 R.fs.length 1 0) R
def rdO (R : Rd) : List AO := [.cells (rdC 1 2 3 4 5 6 R) true, .cells (au R.ks) true, .cells (ints R.ts) true, .cells (ints R.vs) true, .cells (bw R.ls) true, .cells (ints R.q.times) true, .cells (au R.fs) true]
structure x1 (H : AH) (n r k t v l q f : Nat) (R : Rd) : Prop where
  nd : [r, k, t, v, l, q, f].Nodup
  lt : r < n ∧ k < n ∧ t < n ∧ v < n ∧ l < n ∧ q < n ∧ f < n
  hr : H.get r = some (.cells (rdC k t v l q f R) true)
  hk : H.get k = some (.cells (au R.ks) true)
  ht : H.get t = some (.cells (ints R.ts) true)
  hv : H.get v = some (.cells (ints R.vs) true)
  hl : H.get l = some (.cells (bw R.ls) true)
  hq : H.get q = some (.cells (ints R.q.times) true)
  hf : H.get f = some (.cells (au R.fs) true)
theorem y7 {r k t v l q f n : Nat} (R : Rd) : fj (aZ [r, k, t, v, l, q, f] n) (rdC 1 2 3 4 5 6 R) = rdC k t v l q f R := rfl
theorem x1.y8 {H : AH} {n r k t v l q f : Nat} {R : Rd} (h : x1 H n r k t v l q f R) : iG H n [r, k, t, v, l, q, f] (rdO R) :=
  ⟨h.nd, rfl, fun i s o h1 h2 => by
    obtain ⟨l0, l1, l2, l3, l4, l5, l6⟩ := h.lt
    match i, h1, h2 with
    | 0, h1, h2 => injection h1 with h1; injection h2 with h2; subst h1 h2; exact ⟨l0, by rw [fk, y7]; exact h.hr, .inr rfl⟩
    | 1, h1, h2 => injection h1 with h1; injection h2 with h2; subst h1 h2; exact ⟨l1, by rw [fk, cy _ _ (aR _)]; exact h.hk, .inr rfl⟩
    | 2, h1, h2 => injection h1 with h1; injection h2 with h2; subst h1 h2; exact ⟨l2, by rw [fk, cy _ _ (bq _)]; exact h.ht, .inr rfl⟩
    | 3, h1, h2 => injection h1 with h1; injection h2 with h2; subst h1 h2; exact ⟨l3, by rw [fk, cy _ _ (bq _)]; exact h.hv, .inr rfl⟩
    | 4, h1, h2 => injection h1 with h1; injection h2 with h2; subst h1 h2; exact ⟨l4, by rw [fk, cy _ _ (fb _)]; exact h.hl, .inr rfl⟩
    | 5, h1, h2 => injection h1 with h1; injection h2 with h2; subst h1 h2; exact ⟨l5, by rw [fk, cy _ _ (bq _)]; exact h.hq, .inr rfl⟩
    | 6, h1, h2 => injection h1 with h1; injection h2 with h2; subst h1 h2; exact ⟨l6, by rw [fk, cy _ _ (aR _)]; exact h.hf, .inr rfl⟩⟩
theorem cJ.y9 {H : AH} {n b : Nat} {l : List AV} {z : Bool} (hb : H.get b = some (.cells l z)) : cJ H n (H.set (some (.cells (l.map Go.Proofs.Ytdfeigkooeeeaaa.mk) z)) ag b) n := fun φ h0 h hr => hr.CC hb (by simp) fun i a' hi => by
  rw [List.getElem?_map, Option.map_eq_some_iff] at hi
  obtain ⟨a, h1, rfl⟩ := hi
  exact ⟨a, h1, fun v hv => hv.mk⟩
def RdK (v : AV) (R : Rd) : PK := fun u H' _ => u = v ∧ PM.get H' 0 = some (.cells (rdC 1 2 3 4 5 6 R) true) ∧ PM.get H' 1 = some (.cells (au R.ks) true) ∧ PM.get H' 2 = some (.cells (ints R.ts) true) ∧ PM.get H' 3 = some (.cells (ints R.vs) true) ∧ PM.get H' 4 = some (.cells (bw R.ls) true) ∧ PM.get H' 5 = some (.cells (ints R.q.times) true) ∧ PM.get H' 6 = some (.cells (au R.fs) true)
theorem PM.CT {α : Type} {v : α} {t : PM α} : (PM.set (some v) ag t 0).get 0 = some v := by cases t <;> rfl
theorem gy {u v : AV} {H' : AH} {n' : Nat} {R : Rd} {l : List AV} (hv : VTo u v) (h0 : PM.get H' 0 = some (.cells l true)) (hm : l.map mk = rdC 1 2 3 4 5 6 R) (r1 : PM.get H' 1 = some (.cells (au R.ks) true)) (r2 : PM.get H' 2 = some (.cells (ints R.ts) true)) (r3 : PM.get H' 3 = some (.cells (ints R.vs) true)) (r4 : PM.get H' 4 = some (.cells (bw R.ls) true)) (r5 : PM.get H' 5 = some (.cells (ints R.q.times) true)) (r6 : PM.get H' 6 = some (.cells (au R.fs) true)) : ∃ v2 H2 n2, VTo u v2 ∧ cJ H' n' H2 n2 ∧ RdK v R v2 H2 n2 :=
  ⟨v, _, n', hv, cJ.y9 h0, rfl, by rw [hm]; exact PM.CT, PM.aA _ _ _ _ (by decide) (by decide) r1, PM.aA _ _ _ _ (by decide) (by decide) r2, PM.aA _ _ _ _ (by decide) (by decide) r3, PM.aA _ _ _ _ (by decide) (by decide) r4, PM.aA _ _ _ _ (by decide) (by decide) r5, PM.aA _ _ _ _ (by decide) (by decide) r6⟩
noncomputable def x2 (H : AH) (r k t v l q f : Nat) (R' : Rd) : AH := PM.set (some (.cells (rdC k t v l q f R') true)) ag (PM.set (some (.cells (au R'.ks) true)) ag (PM.set (some (.cells (ints R'.ts) true)) ag (PM.set (some (.cells (ints R'.vs) true)) ag (PM.set (some (.cells (bw R'.ls) true)) ag (PM.set (some (.cells (ints R'.q.times) true)) ag (PM.set (some (.cells (au R'.fs) true)) ag H f) q) l) v) t) k) r
def bZ (ok : Rd → Prop) (A : List AV → Prop) (F : Rd → AV × Rd) (args : List AV) (H : AH) (n : Nat) (κ : PK) : Prop := match args with
  | x :: ar => ∃ (r k t v l q f : Nat) (R : Rd), x = .ptr r 0 ∧ A ar ∧ x1 H n r k t v l q f R ∧ ok R ∧ κ (F R).1 (x2 H r k t v l q f (F R).2) n
  | _ => False
theorem dM {f : FuncId} {run : List AV → AH → Nat → PK → Prop} (hrun : aI f run) (hic : eD Try.prog f = true) {ok : Rd → Prop} {A : List AV → Prop} {ar0 : List AV} {F : Rd → AV × Rd} (hA : ∀ ar, A ar → ∀ (φ : Ph) (vs : List Value), VRs φ ar vs → VRs φ ar0 vs) (has : ∀ r, fj r ar0 = ar0)
    (hv : ∀ R, ltV 7 (F R).1 = true ∧ ∀ r, ren r (F R).1 = (F R).1) (h : ∀ R, ok R → post run (.ptr 0 0 :: ar0) (mkH (dr (rdO R) 0)) 7 (RdK (F R).1 (F R).2)) : aI f (bZ ok A F) := fun args H n κ hs φ h0' hp vs K hr hargs hk => by
  unfold bZ at hs
  split at hs
  · rename_i x ar
    obtain ⟨r, k, t, v, l, q, f, R, rfl, ha, hR, hok, hs⟩ := hs
    obtain ⟨v1, us, e1, e2, e3⟩ := hargs.cons_inv
    have hargs' : VRs φ (fj (aZ [r, k, t, v, l, q, f] n) (.ptr 0 0 :: ar0)) vs.toList := by
      show VRs φ (ren _ _ :: fj _ ar0) vs.toList
      rw [has, e1]
      exact .cons e2 (hA ar ha φ us e3)
    refine ri (S := [r, k, t, v, l, q, f]) (O := rdO R) (args0 := .ptr 0 0 :: ar0) (aI.post hrun) hic hr hR.y8 hargs' hk (h R hok) fun u H' n' ⟨g0, g1, g2, g3, g4, g5, g6, g7⟩ => ?_
    subst g0
    refine ⟨7, lV [r, k, t, v, l, q, f] n H [(0, some (.cells (rdC 1 2 3 4 5 6 (F R).2) true)), (1, some (.cells (au (F R).2.ks) true)), (2, some (.cells (ints (F R).2.ts) true)), (3, some (.cells (ints (F R).2.vs) true)), (4, some (.cells (bw (F R).2.ls) true)), (5, some (.cells (ints (F R).2.q.times) true)), (6, some (.cells (au (F R).2.fs) true))], Nat.le_refl _, k8.put (Nat.le_refl _) rfl (fun x hx o ho => ?_), (hv R).1, ?_⟩
    · simp only [List.mem_cons, List.not_mem_nil, or_false] at hx
      rcases hx with rfl | rfl | rfl | rfl | rfl | rfl | rfl
      · injection ho with ho; subst ho; exact ⟨g1, rfl, rfl⟩
      · injection ho with ho; subst ho; exact ⟨g2, rfl, c6 _ _ (aR _)⟩
      · injection ho with ho; subst ho; exact ⟨g3, rfl, c6 _ _ (bq _)⟩
      · injection ho with ho; subst ho; exact ⟨g4, rfl, c6 _ _ (bq _)⟩
      · injection ho with ho; subst ho; exact ⟨g5, rfl, c6 _ _ (fb _)⟩
      · injection ho with ho; subst ho; exact ⟨g6, rfl, c6 _ _ (bq _)⟩
      · injection ho with ho; subst ho; exact ⟨g7, rfl, c6 _ _ (aR _)⟩
    · rw [(hv R).2]
      have e : lV [r, k, t, v, l, q, f] n H [(0, some (.cells (rdC 1 2 3 4 5 6 (F R).2) true)), (1, some (.cells (au (F R).2.ks) true)), (2, some (.cells (ints (F R).2.ts) true)), (3, some (.cells (ints (F R).2.vs) true)), (4, some (.cells (bw (F R).2.ls) true)), (5, some (.cells (ints (F R).2.q.times) true)), (6, some (.cells (au (F R).2.fs) true))] = x2 H r k t v l q f (F R).2 := by
        simp only [lV, Option.map_some, fk, y7, cy _ _ (aR _), cy _ _ (bq _), cy _ _ (fb _)]
        rfl
      rw [e]; exact hs
  · exact hs.elim
end Go.Proofs.Ytdfeigkooeeeaaa
namespace Go.Proofs.Ytdfeigkooeeeaaa
open Go Go.RowKit
def loC (c : Nat) : Nat := if 65 ≤ c ∧ c ≤ 90 then c + 32 else c
def loF (s : List Nat) : List Nat := s.map loC
def iN (s : List Nat) (i : Nat) : List Nat := (s.take i).map loC ++ s.drop i
theorem lj (s : List Nat) (i : Nat) : (iN s i).length = s.length := by simp [iN]; omega
theorem za {s : List Nat} {i : Nat} (h : i < s.length) : (iN s i)[i]? = some s[i] := by
  unfold iN
  rw [List.getElem?_append_right (by simp; omega), List.getElem?_drop]
  simp [Nat.min_eq_left (Nat.le_of_lt h), h]
theorem tf {s : List Nat} {i : Nat} (h : i < s.length) : iN s (i + 1) = (iN s i).set i (loC s[i]) := by
  unfold iN
  rw [List.take_succ_eq_append_getElem h, List.map_append, List.set_append, if_neg (by simp; omega)]
  have hd := List.drop_eq_getElem_cons h
  have hz : i - (List.map loC (List.take i s)).length = 0 := by simp; omega
  rw [hz, hd, List.append_assoc]; rfl
theorem AM {s : List Nat} {i : Nat} (h : i < s.length) (e : loC s[i] = s[i]) : iN s (i + 1) = iN s i := by
  rw [tf h, e]
  apply List.ext_getElem?
  intro j
  by_cases hj : j = i
  · subst hj; rw [za h]; simp [lj, h]
  · rw [List.getElem?_set_ne (Ne.symm hj)]
theorem CU (s : List Nat) : iN s s.length = loF s := by simp [iN, loF]
theorem GK {s : List Nat} (h : ∀ c ∈ s, c < 256) : ∀ c ∈ loF s, c < 256 := fun c hc => by
  obtain ⟨a, ha, rfl⟩ := List.mem_map.1 hc
  have := h a ha
  unfold loC
  split <;> omega
noncomputable def lob (s : List Nat) (i : Nat) : AE × AH := (mkE [(3, .sy 0 0 s.length s.length 1), (8, .sy 0 0 s.length s.length 1), (9, .si .i64 (((s.length : Nat) : Int))), (10, .si .i64 (((i : Nat) : Int)))], mkH [(0, .cells (cM (iN s i)) false)])
theorem pK {s : List Nat} {i : Nat} {p n : Nat} {σ : AE} {H : AH} {l0 : List AV} (hp : p ≤ 0) (e3 : mk (aL (pa 3) σ) = .sy 0 0 s.length s.length 1) (e8 : mk (aL (pa 8) σ) = .sy 0 0 s.length s.length 1) (e9 : mk (aL (pa 9) σ) = .si .i64 (((s.length : Nat) : Int))) (e10 : mk (aL (pa 10) σ) = .si .i64 (((i : Nat) : Int))) (h0 : H.get 0 = some (.cells l0 false)) (g0 : l0.map mk = cM (iN s i)) : Cov p σ H n ((lob s i).1, (lob s i).2, 1) := by
  refine Cov.ofR (fun b => b) (by omega) (fun b hb => rfl) ?_ ?_ ?_
  · intro x hx
    simp only [List.mem_cons, List.not_mem_nil, or_false] at hx
    rcases hx with rfl | rfl | rfl | rfl
    · exact .sy (by decide) e3
    · exact .sy (by decide) e8
    · exact .int e9
    · exact .int e10
  · intro x hx
    simp only [List.mem_cons, List.not_mem_nil, or_false] at hx
    subst hx
    exact ⟨by simp, .inl ⟨_, h0, cU.cn (jB _) (by rw [g0, ec]) (fun q => q)⟩⟩
  · intro x hx y hy
    simp only [List.mem_cons, List.not_mem_nil, or_false] at hx hy
    subst hx hy
    exact fun q => rfl
noncomputable def KLo : FuncId → EP := dg 78 [] evP
theorem GL : cm KLo := aX ba (by kernel_rfl) (by kernel_rfl)
theorem GM (s : List Nat) (hs : ∀ c ∈ s, c < 256) (hl : s.length ≤ 1000000) : aw KLo 3 78 [.ss s] .nil 0 fun u _ _ => mkT u = mkT (.ss (loF s)) := by
  conv => whnf
  refine Ask.mk (.sl 0 0 s.length s.length 1, _, 1) rfl ?_
  conv => whnf
  refine cW.mk { i : Nat // i ≤ s.length } 1 (fun i => lob s i.val) (fun i => s.length - i.val) ⟨0, Nat.zero_le _⟩ ?_ ?_
  · exact pK (Nat.le_refl 0) rfl rfl rfl rfl rfl (by simp [iN, cM, mk])
  · intro ⟨i, hi⟩
    have hsub : br (cM (iN s i)) 0 (s.length * 1) = some (cM (iN s i)) := cS (by rw [cO, lj, Nat.mul_one])
    conv => whnf
    refine ab.dec (fun h => ?_) (fun h => ?_)
    · have hi2 : i < s.length := by exact Int.ofNat_lt.1 h
      have hc := hs _ (List.getElem_mem hi2)
      have hi1 : IntKind.i64.wrap ((i : Int) + 1) = ((i + 1 : Nat) : Int) := eF ⟨by omega, by omega⟩
      have hnth : nth (cM (iN s i)) (0 + i * 1) = some (.si .u8 (Int.ofNat s[i])) := by
        rw [fA, Nat.zero_add, Nat.mul_one]
        simp only [cM, List.getElem?_map, za hi2]; rfl
      have hset : 65 ≤ s[i] → s[i] ≤ 90 → gZ (cM (iN s i)) (0 + i * 1) [.si .u8 (IntKind.u8.wrap (Int.ofNat s[i] + 32))] = some (cM (iN s (i + 1))) := fun h1 h2 => by
        rw [Nat.zero_add, Nat.mul_one, rj _ _ _ (by rw [cO, lj]; exact hi2)]
        have e : IntKind.u8.wrap (Int.ofNat s[i] + 32) = Int.ofNat (loC s[i]) := by
          unfold loC; rw [if_pos ⟨h1, h2⟩]
          simp [IntKind.wrap, IntKind.bits, IntKind.signed]
          omega
        rw [e, wy, ← tf hi2]
      have hsame : ¬ (65 ≤ s[i] ∧ s[i] ≤ 90) → (cM (iN s i)).map mk = cM (iN s (i + 1)) := fun q => by
        rw [AM hi2 (by unfold loC; rw [if_neg q]), ec]
      conv => whnf
      refine Idx.mk i rfl hi2 ?_
      conv => whnf
      refine aO hnth ?_
      conv => whnf
      refine ab.dec (fun h1 => ?_) (fun h1 => ?_)
      · have h1 : 65 ≤ s[i] := by exact Int.ofNat_le.1 h1
        conv => whnf
        refine ab.dec (fun h2 => ?_) (fun h2 => ?_)
        · have h2 : s[i] ≤ 90 := by exact Int.ofNat_le.1 h2
          conv => whnf
          refine Idx.mk i rfl hi2 ?_
          conv => whnf
          refine aO (hset h1 h2) ?_
          conv => whnf
          exact ⟨⟨i + 1, hi2⟩, (show s.length - (i + 1) < s.length - i by omega), pK (Nat.le_refl 0) rfl rfl rfl (congrArg (AV.si .i64) hi1) rfl (ec _)⟩
        · have h2 : ¬ s[i] ≤ 90 := fun q => h2 (by exact Int.ofNat_le.2 q)
          conv => whnf
          exact ⟨⟨i + 1, hi2⟩, (show s.length - (i + 1) < s.length - i by omega), pK (Nat.le_refl 0) rfl rfl rfl (congrArg (AV.si .i64) hi1) rfl (hsame fun q => h2 q.2)⟩
      · have h1 : ¬ 65 ≤ s[i] := fun q => h1 (by exact Int.ofNat_le.2 q)
        conv => whnf
        exact ⟨⟨i + 1, hi2⟩, (show s.length - (i + 1) < s.length - i by omega), pK (Nat.le_refl 0) rfl rfl rfl (congrArg (AV.si .i64) hi1) rfl (hsame fun q => h1 q.1)⟩
    · have hi3 : i = s.length := by have : ¬ i < s.length := fun q => h (Int.ofNat_lt.2 q); omega
      have hconv : (br (cM (iN s i)) 0 s.length).bind fY = some (loF s) := by
        rw [hi3, CU, cS (by rw [cO]; simp [loF])]
        exact ld (GK hs)
      conv => whnf
      refine Ask.mk (.str (loF s), _, _) (congrArg (Option.map fun s => (AV.str s, _, _)) hconv) ?_
      conv => whnf
      rfl
def CV (args : List AV) (H : AH) (n : Nat) (κ : PK) : Prop := match args with
  | [x] => ∃ s, mk x = .ss s ∧ (∀ c ∈ s, c < 256) ∧ s.length ≤ 1000000 ∧ κ (.ss (loF s)) H n
  | _ => False
theorem EM : aI 78 CV := fun args H n κ hs φ h0' hp vs K hr hargs hk => by
  unfold CV at hs
  split at hs
  · obtain ⟨x, rfl, e1⟩ := vs1 hargs
    obtain ⟨s, hx, h1, h2, hs⟩ := hs
    exact mI GL (v := .ss (loF s)) rfl (GM s h1 h2) hs hr hk (by kernel_rfl) HR.ro0 (.cons (dG rfl (hx ▸ e1.mk)) .nil)
  · exact hs.elim
noncomputable def alk (s : List Nat) (m : List Nat) (i : Nat) : AE × AH := (mkE [(0, .ss (s)), (1, .ss (m)), (13, .si .i64 (((s.length : Nat) : Int))), (14, .si .i64 (((i : Nat) : Int)))], mkH [])
theorem pL {s : List Nat} {m : List Nat} {i : Nat} {p n : Nat} {σ : AE} {H : AH} (hp : p ≤ 0) (e0 : mk (aL (pa 0) σ) = .ss (s)) (e1 : mk (aL (pa 1) σ) = .ss (m)) (e13 : mk (aL (pa 13) σ) = .si .i64 (((s.length : Nat) : Int))) (e14 : mk (aL (pa 14) σ) = .si .i64 (((i : Nat) : Int))) : Cov p σ H n ((alk s m i).1, (alk s m i).2, 0) := by
  refine Cov.ofR (fun b => b) (by omega) (fun b hb => rfl) ?_ ?_ ?_
  · intro x hx
    simp only [List.mem_cons, List.not_mem_nil, or_false] at hx
    rcases hx with rfl | rfl | rfl | rfl
    · exact .str e0
    · exact .str e1
    · exact .int e13
    · exact .int e14
  · intro x hx
    cases hx
  · intro x hx y hy
    cases hx
noncomputable def KAk : FuncId → EP := dg 76 [] evP
theorem GN : cm KAk := aX ba (by kernel_rfl) (by kernel_rfl)
theorem uR {s : List Nat} {i : Nat} (h : i < s.length) : nth s i = some s[i] := by rw [fA, List.getElem?_eq_getElem h]
theorem EN (s m : List Nat) (hs : ∀ c ∈ s, c < 256) (hl : s.length ≤ 1000000) : aw KAk 3 76 [.ss s, .ss m] .nil 0 fun u _ _ => mkT u = mkT (.sb (bg m (upF s))) := by
  have no : m ≠ upF s → mkT (AV.sb false) = mkT (.sb (bg m (upF s))) := fun h => by
    cases q : bg m (upF s) with
    | false => rfl
    | true => exact absurd (bH.1 q) h
  conv => whnf
  refine ab.gQ (fun hne => ?_) (fun heq => ?_)
  · have e := no (fun q => hne (by rw [q]; simp [upF]))
    conv => whnf
    exact e
  · have hlen : s.length = m.length := by exact Int.ofNat_inj.1 heq
    conv => whnf
    refine cW.mk { i : Nat // i ≤ s.length ∧ (upF s).take i = m.take i } 0 (fun i => alk s m i.val) (fun i => s.length - i.val) ⟨0, Nat.zero_le _, rfl⟩ ?_ ?_
    · exact pL (i := 0) (Nat.le_refl 0) rfl rfl rfl rfl
    · intro ⟨i, hi, ht⟩
      conv => whnf
      refine ab.dec (fun h => ?_) (fun h => ?_)
      · have hi2 : i < s.length := by exact Int.ofNat_lt.1 h
        have hi3 : i < m.length := hlen ▸ hi2
        have hc := hs _ (List.getElem_mem hi2)
        have hi1 : IntKind.i64.wrap ((i : Int) + 1) = ((i + 1 : Nat) : Int) := eF ⟨by omega, by omega⟩
        have hlt : s.length - (i + 1) < s.length - i := by omega
        have hui : i < (upF s).length := by simp [upF]; exact hi2
        have hu : (upF s)[i] = upC s[i] := by simp [upF]
        have hsn : upC s[i] = m[i] → (upF s).take (i + 1) = m.take (i + 1) := fun q => by
          rw [List.take_succ_eq_append_getElem hui, List.take_succ_eq_append_getElem hi3, ht, hu, q]
        have hbad : upC s[i] ≠ m[i] → mkT (AV.sb false) = mkT (.sb (bg m (upF s))) := fun q => no (fun e => q (by simp only [e, hu]))
        have hup : 97 ≤ s[i] → s[i] ≤ 122 → IntKind.u8.wrap (Int.ofNat s[i] - 32) = Int.ofNat (upC s[i]) := fun h1 h2 => by
          unfold upC; rw [if_pos ⟨h1, h2⟩]
          simp [IntKind.wrap, IntKind.bits, IntKind.signed]
          omega
        have hno : ¬ (97 ≤ s[i] ∧ s[i] ≤ 122) → upC s[i] = s[i] := fun q => by unfold upC; rw [if_neg q]
        conv => whnf
        refine Idx.mk i rfl hi2 ?_
        conv => whnf
        refine Ask.mk s[i] (uR hi2) ?_
        conv => whnf
        refine ab.dec (fun h1 => ?_) (fun h1 => ?_)
        · have h1 : 97 ≤ s[i] := by exact Int.ofNat_le.1 h1
          conv => whnf
          refine ab.dec (fun h2 => ?_) (fun h2 => ?_)
          · have h2 : s[i] ≤ 122 := by exact Int.ofNat_le.1 h2
            have hup := hup h1 h2
            conv => whnf
            refine Idx.mk i rfl hi3 ?_
            conv => whnf
            refine Ask.mk m[i] (uR hi3) ?_
            conv => whnf
            refine ab.gQ (fun q => ?_) (fun q => ?_)
            · have e := hbad (fun k => q (by rw [hup, k]))
              conv => whnf
              exact e
            · have e := hsn (Int.ofNat_inj.1 (hup.symm.trans q))
              conv => whnf
              exact ⟨⟨i + 1, hi2, e⟩, hlt, pL (Nat.le_refl 0) rfl rfl rfl (congrArg (AV.si .i64) hi1)⟩
          · have h2 : ¬ s[i] ≤ 122 := fun q => h2 (by exact Int.ofNat_le.2 q)
            have hno := hno (fun q => h2 q.2)
            conv => whnf
            refine Idx.mk i rfl hi3 ?_
            conv => whnf
            refine Ask.mk m[i] (uR hi3) ?_
            conv => whnf
            refine ab.gQ (fun q => ?_) (fun q => ?_)
            · have e := hbad (fun k => q (by rw [← hno, k]))
              conv => whnf
              exact e
            · have e := hsn (by rw [hno]; exact Int.ofNat_inj.1 q)
              conv => whnf
              exact ⟨⟨i + 1, hi2, e⟩, hlt, pL (Nat.le_refl 0) rfl rfl rfl (congrArg (AV.si .i64) hi1)⟩
        · have h1 : ¬ 97 ≤ s[i] := fun q => h1 (by exact Int.ofNat_le.2 q)
          have hno := hno (fun q => h1 q.1)
          conv => whnf
          refine Idx.mk i rfl hi3 ?_
          conv => whnf
          refine Ask.mk m[i] (uR hi3) ?_
          conv => whnf
          refine ab.gQ (fun q => ?_) (fun q => ?_)
          · have e := hbad (fun k => q (by rw [← hno, k]))
            conv => whnf
            exact e
          · have e := hsn (by rw [hno]; exact Int.ofNat_inj.1 q)
            conv => whnf
            exact ⟨⟨i + 1, hi2, e⟩, hlt, pL (Nat.le_refl 0) rfl rfl rfl (congrArg (AV.si .i64) hi1)⟩
      · have hi3 : i = s.length := by have : ¬ i < s.length := fun q => h (Int.ofNat_lt.2 q); omega
        have e : mkT (AV.sb true) = mkT (.sb (bg m (upF s))) := by
          have : m = upF s := by
            rw [hi3, hlen, List.take_length, List.take_of_length_le (by simp [upF]; omega)] at ht
            exact ht.symm
          rw [bH.2 this]
        conv => whnf
        exact e
def CW (args : List AV) (H : AH) (n : Nat) (κ : PK) : Prop := match args with
  | [x, y] => ∃ s m, mk x = .ss s ∧ mk y = .ss m ∧ (∀ c ∈ s, c < 256) ∧ s.length ≤ 1000000 ∧ κ (.sb (bg m (upF s))) H n
  | _ => False
theorem EO : aI 76 CW := fun args H n κ hs φ h0' hp vs K hr hargs hk => by
  unfold CW at hs
  split at hs
  · obtain ⟨x, y, rfl, e1, e2⟩ := vs2 hargs
    obtain ⟨s, m, hx, hy, h1, h2, hs⟩ := hs
    exact mI GN (v := .sb (bg m (upF s))) rfl (EN s m h1 h2) hs hr hk (by kernel_rfl) HR.ro0 (.cons (dG rfl (hx ▸ e1.mk)) (.cons (dG rfl (hy ▸ e2.mk)) .nil))
  · exact hs.elim
def kD : List (Nat × List Nat) := [(1, [66, 76, 79, 67, 75]), (2, [70, 73, 82, 83, 84]), (3, [76, 65, 83, 84]), (4, [77, 73, 78]), (5, [77, 65, 88]), (6, [83, 85, 77])]
def jC : List (Nat × List Nat) := [(1, [115, 117, 109]), (2, [109, 105, 110]), (3, [109, 97, 120]), (4, [99, 111, 117, 110, 116]), (5, [102, 105, 114, 115, 116]), (6, [108, 97, 115, 116]), (7, [114, 97, 110, 103, 101])]
noncomputable def bS (s : List Nat) : Int × Int := if whF kD (upF s) = 0 then (0, 17) else ((whF kD (upF s) : Nat), 0)
noncomputable def aN (s : List Nat) : Int × Int := if whF jC (loF s) = 0 then (0, 17) else ((whF jC (loF s) : Nat), 0)
noncomputable def KPp : FuncId → EP := aG 76 CW evP
theorem GO : cm KPp := an ba EO
theorem CX (s : List Nat) (hs : ∀ c ∈ s, c < 256) (hl : s.length ≤ 1000000) : aw KPp 4 65 [.ss s] .nil 0 fun u _ _ => mkT u = mkT (.tup [.si .i64 (bS s).1, .si .i64 (bS s).2]) := by
  have key : ∀ {x y : Int}, bS s = (x, y) → mkT (.tup [.si .i64 x, .si .i64 y]) = mkT (.tup [.si .i64 (bS s).1, .si .i64 (bS s).2]) := fun e => by rw [e]
  conv => whnf
  refine cW.roll 8 ?_
  conv => whnf
  refine ⟨s, [66, 76, 79, 67, 75], rfl, rfl, hs, hl, ?_⟩
  conv => whnf
  refine ab.sb (fun q1 => ?_) (fun q1 => ?_)
  · have q1 : bg [66, 76, 79, 67, 75] (upF s) = true := q1
    have w : whF kD (upF s) = 1 := by simp only [kD, whF, q1]
    have e := key (x := 1) (y := 0) (by unfold bS; rw [w]; rfl)
    conv => whnf
    exact e
  have q1 : bg [66, 76, 79, 67, 75] (upF s) = false := q1
  conv => whnf
  refine ⟨s, [70, 73, 82, 83, 84], rfl, rfl, hs, hl, ?_⟩
  conv => whnf
  refine ab.sb (fun q2 => ?_) (fun q2 => ?_)
  · have q2 : bg [70, 73, 82, 83, 84] (upF s) = true := q2
    have w : whF kD (upF s) = 2 := by simp only [kD, whF, q1, q2]
    have e := key (x := 2) (y := 0) (by unfold bS; rw [w]; rfl)
    conv => whnf
    exact e
  have q2 : bg [70, 73, 82, 83, 84] (upF s) = false := q2
  conv => whnf
  refine ⟨s, [76, 65, 83, 84], rfl, rfl, hs, hl, ?_⟩
  conv => whnf
  refine ab.sb (fun q3 => ?_) (fun q3 => ?_)
  · have q3 : bg [76, 65, 83, 84] (upF s) = true := q3
    have w : whF kD (upF s) = 3 := by simp only [kD, whF, q1, q2, q3]
    have e := key (x := 3) (y := 0) (by unfold bS; rw [w]; rfl)
    conv => whnf
    exact e
  have q3 : bg [76, 65, 83, 84] (upF s) = false := q3
  conv => whnf
  refine ⟨s, [77, 73, 78], rfl, rfl, hs, hl, ?_⟩
  conv => whnf
  refine ab.sb (fun q4 => ?_) (fun q4 => ?_)
  · have q4 : bg [77, 73, 78] (upF s) = true := q4
    have w : whF kD (upF s) = 4 := by simp only [kD, whF, q1, q2, q3, q4]
    have e := key (x := 4) (y := 0) (by unfold bS; rw [w]; rfl)
    conv => whnf
    exact e
  have q4 : bg [77, 73, 78] (upF s) = false := q4
  conv => whnf
  refine ⟨s, [77, 65, 88], rfl, rfl, hs, hl, ?_⟩
  conv => whnf
  refine ab.sb (fun q5 => ?_) (fun q5 => ?_)
  · have q5 : bg [77, 65, 88] (upF s) = true := q5
    have w : whF kD (upF s) = 5 := by simp only [kD, whF, q1, q2, q3, q4, q5]
    have e := key (x := 5) (y := 0) (by unfold bS; rw [w]; rfl)
    conv => whnf
    exact e
  have q5 : bg [77, 65, 88] (upF s) = false := q5
  conv => whnf
  refine ⟨s, [83, 85, 77], rfl, rfl, hs, hl, ?_⟩
  conv => whnf
  refine ab.sb (fun q6 => ?_) (fun q6 => ?_)
  · have q6 : bg [83, 85, 77] (upF s) = true := q6
    have w : whF kD (upF s) = 6 := by simp only [kD, whF, q1, q2, q3, q4, q5, q6]
    have e := key (x := 6) (y := 0) (by unfold bS; rw [w]; rfl)
    conv => whnf
    exact e
  have q6 : bg [83, 85, 77] (upF s) = false := q6
  have w : whF kD (upF s) = 0 := by simp only [kD, whF, q1, q2, q3, q4, q5, q6]
  have e := key (x := 0) (y := 17) (by unfold bS; rw [w]; rfl)
  conv => whnf
  exact e
def CY (args : List AV) (H : AH) (n : Nat) (κ : PK) : Prop := match args with
  | [x] => ∃ s, mk x = .ss s ∧ (∀ c ∈ s, c < 256) ∧ s.length ≤ 1000000 ∧ κ (.tup [.si .i64 (bS s).1, .si .i64 (bS s).2]) H n
  | _ => False
theorem GP : aI 65 CY := fun args H n κ hs φ h0' hp vs K hr hargs hk => by
  unfold CY at hs
  split at hs
  · obtain ⟨x, rfl, e1⟩ := vs1 hargs
    obtain ⟨s, hx, h1, h2, hs⟩ := hs
    exact mI GO (v := .tup [.si .i64 (bS s).1, .si .i64 (bS s).2]) rfl (CX s h1 h2) hs hr hk (by kernel_rfl) HR.ro0 (.cons (dG rfl (hx ▸ e1.mk)) .nil)
  · exact hs.elim
noncomputable def KAp : FuncId → EP := aG 78 CV evP
theorem GQ : cm KAp := an ba EM
theorem CZ (s : List Nat) (hs : ∀ c ∈ s, c < 256) (hl : s.length ≤ 1000000) : aw KAp 4 72 [.ss s] .nil 0 fun u _ _ => mkT u = mkT (.tup [.si .i64 (aN s).1, .si .i64 (aN s).2]) := by
  have key : ∀ {x y : Int}, aN s = (x, y) → mkT (.tup [.si .i64 x, .si .i64 y]) = mkT (.tup [.si .i64 (aN s).1, .si .i64 (aN s).2]) := fun e => by rw [e]
  conv => whnf
  refine cW.roll 9 ?_
  conv => whnf
  refine ⟨s, rfl, hs, hl, ?_⟩
  conv => whnf
  refine ab.sb (fun q1 => ?_) (fun q1 => ?_)
  · have q1 : bg [115, 117, 109] (loF s) = true := q1
    have w : whF jC (loF s) = 1 := by simp only [jC, whF, q1]
    have e := key (x := 1) (y := 0) (by unfold aN; rw [w]; rfl)
    conv => whnf
    exact e
  have q1 : bg [115, 117, 109] (loF s) = false := q1
  conv => whnf
  refine ⟨s, rfl, hs, hl, ?_⟩
  conv => whnf
  refine ab.sb (fun q2 => ?_) (fun q2 => ?_)
  · have q2 : bg [109, 105, 110] (loF s) = true := q2
    have w : whF jC (loF s) = 2 := by simp only [jC, whF, q1, q2]
    have e := key (x := 2) (y := 0) (by unfold aN; rw [w]; rfl)
    conv => whnf
    exact e
  have q2 : bg [109, 105, 110] (loF s) = false := q2
  conv => whnf
  refine ⟨s, rfl, hs, hl, ?_⟩
  conv => whnf
  refine ab.sb (fun q3 => ?_) (fun q3 => ?_)
  · have q3 : bg [109, 97, 120] (loF s) = true := q3
    have w : whF jC (loF s) = 3 := by simp only [jC, whF, q1, q2, q3]
    have e := key (x := 3) (y := 0) (by unfold aN; rw [w]; rfl)
    conv => whnf
    exact e
  have q3 : bg [109, 97, 120] (loF s) = false := q3
  conv => whnf
  refine ⟨s, rfl, hs, hl, ?_⟩
  conv => whnf
  refine ab.sb (fun q4 => ?_) (fun q4 => ?_)
  · have q4 : bg [99, 111, 117, 110, 116] (loF s) = true := q4
    have w : whF jC (loF s) = 4 := by simp only [jC, whF, q1, q2, q3, q4]
    have e := key (x := 4) (y := 0) (by unfold aN; rw [w]; rfl)
    conv => whnf
    exact e
  have q4 : bg [99, 111, 117, 110, 116] (loF s) = false := q4
  conv => whnf
  refine ⟨s, rfl, hs, hl, ?_⟩
  conv => whnf
  refine ab.sb (fun q5 => ?_) (fun q5 => ?_)
  · have q5 : bg [102, 105, 114, 115, 116] (loF s) = true := q5
    have w : whF jC (loF s) = 5 := by simp only [jC, whF, q1, q2, q3, q4, q5]
    have e := key (x := 5) (y := 0) (by unfold aN; rw [w]; rfl)
    conv => whnf
    exact e
  have q5 : bg [102, 105, 114, 115, 116] (loF s) = false := q5
  conv => whnf
  refine ⟨s, rfl, hs, hl, ?_⟩
  conv => whnf
  refine ab.sb (fun q6 => ?_) (fun q6 => ?_)
  · have q6 : bg [108, 97, 115, 116] (loF s) = true := q6
    have w : whF jC (loF s) = 6 := by simp only [jC, whF, q1, q2, q3, q4, q5, q6]
    have e := key (x := 6) (y := 0) (by unfold aN; rw [w]; rfl)
    conv => whnf
    exact e
  have q6 : bg [108, 97, 115, 116] (loF s) = false := q6
  conv => whnf
  refine ⟨s, rfl, hs, hl, ?_⟩
  conv => whnf
  refine ab.sb (fun q7 => ?_) (fun q7 => ?_)
  · have q7 : bg [114, 97, 110, 103, 101] (loF s) = true := q7
    have w : whF jC (loF s) = 7 := by simp only [jC, whF, q1, q2, q3, q4, q5, q6, q7]
    have e := key (x := 7) (y := 0) (by unfold aN; rw [w]; rfl)
    conv => whnf
    exact e
  have q7 : bg [114, 97, 110, 103, 101] (loF s) = false := q7
  have w : whF jC (loF s) = 0 := by simp only [jC, whF, q1, q2, q3, q4, q5, q6, q7]
  have e := key (x := 0) (y := 17) (by unfold aN; rw [w]; rfl)
  conv => whnf
  exact e
def C0 (args : List AV) (H : AH) (n : Nat) (κ : PK) : Prop := match args with
  | [x] => ∃ s, mk x = .ss s ∧ (∀ c ∈ s, c < 256) ∧ s.length ≤ 1000000 ∧ κ (.tup [.si .i64 (aN s).1, .si .i64 (aN s).2]) H n
  | _ => False
theorem GR : aI 72 C0 := fun args H n κ hs φ h0' hp vs K hr hargs hk => by
  unfold C0 at hs
  split at hs
  · obtain ⟨x, rfl, e1⟩ := vs1 hargs
    obtain ⟨s, hx, h1, h2, hs⟩ := hs
    exact mI GQ (v := .tup [.si .i64 (aN s).1, .si .i64 (aN s).2]) rfl (CZ s h1 h2) hs hr hk (by kernel_rfl) HR.ro0 (.cons (dG rfl (hx ▸ e1.mk)) .nil)
  · exact hs.elim
end Go.Proofs.Ytdfeigkooeeeaaa
namespace Go.Proofs.Ytdfeigkooeeeaaa
open Go Go.RowKit
theorem VTo.mkv {u v : AV} (h : mk u = v) : VTo u v := fun φ w hu => by rw [← h]; exact hu.mk
def ao (R : Rd) : Bool := decide (R.e = 0) && decide (0 < R.ws.length)
def cg (R : Rd) (e : Int) : Rd := if R.e = 0 then { R with e := e } else R
def aa (R : Rd) : List Nat × Rd := if ao R = true then (R.ws.headD [], { R with ws := R.ws.tail }) else ([], cg R 14)
def lk (R : Rd) : AV × Rd := (.ss (aa R).1, (aa R).2)
noncomputable def atR (w : List Nat) (R : Rd) : Bool := ao R && bg (upF (R.ws.headD [])) w
noncomputable def jo (w : List Nat) (R : Rd) : AV × Rd := if atR w R = true then (.sb true, (aa R).2) else (.sb false, R)
noncomputable def bj (w : List Nat) (R : Rd) : AV × Rd := (.tup [], if bg (upF (aa R).1) w = true then (aa R).2 else cg (aa R).2 17)
def ae (g : List Nat → Int × Int) (R : Rd) : Int × Rd := ((g (aa R).1).1, if (g (aa R).1).2 = 0 then (aa R).2 else cg (aa R).2 (g (aa R).1).2)
def aQ (g : List Nat → Int × Int) (R : Rd) : AV × Rd := (.si .i64 (ae g R).1, (ae g R).2)
def hY (R : Rd) : Int × Rd := ((ae ah R).1, if (ae ah R).1 < 0 then cg (ae ah R).2 16 else (ae ah R).2)
def oE (R : Rd) : AV × Rd := (.si .i64 (hY R).1, (hY R).2)
noncomputable def orR (w : List Nat) (z : Int) (R : Rd) : Int × Rd := if (ao R && bg (R.ws.headD []) w) = true then (z, (aa R).2) else ae ah R
noncomputable def orV (w : List Nat) (z : Int) (R : Rd) : AV × Rd := (.si .i64 (orR w z R).1, (orR w z R).2)
def WOk (R : Rd) : Prop := ∀ w ∈ R.ws, (∀ c ∈ w, c < 256) ∧ w.length ≤ 1000000
theorem nD (R : Rd) (e : Int) : (cg R e).ws = R.ws := by unfold cg; split <;> rfl
theorem WOk.fail {R : Rd} (h : WOk R) (e : Int) : WOk (cg R e) := by unfold WOk; rw [nD]; exact h
theorem WOk.next {R : Rd} (h : WOk R) : ((∀ c ∈ (aa R).1, c < 256) ∧ (aa R).1.length ≤ 1000000) ∧ WOk (aa R).2 := by
  unfold aa
  split
  · refine ⟨?_, fun w hw => h w (List.mem_of_mem_tail hw)⟩
    cases hw : R.ws with
    | nil => exact ⟨(fun c hc => by cases hc), Nat.zero_le _⟩
    | cons w l => exact h w (by rw [hw]; exact List.mem_cons_self)
  · exact ⟨⟨(fun c hc => by cases hc), Nat.zero_le _⟩, h.fail 14⟩
theorem WOk.told {R : Rd} (h : WOk R) (g : List Nat → Int × Int) : WOk (ae g R).2 := by
  unfold ae
  dsimp only
  split
  · exact h.next.2
  · exact h.next.2.fail _
theorem c8 {R : Rd} (h0 : R.e = 0) (hp : 0 < R.ws.length) : ao R = true := by unfold ao; simp [h0, hp]
theorem c9 {R : Rd} (h0 : ¬ R.e = 0) : ¬ ao R = true := by unfold ao; simp [h0]
theorem da {R : Rd} (hp : ¬ 0 < R.ws.length) : ¬ ao R = true := by unfold ao; simp [hp]
theorem pM {L : List (List Nat)} (h : 0 < L.length) : L[0] = L.headD [] := by
  cases L with
  | nil => cases h
  | cons x l => rfl
theorem gi {L : List (List Nat)} (h : 0 < L.length) : nth (au L) (0 * 1) = some (.ss (L.headD [])) := by
  cases L with
  | nil => cases h
  | cons x l => rfl
theorem uS (L : List (List Nat)) : AV.fr (L.length - 1) 1 ((au L).drop (1 * 1)) = .fr L.tail.length 1 (au L.tail) := by
  cases L with
  | nil => rfl
  | cons x l => rfl
theorem AN (R : Rd) : post (aw evP 4 73) [.ptr 0 0] (mkH (dr (rdO R) 0)) 7 (RdK (lk R).1 (lk R).2) := by
  have leaf : ∀ {s : List Nat} {R' : Rd} {u : AV} {H' : AH} {n' : Nat} {l : List AV}, aa R = (s, R') → mk u = .ss s → PM.get H' 0 = some (.cells l true) → l.map mk = rdC 1 2 3 4 5 6 R' → PM.get H' 1 = some (.cells (au R'.ks) true) → PM.get H' 2 = some (.cells (ints R'.ts) true) → PM.get H' 3 = some (.cells (ints R'.vs) true) → PM.get H' 4 = some (.cells (bw R'.ls) true) → PM.get H' 5 = some (.cells (ints R'.q.times) true) → PM.get H' 6 = some (.cells (au R'.fs) true) → ∃ v2 H2 n2, VTo u v2 ∧ cJ H' n' H2 n2 ∧ RdK (lk R).1 (lk R).2 v2 H2 n2 := fun e hu h0 hm r1 r2 r3 r4 r5 r6 => by
    unfold lk; rw [e]; exact gy (VTo.mkv hu) h0 hm r1 r2 r3 r4 r5 r6
  show aw evP 4 73 _ _ _ _
  conv => whnf
  refine ab.dec (fun h0 => ?_) (fun h0 => ?_)
  · conv => whnf
    refine ab.gQ (fun hp => ?_) (fun hp => ?_)
    · have hp : ¬ 0 < R.ws.length := fun q => hp (by exact Int.ofNat_lt.2 q)
      have e : aa R = ([], { R with e := 14 }) := by unfold aa cg; rw [if_neg (da hp), if_pos h0]
      conv => whnf
      refine ab.dec (fun _ => ?_) (fun q => absurd h0 q)
      conv => whnf
      exact leaf e rfl rfl rfl rfl rfl rfl rfl rfl rfl
    · have hp : 0 < R.ws.length := by exact Int.ofNat_lt.1 hp
      have e : aa R = (R.ws.headD [], { R with ws := R.ws.tail }) := by unfold aa; rw [if_pos (c8 h0 hp)]
      have hm : (AV.fr (R.ws.length - 1) 1 ((au R.ws).drop (1 * 1)) :: .si .i64 R.e :: cmC (.rw 1 0 R.ks.length 1 0) (.rw 2 0 R.ts.length 1 0) (.rw 3 0 R.vs.length 1 0) (.rw 4 0 R.ls.length 2 0) (.rw 5 0 R.q.times.length 1 0) (.rw 6 0 R.fs.length 1 0) R).map mk = rdC 1 2 3 4 5 6 { R with ws := R.ws.tail } := by rw [uS]; rfl
      conv => whnf
      refine Idx.mk 0 rfl hp ?_
      conv => whnf
      refine aO (gi hp) ?_
      conv => whnf
      refine RSl.mk 1 _ rfl rfl (.inl rfl) hp (Nat.le_refl _) ?_
      conv => whnf
      exact leaf e rfl rfl hm rfl rfl rfl rfl rfl rfl
  · have e : aa R = ([], R) := by unfold aa cg; rw [if_neg (c9 h0), if_neg h0]
    conv => whnf
    refine ab.dec (fun q => absurd q h0) (fun _ => ?_)
    conv => whnf
    exact leaf e rfl rfl rfl rfl rfl rfl rfl rfl rfl
def noA (ar : List AV) : Prop := ar = []
theorem de : ∀ ar, noA ar → ∀ (φ : Ph) (vs : List Value), VRs φ ar vs → VRs φ [] vs := fun ar h φ vs hv => by rw [← h]; exact hv
def wF (w : List Nat) (ar : List AV) : Prop := ∃ y, ar = [y] ∧ mk y = .ss w
theorem uT (w : List Nat) : ∀ ar, wF w ar → ∀ (φ : Ph) (vs : List Value), VRs φ ar vs → VRs φ [.ss w] vs := fun ar ⟨y, h, hy⟩ φ vs hv => by
  subst h
  obtain ⟨v, us, rfl, h1, h2⟩ := hv.cons_inv
  exact .cons (by have := h1.mk; rw [hy] at this; exact this) h2
def fnA (f : Nat) (ar : List AV) : Prop := ar = [.fn f [] []]
theorem x3 (f : Nat) : ∀ ar, fnA f ar → ∀ (φ : Ph) (vs : List Value), VRs φ ar vs → VRs φ [.fn f [] []] vs := fun ar h φ vs hv => by rw [← h]; exact hv
theorem nE : aI 73 (bZ (fun _ => True) noA lk) := dM (az ba 4 _) (by kernel_rfl) de (fun _ => rfl) (fun R => ⟨rfl, fun _ => rfl⟩) fun R _ => AN R
noncomputable def KHs : FuncId → EP := aG 73 (bZ (fun _ => True) noA lk) (aG 44 y1 evP)
theorem x4 : cm KHs := an (an ba y2) nE
theorem C1 (w : List Nat) (R : Rd) (hok : WOk R) : post (aw KHs 5 62) (.ptr 0 0 :: [.ss w]) (mkH (dr (rdO R) 0)) 7 (RdK (jo w R).1 (jo w R).2) := by
  have leaf : ∀ {v : AV} {R' : Rd} {u : AV} {H' : AH} {n' : Nat} {l : List AV}, jo w R = (v, R') → mk u = v → PM.get H' 0 = some (.cells l true) → l.map mk = rdC 1 2 3 4 5 6 R' → PM.get H' 1 = some (.cells (au R'.ks) true) → PM.get H' 2 = some (.cells (ints R'.ts) true) → PM.get H' 3 = some (.cells (ints R'.vs) true) → PM.get H' 4 = some (.cells (bw R'.ls) true) → PM.get H' 5 = some (.cells (ints R'.q.times) true) → PM.get H' 6 = some (.cells (au R'.fs) true) → ∃ v2 H2 n2, VTo u v2 ∧ cJ H' n' H2 n2 ∧ RdK (jo w R).1 (jo w R).2 v2 H2 n2 := fun e hu h0 hm r1 r2 r3 r4 r5 r6 => by
    rw [e]; exact gy (VTo.mkv hu) h0 hm r1 r2 r3 r4 r5 r6
  show aw KHs 5 62 _ _ _ _
  conv => whnf
  refine ab.dec (fun h0 => ?_) (fun h0 => ?_)
  · conv => whnf
    refine ab.dec (fun hp => ?_) (fun hp => ?_)
    · have hp : 0 < R.ws.length := by exact Int.ofNat_lt.1 hp
      have hw := hok _ (List.getElem_mem hp)
      rw [pM hp] at hw
      conv => whnf
      refine Idx.mk 0 rfl hp ?_
      conv => whnf
      refine aO (gi hp) ?_
      conv => whnf
      refine ⟨R.ws.headD [], rfl, hw.1, hw.2, ?_⟩
      conv => whnf
      refine ab.sb (fun hq => ?_) (fun hq => ?_)
      · have e : jo w R = (.sb true, (aa R).2) := by unfold jo atR; rw [c8 h0 hp, hq]; rfl
        conv => whnf
        refine ⟨0, 1, 2, 3, 4, 5, 6, R, rfl, rfl, ⟨by decide, by decide, rfl, rfl, rfl, rfl, rfl, rfl, rfl⟩, trivial, ?_⟩
        conv => whnf
        exact leaf e (congrArg AV.sb hq) rfl rfl rfl rfl rfl rfl rfl rfl
      · have e : jo w R = (.sb false, R) := by unfold jo atR; rw [if_neg (by rw [hq]; simp)]
        conv => whnf
        exact leaf e (congrArg AV.sb hq) rfl rfl rfl rfl rfl rfl rfl rfl
    · have hp : ¬ 0 < R.ws.length := fun q => hp (by exact Int.ofNat_lt.2 q)
      have e : jo w R = (.sb false, R) := by unfold jo atR; rw [if_neg (by rw [Bool.and_eq_true]; exact fun q => da hp q.1)]
      have hd : AV.sb (decide ((0 : Int) < (R.ws.length : Int))) = .sb false := congrArg AV.sb (decide_eq_false (fun q : (0 : Int) < (R.ws.length : Int) => hp (by omega)))
      conv => whnf
      exact leaf e (by first | rfl | exact hd) rfl rfl rfl rfl rfl rfl rfl rfl
  · have e : jo w R = (.sb false, R) := by unfold jo atR; rw [if_neg (by rw [Bool.and_eq_true]; exact fun q => c9 h0 q.1)]
    conv => whnf
    exact leaf e rfl rfl rfl rfl rfl rfl rfl rfl rfl
theorem Ih (w : List Nat) : aI 62 (bZ WOk (wF w) (jo w)) := dM (az x4 5 _) (by kernel_rfl) (uT w) (fun _ => rfl) (fun R => by unfold jo; split <;> exact ⟨rfl, fun _ => rfl⟩) fun R h => C1 w R h
theorem AP (w : List Nat) (R : Rd) (hok : WOk R) : post (aw KHs 5 71) (.ptr 0 0 :: [.ss w]) (mkH (dr (rdO R) 0)) 7 (RdK (bj w R).1 (bj w R).2) := by
  have leaf : ∀ {v : AV} {R' : Rd} {u : AV} {H' : AH} {n' : Nat} {l : List AV}, bj w R = (v, R') → mk u = v → PM.get H' 0 = some (.cells l true) → l.map mk = rdC 1 2 3 4 5 6 R' → PM.get H' 1 = some (.cells (au R'.ks) true) → PM.get H' 2 = some (.cells (ints R'.ts) true) → PM.get H' 3 = some (.cells (ints R'.vs) true) → PM.get H' 4 = some (.cells (bw R'.ls) true) → PM.get H' 5 = some (.cells (ints R'.q.times) true) → PM.get H' 6 = some (.cells (au R'.fs) true) → ∃ v2 H2 n2, VTo u v2 ∧ cJ H' n' H2 n2 ∧ RdK (bj w R).1 (bj w R).2 v2 H2 n2 := fun e hu h0 hm r1 r2 r3 r4 r5 r6 => by
    rw [e]; exact gy (VTo.mkv hu) h0 hm r1 r2 r3 r4 r5 r6
  have hn := hok.next
  show aw KHs 5 71 _ _ _ _
  conv => whnf
  refine ⟨0, 1, 2, 3, 4, 5, 6, R, rfl, rfl, ⟨by decide, by decide, rfl, rfl, rfl, rfl, rfl, rfl, rfl⟩, trivial, ?_⟩
  conv => whnf
  refine ⟨(aa R).1, rfl, hn.1.1, hn.1.2, ?_⟩
  conv => whnf
  refine ab.nsb (fun hb => ?_) (fun hb => ?_)
  · conv => whnf
    refine ab.dec (fun he => ?_) (fun he => ?_)
    · have he : (aa R).2.e = 0 := he
      have e : bj w R = (.tup [], { (aa R).2 with e := 17 }) := by unfold bj cg; rw [if_neg (by rw [hb]; decide), if_pos he]
      conv => whnf
      exact leaf e rfl rfl rfl rfl rfl rfl rfl rfl rfl
    · have he : ¬ (aa R).2.e = 0 := he
      have e : bj w R = (.tup [], (aa R).2) := by unfold bj cg; rw [if_neg (by rw [hb]; decide), if_neg he]
      conv => whnf
      exact leaf e rfl rfl rfl rfl rfl rfl rfl rfl rfl
  · have e : bj w R = (.tup [], (aa R).2) := by unfold bj; rw [if_pos hb]
    conv => whnf
    exact leaf e rfl rfl rfl rfl rfl rfl rfl rfl rfl
theorem C2 (w : List Nat) : aI 71 (bZ WOk (wF w) (bj w)) := dM (az x4 5 _) (by kernel_rfl) (uT w) (fun _ => rfl) (fun R => ⟨rfl, fun _ => rfl⟩) fun R h => AP w R h
noncomputable def KTo : FuncId → EP := aG 73 (bZ (fun _ => True) noA lk) (aG 9 y6 (aG 65 CY (aG 72 C0 (evP))))
theorem x5 : cm KTo := an (an (an (an ba GR) GP) wE) nE
theorem r9 (R : Rd) (hok : WOk R) : post (aw KTo 5 64) (.ptr 0 0 :: [.fn 9 [] []]) (mkH (dr (rdO R) 0)) 7 (RdK (aQ ah R).1 (aQ ah R).2) := by
  have leaf : ∀ {v : AV} {R' : Rd} {u : AV} {H' : AH} {n' : Nat} {l : List AV}, aQ ah R = (v, R') → mk u = v → PM.get H' 0 = some (.cells l true) → l.map mk = rdC 1 2 3 4 5 6 R' → PM.get H' 1 = some (.cells (au R'.ks) true) → PM.get H' 2 = some (.cells (ints R'.ts) true) → PM.get H' 3 = some (.cells (ints R'.vs) true) → PM.get H' 4 = some (.cells (bw R'.ls) true) → PM.get H' 5 = some (.cells (ints R'.q.times) true) → PM.get H' 6 = some (.cells (au R'.fs) true) → ∃ v2 H2 n2, VTo u v2 ∧ cJ H' n' H2 n2 ∧ RdK (aQ ah R).1 (aQ ah R).2 v2 H2 n2 := fun e hu h0 hm r1 r2 r3 r4 r5 r6 => by
    rw [e]; exact gy (VTo.mkv hu) h0 hm r1 r2 r3 r4 r5 r6
  have hn := hok.next
  show aw KTo 5 64 _ _ _ _
  conv => whnf
  refine ⟨0, 1, 2, 3, 4, 5, 6, R, rfl, rfl, ⟨by decide, by decide, rfl, rfl, rfl, rfl, rfl, rfl, rfl⟩, trivial, ?_⟩
  conv => whnf
  refine ⟨(aa R).1, rfl, hn.1.1, hn.1.2, ?_⟩
  conv => whnf
  refine ab.gQ (fun hb => ?_) (fun hb => ?_)
  · have hb : ¬ (ah (aa R).1).2 = 0 := hb
    conv => whnf
    refine ab.dec (fun he => ?_) (fun he => ?_)
    · have he : (aa R).2.e = 0 := he
      have e : aQ ah R = (.si .i64 (ah (aa R).1).1, { (aa R).2 with e := (ah (aa R).1).2 }) := by unfold aQ ae cg; dsimp only; rw [if_neg hb, if_pos he]
      conv => whnf
      exact leaf e rfl rfl rfl rfl rfl rfl rfl rfl rfl
    · have he : ¬ (aa R).2.e = 0 := he
      have e : aQ ah R = (.si .i64 (ah (aa R).1).1, (aa R).2) := by unfold aQ ae cg; dsimp only; rw [if_neg hb, if_neg he]
      conv => whnf
      exact leaf e rfl rfl rfl rfl rfl rfl rfl rfl rfl
  · have hb : (ah (aa R).1).2 = 0 := hb
    have e : aQ ah R = (.si .i64 (ah (aa R).1).1, (aa R).2) := by unfold aQ ae; dsimp only; rw [if_pos hb]
    conv => whnf
    exact leaf e rfl rfl rfl rfl rfl rfl rfl rfl rfl
theorem rn : aI 64 (bZ WOk (fnA 9) (aQ ah)) := dM (az x5 5 _) (by kernel_rfl) (x3 _) (fun _ => rfl) (fun R => ⟨rfl, fun _ => rfl⟩) fun R h => r9 R h
theorem sa (R : Rd) (hok : WOk R) : post (aw KTo 5 64) (.ptr 0 0 :: [.fn 65 [] []]) (mkH (dr (rdO R) 0)) 7 (RdK (aQ bS R).1 (aQ bS R).2) := by
  have leaf : ∀ {v : AV} {R' : Rd} {u : AV} {H' : AH} {n' : Nat} {l : List AV}, aQ bS R = (v, R') → mk u = v → PM.get H' 0 = some (.cells l true) → l.map mk = rdC 1 2 3 4 5 6 R' → PM.get H' 1 = some (.cells (au R'.ks) true) → PM.get H' 2 = some (.cells (ints R'.ts) true) → PM.get H' 3 = some (.cells (ints R'.vs) true) → PM.get H' 4 = some (.cells (bw R'.ls) true) → PM.get H' 5 = some (.cells (ints R'.q.times) true) → PM.get H' 6 = some (.cells (au R'.fs) true) → ∃ v2 H2 n2, VTo u v2 ∧ cJ H' n' H2 n2 ∧ RdK (aQ bS R).1 (aQ bS R).2 v2 H2 n2 := fun e hu h0 hm r1 r2 r3 r4 r5 r6 => by
    rw [e]; exact gy (VTo.mkv hu) h0 hm r1 r2 r3 r4 r5 r6
  have hn := hok.next
  show aw KTo 5 64 _ _ _ _
  conv => whnf
  refine ⟨0, 1, 2, 3, 4, 5, 6, R, rfl, rfl, ⟨by decide, by decide, rfl, rfl, rfl, rfl, rfl, rfl, rfl⟩, trivial, ?_⟩
  conv => whnf
  refine ⟨(aa R).1, rfl, hn.1.1, hn.1.2, ?_⟩
  conv => whnf
  refine ab.gQ (fun hb => ?_) (fun hb => ?_)
  · have hb : ¬ (bS (aa R).1).2 = 0 := hb
    conv => whnf
    refine ab.dec (fun he => ?_) (fun he => ?_)
    · have he : (aa R).2.e = 0 := he
      have e : aQ bS R = (.si .i64 (bS (aa R).1).1, { (aa R).2 with e := (bS (aa R).1).2 }) := by unfold aQ ae cg; dsimp only; rw [if_neg hb, if_pos he]
      conv => whnf
      exact leaf e rfl rfl rfl rfl rfl rfl rfl rfl rfl
    · have he : ¬ (aa R).2.e = 0 := he
      have e : aQ bS R = (.si .i64 (bS (aa R).1).1, (aa R).2) := by unfold aQ ae cg; dsimp only; rw [if_neg hb, if_neg he]
      conv => whnf
      exact leaf e rfl rfl rfl rfl rfl rfl rfl rfl rfl
  · have hb : (bS (aa R).1).2 = 0 := hb
    have e : aQ bS R = (.si .i64 (bS (aa R).1).1, (aa R).2) := by unfold aQ ae; dsimp only; rw [if_pos hb]
    conv => whnf
    exact leaf e rfl rfl rfl rfl rfl rfl rfl rfl rfl
theorem rp : aI 64 (bZ WOk (fnA 65) (aQ bS)) := dM (az x5 5 _) (by kernel_rfl) (x3 _) (fun _ => rfl) (fun R => ⟨rfl, fun _ => rfl⟩) fun R h => sa R h
theorem sc (R : Rd) (hok : WOk R) : post (aw KTo 5 64) (.ptr 0 0 :: [.fn 72 [] []]) (mkH (dr (rdO R) 0)) 7 (RdK (aQ aN R).1 (aQ aN R).2) := by
  have leaf : ∀ {v : AV} {R' : Rd} {u : AV} {H' : AH} {n' : Nat} {l : List AV}, aQ aN R = (v, R') → mk u = v → PM.get H' 0 = some (.cells l true) → l.map mk = rdC 1 2 3 4 5 6 R' → PM.get H' 1 = some (.cells (au R'.ks) true) → PM.get H' 2 = some (.cells (ints R'.ts) true) → PM.get H' 3 = some (.cells (ints R'.vs) true) → PM.get H' 4 = some (.cells (bw R'.ls) true) → PM.get H' 5 = some (.cells (ints R'.q.times) true) → PM.get H' 6 = some (.cells (au R'.fs) true) → ∃ v2 H2 n2, VTo u v2 ∧ cJ H' n' H2 n2 ∧ RdK (aQ aN R).1 (aQ aN R).2 v2 H2 n2 := fun e hu h0 hm r1 r2 r3 r4 r5 r6 => by
    rw [e]; exact gy (VTo.mkv hu) h0 hm r1 r2 r3 r4 r5 r6
  have hn := hok.next
  show aw KTo 5 64 _ _ _ _
  conv => whnf
  refine ⟨0, 1, 2, 3, 4, 5, 6, R, rfl, rfl, ⟨by decide, by decide, rfl, rfl, rfl, rfl, rfl, rfl, rfl⟩, trivial, ?_⟩
  conv => whnf
  refine ⟨(aa R).1, rfl, hn.1.1, hn.1.2, ?_⟩
  conv => whnf
  refine ab.gQ (fun hb => ?_) (fun hb => ?_)
  · have hb : ¬ (aN (aa R).1).2 = 0 := hb
    conv => whnf
    refine ab.dec (fun he => ?_) (fun he => ?_)
    · have he : (aa R).2.e = 0 := he
      have e : aQ aN R = (.si .i64 (aN (aa R).1).1, { (aa R).2 with e := (aN (aa R).1).2 }) := by unfold aQ ae cg; dsimp only; rw [if_neg hb, if_pos he]
      conv => whnf
      exact leaf e rfl rfl rfl rfl rfl rfl rfl rfl rfl
    · have he : ¬ (aa R).2.e = 0 := he
      have e : aQ aN R = (.si .i64 (aN (aa R).1).1, (aa R).2) := by unfold aQ ae cg; dsimp only; rw [if_neg hb, if_neg he]
      conv => whnf
      exact leaf e rfl rfl rfl rfl rfl rfl rfl rfl rfl
  · have hb : (aN (aa R).1).2 = 0 := hb
    have e : aQ aN R = (.si .i64 (aN (aa R).1).1, (aa R).2) := by unfold aQ ae; dsimp only; rw [if_pos hb]
    conv => whnf
    exact leaf e rfl rfl rfl rfl rfl rfl rfl rfl rfl
theorem rq : aI 64 (bZ WOk (fnA 72) (aQ aN)) := dM (az x5 5 _) (by kernel_rfl) (x3 _) (fun _ => rfl) (fun R => ⟨rfl, fun _ => rfl⟩) fun R h => sc R h
def uU (args : List AV) (H : AH) (n : Nat) (κ : PK) : Prop := bZ WOk (fnA 9) (aQ ah) args H n κ ∨ bZ WOk (fnA 65) (aQ bS) args H n κ ∨ bZ WOk (fnA 72) (aQ aN) args H n κ
theorem C3 : aI 64 uU := fun args H n κ hs => hs.elim (rn args H n κ) fun hs => hs.elim (rp args H n κ) (rq args H n κ)
noncomputable def KNb : FuncId → EP := aG 64 uU evP
theorem GS : cm KNb := an ba C3
theorem wG (R : Rd) (hok : WOk R) : post (aw KNb 5 70) (.ptr 0 0 :: []) (mkH (dr (rdO R) 0)) 7 (RdK (aQ ah R).1 (aQ ah R).2) := by
  have leaf : ∀ {v : AV} {R' : Rd} {u : AV} {H' : AH} {n' : Nat} {l : List AV}, aQ ah R = (v, R') → mk u = v → PM.get H' 0 = some (.cells l true) → l.map mk = rdC 1 2 3 4 5 6 R' → PM.get H' 1 = some (.cells (au R'.ks) true) → PM.get H' 2 = some (.cells (ints R'.ts) true) → PM.get H' 3 = some (.cells (ints R'.vs) true) → PM.get H' 4 = some (.cells (bw R'.ls) true) → PM.get H' 5 = some (.cells (ints R'.q.times) true) → PM.get H' 6 = some (.cells (au R'.fs) true) → ∃ v2 H2 n2, VTo u v2 ∧ cJ H' n' H2 n2 ∧ RdK (aQ ah R).1 (aQ ah R).2 v2 H2 n2 := fun e hu h0 hm r1 r2 r3 r4 r5 r6 => by
    rw [e]; exact gy (VTo.mkv hu) h0 hm r1 r2 r3 r4 r5 r6
  show aw KNb 5 70 _ _ _ _
  conv => whnf
  refine .inl ⟨0, 1, 2, 3, 4, 5, 6, R, rfl, rfl, ⟨by decide, by decide, rfl, rfl, rfl, rfl, rfl, rfl, rfl⟩, hok, ?_⟩
  conv => whnf
  exact leaf rfl rfl rfl rfl rfl rfl rfl rfl rfl rfl
theorem jD : aI 70 (bZ WOk noA (aQ ah)) := dM (az GS 5 _) (by kernel_rfl) de (fun _ => rfl) (fun R => ⟨rfl, fun _ => rfl⟩) fun R h => wG R h
noncomputable def KPo : FuncId → EP := aG 70 (bZ WOk noA (aQ ah)) (aG 73 (bZ (fun _ => True) noA lk) evP)
theorem C4 : cm KPo := an (an ba nE) jD
theorem sd (R : Rd) (hok : WOk R) : post (aw KPo 5 63) (.ptr 0 0 :: []) (mkH (dr (rdO R) 0)) 7 (RdK (oE R).1 (oE R).2) := by
  have leaf : ∀ {v : AV} {R' : Rd} {u : AV} {H' : AH} {n' : Nat} {l : List AV}, oE R = (v, R') → mk u = v → PM.get H' 0 = some (.cells l true) → l.map mk = rdC 1 2 3 4 5 6 R' → PM.get H' 1 = some (.cells (au R'.ks) true) → PM.get H' 2 = some (.cells (ints R'.ts) true) → PM.get H' 3 = some (.cells (ints R'.vs) true) → PM.get H' 4 = some (.cells (bw R'.ls) true) → PM.get H' 5 = some (.cells (ints R'.q.times) true) → PM.get H' 6 = some (.cells (au R'.fs) true) → ∃ v2 H2 n2, VTo u v2 ∧ cJ H' n' H2 n2 ∧ RdK (oE R).1 (oE R).2 v2 H2 n2 := fun e hu h0 hm r1 r2 r3 r4 r5 r6 => by
    rw [e]; exact gy (VTo.mkv hu) h0 hm r1 r2 r3 r4 r5 r6
  show aw KPo 5 63 _ _ _ _
  conv => whnf
  refine ⟨0, 1, 2, 3, 4, 5, 6, R, rfl, rfl, ⟨by decide, by decide, rfl, rfl, rfl, rfl, rfl, rfl, rfl⟩, hok, ?_⟩
  conv => whnf
  refine ab.dec (fun hb => ?_) (fun hb => ?_)
  · have hb : (ae ah R).1 < 0 := hb
    conv => whnf
    refine ab.dec (fun he => ?_) (fun he => ?_)
    · have he : (ae ah R).2.e = 0 := he
      have e : oE R = (.si .i64 (ae ah R).1, { (ae ah R).2 with e := 16 }) := by unfold oE hY cg; dsimp only; rw [if_pos hb, if_pos he]
      conv => whnf
      exact leaf e rfl rfl rfl rfl rfl rfl rfl rfl rfl
    · have he : ¬ (ae ah R).2.e = 0 := he
      have e : oE R = (.si .i64 (ae ah R).1, (ae ah R).2) := by unfold oE hY cg; dsimp only; rw [if_pos hb, if_neg he]
      conv => whnf
      exact leaf e rfl rfl rfl rfl rfl rfl rfl rfl rfl
  · have hb : ¬ (ae ah R).1 < 0 := hb
    have e : oE R = (.si .i64 (ae ah R).1, (ae ah R).2) := by unfold oE hY; dsimp only; rw [if_neg hb]
    conv => whnf
    exact leaf e rfl rfl rfl rfl rfl rfl rfl rfl rfl
theorem x6 : aI 63 (bZ WOk noA oE) := dM (az C4 5 _) (by kernel_rfl) de (fun _ => rfl) (fun R => ⟨rfl, fun _ => rfl⟩) fun R h => sd R h
def orA (w : List Nat) (z : Int) (ar : List AV) : Prop := ∃ y x, ar = [y, x] ∧ mk y = .ss w ∧ mk x = .si .i64 z
theorem GU (w : List Nat) (z : Int) : ∀ ar, orA w z ar → ∀ (φ : Ph) (vs : List Value), VRs φ ar vs → VRs φ [.ss w, .si .i64 z] vs := fun ar ⟨y, x, h, hy, hx⟩ φ vs hv => by
  subst h
  obtain ⟨v, us, rfl, h1, h2⟩ := hv.cons_inv
  obtain ⟨v2, us2, rfl, h3, h4⟩ := h2.cons_inv
  exact .cons (by have := h1.mk; rw [hy] at this; exact this) (.cons (by have := h3.mk; rw [hx] at this; exact this) h4)
theorem ER (w : List Nat) (z : Int) (R : Rd) (hok : WOk R) : post (aw KPo 5 77) (.ptr 0 0 :: [.ss w, .si .i64 z]) (mkH (dr (rdO R) 0)) 7 (RdK (orV w z R).1 (orV w z R).2) := by
  have leaf : ∀ {v : AV} {R' : Rd} {u : AV} {H' : AH} {n' : Nat} {l : List AV}, orV w z R = (v, R') → mk u = v → PM.get H' 0 = some (.cells l true) → l.map mk = rdC 1 2 3 4 5 6 R' → PM.get H' 1 = some (.cells (au R'.ks) true) → PM.get H' 2 = some (.cells (ints R'.ts) true) → PM.get H' 3 = some (.cells (ints R'.vs) true) → PM.get H' 4 = some (.cells (bw R'.ls) true) → PM.get H' 5 = some (.cells (ints R'.q.times) true) → PM.get H' 6 = some (.cells (au R'.fs) true) → ∃ v2 H2 n2, VTo u v2 ∧ cJ H' n' H2 n2 ∧ RdK (orV w z R).1 (orV w z R).2 v2 H2 n2 := fun e hu h0 hm r1 r2 r3 r4 r5 r6 => by
    rw [e]; exact gy (VTo.mkv hu) h0 hm r1 r2 r3 r4 r5 r6
  show aw KPo 5 77 _ _ _ _
  conv => whnf
  refine ab.dec (fun h0 => ?_) (fun h0 => ?_)
  · conv => whnf
    refine ab.dec (fun hp => ?_) (fun hp => ?_)
    · have hp : 0 < R.ws.length := by exact Int.ofNat_lt.1 hp
      conv => whnf
      refine Idx.mk 0 rfl hp ?_
      conv => whnf
      refine aO (gi hp) ?_
      conv => whnf
      refine ab.sb (fun hq => ?_) (fun hq => ?_)
      · have e : orV w z R = (.si .i64 z, (aa R).2) := by unfold orV orR; rw [c8 h0 hp, hq]; rfl
        conv => whnf
        refine ⟨0, 1, 2, 3, 4, 5, 6, R, rfl, rfl, ⟨by decide, by decide, rfl, rfl, rfl, rfl, rfl, rfl, rfl⟩, trivial, ?_⟩
        conv => whnf
        exact leaf e rfl rfl rfl rfl rfl rfl rfl rfl rfl
      · have e : orV w z R = aQ ah R := by unfold orV orR; rw [if_neg (by rw [Bool.and_eq_true]; exact fun q => by rw [hq] at q; cases q.2)]; rfl
        conv => whnf
        refine ⟨0, 1, 2, 3, 4, 5, 6, R, rfl, rfl, ⟨by decide, by decide, rfl, rfl, rfl, rfl, rfl, rfl, rfl⟩, hok, ?_⟩
        conv => whnf
        exact leaf e rfl rfl rfl rfl rfl rfl rfl rfl rfl
    · have hp : ¬ 0 < R.ws.length := fun q => hp (by exact Int.ofNat_lt.2 q)
      have e : orV w z R = aQ ah R := by unfold orV orR; rw [if_neg (by rw [Bool.and_eq_true]; exact fun q => da hp q.1)]; rfl
      conv => whnf
      refine ⟨0, 1, 2, 3, 4, 5, 6, R, rfl, rfl, ⟨by decide, by decide, rfl, rfl, rfl, rfl, rfl, rfl, rfl⟩, hok, ?_⟩
      conv => whnf
      exact leaf e rfl rfl rfl rfl rfl rfl rfl rfl rfl
  · have e : orV w z R = aQ ah R := by unfold orV orR; rw [if_neg (by rw [Bool.and_eq_true]; exact fun q => c9 h0 q.1)]; rfl
    conv => whnf
    refine ⟨0, 1, 2, 3, 4, 5, 6, R, rfl, rfl, ⟨by decide, by decide, rfl, rfl, rfl, rfl, rfl, rfl, rfl⟩, hok, ?_⟩
    conv => whnf
    exact leaf e rfl rfl rfl rfl rfl rfl rfl rfl rfl
theorem Ii (w : List Nat) (z : Int) : aI 77 (bZ WOk (orA w z) (orV w z)) := dM (az C4 5 _) (by kernel_rfl) (GU w z) (fun _ => rfl) (fun R => ⟨rfl, fun _ => rfl⟩) fun R h => ER w z R h
end Go.Proofs.Ytdfeigkooeeeaaa
namespace Go.Proofs.Ytdfeigkooeeeaaa
open Go Go.RowKit
def dh (g : List AV → AH → Nat → PK → Prop) (args : List AV) (H : AH) (n : Nat) (κ : PK) : Prop := g args H n fun u H' n' => ∃ (v : AV) (H2 : AH) (m : Nat), Cov n (mkE [(0, u)]) H' n' (mkE [(0, v)], H2, m) ∧ κ v H2 m
theorem aI.dh {f : FuncId} {g : List AV → AH → Nat → PK → Prop} (hg : aI f g) : aI f (dh g) := fun args H n κ hs φ h0 h vs K hr ha hk => hg args H n _ hs φ h0 h vs K hr ha fun ψ u H' n' w g' hle hg' hu ⟨v, H2, m, hc, hκ⟩ => by
  obtain ⟨χ, ⟨c1, c2, c3⟩, c4, c5⟩ := hc ψ h0 g' (fun _ => w) hg' (fun t a ht => by
    have := uL ht
    simp only [List.mem_cons, List.not_mem_nil, or_false] at this
    injection this with e1 e2
    subst e1 e2
    exact hu)
  exact hk χ v H2 m w g' ⟨fun b p e => c1 b p (hr.dom b p e).1 (hle.b b p e), fun q e => c2 q (hle.z q e), fun q e => hle.y q (c3 q e)⟩ c4 (c5 0 v rfl) hκ
def C5 (m : Nat) : AV → Bool
  | .rw b _ _ _ _ => Nat.blt b m
  | .fr _ _ _ => true
  | .si _ _ => true
  | .sb _ => true
  | .ss _ => true
  | _ => false
theorem ak.AQ {H : AH} {m : Nat} {r : Nat → Nat} {a a' : AV} (hg : C5 m a' = true) (e : Go.Proofs.Ytdfeigkooeeeaaa.mk a = ren r a') : ak H m r a a' := by
  cases a' with
  | rw b o n k x =>
    have ha : a = .rw (r b) o n k x := by cases a <;> first | exact e | cases e
    exact ak.rw (Nat.le_of_ble_eq_true hg) ha (hx := ⟨fun h => h, fun h => h, fun h => h⟩)
  | fr n k l =>
    have ha : a = .fr n k l := by cases a <;> first | exact e | cases e
    subst ha; exact .dV rfl
  | si k n => exact .int e
  | sb b => exact .bool e
  | ss s => exact .str e
  | _ => cases hg
theorem la.AQ {H : AH} {m : Nat} {r : Nat → Nat} : ∀ {l l' : List AV}, l'.all (C5 m) = true → l.map Go.Proofs.Ytdfeigkooeeeaaa.mk = l'.map (ren r) → la H m r l l'
  | [], [], _, _ => .nil
  | [], _ :: _, _, e => by cases e
  | _ :: _, [], _, e => by cases e
  | a :: l, a' :: l', hg, e => by
    simp only [List.map_cons, List.cons.injEq] at e
    simp only [List.all_cons, Bool.and_eq_true] at hg
    exact .cons (ak.AQ hg.1 e.1) (la.AQ hg.2 e.2)
def oF (k t v l q f nk nt nv nl nq nf : Nat) (R : Rd) : List AV := .fr R.ws.length 1 (au R.ws) :: .si .i64 R.e :: cmC (.rw k 0 nk 1 0) (.rw t 0 nt 1 0) (.rw v 0 nv 1 0) (.rw l 0 nl 2 0) (.rw q 0 nq 1 0) (.rw f 0 nf 1 0) R
noncomputable def rdM (R : Rd) : AH := mkH [(0, .cells (rdC 7 8 9 10 11 12 R) true), (7, .cells (au R.ks) true), (8, .cells (ints R.ts) true), (9, .cells (ints R.vs) true), (10, .cells (bw R.ls) true), (11, .cells (ints R.q.times) true), (12, .cells (au R.fs) true)]
def rdN (j1 j2 j3 j4 j5 j6 : Nat) : Nat → Nat := fun b => if b = 7 then j1 else if b = 8 then j2 else if b = 9 then j3 else if b = 10 then j4 else if b = 11 then j5 else if b = 12 then j6 else b
theorem zb {j1 j2 j3 j4 j5 j6 : Nat} (hd : [0, j1, j2, j3, j4, j5, j6].Nodup) : ∀ a ∈ [0, 7, 8, 9, 10, 11, 12], ∀ b ∈ [0, 7, 8, 9, 10, 11, 12], rdN j1 j2 j3 j4 j5 j6 a = rdN j1 j2 j3 j4 j5 j6 b → a = b := by
  simp only [List.nodup_cons, List.mem_cons, List.not_mem_nil, or_false, not_or, List.nodup_nil, and_true, not_false_eq_true] at hd
  intro a ha b hb
  simp only [List.mem_cons, List.not_mem_nil, or_false] at ha hb
  rcases ha with rfl | rfl | rfl | rfl | rfl | rfl | rfl
  · rcases hb with rfl | rfl | rfl | rfl | rfl | rfl | rfl
    · exact fun _ => rfl
    · exact fun e => absurd (show 0 = j1 from e) (by omega)
    · exact fun e => absurd (show 0 = j2 from e) (by omega)
    · exact fun e => absurd (show 0 = j3 from e) (by omega)
    · exact fun e => absurd (show 0 = j4 from e) (by omega)
    · exact fun e => absurd (show 0 = j5 from e) (by omega)
    · exact fun e => absurd (show 0 = j6 from e) (by omega)
  · rcases hb with rfl | rfl | rfl | rfl | rfl | rfl | rfl
    · exact fun e => absurd (show j1 = 0 from e) (by omega)
    · exact fun _ => rfl
    · exact fun e => absurd (show j1 = j2 from e) (by omega)
    · exact fun e => absurd (show j1 = j3 from e) (by omega)
    · exact fun e => absurd (show j1 = j4 from e) (by omega)
    · exact fun e => absurd (show j1 = j5 from e) (by omega)
    · exact fun e => absurd (show j1 = j6 from e) (by omega)
  · rcases hb with rfl | rfl | rfl | rfl | rfl | rfl | rfl
    · exact fun e => absurd (show j2 = 0 from e) (by omega)
    · exact fun e => absurd (show j2 = j1 from e) (by omega)
    · exact fun _ => rfl
    · exact fun e => absurd (show j2 = j3 from e) (by omega)
    · exact fun e => absurd (show j2 = j4 from e) (by omega)
    · exact fun e => absurd (show j2 = j5 from e) (by omega)
    · exact fun e => absurd (show j2 = j6 from e) (by omega)
  · rcases hb with rfl | rfl | rfl | rfl | rfl | rfl | rfl
    · exact fun e => absurd (show j3 = 0 from e) (by omega)
    · exact fun e => absurd (show j3 = j1 from e) (by omega)
    · exact fun e => absurd (show j3 = j2 from e) (by omega)
    · exact fun _ => rfl
    · exact fun e => absurd (show j3 = j4 from e) (by omega)
    · exact fun e => absurd (show j3 = j5 from e) (by omega)
    · exact fun e => absurd (show j3 = j6 from e) (by omega)
  · rcases hb with rfl | rfl | rfl | rfl | rfl | rfl | rfl
    · exact fun e => absurd (show j4 = 0 from e) (by omega)
    · exact fun e => absurd (show j4 = j1 from e) (by omega)
    · exact fun e => absurd (show j4 = j2 from e) (by omega)
    · exact fun e => absurd (show j4 = j3 from e) (by omega)
    · exact fun _ => rfl
    · exact fun e => absurd (show j4 = j5 from e) (by omega)
    · exact fun e => absurd (show j4 = j6 from e) (by omega)
  · rcases hb with rfl | rfl | rfl | rfl | rfl | rfl | rfl
    · exact fun e => absurd (show j5 = 0 from e) (by omega)
    · exact fun e => absurd (show j5 = j1 from e) (by omega)
    · exact fun e => absurd (show j5 = j2 from e) (by omega)
    · exact fun e => absurd (show j5 = j3 from e) (by omega)
    · exact fun e => absurd (show j5 = j4 from e) (by omega)
    · exact fun _ => rfl
    · exact fun e => absurd (show j5 = j6 from e) (by omega)
  · rcases hb with rfl | rfl | rfl | rfl | rfl | rfl | rfl
    · exact fun e => absurd (show j6 = 0 from e) (by omega)
    · exact fun e => absurd (show j6 = j1 from e) (by omega)
    · exact fun e => absurd (show j6 = j2 from e) (by omega)
    · exact fun e => absurd (show j6 = j3 from e) (by omega)
    · exact fun e => absurd (show j6 = j4 from e) (by omega)
    · exact fun e => absurd (show j6 = j5 from e) (by omega)
    · exact fun _ => rfl
theorem x7 {σ : AE} {H : AH} {n : Nat} {R : Rd} (j1 j2 j3 j4 j5 j6 : Nat) {l l1 l2 l3 l4 l5 l6 : List AV} {le : List (Nat × AV)} (he : ∀ x ∈ le, ak H 13 (rdN j1 j2 j3 j4 j5 j6) (aL (pa x.1) σ) x.2) (hd : [0, j1, j2, j3, j4, j5, j6].Nodup) (h0 : PM.get H 0 = some (.cells l true)) (hm : l.map mk = rdC j1 j2 j3 j4 j5 j6 R) (r1 : PM.get H j1 = some (.cells l1 true)) (m1 : l1.map mk = au R.ks) (r2 : PM.get H j2 = some (.cells l2 true)) (m2 : l2.map mk = ints R.ts) (r3 : PM.get H j3 = some (.cells l3 true)) (m3 : l3.map mk = ints R.vs) (r4 : PM.get H j4 = some (.cells l4 true)) (m4 : l4.map mk = bw R.ls) (r5 : PM.get H j5 = some (.cells l5 true)) (m5 : l5.map mk = ints R.q.times) (r6 : PM.get H j6 = some (.cells l6 true)) (m6 : l6.map mk = au R.fs) : Cov 7 σ H n (mkE le, rdM R, 13) := by
  refine Cov.ofR (rdN j1 j2 j3 j4 j5 j6) (by decide) (fun b hb => by unfold rdN; repeat' rw [if_neg (by omega)]) he ?_ ?_
  · intro x hx
    simp only [List.mem_cons, List.not_mem_nil, or_false] at hx
    rcases hx with rfl | rfl | rfl | rfl | rfl | rfl | rfl
    · exact ⟨Nat.le_of_ble_eq_true rfl, .inl ⟨_, h0, cU.st (la.AQ rfl hm)⟩⟩
    · exact ⟨Nat.le_of_ble_eq_true rfl, .inl ⟨_, r1, cU.cn (aR _) (by rw [m1, aj]) (fun q => q)⟩⟩
    · exact ⟨Nat.le_of_ble_eq_true rfl, .inl ⟨_, r2, cU.cn (bq _) (by rw [m2, ai]) (fun q => q)⟩⟩
    · exact ⟨Nat.le_of_ble_eq_true rfl, .inl ⟨_, r3, cU.cn (bq _) (by rw [m3, ai]) (fun q => q)⟩⟩
    · exact ⟨Nat.le_of_ble_eq_true rfl, .inl ⟨_, r4, cU.cn (fb _) (by rw [m4, bf]) (fun q => q)⟩⟩
    · exact ⟨Nat.le_of_ble_eq_true rfl, .inl ⟨_, r5, cU.cn (bq _) (by rw [m5, ai]) (fun q => q)⟩⟩
    · exact ⟨Nat.le_of_ble_eq_true rfl, .inl ⟨_, r6, cU.cn (aR _) (by rw [m6, aj]) (fun q => q)⟩⟩
  · exact fun x hx y hy e => zb hd x.1 (List.mem_map_of_mem (f := Prod.fst) hx) y.1 (List.mem_map_of_mem (f := Prod.fst) hy) e
def RdP (v : AV) (R : Rd) : PK := fun u H' m => u = v ∧ H' = rdM R ∧ m = 13
theorem hZ {u v : AV} {H : AH} {n : Nat} {R : Rd} (j1 j2 j3 j4 j5 j6 : Nat) {l l1 l2 l3 l4 l5 l6 : List AV} (hv : ak H 13 (rdN j1 j2 j3 j4 j5 j6) u v) (hd : [0, j1, j2, j3, j4, j5, j6].Nodup) (h0 : PM.get H 0 = some (.cells l true)) (hm : l.map mk = rdC j1 j2 j3 j4 j5 j6 R) (r1 : PM.get H j1 = some (.cells l1 true)) (m1 : l1.map mk = au R.ks) (r2 : PM.get H j2 = some (.cells l2 true)) (m2 : l2.map mk = ints R.ts) (r3 : PM.get H j3 = some (.cells l3 true)) (m3 : l3.map mk = ints R.vs) (r4 : PM.get H j4 = some (.cells l4 true)) (m4 : l4.map mk = bw R.ls) (r5 : PM.get H j5 = some (.cells l5 true)) (m5 : l5.map mk = ints R.q.times) (r6 : PM.get H j6 = some (.cells l6 true)) (m6 : l6.map mk = au R.fs) : ∃ v2 H2 m, Cov 7 (mkE [(0, u)]) H n (mkE [(0, v2)], H2, m) ∧ RdP v R v2 H2 m :=
  ⟨v, _, _, x7 j1 j2 j3 j4 j5 j6 (le := [(0, v)]) (fun x hx => by
    simp only [List.mem_cons, List.not_mem_nil, or_false] at hx
    subst hx; exact hv) hd h0 hm r1 m1 r2 m2 r3 m3 r4 m4 r5 m5 r6 m6, rfl, rfl, rfl⟩
noncomputable def uV (H : AH) (n r k t v l q f : Nat) (R' : Rd) : AH := PM.set (some (.cells (rdC n (n + 1) (n + 2) (n + 3) (n + 4) (n + 5) R') true)) ag (PM.set none ag (PM.set none ag (PM.set none ag (PM.set none ag (PM.set none ag (PM.set none ag (PM.set (some (.cells (au R'.ks) true)) ag (PM.set (some (.cells (ints R'.ts) true)) ag (PM.set (some (.cells (ints R'.vs) true)) ag (PM.set (some (.cells (bw R'.ls) true)) ag (PM.set (some (.cells (ints R'.q.times) true)) ag (PM.set (some (.cells (au R'.fs) true)) ag H (n + 5)) (n + 4)) (n + 3)) (n + 2)) (n + 1)) n) f) q) l) v) t) k) r
def bF (ok : Rd → Prop) (A : List AV → Prop) (F : Rd → AV × Rd) (args : List AV) (H : AH) (n : Nat) (κ : PK) : Prop := match args with
  | x :: ar => ∃ (r k t v l q f : Nat) (R : Rd), x = .ptr r 0 ∧ A ar ∧ x1 H n r k t v l q f R ∧ ok R ∧ κ (F R).1 (uV H n r k t v l q f (F R).2) (n + 6)
  | _ => False
theorem C6 {r k t v l q f n : Nat} (R : Rd) : fj (aZ [r, k, t, v, l, q, f] n) (rdC 7 8 9 10 11 12 R) = rdC n (n + 1) (n + 2) (n + 3) (n + 4) (n + 5) R := rfl
theorem bL {f : FuncId} {run : List AV → AH → Nat → PK → Prop} (hrun : aI f run) (hic : eD Try.prog f = true) {ok : Rd → Prop} {A : List AV → Prop} {ar0 : List AV} {F : Rd → AV × Rd} (hA : ∀ ar, A ar → ∀ (φ : Ph) (vs : List Value), VRs φ ar vs → VRs φ ar0 vs) (har : ∀ r, fj r ar0 = ar0)
    (hv : ∀ R, ltV 13 (F R).1 = true ∧ ∀ r, ren r (F R).1 = (F R).1) (h : ∀ R, ok R → dh run (.ptr 0 0 :: ar0) (mkH (dr (rdO R) 0)) 7 (RdP (F R).1 (F R).2)) : aI f (bF ok A F) := fun args H n κ hs φ h0' hp vs K hr hargs hk => by
  unfold bF at hs
  split at hs
  · rename_i x ar
    obtain ⟨r, k, t, v, l, q, f, R, rfl, ha, hR, hok, hs⟩ := hs
    obtain ⟨v1, us, e1, e2, e3⟩ := hargs.cons_inv
    have hargs' : VRs φ (fj (aZ [r, k, t, v, l, q, f] n) (.ptr 0 0 :: ar0)) vs.toList := by
      show VRs φ (ren _ _ :: fj _ ar0) vs.toList
      rw [har, e1]
      exact .cons e2 (hA ar ha φ us e3)
    refine ri (S := [r, k, t, v, l, q, f]) (O := rdO R) (args0 := .ptr 0 0 :: ar0) (aI.dh hrun) hic hr hR.y8 hargs' hk (h R hok) fun u H' n' ⟨g0, g1, g2⟩ => ?_
    subst g0 g1 g2
    refine ⟨13, lV [r, k, t, v, l, q, f] n H [(0, some (.cells (rdC 7 8 9 10 11 12 (F R).2) true)), (1, none), (2, none), (3, none), (4, none), (5, none), (6, none), (7, some (.cells (au (F R).2.ks) true)), (8, some (.cells (ints (F R).2.ts) true)), (9, some (.cells (ints (F R).2.vs) true)), (10, some (.cells (bw (F R).2.ls) true)), (11, some (.cells (ints (F R).2.q.times) true)), (12, some (.cells (au (F R).2.fs) true))], Nat.le_of_ble_eq_true rfl, k8.put (Nat.le_of_ble_eq_true rfl) rfl (fun x hx o ho => ?_), (hv R).1, ?_⟩
    · simp only [List.mem_cons, List.not_mem_nil, or_false] at hx
      rcases hx with rfl | rfl | rfl | rfl | rfl | rfl | rfl | rfl | rfl | rfl | rfl | rfl | rfl
      · injection ho with ho; subst ho; exact ⟨rfl, rfl, rfl⟩
      · cases ho
      · cases ho
      · cases ho
      · cases ho
      · cases ho
      · cases ho
      · injection ho with ho; subst ho; exact ⟨rfl, rfl, c6 _ _ (aR _)⟩
      · injection ho with ho; subst ho; exact ⟨rfl, rfl, c6 _ _ (bq _)⟩
      · injection ho with ho; subst ho; exact ⟨rfl, rfl, c6 _ _ (bq _)⟩
      · injection ho with ho; subst ho; exact ⟨rfl, rfl, c6 _ _ (fb _)⟩
      · injection ho with ho; subst ho; exact ⟨rfl, rfl, c6 _ _ (bq _)⟩
      · injection ho with ho; subst ho; exact ⟨rfl, rfl, c6 _ _ (aR _)⟩
    · rw [(hv R).2]
      have e : lV [r, k, t, v, l, q, f] n H [(0, some (.cells (rdC 7 8 9 10 11 12 (F R).2) true)), (1, none), (2, none), (3, none), (4, none), (5, none), (6, none), (7, some (.cells (au (F R).2.ks) true)), (8, some (.cells (ints (F R).2.ts) true)), (9, some (.cells (ints (F R).2.vs) true)), (10, some (.cells (bw (F R).2.ls) true)), (11, some (.cells (ints (F R).2.q.times) true)), (12, some (.cells (au (F R).2.fs) true))] = uV H n r k t v l q f (F R).2 := by
        simp only [lV, Option.map_some, Option.map_none, fk, C6, cy _ _ (aR _), cy _ _ (bq _), cy _ _ (fb _)]
        rfl
      rw [e]; exact hs
  · exact hs.elim
end Go.Proofs.Ytdfeigkooeeeaaa
namespace Go.Proofs.Ytdfeigkooeeeaaa
open Go Go.RowKit
theorem wH : RTy 28 28 1 16 := ⟨_, _, _, rfl, rfl, (fun q h => by cases h), rfl, rfl, rfl, rfl, by decide, by decide⟩
theorem x8 : RTy 30 30 1 8 := ⟨_, _, _, rfl, rfl, (fun q h => by cases h), rfl, rfl, rfl, rfl, by decide, by decide⟩
theorem j7 (L : List (List Nat)) : br (au L) 0 (L.length * 1) = some (au L) := cS (by rw [c7, Nat.mul_one])
theorem eU (L : List Int) : br (ints L) 0 (L.length * 1) = some (ints L) := cS (by rw [iZ, Nat.mul_one])
theorem j8 (L : List Int) (x : Int) : ints L ++ [.si .i64 x] = ints (L ++ [x]) := by simp [ints]
structure fC (R R' : Rd) : Prop where
  ks : R'.ks = R.ks
  ts : R'.ts = R.ts
  vs : R'.vs = R.vs
  ls : R'.ls = R.ls
  q : R'.q = R.q
  fs : R'.fs = R.fs
theorem fC.trans {A B C : Rd} (h : fC A B) (k : fC B C) : fC A C := ⟨k.ks.trans h.ks, k.ts.trans h.ts, k.vs.trans h.vs, k.ls.trans h.ls, k.q.trans h.q, k.fs.trans h.fs⟩
theorem oG (R : Rd) (e : Int) : fC R (cg R e) := by unfold cg; split <;> exact ⟨rfl, rfl, rfl, rfl, rfl, rfl⟩
theorem bQ (R : Rd) : fC R (aa R).2 := by
  unfold aa
  split
  · exact ⟨rfl, rfl, rfl, rfl, rfl, rfl⟩
  · exact oG R 14
theorem fc (g : List Nat → Int × Int) (R : Rd) : fC R (ae g R).2 := by
  unfold ae
  dsimp only
  split
  · exact bQ R
  · exact (bQ R).trans (oG _ _)
theorem lO (w : List Nat) (z : Int) (R : Rd) : fC R (orR w z R).2 := by
  unfold orR
  split
  · exact bQ R
  · exact fc _ R
theorem WOk.or {R : Rd} (h : WOk R) (w : List Nat) (z : Int) : WOk (orR w z R).2 := by
  unfold orR
  split
  · exact h.next.2
  · exact h.told _
def aF (R : Rd) : Rd := { (aa R).2 with ks := (aa R).2.ks ++ [(aa R).1] }
noncomputable def bl (R : Rd) : Rd := { (orR [42] (-1) R).2 with ts := (orR [42] (-1) R).2.ts ++ [(orR [42] (-1) R).1] }
def cV (R : Rd) : Rd := { (ae ah R).2 with vs := (ae ah R).2.vs ++ [(ae ah R).1] }
def aH (f : Rd → Rd) (R : Rd) : AV × Rd := (.tup [], f R)
def x9 : DT := [(0, [(some 1000000, [5, 7]), (none, [0, 1, 2, 3, 4, 5, 6, 7, 8, 9, 10, 11, 12, 13]), (none, [0, 1, 2, 3, 4, 6, 7, 5, 8, 9, 10, 11, 12, 13])])]
noncomputable def KKy : FuncId → EP := dg 53 x9 (aG 73 (bZ (fun _ => True) noA lk) evP)
theorem GV : cm KKy := aX (an ba nE) (by kernel_rfl) (by kernel_rfl)
theorem AT (R : Rd) (hok : R.ks.length ≤ 1000000) : dh (aw KKy 4 53) (.ptr 0 0 :: []) (mkH (dr (rdO R) 0)) 7 (RdP (aH aF R).1 (aH aF R).2) := by
  obtain ⟨X, hX⟩ : ∃ X, X = (aa R).2 := ⟨_, rfl⟩
  have hl : R.ks.length ≤ 1000000 := hok
  have hk : X.ks = R.ks := by rw [hX]; exact (bQ R).ks
  have hlen1 : R.ks.length + 1 = (aF R).ks.length := by unfold aF; rw [← hX]; simp [hk]
  have hlen2 : X.ks.length + 1 = (aF R).ks.length := by rw [hk]; exact hlen1
  have hrow1 : br (au X.ks) 0 (R.ks.length * 1) = some (au X.ks) := by rw [hk]; exact j7 _
  have hrow2 : br (au X.ks) 0 (X.ks.length * 1) = some (au X.ks) := j7 _
  have hb1 : (R.ks.length + 1) * 16 ≤ 140737488355328 := by omega
  have hb2 : (X.ks.length + 1) * 16 ≤ 140737488355328 := by rw [hk]; omega
  have hm1 : oF 8 2 3 4 5 6 (R.ks.length + 1) (X.ts.length) (X.vs.length) (X.ls.length) (X.q.times.length) (X.fs.length) (aF R) = rdC 8 2 3 4 5 6 (aF R) := by rw [hlen1, hX]; rfl
  have hm2 : oF 8 2 3 4 5 6 (X.ks.length + 1) (X.ts.length) (X.vs.length) (X.ls.length) (X.q.times.length) (X.fs.length) (aF R) = rdC 8 2 3 4 5 6 (aF R) := by rw [hlen2, hX]; rfl
  have hc : (au X.ks ++ [AV.ss (aa R).1]).map mk = au (aF R).ks := by unfold aF; rw [te, aj, ← hX]
  subst hX
  show aw KKy 4 53 _ _ _ _
  conv => whnf
  refine ⟨?_, ?_, trivial⟩
  · conv => whnf
    refine ⟨0, 1, 2, 3, 4, 5, 6, R, rfl, rfl, ⟨by decide, by decide, rfl, rfl, rfl, rfl, rfl, rfl, rfl⟩, trivial, ?_⟩
    conv => whnf
    refine iL.grow 1 16 _ _ _ _ _ _ wH (.old rfl) rfl rfl (.rw rfl hrow1) hb1 ?_
    conv => whnf
    exact hZ 8 2 3 4 5 6 (.same rfl) (by decide) rfl hm1 rfl hc rfl (ai _) rfl (ai _) rfl (bf _) rfl (ai _) rfl (aj _)
  · conv => whnf
    refine ⟨0, 1, 2, 3, 4, 5, 6, R, rfl, rfl, ⟨by decide, by decide, rfl, rfl, rfl, rfl, rfl, rfl, rfl⟩, trivial, ?_⟩
    conv => whnf
    refine iL.grow 1 16 _ _ _ _ _ _ wH (.old rfl) rfl rfl (.rw rfl hrow2) hb2 ?_
    conv => whnf
    exact hZ 8 2 3 4 5 6 (.same rfl) (by decide) rfl hm2 rfl hc rfl (ai _) rfl (ai _) rfl (bf _) rfl (ai _) rfl (aj _)
theorem uW : aI 53 (bF (fun R => R.ks.length ≤ 1000000) noA (aH aF)) := bL (az GV 4 _) (by kernel_rfl) de (fun _ => rfl) (fun R => ⟨rfl, fun _ => rfl⟩) fun R h => AT R h
noncomputable def KTi : FuncId → EP := dg 69 x9 (aG 77 (bZ WOk (orA [42] (-1)) (orV [42] (-1))) evP)
theorem GW : cm KTi := aX (an ba (Ii [42] (-1))) (by kernel_rfl) (by kernel_rfl)
theorem ya (R : Rd) (hok : WOk R ∧ R.ts.length ≤ 1000000) : dh (aw KTi 4 69) (.ptr 0 0 :: []) (mkH (dr (rdO R) 0)) 7 (RdP (aH bl R).1 (aH bl R).2) := by
  obtain ⟨X, hX⟩ : ∃ X, X = (orR [42] (-1) R).2 := ⟨_, rfl⟩
  have hl : R.ts.length ≤ 1000000 := hok.2
  have hk : X.ts = R.ts := by rw [hX]; exact (lO [42] (-1) R).ts
  have hlen1 : R.ts.length + 1 = (bl R).ts.length := by unfold bl; rw [← hX]; simp [hk]
  have hlen2 : X.ts.length + 1 = (bl R).ts.length := by rw [hk]; exact hlen1
  have hrow1 : br (ints X.ts) 0 (R.ts.length * 1) = some (ints X.ts) := by rw [hk]; exact eU _
  have hrow2 : br (ints X.ts) 0 (X.ts.length * 1) = some (ints X.ts) := eU _
  have hb1 : (R.ts.length + 1) * 8 ≤ 140737488355328 := by omega
  have hb2 : (X.ts.length + 1) * 8 ≤ 140737488355328 := by rw [hk]; omega
  have hm1 : oF 1 8 3 4 5 6 (X.ks.length) (R.ts.length + 1) (X.vs.length) (X.ls.length) (X.q.times.length) (X.fs.length) (bl R) = rdC 1 8 3 4 5 6 (bl R) := by rw [hlen1, hX]; rfl
  have hm2 : oF 1 8 3 4 5 6 (X.ks.length) (X.ts.length + 1) (X.vs.length) (X.ls.length) (X.q.times.length) (X.fs.length) (bl R) = rdC 1 8 3 4 5 6 (bl R) := by rw [hlen2, hX]; rfl
  have hc : (ints X.ts ++ [AV.si .i64 (orR [42] (-1) R).1]).map mk = ints (bl R).ts := by unfold bl; rw [j8, ai, ← hX]
  subst hX
  show aw KTi 4 69 _ _ _ _
  conv => whnf
  refine ⟨?_, ?_, trivial⟩
  · conv => whnf
    refine ⟨0, 1, 2, 3, 4, 5, 6, R, rfl, ⟨_, _, rfl, rfl, rfl⟩, ⟨by decide, by decide, rfl, rfl, rfl, rfl, rfl, rfl, rfl⟩, hok.1, ?_⟩
    conv => whnf
    refine iL.grow 1 8 _ _ _ _ _ _ x8 (.old rfl) rfl rfl (.rw rfl hrow1) hb1 ?_
    conv => whnf
    exact hZ 1 8 3 4 5 6 (.same rfl) (by decide) rfl hm1 rfl (aj _) rfl hc rfl (ai _) rfl (bf _) rfl (ai _) rfl (aj _)
  · conv => whnf
    refine ⟨0, 1, 2, 3, 4, 5, 6, R, rfl, ⟨_, _, rfl, rfl, rfl⟩, ⟨by decide, by decide, rfl, rfl, rfl, rfl, rfl, rfl, rfl⟩, hok.1, ?_⟩
    conv => whnf
    refine iL.grow 1 8 _ _ _ _ _ _ x8 (.old rfl) rfl rfl (.rw rfl hrow2) hb2 ?_
    conv => whnf
    exact hZ 1 8 3 4 5 6 (.same rfl) (by decide) rfl hm2 rfl (aj _) rfl hc rfl (ai _) rfl (bf _) rfl (ai _) rfl (aj _)
theorem zc : aI 69 (bF (fun R => WOk R ∧ R.ts.length ≤ 1000000) noA (aH bl)) := bL (az GW 4 _) (by kernel_rfl) de (fun _ => rfl) (fun R => ⟨rfl, fun _ => rfl⟩) fun R h => ya R h
noncomputable def KVa : FuncId → EP := dg 68 x9 (aG 70 (bZ WOk noA (aQ ah)) evP)
theorem GX : cm KVa := aX (an ba jD) (by kernel_rfl) (by kernel_rfl)
theorem AU (R : Rd) (hok : WOk R ∧ R.vs.length ≤ 1000000) : dh (aw KVa 4 68) (.ptr 0 0 :: []) (mkH (dr (rdO R) 0)) 7 (RdP (aH cV R).1 (aH cV R).2) := by
  obtain ⟨X, hX⟩ : ∃ X, X = (ae ah R).2 := ⟨_, rfl⟩
  have hl : R.vs.length ≤ 1000000 := hok.2
  have hk : X.vs = R.vs := by rw [hX]; exact (fc ah R).vs
  have hlen1 : R.vs.length + 1 = (cV R).vs.length := by unfold cV; rw [← hX]; simp [hk]
  have hlen2 : X.vs.length + 1 = (cV R).vs.length := by rw [hk]; exact hlen1
  have hrow1 : br (ints X.vs) 0 (R.vs.length * 1) = some (ints X.vs) := by rw [hk]; exact eU _
  have hrow2 : br (ints X.vs) 0 (X.vs.length * 1) = some (ints X.vs) := eU _
  have hb1 : (R.vs.length + 1) * 8 ≤ 140737488355328 := by omega
  have hb2 : (X.vs.length + 1) * 8 ≤ 140737488355328 := by rw [hk]; omega
  have hm1 : oF 1 2 8 4 5 6 (X.ks.length) (X.ts.length) (R.vs.length + 1) (X.ls.length) (X.q.times.length) (X.fs.length) (cV R) = rdC 1 2 8 4 5 6 (cV R) := by rw [hlen1, hX]; rfl
  have hm2 : oF 1 2 8 4 5 6 (X.ks.length) (X.ts.length) (X.vs.length + 1) (X.ls.length) (X.q.times.length) (X.fs.length) (cV R) = rdC 1 2 8 4 5 6 (cV R) := by rw [hlen2, hX]; rfl
  have hc : (ints X.vs ++ [AV.si .i64 (ae ah R).1]).map mk = ints (cV R).vs := by unfold cV; rw [j8, ai, ← hX]
  subst hX
  show aw KVa 4 68 _ _ _ _
  conv => whnf
  refine ⟨?_, ?_, trivial⟩
  · conv => whnf
    refine ⟨0, 1, 2, 3, 4, 5, 6, R, rfl, rfl, ⟨by decide, by decide, rfl, rfl, rfl, rfl, rfl, rfl, rfl⟩, hok.1, ?_⟩
    conv => whnf
    refine iL.grow 1 8 _ _ _ _ _ _ x8 (.old rfl) rfl rfl (.rw rfl hrow1) hb1 ?_
    conv => whnf
    exact hZ 1 2 8 4 5 6 (.same rfl) (by decide) rfl hm1 rfl (aj _) rfl (ai _) rfl hc rfl (bf _) rfl (ai _) rfl (aj _)
  · conv => whnf
    refine ⟨0, 1, 2, 3, 4, 5, 6, R, rfl, rfl, ⟨by decide, by decide, rfl, rfl, rfl, rfl, rfl, rfl, rfl⟩, hok.1, ?_⟩
    conv => whnf
    refine iL.grow 1 8 _ _ _ _ _ _ x8 (.old rfl) rfl rfl (.rw rfl hrow2) hb2 ?_
    conv => whnf
    exact hZ 1 2 8 4 5 6 (.same rfl) (by decide) rfl hm2 rfl (aj _) rfl (ai _) rfl hc rfl (bf _) rfl (ai _) rfl (aj _)
theorem C7 : aI 68 (bF (fun R => WOk R ∧ R.vs.length ≤ 1000000) noA (aH cV)) := bL (az GX 4 _) (by kernel_rfl) de (fun _ => rfl) (fun R => ⟨rfl, fun _ => rfl⟩) fun R h => AU R h
end Go.Proofs.Ytdfeigkooeeeaaa
namespace Go.Proofs.Ytdfeigkooeeeaaa
open Go Go.RowKit
noncomputable def aU (R : Rd) : Rd := cV (bl (aF R))
def gK (f : Rd → Rd) : Nat → Rd → Rd
  | 0, R => R
  | k + 1, R => if ao R = true then gK f k (f R) else R
noncomputable def fe (R : Rd) : Rd := gK aU (aU R).ws.length (aU R)
theorem eQ (R : Rd) : (aa R).2.ws.length ≤ R.ws.length ∧ (ao R = true → (aa R).2.ws.length < R.ws.length) := by
  unfold aa
  split
  · rename_i h
    have hp : 0 < R.ws.length := by unfold ao at h; simp at h; exact h.2
    exact ⟨by simp, fun _ => by simp; omega⟩
  · rename_i h
    exact ⟨by rw [nD]; exact Nat.le_refl _, fun q => absurd q h⟩
theorem nF (g : List Nat → Int × Int) (R : Rd) : (ae g R).2.ws.length ≤ R.ws.length := by
  unfold ae
  dsimp only
  split
  · exact (eQ R).1
  · rw [nD]; exact (eQ R).1
theorem F4 (w : List Nat) (z : Int) (R : Rd) : (orR w z R).2.ws.length ≤ R.ws.length := by
  unfold orR
  split
  · exact (eQ R).1
  · exact nF _ R
theorem jb (R : Rd) : (aU R).ws.length ≤ R.ws.length ∧ (ao R = true → (aU R).ws.length < R.ws.length) := by
  have h1 : (aF R).ws.length = (aa R).2.ws.length := rfl
  have h2 : (bl (aF R)).ws.length ≤ (aF R).ws.length := F4 [42] (-1) (aF R)
  have h3 : (aU R).ws.length ≤ (bl (aF R)).ws.length := nF ah (bl (aF R))
  have h4 := eQ R
  exact ⟨by omega, fun h => by have := h4.2 h; omega⟩
theorem rr {R : Rd} (h : ao R = true) : 0 < R.ws.length := by unfold ao at h; simp at h; exact h.2
theorem wI {f : Rd → Rd} (hf : ∀ R, ao R = true → (f R).ws.length < R.ws.length) : ∀ (k l : Nat) (R : Rd), R.ws.length ≤ k → R.ws.length ≤ l → gK f k R = gK f l R
  | 0, 0, R, _, _ => rfl
  | 0, l + 1, R, h, _ => by
    have : ¬ ao R = true := fun q => by have := rr q; omega
    unfold gK; rw [if_neg this]
  | k + 1, 0, R, _, h => by
    have : ¬ ao R = true := fun q => by have := rr q; omega
    unfold gK; rw [if_neg this]
  | k + 1, l + 1, R, h1, h2 => by
    unfold gK
    split
    · rename_i q
      have := hf R q
      exact wI hf k l (f R) (by omega) (by omega)
    · rfl
theorem ES {f : Rd → Rd} (hf : ∀ R, ao R = true → (f R).ws.length < R.ws.length) {R : Rd} (h : ao R = true) : gK f (f R).ws.length (f R) = gK f R.ws.length R := by
  have h1 := rr h
  have h2 := hf R h
  obtain ⟨k, hk⟩ : ∃ k, R.ws.length = k + 1 := ⟨R.ws.length - 1, by omega⟩
  rw [hk]
  conv => rhs; unfold gK
  rw [if_pos h]
  exact wI hf _ _ _ (Nat.le_refl _) (by omega)
theorem tg {f : Rd → Rd} {R : Rd} (h : ¬ ao R = true) : ∀ k, gK f k R = R
  | 0 => rfl
  | k + 1 => by unfold gK; rw [if_neg h]
theorem wJ (R : Rd) : (aF R).ks.length = R.ks.length + 1 ∧ (aF R).ts = R.ts ∧ (aF R).vs = R.vs := by
  have h := bQ R
  refine ⟨?_, h.ts, h.vs⟩
  show ((aa R).2.ks ++ [(aa R).1]).length = _
  rw [h.ks]; simp
theorem th (R : Rd) : (bl R).ts.length = R.ts.length + 1 ∧ (bl R).ks = R.ks ∧ (bl R).vs = R.vs := by
  have h := lO [42] (-1) R
  refine ⟨?_, h.ks, h.vs⟩
  show ((orR [42] (-1) R).2.ts ++ [(orR [42] (-1) R).1]).length = _
  rw [h.ts]; simp
theorem C8 (R : Rd) : (cV R).vs.length = R.vs.length + 1 ∧ (cV R).ks = R.ks ∧ (cV R).ts = R.ts := by
  have h := fc ah R
  refine ⟨?_, h.ks, h.ts⟩
  show ((ae ah R).2.vs ++ [(ae ah R).1]).length = _
  rw [h.vs]; simp
theorem ti (R : Rd) : (aU R).ks.length = R.ks.length + 1 ∧ (aU R).ts.length = R.ts.length + 1 ∧ (aU R).vs.length = R.vs.length + 1 := by
  have k := wJ R
  have t := th (aF R)
  have v := C8 (bl (aF R))
  refine ⟨?_, ?_, ?_⟩
  · show (cV (bl (aF R))).ks.length = _; rw [v.2.1, t.2.1, k.1]
  · show (cV (bl (aF R))).ts.length = _; rw [v.2.2, t.1, k.2.1]
  · show (cV (bl (aF R))).vs.length = _; rw [v.1, t.2.2, k.2.2]
theorem WOk.key {R : Rd} (h : WOk R) : WOk (aF R) := h.next.2
theorem WOk.time {R : Rd} (h : WOk R) : WOk (bl R) := h.or [42] (-1)
theorem WOk.val {R : Rd} (h : WOk R) : WOk (cV R) := h.told ah
theorem WOk.iO {R : Rd} (h : WOk R) : WOk (aU R) := h.key.time.val
def Bd (B : Nat) (R : Rd) : Prop := WOk R ∧ R.ks.length + R.ws.length ≤ B ∧ R.ts.length + R.ws.length ≤ B ∧ R.vs.length + R.ws.length ≤ B
theorem Bd.iO {B : Nat} {R : Rd} (h : Bd B R) : Bd (B + 1) (aU R) ∧ (ao R = true → Bd B (aU R)) := by
  have r := ti R
  have w := jb R
  obtain ⟨h0, h1, h2, h3⟩ := h
  exact ⟨⟨h0.iO, by omega, by omega, by omega⟩, fun q => by have := w.2 q; exact ⟨h0.iO, by omega, by omega, by omega⟩⟩
noncomputable def KSa : FuncId → EP := aG 53 (bF (fun R => R.ks.length ≤ 1000000) noA (aH aF)) (aG 69 (bF (fun R => WOk R ∧ R.ts.length ≤ 1000000) noA (aH bl)) (aG 68 (bF (fun R => WOk R ∧ R.vs.length ≤ 1000000) noA (aH cV)) evP))
theorem GY : cm KSa := an (an (an ba C7) zc) uW
theorem wK (R : Rd) (hok : Bd 900000 R) : dh (aw KSa 4 67) (.ptr 0 0 :: []) (mkH (dr (rdO R) 0)) 7 (RdP (aH aU R).1 (aH aU R).2) := by
  obtain ⟨h0, h1, h2, h3⟩ := hok
  have k := wJ R
  have t := th (aF R)
  have b1 : R.ks.length ≤ 1000000 := by omega
  have b2 : (aF R).ts.length ≤ 1000000 := by rw [k.2.1]; omega
  have b3 : (bl (aF R)).vs.length ≤ 1000000 := by rw [t.2.2, k.2.2]; omega
  show aw KSa 4 67 _ _ _ _
  conv => whnf
  refine ⟨0, 1, 2, 3, 4, 5, 6, R, rfl, rfl, ⟨by decide, by decide, rfl, rfl, rfl, rfl, rfl, rfl, rfl⟩, b1, ?_⟩
  conv => whnf
  refine ⟨0, 7, 8, 9, 10, 11, 12, aF R, rfl, rfl, ⟨by decide, by decide, rfl, rfl, rfl, rfl, rfl, rfl, rfl⟩, ⟨h0.key, b2⟩, ?_⟩
  conv => whnf
  refine ⟨0, 13, 14, 15, 16, 17, 18, bl (aF R), rfl, rfl, ⟨by decide, by decide, rfl, rfl, rfl, rfl, rfl, rfl, rfl⟩, ⟨h0.key.time, b3⟩, ?_⟩
  conv => whnf
  exact hZ 19 20 21 22 23 24 (.same rfl) (by decide) rfl rfl rfl (aj _) rfl (ai _) rfl (ai _) rfl (bf _) rfl (ai _) rfl (aj _)
theorem wL : aI 67 (bF (Bd 900000) noA (aH aU)) := bL (az GY 4 _) (by kernel_rfl) de (fun _ => rfl) (fun R => ⟨rfl, fun _ => rfl⟩) fun R h => wK R h
noncomputable def KMa : FuncId → EP := aG 67 (bF (Bd 900000) noA (aH aU)) evP
theorem GZ : cm KMa := an ba wL
noncomputable def rdS (R : Rd) : AE × AH := (mkE [(0, .ptr 0 0)], rdM R)
theorem gR {σ : AE} {H : AH} {n : Nat} {R : Rd} (j1 j2 j3 j4 j5 j6 : Nat) {l l1 l2 l3 l4 l5 l6 : List AV} (he : aL (pa 0) σ = .ptr 0 0) (hd : [0, j1, j2, j3, j4, j5, j6].Nodup) (h0 : PM.get H 0 = some (.cells l true)) (hm : l.map mk = rdC j1 j2 j3 j4 j5 j6 R) (r1 : PM.get H j1 = some (.cells l1 true)) (m1 : l1.map mk = au R.ks) (r2 : PM.get H j2 = some (.cells l2 true)) (m2 : l2.map mk = ints R.ts) (r3 : PM.get H j3 = some (.cells l3 true)) (m3 : l3.map mk = ints R.vs) (r4 : PM.get H j4 = some (.cells l4 true)) (m4 : l4.map mk = bw R.ls) (r5 : PM.get H j5 = some (.cells l5 true)) (m5 : l5.map mk = ints R.q.times) (r6 : PM.get H j6 = some (.cells l6 true)) (m6 : l6.map mk = au R.fs) : Cov 7 σ H n ((rdS R).1, (rdS R).2, 13) :=
  x7 j1 j2 j3 j4 j5 j6 (le := [(0, .ptr 0 0)]) (fun x hx => by
    simp only [List.mem_cons, List.not_mem_nil, or_false] at hx
    subst hx
    exact ak.ptr (Nat.le_of_ble_eq_true rfl) (by rw [he]; rfl)) hd h0 hm r1 m1 r2 m2 r3 m3 r4 m4 r5 m5 r6 m6
theorem AW (R : Rd) (hok : Bd 800000 R) : dh (aw KMa 4 47) (.ptr 0 0 :: []) (mkH (dr (rdO R) 0)) 7 (RdP (aH fe R).1 (aH fe R).2) := by
  have hs := hok.iO.1
  have leaf : ∀ {R' : Rd} {H' : AH} {n' : Nat} {l : List AV}, fe R = R' → PM.get H' 0 = some (.cells l true) → l.map mk = rdC 7 8 9 10 11 12 R' → PM.get H' 7 = some (.cells (au R'.ks) true) → PM.get H' 8 = some (.cells (ints R'.ts) true) → PM.get H' 9 = some (.cells (ints R'.vs) true) → PM.get H' 10 = some (.cells (bw R'.ls) true) → PM.get H' 11 = some (.cells (ints R'.q.times) true) → PM.get H' 12 = some (.cells (au R'.fs) true) → ∃ v2 H2 m, Cov 7 (mkE [(0, .tup [])]) H' n' (mkE [(0, v2)], H2, m) ∧ RdP (aH fe R).1 (aH fe R).2 v2 H2 m := fun e h0 hm r1 r2 r3 r4 r5 r6 => by
    unfold aH; rw [e]
    exact hZ 7 8 9 10 11 12 (.same rfl) (by decide) h0 hm r1 (aj _) r2 (ai _) r3 (ai _) r4 (bf _) r5 (ai _) r6 (aj _)
  show aw KMa 4 47 _ _ _ _
  conv => whnf
  refine ⟨0, 1, 2, 3, 4, 5, 6, R, rfl, rfl, ⟨by decide, by decide, rfl, rfl, rfl, rfl, rfl, rfl, rfl⟩, ⟨hok.1, by have := hok.2.1; omega, by have := hok.2.2.1; omega, by have := hok.2.2.2; omega⟩, ?_⟩
  conv => whnf
  refine cW.mk { X : Rd // Bd 800001 X ∧ gK aU X.ws.length X = fe R } 13 (fun X => rdS X.val) (fun X => X.val.ws.length) ⟨aU R, hs, rfl⟩ ?_ ?_
  · exact gR 7 8 9 10 11 12 rfl (by decide) rfl rfl rfl (aj _) rfl (ai _) rfl (ai _) rfl (bf _) rfl (ai _) rfl (aj _)
  · intro ⟨X, hB, hX⟩
    conv => whnf
    refine ab.dec (fun h0 => ?_) (fun h0 => ?_)
    · conv => whnf
      refine ab.dec (fun hp => ?_) (fun hp => ?_)
      · have hp : 0 < X.ws.length := by exact Int.ofNat_lt.1 hp
        have hm := c8 h0 hp
        have hg := (ES (f := aU) (fun R q => (jb R).2 q) hm).trans hX
        have hb := hB.iO.2 hm
        have hlt := (jb X).2 hm
        conv => whnf
        refine ⟨0, 7, 8, 9, 10, 11, 12, X, rfl, rfl, ⟨by decide, by decide, rfl, rfl, rfl, rfl, rfl, rfl, rfl⟩, ⟨hB.1, by have := hB.2.1; omega, by have := hB.2.2.1; omega, by have := hB.2.2.2; omega⟩, ?_⟩
        conv => whnf
        exact ⟨⟨aU X, hb, hg⟩, hlt, gR 13 14 15 16 17 18 rfl (by decide) rfl rfl rfl (aj _) rfl (ai _) rfl (ai _) rfl (bf _) rfl (ai _) rfl (aj _)⟩
      · have hp : ¬ 0 < X.ws.length := fun q => hp (by exact Int.ofNat_lt.2 q)
        have e : fe R = X := by rw [← hX, tg (da hp)]
        conv => whnf
        exact leaf e rfl rfl rfl rfl rfl rfl rfl rfl
    · have e : fe R = X := by rw [← hX, tg (c9 h0)]
      conv => whnf
      exact leaf e rfl rfl rfl rfl rfl rfl rfl rfl
theorem G0 : aI 47 (bF (Bd 800000) noA (aH fe)) := bL (az GZ 4 _) (by kernel_rfl) de (fun _ => rfl) (fun R => ⟨rfl, fun _ => rfl⟩) fun R h => AW R h
end Go.Proofs.Ytdfeigkooeeeaaa
namespace Go.Proofs.Ytdfeigkooeeeaaa
open Go Go.RowKit
theorem HR.Ij {φ : Ph} {H : AH} {n : Nat} {h0 h : Hp} (hr : HR φ H n h0 h) {b m k x : Nat} {l s : List AV} {z : Bool} {v : Value} (hb : H.get b = some (.cells l z)) (hv : VR φ (.rw b 0 m k x) v) (hx : x ≠ 4) (hs : s.all flat.flat1 = true) (hsl : s.length = m * k) (hmk : l.map Go.Proofs.Ytdfeigkooeeeaaa.mk = s.map Go.Proofs.Ytdfeigkooeeeaaa.mk) :
    ∃ χ, PLe φ χ ∧ HR χ (H.set none ag b) n h0 h ∧ VR χ (.fr m k s) v := by
  have hk := hr.kill ag b
  have hll : l.length = m * k := by have := congrArg List.length hmk; simp only [List.length_map] at this; omega
  have hst : s.all dV = true := by
    rw [List.all_eq_true] at hs ⊢
    intro y hy
    have := hs y hy
    cases y <;> first | rfl | cases this
  rcases hv.fZ with ⟨h1, hem⟩ | ⟨p, a, C, hpb, rfl, h2, h3, h4, h5, _, _⟩
  · have hs0 : s = [] := List.eq_nil_of_length_eq_zero (by rw [hsl, h1, Nat.zero_mul])
    subst h1 hs0
    rw [hem.nil hx]
    exact ⟨φ, .refl φ, hk, .fre fun _ => rfl⟩
  · by_cases hm : m = 0
    · have hs0 : s = [] := List.eq_nil_of_length_eq_zero (by rw [hsl, hm, Nat.zero_mul])
      subst hm hs0
      exact ⟨φ, .refl φ, hk, .fre fun q => by cases q⟩
    · have ha := h2 hm
      subst ha
      obtain ⟨ob, hq0, hq1, cc, t, fz, rfl, o1, o2, o3, o4, o5⟩ := hr.of hb hpb
      refine ⟨φ.more fun q => q = ⟨p.B, p.s + 0, s⟩, φ.lN _, hk.more fun q hq => ?_, ?_⟩
      · subst hq
        refine ⟨⟨⟨(hr.dom _ _ hpb).2, hst⟩, cc, t, fz, hq1, (show p.s + 0 + s.length ≤ cc.size by omega), CR.nz o5 hmk hs⟩, hq0, fun b' o' p' e1 e2 e3 e4 => ?_, fun b' Q e1 e2 => ?_⟩
        rcases PM.aE ag H b b' o' e1 with ⟨_, h⟩ | ⟨h6, h7⟩
        · cases h
        · exact h6 (hr.inj b' b o' _ p' p h7 hb e2 rfl e3 hpb e4)
        rcases PM.aE ag H b b' _ e1 with ⟨_, h⟩ | ⟨_, h⟩
        · cases h
        · exact ((hr.sep b' Q h).2 _ e2).2.1 b _ p hb rfl hpb rfl
      · have : VR (φ.more fun q => q = ⟨p.B, p.s + 0, s⟩) (.fr m k s) (.slice (some ⟨p.B, p.s + 0 + 0, none⟩) m C) := .fr (q := ⟨p.B, p.s + 0, s⟩) (o := 0) (.inr rfl) h4 (cS hsl)
        exact this
theorem VRs.at' {φ : Ph} : ∀ {l : List AV} {vs : List Value}, VRs φ l vs → ∀ {i : Nat} {a : AV}, l[i]? = some a → ∃ v, vs[i]? = some v ∧ VR φ a v
  | [], _, _, i, a, h => by simp at h
  | b :: l, vs, hv, i, a, h => by
    obtain ⟨v, us, rfl, h1, h2⟩ := hv.cons_inv
    cases i with
    | zero => simp at h; subst h; exact ⟨v, rfl, h1⟩
    | succ i => simp at h; obtain ⟨w, h3, h4⟩ := VRs.at' h2 h; exact ⟨w, by simpa using h3, h4⟩
theorem VRs.Ik {φ χ : Ph} (hle : SLe φ χ) : ∀ {l : List AV} {vs : List Value}, VRs φ l vs → ∀ {i : Nat} {a' : AV} {v : Value}, vs[i]? = some v → VR χ a' v → VRs χ (l.set i a') vs
  | [], _, hv, i, a', v, h, _ => by rw [hv.aT] at h; simp at h
  | b :: l, vs, hv, i, a', v, h, hx => by
    obtain ⟨w, us, rfl, h1, h2⟩ := hv.cons_inv
    cases i with
    | zero => simp at h; subst h; exact .cons hx (VRs.dq hle _ _ h2)
    | succ i => simp at h; exact .cons (h1.dq hle) (VRs.Ik hle h2 h hx)
theorem AX.oH {H : AH} {n i b m k : Nat} {l L s : List AV} {x : AV} {z : Bool} (hi : l[i]? = some (.rw b 0 m k 0)) (hb : H.get b = some (.cells L z)) (hs : s.all flat.flat1 = true) (hsl : s.length = m * k) (hmk : L.map mk = s.map mk) :
    ∀ (φ : Ph) (h0 h : Hp) (w : Value), HR φ H n h0 h → VR φ (.tup [.agg l, x]) w → ∃ ψ, PLe φ ψ ∧ HR ψ (H.set none ag b) n h0 h ∧ VR ψ (.tup [.agg (l.set i (.fr m k s)), x]) w := fun φ h0 h w hr hw => by
  obtain ⟨cs, rfl, hv⟩ := hw.eM
  obtain ⟨v1, v2, rfl, e1, e2⟩ := vs2 hv
  obtain ⟨ds, rfl, hd⟩ := e1.eK
  obtain ⟨v, h1, h2⟩ := VRs.at' hd hi
  obtain ⟨χ, k1, k2, k3⟩ := hr.Ij hb h2 (by decide) hs hsl hmk
  exact ⟨χ, k1, k2, .tup (.cons (.agg (VRs.Ik k1.s hd h1 k3)) (.cons (e2.dq k1.s) .nil))⟩
end Go.Proofs.Ytdfeigkooeeeaaa
namespace Go.Proofs.Ytdfeigkooeeeaaa
open Go Go.RowKit
def JM : AV → Bool
  | .tup [.agg l, x] => l.all dV && dV x
  | v => dV v
theorem ru {φ ψ : Ph} (hz : ∀ q, φ.z q → ψ.z q) : ∀ {l : List AV} {vs : List Value}, l.all dV = true → VRs φ l vs → VRs ψ l vs
  | [], _, _, h => by rw [h.aT]; exact .nil
  | a :: l, vs, hs, h => by
    obtain ⟨v, us, rfl, h1, h2⟩ := h.cons_inv
    simp only [List.all_cons, Bool.and_eq_true] at hs
    exact .cons (hE hz hs.1 h1) (ru hz hs.2 h2)
theorem C9 {φ ψ : Ph} (hz : ∀ q, φ.z q → ψ.z q) {l : List AV} {x : AV} {w : Value} (hl : l.all dV = true) (hx : dV x = true) (h : VR φ (.tup [.agg l, x]) w) : VR ψ (.tup [.agg l, x]) w := by
  obtain ⟨cs, rfl, hv⟩ := h.eM
  obtain ⟨v1, v2, rfl, e1, e2⟩ := vs2 hv
  obtain ⟨ds, rfl, hd⟩ := e1.eK
  exact .tup (.cons (.agg (ru hz hl hd)) (.cons (hE hz hx e2) .nil))
def rv : List (Nat × List Nat) := [(1, [84, 83, 46, 67, 82, 69, 65, 84, 69]), (2, [84, 83, 46, 65, 76, 84, 69, 82]), (3, [84, 83, 46, 65, 68, 68]), (4, [84, 83, 46, 77, 65, 68, 68]), (5, [84, 83, 46, 73, 78, 67, 82, 66, 89]), (6, [84, 83, 46, 68, 69, 67, 82, 66, 89]), (7, [84, 83, 46, 68, 69, 76]), (8, [68, 69, 76]), (9, [84, 83, 46, 67, 82, 69, 65, 84, 69, 82, 85, 76, 69]), (10, [84, 83, 46, 68, 69, 76, 69, 84, 69, 82, 85, 76, 69]), (11, [84, 83, 46, 71, 69, 84]), (12, [84, 83, 46, 77, 71, 69, 84]), (13, [84, 83, 46, 82, 65, 78, 71, 69]), (14, [84, 83, 46, 77, 82, 65, 78, 71, 69]), (15, [84, 83, 46, 81, 85, 69, 82, 89, 73, 78, 68, 69, 88]), (16, [84, 83, 46, 73, 78, 70, 79])]
def eg : List (Nat × List Nat) := [(13, [84, 83, 46, 82, 69, 86, 82, 65, 78, 71, 69]), (14, [84, 83, 46, 77, 82, 69, 86, 82, 65, 78, 71, 69])]
def yb (args : List AV) (H : AH) (n : Nat) (κ : PK) : Prop := match args with
  | [x, y] => ∃ (b : Nat) (N : List (Nat × List Nat)) (w : List Nat) (k : Nat), mk x = .ss w ∧ y = .map b ∧ b < n ∧ H.get b = some (.map (fB N)) ∧ jn N = true ∧ (∀ c ∈ w, c < 256) ∧ w.length ≤ 1000000 ∧ whF N (upF w) = k ∧ κ (.si .i64 (Int.ofNat k)) H n
  | _ => False
theorem Da : aI 23 yb := fun args H n κ hs => y4 args H n κ (by
  unfold yb at hs
  unfold CJ
  split at hs
  · obtain ⟨b, N, w, k, h1, h2, h3, h4, h5, h6, h7, h8, h9⟩ := hs
    subst h8
    exact ⟨b, N, w, h1, h2, h3, h4, h5, h6, h7, h9⟩
  · exact hs.elim)
def noQ : Qry := ⟨0, 0, false, 0, 0, 0, 0, false, [], false, 0, 0⟩
def aJ (ws : List (List Nat)) (k : Int) (b : Bool) : Rd := ⟨ws, 0, k, [], [], [], -1, -1, 0, [], false, 0, 0, 0, 0, 0, { noQ with back := b }, [], [], 0⟩
def ET (R : Rd) : List AV := .fr R.ws.length 1 (au R.ws) :: .si .i64 R.e :: cmC .nsl .nsl .nsl .nsl .nsl .nsl R
inductive NR : List AV → List AV → Prop where
  | nil : NR [] []
  | same (a : AV) {l m : List AV} (h : NR l m) : NR (a :: l) (a :: m)
  | row (b k : Nat) {l m : List AV} (h : NR l m) : NR (.nsl :: l) (.rw b 0 0 k 0 :: m)
theorem NR.at : ∀ {l0 l1 : List AV}, NR l0 l1 → ∀ {l : List AV}, l.map Go.Proofs.Ytdfeigkooeeeaaa.mk = l0 → ∀ (φ : Ph) (i : Nat) (a' : AV), l1[i]? = some a' → ∃ a, l[i]? = some a ∧ ∀ v, VR φ a v → VR φ a' v
  | _, _, .nil, l, e, φ, i, a', h => by simp at h
  | _, _, .same a hn, l, e, φ, i, a', h => by
    cases l with
    | nil => cases e
    | cons x l =>
      simp only [List.map_cons, List.cons.injEq] at e
      cases i with
      | zero => simp at h; subst h; exact ⟨x, rfl, fun v hv => by rw [← e.1]; exact hv.mk⟩
      | succ i => simp at h; obtain ⟨y, h1, h2⟩ := NR.at hn e.2 φ i a' h; exact ⟨y, by simpa using h1, h2⟩
  | _, _, .row b k hn, l, e, φ, i, a', h => by
    cases l with
    | nil => cases e
    | cons x l =>
      simp only [List.map_cons, List.cons.injEq] at e
      cases i with
      | zero =>
        simp at h; subst h
        refine ⟨x, rfl, fun v hv => ?_⟩
        have h1 := hv.mk
        rw [e.1] at h1
        rw [h1.cZ]
        (try simp only [VR]); exact .inl ⟨trivial, .inl rfl⟩
      | succ i => simp at h; obtain ⟨y, h1, h2⟩ := NR.at hn e.2 φ i a' h; exact ⟨y, by simpa using h1, h2⟩
noncomputable def Il (H : AH) (n r : Nat) (R : Rd) : AH := PM.set (some (.cells (rdC n (n + 1) (n + 2) (n + 3) (n + 4) (n + 5) R) true)) ag (PM.set (some (.cells [] true)) ag (PM.set (some (.cells [] true)) ag (PM.set (some (.cells [] true)) ag (PM.set (some (.cells [] true)) ag (PM.set (some (.cells [] true)) ag (PM.set (some (.cells [] true)) ag H n) (n + 1)) (n + 2)) (n + 3)) (n + 4)) (n + 5)) r
theorem EU (ws : List (List Nat)) (k : Int) (b : Bool) (n : Nat) : NR (ET (aJ ws k b)) (rdC n (n + 1) (n + 2) (n + 3) (n + 4) (n + 5) (aJ ws k b)) :=
  .same _ (.same _ (.same _ (.row _ _ (.row _ _ (.row _ _ (.same _ (.same _ (.same _ (.row _ _ (.same _ (.same _ (.same _ (.same _ (.same _ (.same _ (.same _ (.same _ (.same _ (.same _ (.same _ (.same _ (.same _ (.same _ (.row _ _ (.same _ (.same _ (.same _ (.row _ _ (.same _ (.same _ .nil))))))))))))))))))))))))))))))
theorem cJ.reader {H : AH} {n r : Nat} {l : List AV} {ws : List (List Nat)} {k : Int} {b : Bool} (hr : H.get r = some (.cells l true)) (hl : l.map Go.Proofs.Ytdfeigkooeeeaaa.mk = ET (aJ ws k b)) (hrn : r < n) (hn : n + 10 < 2 ^ 40) : cJ H n (Il H n r (aJ ws k b)) (n + 6) := fun φ h0 h h1 => by
  have a1 := h1.lM (o := .cells [] true) rfl
  have a2 := a1.lM (o := .cells [] true) rfl
  have a3 := a2.lM (o := .cells [] true) rfl
  have a4 := a3.lM (o := .cells [] true) rfl
  have a5 := a4.lM (o := .cells [] true) rfl
  have a6 := a5.lM (o := .cells [] true) rfl
  have g1 := PM.aA (v := some (AO.cells [] true)) ag _ n r (by show n + 1 < 2 ^ 40; omega) (by omega) hr
  have g2 := PM.aA (v := some (AO.cells [] true)) ag _ (n + 1) r (by show n + 1 + 1 < 2 ^ 40; omega) (by omega) g1
  have g3 := PM.aA (v := some (AO.cells [] true)) ag _ (n + 2) r (by show n + 2 + 1 < 2 ^ 40; omega) (by omega) g2
  have g4 := PM.aA (v := some (AO.cells [] true)) ag _ (n + 3) r (by show n + 3 + 1 < 2 ^ 40; omega) (by omega) g3
  have g5 := PM.aA (v := some (AO.cells [] true)) ag _ (n + 4) r (by show n + 4 + 1 < 2 ^ 40; omega) (by omega) g4
  have g6 := PM.aA (v := some (AO.cells [] true)) ag _ (n + 5) r (by show n + 5 + 1 < 2 ^ 40; omega) (by omega) g5
  exact a6.CC g6 (by have := congrArg List.length hl; rw [List.length_map] at this; rw [this]; rfl) fun i a' hi => (EU ws k b n).at hl φ i a' hi
end Go.Proofs.Ytdfeigkooeeeaaa
namespace Go.Proofs.Ytdfeigkooeeeaaa
open Go Go.RowKit
def ll (es : List (AV × AV)) (args : List AV) (H : AH) (n : Nat) (κ : PK) : Prop := match args with
  | [] => κ (.map n) (H.set (some (.map es)) ag n) (n + 1)
  | _ => False
theorem ry {f : FuncId} {es : List (AV × AV)} (hic : eD Try.prog f = true) (hren : ∀ r, xX r es = es) (hlt : ltE 1 es = true) (h : ∀ Q : PK, aw evP 3 f [] .nil 0 Q = Q (.map 0) (mkH [(0, .map es)]) 1) : aI f (ll es) := fun args H n κ hs φ h0' hp vs K hr hargs hk => by
  unfold ll at hs
  split at hs
  · refine ri (S := []) (O := []) (args0 := []) (az ba 3 _) hic hr ⟨List.nodup_nil, rfl, fun i s o h1 h2 => by simp at h1⟩ hargs hk (Q := fun u H' n' => u = .map 0 ∧ H' = mkH [(0, .map es)] ∧ n' = 1) ((h _).mpr ⟨rfl, rfl, rfl⟩) fun u H' n' ⟨g0, g1, g2⟩ => ?_
    subst g0 g1 g2
    refine ⟨1, lV [] n H [(0, some (.map es))], Nat.zero_le _, k8.put (Nat.zero_le _) rfl (fun x hx o ho => ?_), rfl, ?_⟩
    · simp only [List.mem_cons, List.not_mem_nil, or_false] at hx
      subst hx
      injection ho with ho; subst ho; exact ⟨rfl, rfl, hlt⟩
    · have e : lV [] n H [(0, some (.map es))] = H.set (some (.map es)) ag n := by
        simp only [lV, Option.map_some, fk, hren]
        rfl
      rw [e]; exact hs
  · exact hs.elim
def Im : List (AV × AV) := [(.int .i64 1, .fn 45 [] []), (.int .i64 2, .fn 45 [] []), (.int .i64 3, .fn 46 [] []), (.int .i64 4, .fn 47 [] []), (.int .i64 5, .fn 48 [] []), (.int .i64 6, .fn 48 [] []), (.int .i64 7, .fn 49 [] []), (.int .i64 8, .fn 50 [] []), (.int .i64 9, .fn 51 [] []), (.int .i64 10, .fn 52 [] []), (.int .i64 11, .fn 53 [] []), (.int .i64 12, .fn 54 [] []), (.int .i64 13, .fn 55 [] []), (.int .i64 14, .fn 56 [] []), (.int .i64 15, .fn 57 [] []), (.int .i64 16, .fn 53 [] [])]
theorem zd : aI 24 (ll (fB rv)) := ry (by kernel_rfl) (fun r => lg r _) (pJ 1 _) (fun Q => by kernel_rfl)
theorem Db : aI 25 (ll (fB eg)) := ry (by kernel_rfl) (fun r => lg r _) (pJ 1 _) (fun Q => by kernel_rfl)
theorem EV : aI 26 (ll Im) := ry (by kernel_rfl) (fun r => rfl) rfl (fun Q => by kernel_rfl)
end Go.Proofs.Ytdfeigkooeeeaaa
namespace Go.Proofs.Ytdfeigkooeeeaaa
open Go Go.RowKit
def cmF (R : Rd) : List AV := cmC (.fr R.ks.length 1 (au R.ks)) (.fr R.ts.length 1 (ints R.ts)) (.fr R.vs.length 1 (ints R.vs)) (.fr R.ls.length 2 (bw R.ls)) (.fr R.q.times.length 1 (ints R.q.times)) (.fr R.fs.length 1 (au R.fs)) R
def ky : Rd := ⟨[], 0, 0, [], [], [], 0, 0, 0, [], false, 0, 0, 0, 0, 0, noQ, [], [], 0⟩
def dP (R : Rd) : Rd := if ao R = true then cg R 14 else R
def j9 (R : Rd) : AV := .tup [.agg (cmF (if R.e = 0 then R else ky)), .si .i64 R.e]
inductive NF : List AV → List AV → Prop where
  | nil : NF [] []
  | same (a : AV) {l m : List AV} (h : NF l m) : NF (a :: l) (a :: m)
  | row (k : Nat) {l m : List AV} (h : NF l m) : NF (.nsl :: l) (.fr 0 k [] :: m)
theorem NF.vrs {φ : Ph} : ∀ {l0 l1 : List AV}, NF l0 l1 → ∀ {l : List AV}, l.map Go.Proofs.Ytdfeigkooeeeaaa.mk = l0 → ∀ {vs : List Value}, VRs φ l vs → VRs φ l1 vs
  | _, _, .nil, l, e, vs, h => by
    cases l with
    | nil => exact h
    | cons _ _ => cases e
  | _, _, .same a hn, l, e, vs, h => by
    cases l with
    | nil => cases e
    | cons x l =>
      simp only [List.map_cons, List.cons.injEq] at e
      obtain ⟨v, us, rfl, h1, h2⟩ := h.cons_inv
      exact .cons (by rw [← e.1]; exact h1.mk) (NF.vrs hn e.2 h2)
  | _, _, .row k hn, l, e, vs, h => by
    cases l with
    | nil => cases e
    | cons x l =>
      simp only [List.map_cons, List.cons.injEq] at e
      obtain ⟨v, us, rfl, h1, h2⟩ := h.cons_inv
      refine .cons ?_ (NF.vrs hn e.2 h2)
      have h3 := h1.mk
      rw [e.1] at h3
      rw [h3.cZ]; exact .fre fun _ => rfl
theorem G1 {φ : Ph} {l l1 : List AV} {x : AV} {z : Int} (h : NF (l.map Go.Proofs.Ytdfeigkooeeeaaa.mk) l1) (hx : Go.Proofs.Ytdfeigkooeeeaaa.mk x = .si .i64 z) {w : Value} (hw : VR φ (.tup [.agg l, x]) w) : VR φ (.tup [.agg l1, .si .i64 z]) w := by
  obtain ⟨cs, rfl, hv⟩ := hw.eM
  obtain ⟨v1, v2, rfl, e1, e2⟩ := vs2 hv
  obtain ⟨ds, rfl, hd⟩ := e1.eK
  exact .tup (.cons (.agg (h.vrs rfl hd)) (.cons (by have := e2.mk; rw [hx] at this; exact this) .nil))
def FzT (u : AV) (H : AH) (n : Nat) (v : AV) : Prop := ∀ (φ : Ph) (h0 h : Hp) (w : Value), HR φ H n h0 h → VR φ u w → ∃ ψ, PLe φ ψ ∧ (∃ H2, HR ψ H2 n h0 h) ∧ VR ψ v w
def F5 (g : List AV → AH → Nat → PK → Prop) (args : List AV) (H : AH) (n : Nat) (Q : AV → Prop) : Prop := g args H n fun u H' n' => ∃ v, FzT u H' n' v ∧ Q v
theorem FzT.zero {l : List AV} {x : AV} {H : AH} {n : Nat} {R : Rd} (he : ¬ R.e = 0) (h : NF (l.map Go.Proofs.Ytdfeigkooeeeaaa.mk) (cmF ky)) (hx : Go.Proofs.Ytdfeigkooeeeaaa.mk x = .si .i64 R.e) : FzT (.tup [.agg l, x]) H n (j9 R) := fun φ h0 h1 w hr hw => ⟨φ, .refl φ, ⟨H, hr⟩, by
  unfold j9; rw [if_neg he]; exact G1 h hx hw⟩
theorem FzT.rows {H : AH} {n : Nat} {R : Rd} {x : AV} (a b c d e f : Nat) (hd : [a, b, c, d, e, f].Nodup) (hn : a + 1 < 2 ^ 40 ∧ b + 1 < 2 ^ 40 ∧ c + 1 < 2 ^ 40 ∧ d + 1 < 2 ^ 40 ∧ e + 1 < 2 ^ 40) (he : R.e = 0) (hx : Go.Proofs.Ytdfeigkooeeeaaa.mk x = .si .i64 R.e)
    (r1 : H.get a = some (.cells (au R.ks) true)) (r2 : H.get b = some (.cells (ints R.ts) true)) (r3 : H.get c = some (.cells (ints R.vs) true)) (r4 : H.get d = some (.cells (bw R.ls) true)) (r5 : H.get e = some (.cells (ints R.q.times) true)) (r6 : H.get f = some (.cells (au R.fs) true)) :
    FzT (.tup [.agg (cmC (.rw a 0 R.ks.length 1 0) (.rw b 0 R.ts.length 1 0) (.rw c 0 R.vs.length 1 0) (.rw d 0 R.ls.length 2 0) (.rw e 0 R.q.times.length 1 0) (.rw f 0 R.fs.length 1 0) R), x]) H n (j9 R) := fun φ h0 h w hr hw => by
  simp only [List.nodup_cons, List.mem_cons, List.not_mem_nil, or_false, not_or, List.nodup_nil, and_true, not_false_eq_true] at hd
  obtain ⟨ψ1, p1, q1, w1⟩ := AX.oH (i := 1) (s := au R.ks) rfl r1 (aR _) (by rw [c7, Nat.mul_one]) rfl φ h0 h w hr hw
  obtain ⟨ψ2, p2, q2, w2⟩ := AX.oH (i := 2) (s := ints R.ts) rfl (PM.aA _ _ _ _ hn.1 (by omega) r2) (bq _) (by rw [iZ, Nat.mul_one]) rfl ψ1 h0 h w q1 w1
  obtain ⟨ψ3, p3, q3, w3⟩ := AX.oH (i := 3) (s := ints R.vs) rfl (PM.aA _ _ _ _ hn.2.1 (by omega) (PM.aA _ _ _ _ hn.1 (by omega) r3)) (bq _) (by rw [iZ, Nat.mul_one]) rfl ψ2 h0 h w q2 w2
  obtain ⟨ψ4, p4, q4, w4⟩ := AX.oH (i := 7) (s := bw R.ls) rfl (PM.aA _ _ _ _ hn.2.2.1 (by omega) (PM.aA _ _ _ _ hn.2.1 (by omega) (PM.aA _ _ _ _ hn.1 (by omega) r4))) (fb _) (pd _) rfl ψ3 h0 h w q3 w3
  obtain ⟨ψ5, p5, q5, w5⟩ := AX.oH (i := 22) (s := ints R.q.times) rfl (PM.aA _ _ _ _ hn.2.2.2.1 (by omega) (PM.aA _ _ _ _ hn.2.2.1 (by omega) (PM.aA _ _ _ _ hn.2.1 (by omega) (PM.aA _ _ _ _ hn.1 (by omega) r5)))) (bq _) (by rw [iZ, Nat.mul_one]) rfl ψ4 h0 h w q4 w4
  obtain ⟨ψ6, p6, q6, w6⟩ := AX.oH (i := 26) (s := au R.fs) rfl (PM.aA _ _ _ _ hn.2.2.2.2 (by omega) (PM.aA _ _ _ _ hn.2.2.2.1 (by omega) (PM.aA _ _ _ _ hn.2.2.1 (by omega) (PM.aA _ _ _ _ hn.2.1 (by omega) (PM.aA _ _ _ _ hn.1 (by omega) r6))))) (aR _) (by rw [c7, Nat.mul_one]) rfl ψ5 h0 h w q5 w5
  refine ⟨ψ6, ((((p1.trans p2).trans p3).trans p4).trans p5).trans p6, ⟨_, q6⟩, ?_⟩
  unfold j9; rw [if_pos he]
  obtain ⟨cs, rfl, hv⟩ := w6.eM
  obtain ⟨v1, v2, rfl, e1, e2⟩ := vs2 hv
  exact .tup (.cons e1 (.cons (by have := e2.mk; rw [hx] at this; exact this) .nil))
theorem AY : jn rv = true := by decide +kernel
theorem AZ : jn eg = true := by decide +kernel
def Io : List AV := cmC .nsl .nsl .nsl .nsl .nsl .nsl ky
theorem lP : NF Io (cmF ky) :=
  .same _ (.row _ (.row _ (.row _ (.same _ (.same _ (.same _ (.row _ (.same _ (.same _ (.same _ (.same _ (.same _ (.same _ (.same _ (.same _ (.same _ (.same _ (.same _ (.same _ (.same _ (.same _ (.row _ (.same _ (.same _ (.same _ (.row _ (.same _ (.same _ .nil))))))))))))))))))))))))))))
def Dc (g : List AV → AH → Nat → PK → Prop) (args : List AV) (H : AH) (n : Nat) (κ : PK) : Prop := ∃ H2 n2, cJ H n H2 n2 ∧ g args H2 n2 κ
theorem aI.Dc {f : FuncId} {g : List AV → AH → Nat → PK → Prop} (hg : aI f g) : aI f (Dc g) := fun args H n κ ⟨H2, n2, h1, h2⟩ φ h0 h vs K hr ha hk => hg args H2 n2 κ h2 φ h0 h vs K (h1 φ h0 h hr) ha hk
def EW : DT := [(4, [(some 1000000, [3, 4]), (none, [0, 1, 2, 3, 4, 5, 6, 7, 8, 9]), (none, [0, 1, 2, 4, 3, 5, 6, 7, 8, 9])]), (5, [(some 1000000, [2, 3]), (none, [0, 1, 2, 3, 4, 5]), (none, [0, 1, 3, 2, 4, 5])]),
  (8, [(some 1000000, [0, 5]), (none, [0, 1, 2, 3, 4, 5, 6, 7, 8, 9, 10, 11]), (none, [1, 2, 3, 4, 5, 0, 6, 7, 8, 9, 10, 11])]),
  (15, [(some 1000000, [4, 5]), (none, [0, 1, 2, 3, 4, 5, 6]), (none, [0, 1, 2, 3, 5, 4, 6])])]
end Go.Proofs.Ytdfeigkooeeeaaa
namespace Go.Proofs.Ytdfeigkooeeeaaa
open Go Go.RowKit
section
variable {φ ψ : Ph} {H : AH} {n : Nat} {h0 hp : Hp}
theorem wM {H' : AH} {n' : Nat} {g : Hp} (hr : HR φ H n h0 hp) (hg : HR ψ H' n' hp g) (hy : ∀ q, ψ.y q → φ.z q) : ∃ χ, PLe φ χ ∧ HR χ H n h0 g ∧ ∀ q, ψ.z q → χ.z q := by
  have hg2 : HR φ H n h0 g := hr.grow (fun b o hb => (hg.base b o hb).2) hg.size
  have hb0 : ∀ B, hp.f B = none → h0.f B = none := fun B e => by
    cases q : h0.f B with
    | none => rfl
    | some o => have := (hr.base B o q).2; rw [e] at this; cases this
  have own : ∀ B, hp.f B = none → ∀ b o p, H.get b = some o → o.own = true → φ b = some p → p.B ≠ B := fun B e b o p hb hw hp' q => by
    obtain ⟨ob, _, h1, _⟩ := hr.of hb hp'
    rw [q, e] at h1; cases h1
  have nsp : ∀ B, hp.f B = none → ∀ b Q, H.get b = some (.sep Q) → ¬ φ.s b B := fun B e b Q hb hB => by
    obtain ⟨o, ho⟩ := Q.ex _ _ _ _ (hr.sep b Q hb).1 hB
    rw [e] at ho; cases ho
  have sub : ∀ q, ψ.z q → (φ.more fun q => ψ.z q ∧ hp.f q.B = none).z q := fun q hq => by
    obtain ⟨⟨_, hyq⟩, _⟩ := hg.frz q hq
    rcases hyq with hyq | hyq
    · exact .inl (hy q hyq)
    · exact .inr ⟨hq, hyq⟩
  refine ⟨φ.more fun q => ψ.z q ∧ hp.f q.B = none, φ.lN _, hg2.more fun q hq => ?_, sub⟩
  obtain ⟨⟨hf, _⟩, _⟩ := hg.frz q hq.1
  exact ⟨FzR.mono sub hf, hb0 _ hq.2, own _ hq.2, nsp _ hq.2⟩
theorem Dd {f : FuncId} {run : List AV → AH → Nat → PK → Prop} (hrun : aI f run) {args0 : List AV} {H0 : AH} {n0 : Nat} {l : List AV} {x : AV} (hl : l.all dV = true) (hx : dV x = true) (h : F5 run args0 H0 n0 fun v => v = .tup [.agg l, x])
    {vs : Array Value} {κ : PK} {K : KH} (hk' : κ (.tup [.agg l, x]) H n) (hr : HR φ H n h0 hp) (hk : dZ φ h0 κ K) (hic : eD Try.prog f = true) {φ0 : Ph} (hr0 : Wf hp → HR φ0 H0 n0 hp hp) (hy : φ0.y = φ.z) (hargs : VRs φ0 args0 vs.toList) : fS Try.prog f vs hp K := by
  have key : Wf hp → fS Try.prog f vs hp K := fun hw => hrun args0 H0 n0 _ h φ0 hp hp vs K (hr0 hw) hargs fun ψ u H' n' w g hle hg hu ⟨v, hf, hv⟩ => by
    subst hv
    obtain ⟨ψ2, p2, ⟨H2, g2⟩, v2⟩ := hf ψ hp g w hg hu
    obtain ⟨χ, h1, h2, h3⟩ := wM hr g2 (fun q hq => hy ▸ (hle.trans p2).y q hq)
    exact hk χ _ H n w g h1 h2 (C9 h3 hl hx v2) hk'
  exact ⟨hic, fun w hi => (key hi.wf).2 w hi⟩
end
theorem aC (R : Rd) : (cmF R).all dV = true := rfl
end Go.Proofs.Ytdfeigkooeeeaaa
namespace Go.Proofs.Ytdfeigkooeeeaaa
open Go Go.RowKit
def oI : List Nat := [82, 69, 84, 69, 78, 84, 73, 79, 78]
def lX : List Nat := [67, 72, 85, 78, 75, 95, 83, 73, 90, 69]
def ln : List Nat := [68, 85, 80, 76, 73, 67, 65, 84, 69, 95, 80, 79, 76, 73, 67, 89]
def lp : List Nat := [76, 65, 66, 69, 76, 83]
def rz : List Nat := [79, 78, 95, 68, 85, 80, 76, 73, 67, 65, 84, 69]
def iI : List Nat := [84, 73, 77, 69, 83, 84, 65, 77, 80]
def di : List Nat := [65, 71, 71, 82, 69, 71, 65, 84, 73, 79, 78]
def yc : List Nat := [70, 73, 76, 84, 69, 82, 95, 66, 89, 95, 84, 83]
def se : List Nat := [70, 73, 76, 84, 69, 82, 95, 66, 89, 95, 86, 65, 76, 85, 69]
def pw : List Nat := [67, 79, 85, 78, 84]
def kE : List Nat := [65, 76, 73, 71, 78]
def jE : List Nat := [69, 77, 80, 84, 89]
def gj : List Nat := [71, 82, 79, 85, 80, 66, 89]
def iJ : List Nat := [82, 69, 68, 85, 67, 69]
def cu : List Nat := [70, 73, 76, 84, 69, 82]
def muR (R : Rd) : Nat := 2 * R.ws.length + (if R.e = 0 then 1 else 0)
def ma (c : Rd → Bool) (f : Rd → Rd) : Nat → Rd → Rd
  | 0, R => R
  | k + 1, R => if c R = true then ma c f k (f R) else R
def wh (c : Rd → Bool) (f : Rd → Rd) (R : Rd) : Rd := ma c f (muR R) R
theorem tj {c : Rd → Bool} {f : Rd → Rd} (hf : ∀ R, c R = true → muR (f R) < muR R) : ∀ (k l : Nat) (R : Rd), muR R ≤ k → muR R ≤ l → ma c f k R = ma c f l R
  | 0, 0, R, _, _ => rfl
  | 0, l + 1, R, h, _ => by
    have : ¬ c R = true := fun q => by have := hf R q; omega
    unfold ma; rw [if_neg this]
  | k + 1, 0, R, _, h => by
    have : ¬ c R = true := fun q => by have := hf R q; omega
    unfold ma; rw [if_neg this]
  | k + 1, l + 1, R, h1, h2 => by
    unfold ma
    split
    · rename_i q
      have := hf R q
      exact tj hf k l (f R) (by omega) (by omega)
    · rfl
theorem fT {c : Rd → Bool} {f : Rd → Rd} (hf : ∀ R, c R = true → muR (f R) < muR R) {R : Rd} (h : c R = true) : wh c f (f R) = wh c f R := by
  have h1 := hf R h
  obtain ⟨k, hk⟩ : ∃ k, muR R = k + 1 := ⟨muR R - 1, by omega⟩
  unfold wh
  rw [hk]
  conv => rhs; unfold ma
  rw [if_pos h]
  exact tj hf _ _ _ (Nat.le_refl _) (by omega)
theorem bU {c : Rd → Bool} {f : Rd → Rd} {R : Rd} (h : ¬ c R = true) : wh c f R = R := by
  unfold wh
  generalize muR R = k
  cases k with
  | zero => rfl
  | succ k => unfold ma; rw [if_neg h]
theorem ke {c : Rd → Bool} {f : Rd → Rd} (P : Rd → Prop) (hP : ∀ R, c R = true → P R → P (f R)) (R : Rd) (h : P R) : P (wh c f R) := by
  unfold wh
  generalize muR R = k
  induction k generalizing R with
  | zero => exact h
  | succ k ih =>
    unfold ma
    split
    · rename_i q; exact ih _ (hP R q h)
    · exact h
def stF (f : Rd → Int × Rd) (g : Int → Rd → Rd) (R : Rd) : Rd := g (f R).1 (f R).2
def lq (z : Int) (R : Rd) : Rd := { R with fr := z }
def mb (z : Int) (R : Rd) : Rd := { R with to := z }
def fD (z : Int) (R : Rd) : Rd := { R with kd := z }
def ez (z : Int) (R : Rd) : Rd := { R with bk := z }
def jc (z : Int) (R : Rd) : Rd := { R with al := z }
def oJ (z : Int) (R : Rd) : Rd := { R with ret := z }
def oK (z : Int) (R : Rd) : Rd := { R with siz := z }
def fE (z : Int) (R : Rd) : Rd := { R with pol := z }
def kz (z : Int) (R : Rd) : Rd := { R with rd := z }
def mc (z : Int) (R : Rd) : Rd := { R with q := { R.q with f := z } }
def wN (z : Int) (R : Rd) : Rd := { R with q := { R.q with t := z } }
def nG (z : Int) (R : Rd) : Rd := { R with q := { R.q with count := z } }
def fF (z : Int) (R : Rd) : Rd := { R with q := { R.q with kind := z } }
def iK (z : Int) (R : Rd) : Rd := { R with q := { R.q with size := z } }
def me (z : Int) (R : Rd) : Rd := { R with q := { R.q with align := z } }
def kA (z : Int) (R : Rd) : Rd := { R with q := { R.q with kC := true, low := z } }
def nH (z : Int) (R : Rd) : Rd := { R with q := { R.q with high := z } }
noncomputable def fG (R : Rd) : Rd := aF (aF R)
noncomputable def wO (R : Rd) : Rd := stF (ae ah) mb (stF (ae ah) lq (aF R))
noncomputable def gL (R : Rd) : Rd := if atR iI (cV (aF R)) = true then bl (aa (cV (aF R))).2 else { cV (aF R) with ts := [-1] }
noncomputable def lr (R : Rd) : Rd := wh ao aF (aF R)
noncomputable def gW (R : Rd) : Rd := stF (ae ah) ez (stF (ae aN) fD (bj di (fG R)).2)
noncomputable def cI (R : Rd) : Rd := if ao (gW R) = true then stF (ae ah) jc (gW R) else gW R
noncomputable def kF (R : Rd) : Rd := if atR rz (aU R) = true then stF (ae bS) fE (aa (aU R)).2 else aU R
def fH (R : Rd) : Rd := { (aa (aa R).2).2 with ls := (aa (aa R).2).2.ls ++ [((aa R).1, (aa (aa R).2).1)] }
noncomputable def nI (R : Rd) : Rd := wh ao fH { R with lbd := true }
noncomputable def cK (R : Rd) : Rd :=
  if R.ret = -1 ∧ atR oI R = true then stF hY oJ (aa R).2
  else if R.nm = 1 ∧ R.siz = -1 ∧ atR lX R = true then stF hY oK (aa R).2
  else if R.pol = 0 ∧ atR ln R = true then stF (ae bS) fE (aa R).2
  else if atR lp R = true then nI (aa R).2 else cg R 17
noncomputable def mK (R : Rd) : Rd := wh ao cK (aF R)
def dQ (R : Rd) : Rd := { (aa R).2 with fs := (aa R).2.fs ++ [(aa R).1] }
noncomputable def eG (R : Rd) : Bool := ao R && !atR gj R
noncomputable def jq (R : Rd) : Rd := wh eG dQ (dQ R)
noncomputable def ff (R : Rd) : Rd := jq (bj cu R).2
def gS (z : Int) (R : Rd) : Rd := { R with q := { R.q with times := R.q.times ++ [z] } }
def gT (R : Rd) : Rd := gS (ah (R.ws.headD [])).1 (aa R).2
def fP (R : Rd) : Bool := ao R && decide ((ah (R.ws.headD [])).2 = 0)
noncomputable def gk (R : Rd) : Rd := stF (orR [43] 1099511627776) wN (stF (orR [45] 0) mc R)
noncomputable def fI (R : Rd) : Rd := if atR yc R = true then wh fP gT (stF (ae ah) gS (aa R).2) else R
noncomputable def iP (R : Rd) : Rd := if atR se R = true then stF (ae ah) nH (stF (ae ah) kA (aa R).2) else R
noncomputable def jF (R : Rd) : Rd := if atR pw R = true then stF (ae ah) nG (aa R).2 else R
noncomputable def pe (R : Rd) : Rd := stF (ae ah) iK (stF (ae aN) fF (aa R).2)
noncomputable def fJ (R : Rd) : Rd := if atR kE R = true then stF (ae ah) me (aa R).2 else R
noncomputable def fU (R : Rd) : Rd := if atR jE R = true then { (aa R).2 with q := { (aa R).2.q with empty := true } } else { R with q := { R.q with empty := false } }
noncomputable def mL (R : Rd) : Rd := if atR di R = true then fU (fJ (pe R)) else R
noncomputable def eV (R : Rd) : Rd := mL (jF (iP (fI (gk R))))
noncomputable def wP (R : Rd) : Rd := eV (aF R)
noncomputable def rA (R : Rd) : Rd := ff (eV R)
noncomputable def yd (R : Rd) : Rd := { (aa (aa R).2).2 with gr := (aa (aa R).2).1 }
noncomputable def mM (R : Rd) : Rd := if atR gj (rA R) = true then stF (ae aN) kz (bj iJ (yd (rA R))).2 else rA R
structure Bz (B : Nat) (R : Rd) : Prop where
  ok : WOk R
  ks : R.ks.length + R.ws.length ≤ B
  ts : R.ts.length + R.ws.length ≤ B
  vs : R.vs.length + R.ws.length ≤ B
  ls : R.ls.length + R.ws.length ≤ B
  q : R.q.times.length + R.ws.length ≤ B
  fs : R.fs.length + R.ws.length ≤ B
theorem Bz.mono {B C : Nat} {R : Rd} (h : Bz B R) (hc : B ≤ C) : Bz C R := ⟨h.ok, Nat.le_trans h.ks hc, Nat.le_trans h.ts hc, Nat.le_trans h.vs hc, Nat.le_trans h.ls hc, Nat.le_trans h.q hc, Nat.le_trans h.fs hc⟩
theorem Bz.same {B : Nat} {R S : Rd} (h : Bz B R) (hr : fC R S) (hw : S.ws.length ≤ R.ws.length) (hk : WOk S) : Bz B S := by
  obtain ⟨h0, h1, h2, h3, h4, h5, h6⟩ := h
  refine ⟨hk, ?_, ?_, ?_, ?_, ?_, ?_⟩
  · rw [hr.ks]; omega
  · rw [hr.ts]; omega
  · rw [hr.vs]; omega
  · rw [hr.ls]; omega
  · rw [hr.q]; omega
  · rw [hr.fs]; omega
theorem Bz.next {B : Nat} {R : Rd} (h : Bz B R) : Bz B (aa R).2 := h.same (bQ R) (eQ R).1 h.ok.next.2
theorem Bz.told {B : Nat} {R : Rd} (h : Bz B R) (g : List Nat → Int × Int) : Bz B (ae g R).2 := h.same (fc g R) (nF g R) (h.ok.told g)
theorem Bz.orW {B : Nat} {R : Rd} (h : Bz B R) (w : List Nat) (z : Int) : Bz B (orR w z R).2 := h.same (lO w z R) (F4 w z R) (h.ok.or w z)
theorem Bz.fail {B : Nat} {R : Rd} (h : Bz B R) (e : Int) : Bz B (cg R e) := h.same (oG R e) (by rw [nD]; exact Nat.le_refl _) (h.ok.fail e)
theorem Bz.pos {B : Nat} {R : Rd} (h : Bz B R) : Bz B (hY R).2 := by
  unfold hY
  dsimp only
  split
  · exact (h.told ah).fail 16
  · exact h.told ah
theorem Bz.nJ {B : Nat} {R : Rd} (h : Bz B R) (w : List Nat) : Bz B (bj w R).2 := by
  unfold bj
  dsimp only
  split
  · exact h.next
  · exact h.next.fail 17
theorem Bz.key {B : Nat} {R : Rd} (h : Bz B R) : Bz (B + 1) (aF R) := by
  have q := h.next.mono (Nat.le_succ B)
  have k := h.next.ks
  exact ⟨q.ok, by show ((aa R).2.ks ++ [(aa R).1]).length + (aa R).2.ws.length ≤ _; rw [List.length_append, List.length_singleton]; omega, q.ts, q.vs, q.ls, q.q, q.fs⟩
theorem Bz.time {B : Nat} {R : Rd} (h : Bz B R) : Bz (B + 1) (bl R) := by
  have q := (h.orW [42] (-1)).mono (Nat.le_succ B)
  have k := (h.orW [42] (-1)).ts
  exact ⟨q.ok, q.ks, by show ((orR [42] (-1) R).2.ts ++ [(orR [42] (-1) R).1]).length + (orR [42] (-1) R).2.ws.length ≤ _; rw [List.length_append, List.length_singleton]; omega, q.vs, q.ls, q.q, q.fs⟩
theorem Bz.val {B : Nat} {R : Rd} (h : Bz B R) : Bz (B + 1) (cV R) := by
  have q := (h.told ah).mono (Nat.le_succ B)
  have k := (h.told ah).vs
  exact ⟨q.ok, q.ks, q.ts, by show ((ae ah R).2.vs ++ [(ae ah R).1]).length + (ae ah R).2.ws.length ≤ _; rw [List.length_append, List.length_singleton]; omega, q.ls, q.q, q.fs⟩
theorem Bz.Ip {B : Nat} {R : Rd} (h : Bz B R) (hm : ao R = true) : Bz B (aF R) := by
  have q := h.next
  have w := (eQ R).2 hm
  exact ⟨q.ok, by show ((aa R).2.ks ++ [(aa R).1]).length + (aa R).2.ws.length ≤ _; rw [List.length_append, List.length_singleton, (bQ R).ks]; have := h.ks; omega, q.ts, q.vs, q.ls, q.q, q.fs⟩
theorem Bz.iO {B : Nat} {R : Rd} (h : Bz B R) : Bz (B + 3) (aU R) := h.key.time.val
theorem Bz.lb1 {B : Nat} {R : Rd} (h : Bz B R) (hm : ao R = true) : Bz B (fH R) := by
  have q := h.next.next
  have w := (eQ R).2 hm
  have w2 := (eQ (aa R).2).1
  exact ⟨q.ok, q.ks, q.ts, q.vs, by show ((aa (aa R).2).2.ls ++ [_]).length + (aa (aa R).2).2.ws.length ≤ _; rw [List.length_append, List.length_singleton, (bQ _).ls, (bQ R).ls]; have := h.ls; omega, q.q, q.fs⟩
theorem Bz.fs1 {B : Nat} {R : Rd} (h : Bz B R) : Bz (B + 1) (dQ R) := by
  have q := h.next.mono (Nat.le_succ B)
  have k := h.next.fs
  exact ⟨q.ok, q.ks, q.ts, q.vs, q.ls, q.q, by show ((aa R).2.fs ++ [(aa R).1]).length + (aa R).2.ws.length ≤ _; rw [List.length_append, List.length_singleton]; omega⟩
theorem Bz.De {B : Nat} {R : Rd} (h : Bz B R) (hm : ao R = true) : Bz B (dQ R) := by
  have q := h.next
  have w := (eQ R).2 hm
  exact ⟨q.ok, q.ks, q.ts, q.vs, q.ls, q.q, by show ((aa R).2.fs ++ [(aa R).1]).length + (aa R).2.ws.length ≤ _; rw [List.length_append, List.length_singleton, (bQ R).fs]; have := h.fs; omega⟩
theorem Bz.ptT {B : Nat} {R : Rd} (h : Bz B R) (z : Int) : Bz (B + 1) (gS z R) := by
  have q := h.mono (Nat.le_succ B)
  exact ⟨q.ok, q.ks, q.ts, q.vs, q.ls, by show (R.q.times ++ [z]).length + R.ws.length ≤ _; rw [List.length_append, List.length_singleton]; have := h.q; omega, q.fs⟩
theorem Bz.tm1 {B : Nat} {R : Rd} (h : Bz B R) (hm : ao R = true) : Bz B (gT R) := by
  have q := h.next
  have w := (eQ R).2 hm
  exact ⟨q.ok, q.ks, q.ts, q.vs, q.ls, by show ((aa R).2.q.times ++ [_]).length + (aa R).2.ws.length ≤ _; rw [List.length_append, List.length_singleton, (bQ R).q]; have := h.q; omega, q.fs⟩
theorem nK {R : Rd} (h : ao R = true) : muR (aa R).2 + 1 < muR R := by
  have h1 := (eQ R).2 h
  have h2 : R.e = 0 := by unfold ao at h; simp at h; exact h.1
  have h3 : (aa R).2.e = 0 := by unfold aa; rw [if_pos h]; exact h2
  unfold muR
  rw [if_pos h2, if_pos h3]
  omega
theorem Dg {R S : Rd} (hw : S.ws.length ≤ R.ws.length) (he : S.e = 0 → R.e = 0) : muR S ≤ muR R := by
  unfold muR
  by_cases h : S.e = 0
  · rw [if_pos h, if_pos (he h)]; omega
  · rw [if_neg h]; split <;> omega
theorem ye {R : Rd} {e : Int} (h : (cg R e).e = 0) : R.e = 0 := by
  unfold cg at h
  split at h
  · assumption
  · exact h
theorem yf {R : Rd} (h : (aa R).2.e = 0) : R.e = 0 := by
  unfold aa at h
  split at h
  · exact h
  · exact ye h
theorem Dh {g : List Nat → Int × Int} {R : Rd} (h : (ae g R).2.e = 0) : R.e = 0 := by
  unfold ae at h
  dsimp only at h
  split at h
  · exact yf h
  · exact yf (ye h)
theorem ze (g : List Nat → Int × Int) (R : Rd) : muR (ae g R).2 ≤ muR R := Dg (nF g R) Dh
theorem Di (R : Rd) : muR (aa R).2 ≤ muR R := Dg (eQ R).1 yf
theorem Dj (R : Rd) : muR (hY R).2 ≤ muR R := by
  unfold hY
  dsimp only
  split
  · exact Dg (by rw [nD]; exact nF _ _) fun h => Dh (ye h)
  · exact ze _ _
theorem yg {R : Rd} (h : ao R = true) : muR (aF R) < muR R := by have := nK h; exact Nat.lt_of_succ_lt this
theorem ia {R : Rd} (h : eG R = true) : muR (dQ R) < muR R := by
  have := nK (show ao R = true by unfold eG at h; simp at h; exact h.1)
  exact Nat.lt_of_succ_lt this
theorem uX {R : Rd} (h : fP R = true) : muR (gT R) < muR R := by
  have := nK (show ao R = true by unfold fP at h; simp at h; exact h.1)
  exact Nat.lt_of_succ_lt this
theorem jd {R : Rd} (h : ao R = true) : muR (fH R) < muR R := by
  have h1 := nK h
  have h2 := Di (aa R).2
  have h3 : muR (fH R) = muR (aa (aa R).2).2 := rfl
  omega
theorem Iq {c : Rd → Bool} {f : Rd → Rd} (hf : ∀ R, c R = true → muR (f R) < muR R) (R : Rd) : muR (wh c f R) ≤ muR R :=
  ke (fun S => muR S ≤ muR R) (fun S h q => Nat.le_trans (Nat.le_of_lt (hf S h)) q) R (Nat.le_refl _)
theorem lQ {R : Rd} (h : ao R = true) : muR (cK R) < muR R := by
  have h1 := nK h
  have h2 : muR (cg R 17) < muR R := by
    have h0 : R.e = 0 := by unfold ao at h; simp at h; exact h.1
    unfold cg
    rw [if_pos h0]
    unfold muR
    rw [if_pos h0, if_neg (by decide : ¬ (17 : Int) = 0)]
    show 2 * R.ws.length + 0 < _
    omega
  unfold cK
  split
  · exact Nat.lt_of_le_of_lt (Dj (aa R).2) (by omega)
  · split
    · exact Nat.lt_of_le_of_lt (Dj (aa R).2) (by omega)
    · split
      · exact Nat.lt_of_le_of_lt (ze bS (aa R).2) (by omega)
      · split
        · have h4 : muR (nI (aa R).2) ≤ muR (aa R).2 := Iq (fun _ => jd) { (aa R).2 with lbd := true }
          omega
        · exact h2
theorem Bz.lab {B : Nat} {R : Rd} (h : Bz B R) : Bz B (nI R) := ke (Bz B) (fun S hm q => q.lb1 hm) { R with lbd := true } ⟨h.ok, h.ks, h.ts, h.vs, h.ls, h.q, h.fs⟩
theorem Bz.set {B : Nat} {R : Rd} (h : Bz B R) (S : Rd) (hw : S.ws = R.ws := by rfl) (h1 : S.ks = R.ks := by rfl) (h2 : S.ts = R.ts := by rfl) (h3 : S.vs = R.vs := by rfl) (h4 : S.ls = R.ls := by rfl) (h5 : S.q.times = R.q.times := by rfl) (h6 : S.fs = R.fs := by rfl) : Bz B S :=
  ⟨fun w q => h.ok w (hw ▸ q), by rw [h1, hw]; exact h.ks, by rw [h2, hw]; exact h.ts, by rw [h3, hw]; exact h.vs, by rw [h4, hw]; exact h.ls, by rw [h5, hw]; exact h.q, by rw [h6, hw]; exact h.fs⟩
theorem Bz.cs1 {B : Nat} {R : Rd} (h : Bz B R) : Bz B (cK R) := by
  unfold cK
  split
  · exact h.next.pos.set _
  · split
    · exact h.next.pos.set _
    · split
      · exact (h.next.told bS).set _
      · split
        · exact h.next.lab
        · exact h.fail 17
theorem Bz.keys {B : Nat} {R : Rd} (h : Bz B R) : Bz (B + 2) (fG R) := h.key.key
theorem Bz.fil {B : Nat} {R : Rd} (h : Bz B R) : Bz (B + 1) (jq R) := ke (Bz (B + 1)) (fun S hm q => q.De (by unfold eG at hm; simp at hm; exact hm.1)) (dQ R) h.fs1
theorem Bz.o1 {B : Nat} {R : Rd} (h : Bz B R) : Bz B (gk R) := (((h.orW [45] 0).set (stF (orR [45] 0) mc R)).orW [43] 1099511627776).set _
theorem Bz.o2 {B : Nat} {R : Rd} (h : Bz B R) : Bz (B + 1) (fI R) := by
  unfold fI
  split
  · exact ke (Bz (B + 1)) (fun S hm q => q.tm1 (by unfold fP at hm; simp at hm; exact hm.1)) _ ((h.next.told ah).ptT _)
  · exact h.mono (Nat.le_succ B)
theorem Bz.o3 {B : Nat} {R : Rd} (h : Bz B R) : Bz B (iP R) := by
  unfold iP
  split
  · exact (((h.next.told ah).set (stF (ae ah) kA (aa R).2)).told ah).set _
  · exact h
theorem Bz.o4 {B : Nat} {R : Rd} (h : Bz B R) : Bz B (jF R) := by
  unfold jF
  split
  · exact (h.next.told ah).set _
  · exact h
theorem Bz.o5a {B : Nat} {R : Rd} (h : Bz B R) : Bz B (pe R) := (((h.next.told aN).set (stF (ae aN) fF (aa R).2)).told ah).set _
theorem Bz.o5b {B : Nat} {R : Rd} (h : Bz B R) : Bz B (fJ R) := by
  unfold fJ
  split
  · exact (h.next.told ah).set _
  · exact h
theorem Bz.o5c {B : Nat} {R : Rd} (h : Bz B R) : Bz B (fU R) := by
  unfold fU
  split
  · exact h.next.set _
  · exact h.set _
theorem Bz.o5 {B : Nat} {R : Rd} (h : Bz B R) : Bz B (mL R) := by
  unfold mL
  split
  · exact h.o5a.o5b.o5c
  · exact h
theorem Bz.opt {B : Nat} {R : Rd} (h : Bz B R) : Bz (B + 1) (eV R) := h.o1.o2.o3.o4.o5
theorem Bz.sj {B : Nat} {R : Rd} (h : Bz B R) : Bz (B + 1) (ff R) := (h.nJ cu).fil
end Go.Proofs.Ytdfeigkooeeeaaa
namespace Go.Proofs.Ytdfeigkooeeeaaa
open Go Go.RowKit
def je (ok : Rd → Prop) (A : List AV → Prop) (F : Rd → AV × Rd) (args : List AV) (H : AH) (n : Nat) (κ : PK) : Prop := match args with
  | x :: ar => ∃ (r k t v l q f : Nat) (R : Rd) (u : AV) (R' : Rd), x = .ptr r 0 ∧ A ar ∧ x1 H n r k t v l q f R ∧ ok R ∧ F R = (u, R') ∧ κ u (x2 H r k t v l q f R') n
  | _ => False
theorem aI.rdE {f : FuncId} {ok : Rd → Prop} {A : List AV → Prop} {F : Rd → AV × Rd} (h : aI f (bZ ok A F)) : aI f (je ok A F) := fun args H n κ hs => h args H n κ (by
  unfold je at hs
  unfold bZ
  split at hs
  · obtain ⟨r, k, t, v, l, q, f, R, u, R', h1, h2, h3, h4, h5, h6⟩ := hs
    exact ⟨r, k, t, v, l, q, f, R, h1, h2, h3, h4, by rw [h5]; exact h6⟩
  · exact hs.elim)
def Dk (args : List AV) (H : AH) (n : Nat) (κ : PK) : Prop := ∃ w, je WOk (wF w) (jo w) args H n κ
theorem G2 : aI 62 Dk := fun args H n κ ⟨w, h⟩ => (Ih w).rdE args H n κ h
def zf (args : List AV) (H : AH) (n : Nat) (κ : PK) : Prop := ∃ w, bZ WOk (wF w) (bj w) args H n κ
theorem EY : aI 71 zf := fun args H n κ ⟨w, h⟩ => C2 w args H n κ h
def F6 (args : List AV) (H : AH) (n : Nat) (κ : PK) : Prop := ∃ w z, bZ WOk (orA w z) (orV w z) args H n κ
theorem Ir : aI 77 F6 := fun args H n κ ⟨w, z, h⟩ => Ii w z args H n κ h
theorem kf {w : List Nat} {R : Rd} (h : atR w R = true) : jo w R = (.sb true, (aa R).2) := by unfold jo; rw [if_pos h]
theorem mN {w : List Nat} {R : Rd} (h : ¬ atR w R = true) : jo w R = (.sb false, R) := by unfold jo; rw [if_neg h]
theorem bI {F : Rd → Rd} {S : Rd} {R : Rd} (e : F S = R) {u : AV} {H : AH} {n : Nat} (j1 j2 j3 j4 j5 j6 : Nat) {l : List AV} (hv : ak H 13 (rdN j1 j2 j3 j4 j5 j6) u (.tup [])) (hd : [0, j1, j2, j3, j4, j5, j6].Nodup) (h0 : PM.get H 0 = some (.cells l true)) (hm : l.map mk = rdC j1 j2 j3 j4 j5 j6 R) (r1 : PM.get H j1 = some (.cells (au R.ks) true)) (r2 : PM.get H j2 = some (.cells (ints R.ts) true)) (r3 : PM.get H j3 = some (.cells (ints R.vs) true)) (r4 : PM.get H j4 = some (.cells (bw R.ls) true)) (r5 : PM.get H j5 = some (.cells (ints R.q.times) true)) (r6 : PM.get H j6 = some (.cells (au R.fs) true)) :
    ∃ v2 H2 m, Cov 7 (mkE [(0, u)]) H n (mkE [(0, v2)], H2, m) ∧ RdP (aH F S).1 (aH F S).2 v2 H2 m := by
  subst e
  exact hZ j1 j2 j3 j4 j5 j6 hv hd h0 hm r1 (aj _) r2 (ai _) r3 (ai _) r4 (bf _) r5 (ai _) r6 (aj _)
theorem lu {σ : AE} {H : AH} {n : Nat} {R : Rd} (j1 j2 j3 j4 j5 j6 : Nat) {l : List AV} (he : aL (pa 0) σ = .ptr 0 0) (hd : [0, j1, j2, j3, j4, j5, j6].Nodup) (h0 : PM.get H 0 = some (.cells l true)) (hm : l.map mk = rdC j1 j2 j3 j4 j5 j6 R) (r1 : PM.get H j1 = some (.cells (au R.ks) true)) (r2 : PM.get H j2 = some (.cells (ints R.ts) true)) (r3 : PM.get H j3 = some (.cells (ints R.vs) true)) (r4 : PM.get H j4 = some (.cells (bw R.ls) true)) (r5 : PM.get H j5 = some (.cells (ints R.q.times) true)) (r6 : PM.get H j6 = some (.cells (au R.fs) true)) : Cov 7 σ H n ((rdS R).1, (rdS R).2, 13) :=
  gR j1 j2 j3 j4 j5 j6 he hd h0 hm r1 (aj _) r2 (ai _) r3 (ai _) r4 (bf _) r5 (ai _) r6 (aj _)
theorem Bz.kk {B : Nat} {R : Rd} (h : Bz B R) (hb : B ≤ 1000000 := by decide) : R.ks.length ≤ 1000000 := by have := h.ks; omega
theorem Bz.tt {B : Nat} {R : Rd} (h : Bz B R) (hb : B ≤ 1000000 := by decide) : WOk R ∧ R.ts.length ≤ 1000000 := ⟨h.ok, by have := h.ts; omega⟩
theorem Bz.vv {B : Nat} {R : Rd} (h : Bz B R) (hb : B ≤ 1000000 := by decide) : WOk R ∧ R.vs.length ≤ 1000000 := ⟨h.ok, by have := h.vs; omega⟩
theorem Bz.bd {B : Nat} {R : Rd} (h : Bz B R) (hb : B ≤ 900000 := by decide) : Bd 900000 R := ⟨h.ok, by have := h.ks; omega, by have := h.ts; omega, by have := h.vs; omega⟩
noncomputable def atV (w : List Nat) (R : Rd) : AV × Rd := (.sb (atR w R), R)
theorem EZ (w : List Nat) (R : Rd) (hok : WOk R) : post (aw KHs 5 75) (.ptr 0 0 :: [.ss w]) (mkH (dr (rdO R) 0)) 7 (RdK (atV w R).1 (atV w R).2) := by
  have leaf : ∀ {v : AV} {u : AV} {H' : AH} {n' : Nat} {l : List AV}, AV.sb (atR w R) = v → mk u = v → PM.get H' 0 = some (.cells l true) → l.map mk = rdC 1 2 3 4 5 6 R → PM.get H' 1 = some (.cells (au R.ks) true) → PM.get H' 2 = some (.cells (ints R.ts) true) → PM.get H' 3 = some (.cells (ints R.vs) true) → PM.get H' 4 = some (.cells (bw R.ls) true) → PM.get H' 5 = some (.cells (ints R.q.times) true) → PM.get H' 6 = some (.cells (au R.fs) true) → ∃ v2 H2 n2, VTo u v2 ∧ cJ H' n' H2 n2 ∧ RdK (atV w R).1 (atV w R).2 v2 H2 n2 := fun e hu h0 hm r1 r2 r3 r4 r5 r6 => by
    unfold atV; rw [e]; exact gy (VTo.mkv hu) h0 hm r1 r2 r3 r4 r5 r6
  show aw KHs 5 75 _ _ _ _
  conv => whnf
  refine ab.dec (fun h0 => ?_) (fun h0 => ?_)
  · conv => whnf
    refine ab.dec (fun hp => ?_) (fun hp => ?_)
    · have hp : 0 < R.ws.length := by exact Int.ofNat_lt.1 hp
      have hw := hok _ (List.getElem_mem hp)
      rw [pM hp] at hw
      conv => whnf
      refine Idx.mk 0 rfl hp ?_
      conv => whnf
      refine aO (gi hp) ?_
      conv => whnf
      refine ⟨R.ws.headD [], rfl, hw.1, hw.2, ?_⟩
      have e : AV.sb (atR w R) = .sb (bg (upF (R.ws.headD [])) w) := by unfold atR; rw [c8 h0 hp]; rfl
      conv => whnf
      exact leaf e rfl rfl rfl rfl rfl rfl rfl rfl rfl
    · have hp : ¬ 0 < R.ws.length := fun q => hp (by exact Int.ofNat_lt.2 q)
      have e : AV.sb (atR w R) = .sb false := by unfold atR; rw [show ao R = false from Bool.eq_false_iff.2 (da hp)]; rfl
      have hd : AV.sb (decide ((0 : Int) < (R.ws.length : Int))) = .sb false := congrArg AV.sb (decide_eq_false (fun q : (0 : Int) < (R.ws.length : Int) => hp (by omega)))
      conv => whnf
      exact leaf e (by first | rfl | exact hd) rfl rfl rfl rfl rfl rfl rfl rfl
  · have e : AV.sb (atR w R) = .sb false := by unfold atR; rw [show ao R = false from Bool.eq_false_iff.2 (c9 h0)]; rfl
    conv => whnf
    exact leaf e rfl rfl rfl rfl rfl rfl rfl rfl rfl
theorem Jn (w : List Nat) : aI 75 (bZ WOk (wF w) (atV w)) := dM (az x4 5 _) (by kernel_rfl) (uT w) (fun _ => rfl) (fun R => ⟨rfl, fun _ => rfl⟩) fun R h => EZ w R h
def F7 (args : List AV) (H : AH) (n : Nat) (κ : PK) : Prop := ∃ w, je WOk (wF w) (atV w) args H n κ
theorem It : aI 75 F7 := fun args H n κ ⟨w, h⟩ => (Jn w).rdE args H n κ h
theorem Dl {w : List Nat} {R : Rd} (h : atR w R = true) : atV w R = (.sb true, R) := by unfold atV; rw [h]
theorem F8 {w : List Nat} {R : Rd} (h : ¬ atR w R = true) : atV w R = (.sb false, R) := by unfold atV; rw [Bool.eq_false_iff.2 h]
theorem oL {R : Rd} (hl : R.fs.length ≤ 1000000) : br (au (aa R).2.fs) 0 (R.fs.length * 1) = some (au (aa R).2.fs) ∧ br (au (aa R).2.fs) 0 ((aa R).2.fs.length * 1) = some (au (aa R).2.fs) ∧ (R.fs.length + 1) * 16 ≤ 140737488355328 ∧ ((aa R).2.fs.length + 1) * 16 ≤ 140737488355328 ∧
    (∀ a b c d e f, oF a b c d e f (aa R).2.ks.length (aa R).2.ts.length (aa R).2.vs.length (aa R).2.ls.length (aa R).2.q.times.length (R.fs.length + 1) (dQ R) = rdC a b c d e f (dQ R)) ∧
    (∀ a b c d e f, oF a b c d e f (aa R).2.ks.length (aa R).2.ts.length (aa R).2.vs.length (aa R).2.ls.length (aa R).2.q.times.length ((aa R).2.fs.length + 1) (dQ R) = rdC a b c d e f (dQ R)) ∧
    (∀ a, mk a = .ss (aa R).1 → (au (aa R).2.fs ++ [a]).map mk = au (dQ R).fs) := by
  have hk : (aa R).2.fs = R.fs := (bQ R).fs
  have h1 : (dQ R).fs.length = R.fs.length + 1 := by show ((aa R).2.fs ++ [_]).length = _; rw [hk]; simp
  refine ⟨by rw [hk]; exact j7 _, j7 _, by omega, by rw [hk]; omega, fun a b c d e f => by rw [← h1]; rfl, fun a b c d e f => by rw [hk, ← h1]; rfl, fun a ha => ?_⟩
  rw [List.map_append, aj, List.map_cons, List.map_nil, ha]
  exact te _ _
theorem Iu : RTy 31 31 2 32 := ⟨_, _, _, rfl, rfl, (fun q h => by cases h), rfl, rfl, rfl, rfl, by decide, by decide⟩
theorem rB (L : List (List Nat × List Nat)) : br (bw L) 0 (L.length * 2) = some (bw L) := cS (by rw [pd])
theorem A0 {R : Rd} (hl : R.ls.length ≤ 1000000) : br (bw (aa (aa R).2).2.ls) 0 ((aa R).2.ls.length * 2) = some (bw (aa (aa R).2).2.ls) ∧ br (bw (aa (aa R).2).2.ls) 0 ((aa (aa R).2).2.ls.length * 2) = some (bw (aa (aa R).2).2.ls) ∧ ((aa R).2.ls.length + 1) * 32 ≤ 140737488355328 ∧ ((aa (aa R).2).2.ls.length + 1) * 32 ≤ 140737488355328 ∧
    (∀ a b c d e f, oF a b c d e f (aa (aa R).2).2.ks.length (aa (aa R).2).2.ts.length (aa (aa R).2).2.vs.length ((aa R).2.ls.length + 1) (aa (aa R).2).2.q.times.length (aa (aa R).2).2.fs.length (fH R) = rdC a b c d e f (fH R)) ∧
    (∀ a b c d e f, oF a b c d e f (aa (aa R).2).2.ks.length (aa (aa R).2).2.ts.length (aa (aa R).2).2.vs.length ((aa (aa R).2).2.ls.length + 1) (aa (aa R).2).2.q.times.length (aa (aa R).2).2.fs.length (fH R) = rdC a b c d e f (fH R)) ∧
    (∀ a b, mk a = .ss (aa R).1 → mk b = .ss (aa (aa R).2).1 → (bw (aa (aa R).2).2.ls ++ [a, b]).map mk = bw (fH R).ls) := by
  have hk0 : (aa R).2.ls = R.ls := (bQ R).ls
  have hk : (aa (aa R).2).2.ls = (aa R).2.ls := (bQ _).ls
  have h1 : (fH R).ls.length = R.ls.length + 1 := by show ((aa (aa R).2).2.ls ++ [_]).length = _; rw [hk, hk0]; simp
  refine ⟨by rw [hk]; exact rB _, rB _, by rw [hk0]; omega, by rw [hk, hk0]; omega, fun a b c d e f => by rw [hk0, ← h1]; rfl, fun a b c d e f => by rw [hk, hk0, ← h1]; rfl, fun a b ha hb => ?_⟩
  rw [List.map_append, bf, List.map_cons, List.map_cons, List.map_nil, ha, hb]
  exact AL _ (_, _)
noncomputable def KB : FuncId → EP := (aG 73 (bZ (fun _ => True) noA lk) (aG 70 (bZ WOk noA (aQ ah)) (aG 63 (bZ WOk noA oE) (aG 64 uU (aG 77 F6 (aG 62 Dk (aG 75 F7 (aG 71 zf (aG 53 (bF (fun R => R.ks.length ≤ 1000000) noA (aH aF)) (aG 69 (bF (fun R => WOk R ∧ R.ts.length ≤ 1000000) noA (aH bl)) (aG 68 (bF (fun R => WOk R ∧ R.vs.length ≤ 1000000) noA (aH cV)) (aG 67 (bF (Bd 900000) noA (aH aU)) evP))))))))))))
theorem ly : cm KB := (an (an (an (an (an (an (an (an (an (an (an (an ba wL) C7) zc) uW) EY) It) G2) Ir) C3) x6) jD) nE)
theorem yh (R : Rd) (hok : Bz 890000 R) : dh (aw KB 4 52) (.ptr 0 0 :: []) (mkH (dr (rdO R) 0)) 7 (RdP (aH fG R).1 (aH fG R).2) := by
  show aw KB 4 52 _ _ _ _
  conv => whnf
  refine ⟨0, 1, 2, 3, 4, 5, 6, R, rfl, rfl, ⟨by decide, by decide, rfl, rfl, rfl, rfl, rfl, rfl, rfl⟩, hok.kk, ?_⟩
  conv => whnf
  refine ⟨0, 7, 8, 9, 10, 11, 12, aF R, rfl, rfl, ⟨by decide, by decide, rfl, rfl, rfl, rfl, rfl, rfl, rfl⟩, hok.key.kk, ?_⟩
  conv => whnf
  exact bI (show fG R = _ from rfl) 13 14 15 16 17 18 (.same rfl) (by decide) rfl rfl rfl rfl rfl rfl rfl rfl
theorem zg : aI 52 (bF (fun R => Bz 890000 R) noA (aH fG)) := bL (az ly 4 _) (by kernel_rfl) de (fun _ => rfl) (fun R => ⟨rfl, fun _ => rfl⟩) fun R h => yh R h
theorem A1 (R : Rd) (hok : Bz 890000 R) : dh (aw KB 4 49) (.ptr 0 0 :: []) (mkH (dr (rdO R) 0)) 7 (RdP (aH wO R).1 (aH wO R).2) := by
  show aw KB 4 49 _ _ _ _
  conv => whnf
  refine ⟨0, 1, 2, 3, 4, 5, 6, R, rfl, rfl, ⟨by decide, by decide, rfl, rfl, rfl, rfl, rfl, rfl, rfl⟩, hok.kk, ?_⟩
  conv => whnf
  refine ⟨0, 7, 8, 9, 10, 11, 12, (aF R), rfl, rfl, ⟨by decide, by decide, rfl, rfl, rfl, rfl, rfl, rfl, rfl⟩, hok.key.ok, ?_⟩
  conv => whnf
  refine ⟨0, 7, 8, 9, 10, 11, 12, (stF (ae ah) lq (aF R)), rfl, rfl, ⟨by decide, by decide, rfl, rfl, rfl, rfl, rfl, rfl, rfl⟩, (hok.key.told ah).ok, ?_⟩
  conv => whnf
  exact bI (show wO R = stF (ae ah) mb (stF (ae ah) lq (aF R)) from rfl) 7 8 9 10 11 12 (.same rfl) (by decide) rfl rfl rfl rfl rfl rfl rfl rfl
theorem G3 : aI 49 (bF (fun R => Bz 890000 R) noA (aH wO)) := bL (az ly 4 _) (by kernel_rfl) de (fun _ => rfl) (fun R => ⟨rfl, fun _ => rfl⟩) fun R h => A1 R h
theorem A2 (R : Rd) (hok : Bz 890000 R) : dh (aw KB 4 46) (.ptr 0 0 :: []) (mkH (dr (rdO R) 0)) 7 (RdP (aH kF R).1 (aH kF R).2) := by
  show aw KB 4 46 _ _ _ _
  conv => whnf
  refine ⟨0, 1, 2, 3, 4, 5, 6, R, rfl, rfl, ⟨by decide, by decide, rfl, rfl, rfl, rfl, rfl, rfl, rfl⟩, hok.bd, ?_⟩
  by_cases hw : atR rz (aU R) = true
  · conv => whnf
    refine ⟨_, 0, 7, 8, 9, 10, 11, 12, (aU R), _, _, rfl, ⟨_, rfl, rfl⟩, ⟨by decide, by decide, rfl, rfl, rfl, rfl, rfl, rfl, rfl⟩, hok.iO.ok, kf hw, ?_⟩
    conv => whnf
    refine ab.sb (fun _ => ?_) (fun q => absurd q (by decide))
    conv => whnf
    refine .inr (.inl ⟨0, 7, 8, 9, 10, 11, 12, (aa (aU R)).2, rfl, rfl, ⟨by decide, by decide, rfl, rfl, rfl, rfl, rfl, rfl, rfl⟩, hok.iO.next.ok, ?_⟩)
    conv => whnf
    exact bI (show kF R = stF (ae bS) fE (aa (aU R)).2 by unfold kF; rw [if_pos hw]) 7 8 9 10 11 12 (.same rfl) (by decide) rfl rfl rfl rfl rfl rfl rfl rfl
  · conv => whnf
    refine ⟨_, 0, 7, 8, 9, 10, 11, 12, (aU R), _, _, rfl, ⟨_, rfl, rfl⟩, ⟨by decide, by decide, rfl, rfl, rfl, rfl, rfl, rfl, rfl⟩, hok.iO.ok, mN hw, ?_⟩
    conv => whnf
    refine ab.sb (fun q => absurd q (by decide)) (fun _ => ?_)
    conv => whnf
    exact bI (show kF R = aU R by unfold kF; rw [if_neg hw]) 7 8 9 10 11 12 (.same rfl) (by decide) rfl rfl rfl rfl rfl rfl rfl rfl
theorem G4 : aI 46 (bF (fun R => Bz 890000 R) noA (aH kF)) := bL (az ly 4 _) (by kernel_rfl) de (fun _ => rfl) (fun R => ⟨rfl, fun _ => rfl⟩) fun R h => A2 R h
theorem yi (R : Rd) (hok : Bz 890000 R) : dh (aw KB 4 50) (.ptr 0 0 :: []) (mkH (dr (rdO R) 0)) 7 (RdP (aH lr R).1 (aH lr R).2) := by
  show aw KB 4 50 _ _ _ _
  conv => whnf
  refine ⟨0, 1, 2, 3, 4, 5, 6, R, rfl, rfl, ⟨by decide, by decide, rfl, rfl, rfl, rfl, rfl, rfl, rfl⟩, hok.kk, ?_⟩
  conv => whnf
  refine cW.mk { X : Rd // Bz 890001 X ∧ wh ao aF X = lr R } 13 (fun X => rdS X.val) (fun X => muR X.val) ⟨aF R, hok.key, rfl⟩ ?_ ?_
  · exact lu 7 8 9 10 11 12 rfl (by decide) rfl rfl rfl rfl rfl rfl rfl rfl
  · intro ⟨X, hB, hX⟩
    conv => whnf
    refine ab.dec (fun h0 => ?_) (fun h0 => ?_)
    · conv => whnf
      refine ab.dec (fun hp => ?_) (fun hp => ?_)
      · have hp : 0 < X.ws.length := by exact Int.ofNat_lt.1 hp
        have hm := c8 h0 hp
        conv => whnf
        refine ⟨0, 7, 8, 9, 10, 11, 12, X, rfl, rfl, ⟨by decide, by decide, rfl, rfl, rfl, rfl, rfl, rfl, rfl⟩, hB.kk, ?_⟩
        conv => whnf
        exact ⟨⟨aF X, hB.Ip hm, (fT (fun _ => yg) hm).trans hX⟩, yg hm, gR 13 14 15 16 17 18 rfl (by decide) rfl rfl rfl (aj _) rfl (ai _) rfl (ai _) rfl (bf _) rfl (ai _) rfl (aj _)⟩
      · have hn : ¬ ao X = true := da fun q => hp (by exact Int.ofNat_lt.2 q)
        conv => whnf
        exact bI (show lr R = X by rw [← hX, bU hn]) 7 8 9 10 11 12 (.same rfl) (by decide) rfl rfl rfl rfl rfl rfl rfl rfl
    · have hn : ¬ ao X = true := c9 h0
      conv => whnf
      exact bI (show lr R = X by rw [← hX, bU hn]) 7 8 9 10 11 12 (.same rfl) (by decide) rfl rfl rfl rfl rfl rfl rfl rfl
theorem E0 : aI 50 (bF (fun R => Bz 890000 R) noA (aH lr)) := bL (az ly 4 _) (by kernel_rfl) de (fun _ => rfl) (fun R => ⟨rfl, fun _ => rfl⟩) fun R h => yi R h
end Go.Proofs.Ytdfeigkooeeeaaa
namespace Go.Proofs.Ytdfeigkooeeeaaa
open Go Go.RowKit
def rC (args : List AV) (H : AH) (n : Nat) (κ : PK) : Prop := je WOk (fnA 9) (aQ ah) args H n κ ∨ je WOk (fnA 65) (aQ bS) args H n κ ∨ je WOk (fnA 72) (aQ aN) args H n κ
theorem zh : aI 64 rC := fun args H n κ hs => hs.elim (rn.rdE args H n κ) fun hs => hs.elim (rp.rdE args H n κ) (rq.rdE args H n κ)
noncomputable def KB2 : FuncId → EP := aG 64 rC KB
theorem G5 : cm KB2 := an ly zh
theorem rD (g : List Nat → Int × Int) (R : Rd) : ∃ z S, aQ g R = (.si .i64 z, S) ∧ ae g R = (z, S) := ⟨_, _, rfl, rfl⟩
def wQ (args : List AV) (H : AH) (n : Nat) (κ : PK) : Prop := ∃ w, je WOk (wF w) (bj w) args H n κ
theorem Dm : aI 71 wQ := fun args H n κ ⟨w, h⟩ => (C2 w).rdE args H n κ h
noncomputable def KB3 : FuncId → EP := aG 71 wQ KB2
theorem Dn : cm KB3 := an G5 Dm
noncomputable def KLi : FuncId → EP := (aG 52 (bF (fun R => Bz 890000 R) noA (aH fG)) KB3)
theorem G6 : cm KLi := (an Dn zg)
theorem yj (R : Rd) (hok : Bz 800000 R) : dh (aw KLi 4 51) (.ptr 0 0 :: []) (mkH (dr (rdO R) 0)) 7 (RdP (aH cI R).1 (aH cI R).2) := by
  obtain ⟨M, hM⟩ : ∃ M, bj di (fG R) = (.tup [], M) := ⟨_, rfl⟩
  have b1 : Bz 800002 M := by have := hok.keys.nJ di; rw [hM] at this; exact this
  obtain ⟨z, T, hT, hT'⟩ := rD aN M
  have b2 : Bz 800002 { T with kd := z } := by have := (b1.told aN).set (stF (ae aN) fD M); unfold stF fD at this; rw [hT'] at this; exact this
  have el : gW R = stF (ae ah) ez { T with kd := z } := by unfold gW; rw [hM]; show stF (ae ah) ez (stF (ae aN) fD M) = _; congr 1; unfold stF fD; rw [hT']
  have b3 : Bz 800002 (stF (ae ah) ez { T with kd := z }) := (b2.told ah).set _
  show aw KLi 4 51 _ _ _ _
  conv => whnf
  refine ⟨0, 1, 2, 3, 4, 5, 6, R, rfl, rfl, ⟨by decide, by decide, rfl, rfl, rfl, rfl, rfl, rfl, rfl⟩, hok.mono (by decide), ?_⟩
  conv => whnf
  refine ⟨_, 0, 7, 8, 9, 10, 11, 12, (fG R), _, _, rfl, ⟨_, rfl, rfl⟩, ⟨by decide, by decide, rfl, rfl, rfl, rfl, rfl, rfl, rfl⟩, hok.keys.ok, hM, ?_⟩
  conv => whnf
  refine .inr (.inr ⟨0, 7, 8, 9, 10, 11, 12, M, _, _, rfl, rfl, ⟨by decide, by decide, rfl, rfl, rfl, rfl, rfl, rfl, rfl⟩, b1.ok, hT, ?_⟩)
  conv => whnf
  refine ⟨0, 7, 8, 9, 10, 11, 12, { T with kd := z }, rfl, rfl, ⟨by decide, by decide, rfl, rfl, rfl, rfl, rfl, rfl, rfl⟩, b2.ok, ?_⟩
  conv => whnf
  refine ab.dec (fun h0 => ?_) (fun h0 => ?_)
  · conv => whnf
    refine ab.dec (fun hp => ?_) (fun hp => ?_)
    · have h0 : (stF (ae ah) ez { T with kd := z }).e = 0 := h0
      have hp : 0 < (stF (ae ah) ez { T with kd := z }).ws.length := by exact Int.ofNat_lt.1 hp
      conv => whnf
      refine ⟨0, 7, 8, 9, 10, 11, 12, (stF (ae ah) ez { T with kd := z }), rfl, rfl, ⟨by decide, by decide, rfl, rfl, rfl, rfl, rfl, rfl, rfl⟩, b3.ok, ?_⟩
      conv => whnf
      exact bI (show cI R = stF (ae ah) jc (stF (ae ah) ez { T with kd := z }) by unfold cI; rw [el, if_pos (c8 h0 hp)]) 7 8 9 10 11 12 (.same rfl) (by decide) rfl rfl rfl rfl rfl rfl rfl rfl
    · have hn : ¬ ao (stF (ae ah) ez { T with kd := z }) = true := da fun q => hp (by exact Int.ofNat_lt.2 q)
      conv => whnf
      exact bI (show cI R = (stF (ae ah) ez { T with kd := z }) by unfold cI; rw [el, if_neg hn]) 7 8 9 10 11 12 (.same rfl) (by decide) rfl rfl rfl rfl rfl rfl rfl rfl
  · have hn : ¬ ao (stF (ae ah) ez { T with kd := z }) = true := c9 h0
    conv => whnf
    exact bI (show cI R = (stF (ae ah) ez { T with kd := z }) by unfold cI; rw [el, if_neg hn]) 7 8 9 10 11 12 (.same rfl) (by decide) rfl rfl rfl rfl rfl rfl rfl rfl
theorem E1 : aI 51 (bF (fun R => Bz 800000 R) noA (aH cI)) := bL (az G6 4 _) (by kernel_rfl) de (fun _ => rfl) (fun R => ⟨rfl, fun _ => rfl⟩) fun R h => yj R h
end Go.Proofs.Ytdfeigkooeeeaaa
namespace Go.Proofs.Ytdfeigkooeeeaaa
open Go Go.RowKit
theorem la.Dp {H : AH} {m : Nat} {r : Nat → Nat} : ∀ {l l' : List AV} (i : Nat) (a a' : AV), l[i]? = some a → l'[i]? = some a' → ak H m r a a' → l'.all (C5 m) = true → (l.set i (ren r a')).map Go.Proofs.Ytdfeigkooeeeaaa.mk = l'.map (ren r) → la H m r l l'
  | [], _, _, _, _, h, _, _, _, _ => by simp at h
  | _ :: _, [], _, _, _, _, h, _, _, _ => by simp at h
  | x :: l, x' :: l', 0, a, a', h1, h2, hs, hg, e => by
    simp only [List.getElem?_cons_zero, Option.some.injEq] at h1 h2
    subst h1 h2
    simp only [List.set_cons_zero, List.map_cons, List.cons.injEq] at e
    simp only [List.all_cons, Bool.and_eq_true] at hg
    exact .cons hs (la.AQ hg.2 e.2)
  | x :: l, x' :: l', i + 1, a, a', h1, h2, hs, hg, e => by
    simp only [List.getElem?_cons_succ] at h1 h2
    simp only [List.set_cons_succ, List.map_cons, List.cons.injEq] at e
    simp only [List.all_cons, Bool.and_eq_true] at hg
    exact .cons (ak.AQ hg.1 e.1) (la.Dp i a a' h1 h2 hs hg.2 e.2)
theorem E2 {R : Rd} {H : AH} {n : Nat} (j1 j2 j3 j4 j5 j6 : Nat) {l l2 : List AV} (ht : R.ts = [-1]) (hd : [0, j1, j2, j3, j4, j5, j6].Nodup) (h0 : PM.get H 0 = some (.cells l true)) (hi : l[4]? = some (.sl j2 0 1 1 0)) (hm : (l.set 4 (.rw j2 0 R.ts.length 1 0)).map mk = rdC j1 j2 j3 j4 j5 j6 R) (r1 : PM.get H j1 = some (.cells (au R.ks) true)) (r2 : PM.get H j2 = some (.cells l2 true)) (m2 : l2.map mk = ints [-1]) (r3 : PM.get H j3 = some (.cells (ints R.vs) true)) (r4 : PM.get H j4 = some (.cells (bw R.ls) true)) (r5 : PM.get H j5 = some (.cells (ints R.q.times) true)) (r6 : PM.get H j6 = some (.cells (au R.fs) true)) :
    ∃ v2 H2 m, Cov 7 (mkE [(0, .tup [])]) H n (mkE [(0, v2)], H2, m) ∧ RdP (.tup []) R v2 H2 m := by
  have hl : l2.length = 1 := by have := congrArg List.length m2; simpa [ints] using this
  refine ⟨.tup [], _, _, Cov.ofR (rdN j1 j2 j3 j4 j5 j6) (le := [(0, .tup [])]) (by decide) (fun b hb => by unfold rdN; repeat' rw [if_neg (by omega)]) (fun x hx => by
    simp only [List.mem_cons, List.not_mem_nil, or_false] at hx
    subst hx; exact .same rfl) ?_ ?_, rfl, rfl, rfl⟩
  · intro x hx
    simp only [List.mem_cons, List.not_mem_nil, or_false] at hx
    rcases hx with rfl | rfl | rfl | rfl | rfl | rfl | rfl
    · exact ⟨Nat.le_of_ble_eq_true rfl, .inl ⟨_, h0, cU.st (la.Dp 4 (.sl j2 0 1 1 0) (.rw 8 0 R.ts.length 1 0) hi rfl (ak.jZ (Nat.le_of_ble_eq_true rfl) rfl (.inr ⟨rfl, _, r2, by show 0 + 1 * 1 ≤ l2.length; omega⟩) (Nat.le_refl 1) (by rw [ht]; rfl)) rfl hm)⟩⟩
    · exact ⟨Nat.le_of_ble_eq_true rfl, .inl ⟨_, r1, cU.cn (aR _) rfl (fun q => q)⟩⟩
    · exact ⟨Nat.le_of_ble_eq_true rfl, .inl ⟨_, r2, cU.cn (bq _) (by rw [m2, ai, ht]) (fun q => q)⟩⟩
    · exact ⟨Nat.le_of_ble_eq_true rfl, .inl ⟨_, r3, cU.cn (bq _) rfl (fun q => q)⟩⟩
    · exact ⟨Nat.le_of_ble_eq_true rfl, .inl ⟨_, r4, cU.cn (fb _) rfl (fun q => q)⟩⟩
    · exact ⟨Nat.le_of_ble_eq_true rfl, .inl ⟨_, r5, cU.cn (bq _) rfl (fun q => q)⟩⟩
    · exact ⟨Nat.le_of_ble_eq_true rfl, .inl ⟨_, r6, cU.cn (aR _) rfl (fun q => q)⟩⟩
  · exact fun x hx y hy e => zb hd x.1 (List.mem_map_of_mem (f := Prod.fst) hx) y.1 (List.mem_map_of_mem (f := Prod.fst) hy) e
theorem A3 (R : Rd) (hok : Bz 800000 R) : dh (aw KB 4 48) (.ptr 0 0 :: []) (mkH (dr (rdO R) 0)) 7 (RdP (aH gL R).1 (aH gL R).2) := by
  show aw KB 4 48 _ _ _ _
  conv => whnf
  refine ⟨0, 1, 2, 3, 4, 5, 6, R, rfl, rfl, ⟨by decide, by decide, rfl, rfl, rfl, rfl, rfl, rfl, rfl⟩, hok.kk, ?_⟩
  conv => whnf
  refine ⟨0, 7, 8, 9, 10, 11, 12, aF R, rfl, rfl, ⟨by decide, by decide, rfl, rfl, rfl, rfl, rfl, rfl, rfl⟩, hok.key.vv, ?_⟩
  by_cases hw : atR iI (cV (aF R)) = true
  · conv => whnf
    refine ⟨_, 0, 13, 14, 15, 16, 17, 18, (cV (aF R)), _, _, rfl, ⟨_, rfl, rfl⟩, ⟨by decide, by decide, rfl, rfl, rfl, rfl, rfl, rfl, rfl⟩, hok.key.val.ok, kf hw, ?_⟩
    conv => whnf
    refine ab.sb (fun _ => ?_) (fun q => absurd q (by decide))
    conv => whnf
    refine ⟨0, 13, 14, 15, 16, 17, 18, (aa (cV (aF R))).2, rfl, rfl, ⟨by decide, by decide, rfl, rfl, rfl, rfl, rfl, rfl, rfl⟩, hok.key.val.next.tt, ?_⟩
    conv => whnf
    exact bI (show gL R = bl (aa (cV (aF R))).2 by unfold gL; rw [if_pos hw]) 19 20 21 22 23 24 (.same rfl) (by decide) rfl rfl rfl rfl rfl rfl rfl rfl
  · have e : gL R = { cV (aF R) with ts := [-1] } := by unfold gL; rw [if_neg hw]
    conv => whnf
    refine ⟨_, 0, 13, 14, 15, 16, 17, 18, (cV (aF R)), _, _, rfl, ⟨_, rfl, rfl⟩, ⟨by decide, by decide, rfl, rfl, rfl, rfl, rfl, rfl, rfl⟩, hok.key.val.ok, mN hw, ?_⟩
    conv => whnf
    refine ab.sb (fun q => absurd q (by decide)) (fun _ => ?_)
    conv => whnf
    unfold aH; rw [e]
    exact E2 13 19 15 16 17 18 rfl (by decide) rfl rfl rfl rfl rfl rfl rfl rfl rfl rfl
theorem G7 : aI 48 (bF (fun R => Bz 800000 R) noA (aH gL)) := bL (az ly 4 _) (by kernel_rfl) de (fun _ => rfl) (fun R => ⟨rfl, fun _ => rfl⟩) fun R h => A3 R h
end Go.Proofs.Ytdfeigkooeeeaaa
namespace Go.Proofs.Ytdfeigkooeeeaaa
open Go Go.RowKit
def G8 : DT := [(3, [(some 1000000, [5, 8]), (none, [0, 1, 2, 3, 4, 5, 6, 7, 8, 9, 10, 11, 12, 13, 14, 15]), (none, [0, 1, 2, 3, 4, 6, 7, 8, 5, 9, 10, 11, 12, 13, 14, 15])])]
noncomputable def KLa : FuncId → EP := (dg 66 G8 KB)
theorem G9 : cm KLa := (aX ly (by kernel_rfl) (by kernel_rfl))
theorem A4 (R : Rd) (hok : Bz 890000 R) : dh (aw KLa 4 66) (.ptr 0 0 :: []) (mkH (dr (rdO R) 0)) 7 (RdP (aH nI R).1 (aH nI R).2) := by
  show aw KLa 4 66 _ _ _ _
  conv => whnf
  refine cW.mk { X : Rd // Bz 890000 X ∧ wh ao fH X = nI R } 13 (fun X => rdS X.val) (fun X => muR X.val) ⟨{ R with lbd := true }, hok.set _, rfl⟩ ?_ ?_
  · exact lu 1 2 3 4 5 6 rfl (by decide) rfl rfl rfl rfl rfl rfl rfl rfl
  · intro ⟨X, hB, hX⟩
    conv => whnf
    refine ab.dec (fun h0 => ?_) (fun h0 => ?_)
    · conv => whnf
      refine ab.dec (fun hp => ?_) (fun hp => ?_)
      · have hp : 0 < X.ws.length := by exact Int.ofNat_lt.1 hp
        have hm := c8 h0 hp
        obtain ⟨f1, f2, f3, f4, f5, f6, f7⟩ := A0 (R := X) (by have := hB.ls; omega)
        conv => whnf
        refine ⟨0, 7, 8, 9, 10, 11, 12, X, rfl, rfl, ⟨by decide, by decide, rfl, rfl, rfl, rfl, rfl, rfl, rfl⟩, trivial, ?_⟩
        conv => whnf
        refine ⟨?_, ?_, trivial⟩
        · conv => whnf
          refine ⟨0, 7, 8, 9, 10, 11, 12, (aa X).2, rfl, rfl, ⟨by decide, by decide, rfl, rfl, rfl, rfl, rfl, rfl, rfl⟩, trivial, ?_⟩
          conv => whnf
          refine iL.grow 2 32 _ _ _ _ _ _ Iu (.old rfl) rfl rfl (.rw rfl f1) f3 ?_
          conv => whnf
          exact ⟨⟨fH X, hB.lb1 hm, (fT (fun _ => jd) hm).trans hX⟩, jd hm, gR 7 8 9 14 11 12 rfl (by decide) rfl (f5 _ _ _ _ _ _) rfl (aj _) rfl (ai _) rfl (ai _) rfl (f7 _ _ rfl rfl) rfl (ai _) rfl (aj _)⟩
        · conv => whnf
          refine ⟨0, 7, 8, 9, 10, 11, 12, (aa X).2, rfl, rfl, ⟨by decide, by decide, rfl, rfl, rfl, rfl, rfl, rfl, rfl⟩, trivial, ?_⟩
          conv => whnf
          refine iL.grow 2 32 _ _ _ _ _ _ Iu (.old rfl) rfl rfl (.rw rfl f2) f4 ?_
          conv => whnf
          exact ⟨⟨fH X, hB.lb1 hm, (fT (fun _ => jd) hm).trans hX⟩, jd hm, gR 7 8 9 14 11 12 rfl (by decide) rfl (f6 _ _ _ _ _ _) rfl (aj _) rfl (ai _) rfl (ai _) rfl (f7 _ _ rfl rfl) rfl (ai _) rfl (aj _)⟩
      · have hn : ¬ ao X = true := da fun q => hp (by exact Int.ofNat_lt.2 q)
        conv => whnf
        exact bI (show nI R = X by rw [← hX, bU hn]) 7 8 9 10 11 12 (.same rfl) (by decide) rfl rfl rfl rfl rfl rfl rfl rfl
    · have hn : ¬ ao X = true := c9 h0
      conv => whnf
      exact bI (show nI R = X by rw [← hX, bU hn]) 7 8 9 10 11 12 (.same rfl) (by decide) rfl rfl rfl rfl rfl rfl rfl rfl
theorem Ha : aI 66 (bF (fun R => Bz 890000 R) noA (aH nI)) := bL (az G9 4 _) (by kernel_rfl) de (fun _ => rfl) (fun R => ⟨rfl, fun _ => rfl⟩) fun R h => A4 R h
end Go.Proofs.Ytdfeigkooeeeaaa
namespace Go.Proofs.Ytdfeigkooeeeaaa
open Go Go.RowKit
noncomputable def KCr : FuncId → EP := (aG 66 (bF (fun R => Bz 890000 R) noA (aH nI)) KB)
theorem Hb : cm KCr := (an ly Ha)
theorem A5 (R : Rd) (hok : Bz 880000 R) : dh (aw KCr 4 45) (.ptr 0 0 :: []) (mkH (dr (rdO R) 0)) 7 (RdP (aH mK R).1 (aH mK R).2) := by
  show aw KCr 4 45 _ _ _ _
  conv => whnf
  refine ⟨0, 1, 2, 3, 4, 5, 6, R, rfl, rfl, ⟨by decide, by decide, rfl, rfl, rfl, rfl, rfl, rfl, rfl⟩, hok.kk, ?_⟩
  conv => whnf
  refine cW.mk { X : Rd // Bz 880001 X ∧ wh ao cK X = mK R } 13 (fun X => rdS X.val) (fun X => muR X.val) ⟨aF R, hok.key, rfl⟩ ?_ ?_
  focus exact lu 7 8 9 10 11 12 rfl (by decide) rfl rfl rfl rfl rfl rfl rfl rfl
  intro ⟨X, hB, hX⟩
  conv => whnf
  refine ab.dec (fun h0 => ?_) (fun h0 => ?_)
  rotate_left
  focus
    have hn : ¬ ao X = true := c9 h0
    conv => whnf
    exact bI (show mK R = X by rw [← hX, bU hn]) _ _ _ _ _ _ (.same rfl) (by decide) rfl rfl rfl rfl rfl rfl rfl rfl
  rotate_right
  conv => whnf
  refine ab.dec (fun hp => ?_) (fun hp => ?_)
  rotate_left
  focus
    have hn : ¬ ao X = true := da fun q => hp (by exact Int.ofNat_lt.2 q)
    conv => whnf
    exact bI (show mK R = X by rw [← hX, bU hn]) _ _ _ _ _ _ (.same rfl) (by decide) rfl rfl rfl rfl rfl rfl rfl rfl
  rotate_right
  have hp : 0 < X.ws.length := by exact Int.ofNat_lt.1 hp
  have hm := c8 h0 hp
  have go : ∀ Y, cK X = Y → Bz 880001 Y ∧ wh ao cK Y = mK R ∧ muR Y < muR X := fun Y e => by subst e; exact ⟨hB.cs1, (fT (fun _ => lQ) hm).trans hX, lQ hm⟩
  conv => whnf
  refine ab.dec (fun c1 => ?_) (fun c1 => ?_)
  rotate_left
  focus
    have n1 : ¬ (X.ret = -1 ∧ atR oI X = true) := fun q => c1 (by exact q.1)
  rotate_right
  focus
    have c1 : X.ret = -1 := c1
    by_cases hw : atR oI X = true
    focus
      conv => whnf
      refine ⟨_, 0, _, _, _, _, _, _, X, _, _, rfl, ⟨_, rfl, rfl⟩, ⟨by decide, by decide, rfl, rfl, rfl, rfl, rfl, rfl, rfl⟩, hB.ok, kf hw, ?_⟩
      conv => whnf
      refine ab.sb (fun _ => ?_) (fun q => absurd q (by decide))
      conv => whnf
      refine ⟨0, _, _, _, _, _, _, (aa X).2, rfl, rfl, ⟨by decide, by decide, rfl, rfl, rfl, rfl, rfl, rfl, rfl⟩, hB.next.ok, ?_⟩
      have ee : cK X = stF hY oJ (aa X).2 := (by unfold cK; rw [if_pos ⟨c1, hw⟩])
      conv => whnf
      exact ⟨⟨stF hY oJ (aa X).2, (go _ ee).1, (go _ ee).2.1⟩, (go _ ee).2.2, lu _ _ _ _ _ _ rfl (by decide) rfl rfl rfl rfl rfl rfl rfl rfl⟩
    have n1 : ¬ (X.ret = -1 ∧ atR oI X = true) := fun q => hw (by exact q.2)
    conv => whnf
    refine ⟨_, 0, _, _, _, _, _, _, X, _, _, rfl, ⟨_, rfl, rfl⟩, ⟨by decide, by decide, rfl, rfl, rfl, rfl, rfl, rfl, rfl⟩, hB.ok, mN hw, ?_⟩
    conv => whnf
    refine ab.sb (fun q => absurd q (by decide)) (fun _ => ?_)
  all_goals
    conv => whnf
    refine ab.dec (fun c2 => ?_) (fun c2 => ?_)
    rotate_left
    focus
      have n2 : ¬ (X.nm = 1 ∧ X.siz = -1 ∧ atR lX X = true) := fun q => c2 (by exact q.1)
    rotate_right
    focus
      have d2 : X.nm = 1 := c2
      conv => whnf
      refine ab.dec (fun c2 => ?_) (fun c2 => ?_)
      rotate_left
      focus
        have n2 : ¬ (X.nm = 1 ∧ X.siz = -1 ∧ atR lX X = true) := fun q => c2 (by exact q.2.1)
      rotate_right
      focus
        have c2 : X.siz = -1 := c2
        by_cases hw : atR lX X = true
        focus
          conv => whnf
          refine ⟨_, 0, _, _, _, _, _, _, X, _, _, rfl, ⟨_, rfl, rfl⟩, ⟨by decide, by decide, rfl, rfl, rfl, rfl, rfl, rfl, rfl⟩, hB.ok, kf hw, ?_⟩
          conv => whnf
          refine ab.sb (fun _ => ?_) (fun q => absurd q (by decide))
          conv => whnf
          refine ⟨0, _, _, _, _, _, _, (aa X).2, rfl, rfl, ⟨by decide, by decide, rfl, rfl, rfl, rfl, rfl, rfl, rfl⟩, hB.next.ok, ?_⟩
          have ee : cK X = stF hY oK (aa X).2 := (by unfold cK; rw [if_neg n1, if_pos ⟨d2, c2, hw⟩])
          conv => whnf
          exact ⟨⟨stF hY oK (aa X).2, (go _ ee).1, (go _ ee).2.1⟩, (go _ ee).2.2, lu _ _ _ _ _ _ rfl (by decide) rfl rfl rfl rfl rfl rfl rfl rfl⟩
        have n2 : ¬ (X.nm = 1 ∧ X.siz = -1 ∧ atR lX X = true) := fun q => hw (by exact q.2.2)
        conv => whnf
        refine ⟨_, 0, _, _, _, _, _, _, X, _, _, rfl, ⟨_, rfl, rfl⟩, ⟨by decide, by decide, rfl, rfl, rfl, rfl, rfl, rfl, rfl⟩, hB.ok, mN hw, ?_⟩
        conv => whnf
        refine ab.sb (fun q => absurd q (by decide)) (fun _ => ?_)
  all_goals
    conv => whnf
    refine ab.dec (fun c3 => ?_) (fun c3 => ?_)
    rotate_left
    focus
      have n3 : ¬ (X.pol = 0 ∧ atR ln X = true) := fun q => c3 (by exact q.1)
    rotate_right
    focus
      have c3 : X.pol = 0 := c3
      by_cases hw : atR ln X = true
      focus
        conv => whnf
        refine ⟨_, 0, _, _, _, _, _, _, X, _, _, rfl, ⟨_, rfl, rfl⟩, ⟨by decide, by decide, rfl, rfl, rfl, rfl, rfl, rfl, rfl⟩, hB.ok, kf hw, ?_⟩
        conv => whnf
        refine ab.sb (fun _ => ?_) (fun q => absurd q (by decide))
        conv => whnf
        refine .inr (.inl ⟨0, _, _, _, _, _, _, (aa X).2, rfl, rfl, ⟨by decide, by decide, rfl, rfl, rfl, rfl, rfl, rfl, rfl⟩, hB.next.ok, ?_⟩)
        have ee : cK X = stF (ae bS) fE (aa X).2 := (by unfold cK; rw [if_neg n1, if_neg n2, if_pos ⟨c3, hw⟩])
        conv => whnf
        exact ⟨⟨stF (ae bS) fE (aa X).2, (go _ ee).1, (go _ ee).2.1⟩, (go _ ee).2.2, lu _ _ _ _ _ _ rfl (by decide) rfl rfl rfl rfl rfl rfl rfl rfl⟩
      have n3 : ¬ (X.pol = 0 ∧ atR ln X = true) := fun q => hw (by exact q.2)
      conv => whnf
      refine ⟨_, 0, _, _, _, _, _, _, X, _, _, rfl, ⟨_, rfl, rfl⟩, ⟨by decide, by decide, rfl, rfl, rfl, rfl, rfl, rfl, rfl⟩, hB.ok, mN hw, ?_⟩
      conv => whnf
      refine ab.sb (fun q => absurd q (by decide)) (fun _ => ?_)
  all_goals
    by_cases hw : atR lp X = true
    focus
      conv => whnf
      refine ⟨_, 0, _, _, _, _, _, _, X, _, _, rfl, ⟨_, rfl, rfl⟩, ⟨by decide, by decide, rfl, rfl, rfl, rfl, rfl, rfl, rfl⟩, hB.ok, kf hw, ?_⟩
      conv => whnf
      refine ab.sb (fun _ => ?_) (fun q => absurd q (by decide))
      conv => whnf
      refine ⟨0, _, _, _, _, _, _, (aa X).2, rfl, rfl, ⟨by decide, by decide, rfl, rfl, rfl, rfl, rfl, rfl, rfl⟩, hB.next.mono (by decide), ?_⟩
      have ee : cK X = nI (aa X).2 := (by unfold cK; rw [if_neg n1, if_neg n2, if_neg n3, if_pos hw])
      conv => whnf
      exact ⟨⟨nI (aa X).2, (go _ ee).1, (go _ ee).2.1⟩, (go _ ee).2.2, lu _ _ _ _ _ _ rfl (by decide) rfl rfl rfl rfl rfl rfl rfl rfl⟩
    conv => whnf
    refine ⟨_, 0, _, _, _, _, _, _, X, _, _, rfl, ⟨_, rfl, rfl⟩, ⟨by decide, by decide, rfl, rfl, rfl, rfl, rfl, rfl, rfl⟩, hB.ok, mN hw, ?_⟩
    conv => whnf
    refine ab.sb (fun q => absurd q (by decide)) (fun _ => ?_)
    conv => whnf
    refine ab.dec (fun h1 => ?_) (fun q => absurd h0 q)
    have ee : cK X = { X with e := 17 } := (by unfold cK cg; rw [if_neg n1, if_neg n2, if_neg n3, if_neg hw, if_pos h0])
    conv => whnf
    exact ⟨⟨{ X with e := 17 }, (go _ ee).1, (go _ ee).2.1⟩, (go _ ee).2.2, lu _ _ _ _ _ _ rfl (by decide) rfl rfl rfl rfl rfl rfl rfl rfl⟩
theorem Hc : aI 45 (bF (fun R => Bz 880000 R) noA (aH mK)) := bL (az Hb 4 _) (by kernel_rfl) de (fun _ => rfl) (fun R => ⟨rfl, fun _ => rfl⟩) fun R h => A5 R h
end Go.Proofs.Ytdfeigkooeeeaaa
namespace Go.Proofs.Ytdfeigkooeeeaaa
open Go Go.RowKit
def He : DT := [(4, [(some 1000000, [4, 6]), (none, [0, 1, 2, 3, 4, 5, 6, 7, 8, 9, 10, 11]), (none, [0, 1, 2, 3, 5, 6, 4, 7, 8, 9, 10, 11])]), (1000010, []), (1000013, []), (1000015, []), (1000020, [])]
def F9 (args : List AV) (H : AH) (n : Nat) (κ : PK) : Prop := bZ WOk noA (aQ ah) args H n κ ∨ Dc (bZ WOk noA (aQ ah)) args H n κ
theorem Jo : aI 70 F9 := fun args H n κ hs => hs.elim (jD args H n κ) (jD.Dc args H n κ)
noncomputable def KOp : FuncId → EP := (dg 74 He (aG 70 F9 (aG 64 rC (aG 9 y6 KB))))
theorem Hf : cm KOp := (aX (an (an (an ly wE) zh) Jo) (by kernel_rfl) (by kernel_rfl))
theorem A6 {S : Rd} {B : Nat} {g : List Nat → Int × Int} (hl : S.q.times.length ≤ 1000000) : br (ints (ae g S).2.q.times) 0 (S.q.times.length * 1) = some (ints (ae g S).2.q.times) ∧ br (ints (ae g S).2.q.times) 0 ((ae g S).2.q.times.length * 1) = some (ints (ae g S).2.q.times) ∧ (S.q.times.length + 1) * 8 ≤ 140737488355328 ∧ ((ae g S).2.q.times.length + 1) * 8 ≤ 140737488355328 ∧
    (∀ a b c d e f, oF a b c d e f (ae g S).2.ks.length (ae g S).2.ts.length (ae g S).2.vs.length (ae g S).2.ls.length (S.q.times.length + 1) (ae g S).2.fs.length (stF (ae g) gS S) = rdC a b c d e f (stF (ae g) gS S)) ∧
    (∀ a b c d e f, oF a b c d e f (ae g S).2.ks.length (ae g S).2.ts.length (ae g S).2.vs.length (ae g S).2.ls.length ((ae g S).2.q.times.length + 1) (ae g S).2.fs.length (stF (ae g) gS S) = rdC a b c d e f (stF (ae g) gS S)) ∧
    (ints (ae g S).2.q.times ++ [AV.si .i64 (ae g S).1]).map mk = ints (stF (ae g) gS S).q.times := by
  have hk : (ae g S).2.q = S.q := (fc g S).q
  have h1 : (stF (ae g) gS S).q.times.length = S.q.times.length + 1 := by show ((ae g S).2.q.times ++ [_]).length = _; rw [hk]; simp
  refine ⟨by rw [hk]; exact eU _, eU _, by omega, by rw [hk]; omega, fun a b c d e f => by rw [← h1]; rfl, fun a b c d e f => by rw [hk, ← h1]; rfl, ?_⟩
  rw [j8, ai]; rfl
theorem A7 {S : Rd} (hl : S.q.times.length ≤ 1000000) : br (ints (aa S).2.q.times) 0 ((aa S).2.q.times.length * 1) = some (ints (aa S).2.q.times) ∧ ((aa S).2.q.times.length + 1) * 8 ≤ 140737488355328 ∧
    (∀ a b c d e f, oF a b c d e f (aa S).2.ks.length (aa S).2.ts.length (aa S).2.vs.length (aa S).2.ls.length ((aa S).2.q.times.length + 1) (aa S).2.fs.length (gT S) = rdC a b c d e f (gT S)) ∧
    (ints (aa S).2.q.times ++ [AV.si .i64 (ah (S.ws.headD [])).1]).map mk = ints (gT S).q.times := by
  have hk : (aa S).2.q = S.q := (bQ S).q
  have h1 : (gT S).q.times.length = S.q.times.length + 1 := by show ((aa S).2.q.times ++ [_]).length = _; rw [hk]; simp
  refine ⟨eU _, by rw [hk]; omega, fun a b c d e f => by rw [hk, ← h1]; rfl, ?_⟩
  rw [j8, ai]; rfl
noncomputable def opS (R : Rd) : AE × AH := (mkE [(0, .ptr 0 0), (2, .ptr 0 16)], rdM R)
theorem zi {σ : AE} {H : AH} {n : Nat} {R : Rd} (j1 j2 j3 j4 j5 j6 : Nat) {l l1 l2 l3 l4 l5 l6 : List AV} (he : aL (pa 0) σ = .ptr 0 0) (he2 : aL (pa 2) σ = .ptr 0 16) (hd : [0, j1, j2, j3, j4, j5, j6].Nodup) (h0 : PM.get H 0 = some (.cells l true)) (hm : l.map mk = rdC j1 j2 j3 j4 j5 j6 R) (r1 : PM.get H j1 = some (.cells l1 true)) (m1 : l1.map mk = au R.ks) (r2 : PM.get H j2 = some (.cells l2 true)) (m2 : l2.map mk = ints R.ts) (r3 : PM.get H j3 = some (.cells l3 true)) (m3 : l3.map mk = ints R.vs) (r4 : PM.get H j4 = some (.cells l4 true)) (m4 : l4.map mk = bw R.ls) (r5 : PM.get H j5 = some (.cells l5 true)) (m5 : l5.map mk = ints R.q.times) (r6 : PM.get H j6 = some (.cells l6 true)) (m6 : l6.map mk = au R.fs) : Cov 7 σ H n ((opS R).1, (opS R).2, 13) :=
  x7 j1 j2 j3 j4 j5 j6 (le := [(0, .ptr 0 0), (2, .ptr 0 16)]) (fun x hx => by
    simp only [List.mem_cons, List.not_mem_nil, or_false] at hx
    rcases hx with rfl | rfl
    · exact ak.ptr (Nat.le_of_ble_eq_true rfl) (by rw [he]; rfl)
    · exact ak.ptr (Nat.le_of_ble_eq_true rfl) (by rw [he2]; rfl)) hd h0 hm r1 m1 r2 m2 r3 m3 r4 m4 r5 m5 r6 m6
theorem jr {σ : AE} {H : AH} {n : Nat} {R : Rd} (j1 j2 j3 j4 j5 j6 : Nat) {l : List AV} (he : aL (pa 0) σ = .ptr 0 0) (he2 : aL (pa 2) σ = .ptr 0 16) (hd : [0, j1, j2, j3, j4, j5, j6].Nodup) (h0 : PM.get H 0 = some (.cells l true)) (hm : l.map mk = rdC j1 j2 j3 j4 j5 j6 R) (r1 : PM.get H j1 = some (.cells (au R.ks) true)) (r2 : PM.get H j2 = some (.cells (ints R.ts) true)) (r3 : PM.get H j3 = some (.cells (ints R.vs) true)) (r4 : PM.get H j4 = some (.cells (bw R.ls) true)) (r5 : PM.get H j5 = some (.cells (ints R.q.times) true)) (r6 : PM.get H j6 = some (.cells (au R.fs) true)) : Cov 7 σ H n ((opS R).1, (opS R).2, 13) :=
  zi j1 j2 j3 j4 j5 j6 he he2 hd h0 hm r1 (aj _) r2 (ai _) r3 (ai _) r4 (bf _) r5 (ai _) r6 (aj _)
theorem kg (w : List Nat) (R : Rd) : ∃ q Y, jo w R = (.sb q, Y) ∧ (q = true → atR w R = true ∧ Y = (aa R).2) ∧ (q = false → ¬ atR w R = true ∧ Y = R) := by
  by_cases h : atR w R = true
  · exact ⟨true, _, kf h, (fun _ => ⟨h, rfl⟩), fun q => by cases q⟩
  · exact ⟨false, _, mN h, (fun q => by cases q), fun _ => ⟨h, rfl⟩⟩
theorem A8 (R : Rd) (hok : Bz 790000 R) : dh (aw KOp 4 74) (.ptr 0 0 :: []) (mkH (dr (rdO R) 0)) 7 (RdP (aH eV R).1 (aH eV R).2) := by
  show aw KOp 4 74 _ _ _ _
  conv => whnf
  refine ⟨_, _, 0, _, _, _, _, _, _, R, rfl, ⟨_, _, rfl, rfl, rfl⟩, ⟨by decide, by decide, rfl, rfl, rfl, rfl, rfl, rfl, rfl⟩, hok.ok, ?_⟩
  conv => whnf
  refine ⟨_, _, 0, _, _, _, _, _, _, (stF (orR [45] 0) mc R), rfl, ⟨_, _, rfl, rfl, rfl⟩, ⟨by decide, by decide, rfl, rfl, rfl, rfl, rfl, rfl, rfl⟩, ((hok.orW [45] 0).set (stF (orR [45] 0) mc R)).ok, ?_⟩
  obtain ⟨q1, Y, hh, ht, hf⟩ := kg yc (gk R)
  conv => whnf
  refine df.mk { X : Rd // fI (gk R) = X ∧ Bz 790001 X } 13 (fun X => opS X.val) ?_ ?_
  focus
    conv => whnf
    refine ⟨_, 0, _, _, _, _, _, _, (gk R), _, _, rfl, ⟨_, rfl, rfl⟩, ⟨by decide, by decide, rfl, rfl, rfl, rfl, rfl, rfl, rfl⟩, hok.o1.ok, hh, ?_⟩
    conv => whnf
    refine ab.sb (fun hb => ?_) (fun hb => ?_)
    focus
      have bY : Bz 790000 Y := by rw [(ht hb).2]; exact hok.o1.next
      have e2 : fI (gk R) = wh fP gT (stF (ae ah) gS Y) := by unfold fI; rw [if_pos (ht hb).1, (ht hb).2]
      obtain ⟨f1, f2, f3, f4, f5, f6, f7⟩ := A6 (B := 0) (g := ah) (S := Y) (by have := bY.q; omega)
      conv => whnf
      refine ⟨?_, ?_, trivial⟩
      focus
        conv => whnf
        refine .inl ⟨0, _, _, _, _, _, _, Y, rfl, rfl, ⟨by decide, by decide, rfl, rfl, rfl, rfl, rfl, rfl, rfl⟩, bY.ok, ?_⟩
        conv => whnf
        refine iL.grow 1 8 _ _ _ _ _ _ x8 (.old rfl) rfl rfl (.rw rfl f1) f3 ?_
        conv => whnf
        refine cW.mk { X : Rd // Bz 790001 X ∧ wh fP gT X = fI (gk R) } 13 (fun X => opS X.val) (fun X => muR X.val) ⟨stF (ae ah) gS Y, (bY.told ah).ptT _, e2.symm⟩ ?_ ?_
        focus
          exact zi _ _ _ _ _ _ rfl rfl (by decide) rfl (f5 _ _ _ _ _ _) rfl (aj _) rfl (ai _) rfl (ai _) rfl (bf _) rfl f7 rfl (aj _)
      rotate_left
      focus
        conv => whnf
        refine .inl ⟨0, _, _, _, _, _, _, Y, rfl, rfl, ⟨by decide, by decide, rfl, rfl, rfl, rfl, rfl, rfl, rfl⟩, bY.ok, ?_⟩
        conv => whnf
        refine iL.grow 1 8 _ _ _ _ _ _ x8 (.old rfl) rfl rfl (.rw rfl f2) f4 ?_
        conv => whnf
        refine cW.mk { X : Rd // Bz 790001 X ∧ wh fP gT X = fI (gk R) } 13 (fun X => opS X.val) (fun X => muR X.val) ⟨stF (ae ah) gS Y, (bY.told ah).ptT _, e2.symm⟩ ?_ ?_
        focus
          exact zi _ _ _ _ _ _ rfl rfl (by decide) rfl (f6 _ _ _ _ _ _) rfl (aj _) rfl (ai _) rfl (ai _) rfl (bf _) rfl f7 rfl (aj _)
      all_goals
        intro ⟨X, hB, hX⟩
        conv => whnf
        refine ab.dec (fun h0 => ?_) (fun h0 => ?_)
        rotate_left
        focus
          have ee : fI (gk R) = X := by rw [← hX, bU (show ¬ fP X = true by unfold fP; rw [show ao X = false from Bool.eq_false_iff.2 (c9 h0)]; simp)]
          conv => whnf
          exact ⟨⟨X, ee, hB⟩, jr _ _ _ _ _ _ rfl rfl (by decide) rfl rfl rfl rfl rfl rfl rfl rfl⟩
        conv => whnf
        refine ab.dec (fun hp => ?_) (fun hp => ?_)
        rotate_left
        focus
          have ee : fI (gk R) = X := by rw [← hX, bU (show ¬ fP X = true by unfold fP; rw [show ao X = false from Bool.eq_false_iff.2 (da fun q => hp (by exact Int.ofNat_lt.2 q))]; simp)]
          conv => whnf
          exact ⟨⟨X, ee, hB⟩, jr _ _ _ _ _ _ rfl rfl (by decide) rfl rfl rfl rfl rfl rfl rfl rfl⟩
        have hp : 0 < X.ws.length := by exact Int.ofNat_lt.1 hp
        have hm := c8 h0 hp
        have hwd := hB.ok _ (List.getElem_mem hp)
        rw [pM hp] at hwd
        conv => whnf
        refine Idx.mk 0 rfl hp ?_
        conv => whnf
        refine aO (gi hp) ?_
        conv => whnf
        refine ⟨X.ws.headD [], rfl, hwd.1, hwd.2, ?_⟩
        conv => whnf
        refine ab.gQ (fun hb => ?_) (fun hb => ?_)
        focus
          have hb : ¬ (ah (X.ws.headD [])).2 = 0 := hb
          have ee : fI (gk R) = X := by rw [← hX, bU (show ¬ fP X = true by unfold fP; rw [show decide ((ah (X.ws.headD [])).2 = 0) = false from decide_eq_false hb]; simp)]
          conv => whnf
          exact ⟨⟨X, ee, hB⟩, jr _ _ _ _ _ _ rfl rfl (by decide) rfl rfl rfl rfl rfl rfl rfl rfl⟩
        have hb : (ah (X.ws.headD [])).2 = 0 := hb
        have hc : fP X = true := by unfold fP; rw [hm, decide_eq_true hb]; rfl
        obtain ⟨g1, g2, g3, g4⟩ := A7 (S := X) (by have := hB.q; omega)
        conv => whnf
        refine ⟨0, _, _, _, _, _, _, X, rfl, rfl, ⟨by decide, by decide, rfl, rfl, rfl, rfl, rfl, rfl, rfl⟩, trivial, ?_⟩
        conv => whnf
        refine iL.grow 1 8 _ _ _ _ _ _ x8 (.old rfl) rfl rfl (.rw rfl g1) g2 ?_
        conv => whnf
        exact ⟨⟨gT X, hB.tm1 hm, (fT (fun _ => uX) hc).trans hX⟩, uX hc, zi _ _ _ _ _ _ rfl rfl (by decide) rfl (g3 _ _ _ _ _ _) rfl (aj _) rfl (ai _) rfl (ai _) rfl (bf _) rfl g4 rfl (aj _)⟩
    have ee : fI (gk R) = Y := by unfold fI; rw [if_neg (hf hb).1, (hf hb).2]
    conv => whnf
    exact ⟨⟨Y, ee, (by rw [(hf hb).2]; exact hok.o1.mono (by decide))⟩, jr _ _ _ _ _ _ rfl rfl (by decide) rfl rfl rfl rfl rfl rfl rfl rfl⟩
  intro ⟨A, eA, bA⟩
  obtain ⟨q3, Y3, hh3, ht, hf⟩ := kg se A
  conv => whnf
  refine df.mk { X : Rd // iP A = X ∧ Bz 790001 X } 13 (fun X => opS X.val) ?_ ?_
  focus
    conv => whnf
    refine ⟨_, 0, _, _, _, _, _, _, A, _, _, rfl, ⟨_, rfl, rfl⟩, ⟨by decide, by decide, rfl, rfl, rfl, rfl, rfl, rfl, rfl⟩, bA.ok, hh3, ?_⟩
    conv => whnf
    refine ab.sb (fun hb => ?_) (fun hb => ?_)
    focus
      have bY : Bz 790001 Y3 := by rw [(ht hb).2]; exact bA.next
      conv => whnf
      refine .inl ⟨0, _, _, _, _, _, _, Y3, rfl, rfl, ⟨by decide, by decide, rfl, rfl, rfl, rfl, rfl, rfl, rfl⟩, bY.ok, ?_⟩
      conv => whnf
      refine .inr ⟨_, _, cJ.y9 (b := 0) rfl, 0, _, _, _, _, _, _, (stF (ae ah) kA Y3), rfl, rfl, ⟨by decide, by decide, rfl, rfl, rfl, rfl, rfl, rfl, rfl⟩, (bY.told ah).ok, ?_⟩
      have ee : iP A = stF (ae ah) nH (stF (ae ah) kA Y3) := by unfold iP; rw [if_pos (ht hb).1, (ht hb).2]
      conv => whnf
      exact ⟨⟨stF (ae ah) nH (stF (ae ah) kA Y3), ee, (((bY.told ah).set (stF (ae ah) kA Y3)).told ah).set _⟩, jr _ _ _ _ _ _ rfl rfl (by decide) rfl rfl rfl rfl rfl rfl rfl rfl⟩
    have ee : iP A = Y3 := by unfold iP; rw [if_neg (hf hb).1, (hf hb).2]
    conv => whnf
    exact ⟨⟨Y3, ee, (by rw [(hf hb).2]; exact bA)⟩, jr _ _ _ _ _ _ rfl rfl (by decide) rfl rfl rfl rfl rfl rfl rfl rfl⟩
  intro ⟨B, eB, bB⟩
  obtain ⟨q4, Y4, hh4, ht, hf⟩ := kg pw B
  conv => whnf
  refine df.mk { X : Rd // jF B = X ∧ Bz 790001 X } 13 (fun X => opS X.val) ?_ ?_
  focus
    conv => whnf
    refine ⟨_, 0, _, _, _, _, _, _, B, _, _, rfl, ⟨_, rfl, rfl⟩, ⟨by decide, by decide, rfl, rfl, rfl, rfl, rfl, rfl, rfl⟩, bB.ok, hh4, ?_⟩
    conv => whnf
    refine ab.sb (fun hb => ?_) (fun hb => ?_)
    focus
      have bY : Bz 790001 Y4 := by rw [(ht hb).2]; exact bB.next
      conv => whnf
      refine .inl ⟨0, _, _, _, _, _, _, Y4, rfl, rfl, ⟨by decide, by decide, rfl, rfl, rfl, rfl, rfl, rfl, rfl⟩, bY.ok, ?_⟩
      have ee : jF B = stF (ae ah) nG Y4 := by unfold jF; rw [if_pos (ht hb).1, (ht hb).2]
      conv => whnf
      exact ⟨⟨stF (ae ah) nG Y4, ee, (bY.told ah).set _⟩, jr _ _ _ _ _ _ rfl rfl (by decide) rfl rfl rfl rfl rfl rfl rfl rfl⟩
    have ee : jF B = Y4 := by unfold jF; rw [if_neg (hf hb).1, (hf hb).2]
    conv => whnf
    exact ⟨⟨Y4, ee, (by rw [(hf hb).2]; exact bB)⟩, jr _ _ _ _ _ _ rfl rfl (by decide) rfl rfl rfl rfl rfl rfl rfl rfl⟩
  intro ⟨C, eC, bC⟩
  have eX : eV R = mL C := by unfold eV; rw [eA, eB, eC]
  obtain ⟨q5, Y5, hh5, ht, hf⟩ := kg di C
  conv => whnf
  refine ⟨_, 0, _, _, _, _, _, _, C, _, _, rfl, ⟨_, rfl, rfl⟩, ⟨by decide, by decide, rfl, rfl, rfl, rfl, rfl, rfl, rfl⟩, bC.ok, hh5, ?_⟩
  conv => whnf
  refine ab.sb (fun hb => ?_) (fun hb => ?_)
  rotate_left
  focus
    conv => whnf
    exact bI (show eV R = Y5 by rw [eX]; unfold mL; rw [if_neg (hf hb).1, (hf hb).2]) _ _ _ _ _ _ (.same rfl) (by decide) rfl rfl rfl rfl rfl rfl rfl rfl
  have bY : Bz 790001 Y5 := by rw [(ht hb).2]; exact bC.next
  obtain ⟨z, T, hT, hT'⟩ := rD aN Y5
  have bT : Bz 790001 { T with q := { T.q with kind := z } } := by have := (bY.told aN).set (stF (ae aN) fF Y5); unfold stF fF at this; rw [hT'] at this; exact this
  conv => whnf
  refine .inr (.inr ⟨0, _, _, _, _, _, _, Y5, _, _, rfl, rfl, ⟨by decide, by decide, rfl, rfl, rfl, rfl, rfl, rfl, rfl⟩, bY.ok, hT, ?_⟩)
  conv => whnf
  refine .inl ⟨0, _, _, _, _, _, _, { T with q := { T.q with kind := z } }, rfl, rfl, ⟨by decide, by decide, rfl, rfl, rfl, rfl, rfl, rfl, rfl⟩, bT.ok, ?_⟩
  obtain ⟨D, hD⟩ : ∃ D, D = stF (ae ah) iK { T with q := { T.q with kind := z } } := ⟨_, rfl⟩
  have bD : Bz 790001 D := by rw [hD]; exact (bT.told ah).set _
  have e5 : eV R = fU (fJ D) := by rw [eX, hD]; unfold mL; rw [if_pos (ht hb).1]; unfold pe; rw [← (ht hb).2]; congr 2; show stF (ae ah) iK (stF (ae aN) fF Y5) = _; congr 1; unfold stF fF; rw [hT']
  obtain ⟨q6, Y6, hh6, ht, hf⟩ := kg kE D
  rw [hD] at hh6
  conv => whnf
  refine df.mk { X : Rd // fJ D = X ∧ Bz 790001 X } 13 (fun X => opS X.val) ?_ ?_
  focus
    conv => whnf
    refine ⟨_, 0, _, _, _, _, _, _, (stF (ae ah) iK { T with q := { T.q with kind := z } }), _, _, rfl, ⟨_, rfl, rfl⟩, ⟨by decide, by decide, rfl, rfl, rfl, rfl, rfl, rfl, rfl⟩, (hD ▸ bD.ok), hh6, ?_⟩
    conv => whnf
    refine ab.sb (fun hb => ?_) (fun hb => ?_)
    focus
      have bY : Bz 790001 Y6 := by rw [(ht hb).2]; exact bD.next
      conv => whnf
      refine .inl ⟨0, _, _, _, _, _, _, Y6, rfl, rfl, ⟨by decide, by decide, rfl, rfl, rfl, rfl, rfl, rfl, rfl⟩, bY.ok, ?_⟩
      have ee : fJ D = stF (ae ah) me Y6 := by unfold fJ; rw [if_pos (ht hb).1, (ht hb).2]
      conv => whnf
      exact ⟨⟨stF (ae ah) me Y6, ee, (bY.told ah).set _⟩, jr _ _ _ _ _ _ rfl rfl (by decide) rfl rfl rfl rfl rfl rfl rfl rfl⟩
    have ee : fJ D = Y6 := by unfold fJ; rw [if_neg (hf hb).1, (hf hb).2]
    conv => whnf
    exact ⟨⟨Y6, ee, (by rw [(hf hb).2]; exact bD)⟩, jr _ _ _ _ _ _ rfl rfl (by decide) rfl rfl rfl rfl rfl rfl rfl rfl⟩
  intro ⟨E, eE, bE⟩
  obtain ⟨q7, Y7, hh7, ht, hf⟩ := kg jE E
  have e7 : eV R = { Y7 with q := { Y7.q with empty := q7 } } := by
      rw [e5, eE]; unfold fU
      cases q7 with
      | true => rw [if_pos (ht rfl).1, (ht rfl).2]
      | false => rw [if_neg (hf rfl).1, (hf rfl).2]
  conv => whnf
  refine ⟨_, 0, _, _, _, _, _, _, E, _, _, rfl, ⟨_, rfl, rfl⟩, ⟨by decide, by decide, rfl, rfl, rfl, rfl, rfl, rfl, rfl⟩, bE.ok, hh7, ?_⟩
  conv => whnf
  exact bI e7 _ _ _ _ _ _ (.same rfl) (by decide) rfl rfl rfl rfl rfl rfl rfl rfl
theorem Hg : aI 74 (bF (fun R => Bz 790000 R) noA (aH eV)) := bL (az Hf 4 _) (by kernel_rfl) de (fun _ => rfl) (fun R => ⟨rfl, fun _ => rfl⟩) fun R h => A8 R h
end Go.Proofs.Ytdfeigkooeeeaaa
namespace Go.Proofs.Ytdfeigkooeeeaaa
open Go Go.RowKit
def Hh : DT := [(0, [(some 1000000, [5, 7]), (none, [0, 1, 2, 3, 4, 5, 6, 7, 8, 9, 10, 11, 12, 13]), (none, [0, 1, 2, 3, 4, 6, 7, 5, 8, 9, 10, 11, 12, 13])]), (2, [(some 1000000, [5, 7]), (none, [0, 1, 2, 3, 4, 5, 6, 7, 8, 9, 10, 11, 12, 13]), (none, [0, 1, 2, 3, 4, 6, 7, 5, 8, 9, 10, 11, 12, 13])])]
noncomputable def KFi : FuncId → EP := (dg 57 Hh KB)
theorem Hi : cm KFi := (aX ly (by kernel_rfl) (by kernel_rfl))
theorem A9 (R : Rd) (hok : Bz 880000 R) : dh (aw KFi 4 57) (.ptr 0 0 :: []) (mkH (dr (rdO R) 0)) 7 (RdP (aH jq R).1 (aH jq R).2) := by
  obtain ⟨g1, g2, g3, g4, g5, g6, g7⟩ := oL (R := R) (by have := hok.fs; omega)
  show aw KFi 4 57 _ _ _ _
  conv => whnf
  refine ⟨?_, ?_, trivial⟩
  · conv => whnf
    refine ⟨0, 1, 2, 3, 4, 5, 6, R, rfl, rfl, ⟨by decide, by decide, rfl, rfl, rfl, rfl, rfl, rfl, rfl⟩, trivial, ?_⟩
    conv => whnf
    refine iL.grow 1 16 _ _ _ _ _ _ wH (.old rfl) rfl rfl (.rw rfl g1) g3 ?_
    conv => whnf
    refine cW.mk { X : Rd // Bz 880001 X ∧ wh eG dQ X = jq R } 13 (fun X => rdS X.val) (fun X => muR X.val) ⟨dQ R, hok.fs1, rfl⟩ ?_ ?_
    · exact gR 1 2 3 4 5 8 rfl (by decide) rfl (g5 _ _ _ _ _ _) rfl (aj _) rfl (ai _) rfl (ai _) rfl (bf _) rfl (ai _) rfl (g7 _ rfl)
    · intro ⟨X, hB, hX⟩
      conv => whnf
      refine ab.dec (fun h0 => ?_) (fun h0 => ?_)
      · conv => whnf
        refine ab.dec (fun hp => ?_) (fun hp => ?_)
        · have hp : 0 < X.ws.length := by exact Int.ofNat_lt.1 hp
          have hm := c8 h0 hp
          by_cases hw : atR gj X = true
          · conv => whnf
            refine ⟨_, 0, 7, 8, 9, 10, 11, 12, X, _, _, rfl, ⟨_, rfl, rfl⟩, ⟨by decide, by decide, rfl, rfl, rfl, rfl, rfl, rfl, rfl⟩, hB.ok, Dl hw, ?_⟩
            conv => whnf
            refine ab.nsb (fun q => absurd q (by decide)) (fun _ => ?_)
            conv => whnf
            exact bI (show jq R = X by rw [← hX, bU (show ¬ eG X = true by unfold eG; rw [hw]; simp)]) 7 8 9 10 11 12 (.same rfl) (by decide) rfl rfl rfl rfl rfl rfl rfl rfl
          · have hc : eG X = true := by unfold eG; rw [hm, Bool.eq_false_iff.2 hw]; rfl
            obtain ⟨f1, f2, f3, f4, f5, f6, f7⟩ := oL (R := X) (by have := hB.fs; omega)
            conv => whnf
            refine ⟨_, 0, 7, 8, 9, 10, 11, 12, X, _, _, rfl, ⟨_, rfl, rfl⟩, ⟨by decide, by decide, rfl, rfl, rfl, rfl, rfl, rfl, rfl⟩, hB.ok, F8 hw, ?_⟩
            conv => whnf
            refine ab.nsb (fun _ => ?_) (fun q => absurd q (by decide))
            conv => whnf
            refine ⟨?_, ?_, trivial⟩
            · conv => whnf
              refine ⟨0, 7, 8, 9, 10, 11, 12, X, rfl, rfl, ⟨by decide, by decide, rfl, rfl, rfl, rfl, rfl, rfl, rfl⟩, trivial, ?_⟩
              conv => whnf
              refine iL.grow 1 16 _ _ _ _ _ _ wH (.old rfl) rfl rfl (.rw rfl f1) f3 ?_
              conv => whnf
              exact ⟨⟨dQ X, hB.De hm, (fT (fun _ => ia) hc).trans hX⟩, ia hc, gR 7 8 9 10 11 14 rfl (by decide) rfl (f5 _ _ _ _ _ _) rfl (aj _) rfl (ai _) rfl (ai _) rfl (bf _) rfl (ai _) rfl (f7 _ rfl)⟩
            · conv => whnf
              refine ⟨0, 7, 8, 9, 10, 11, 12, X, rfl, rfl, ⟨by decide, by decide, rfl, rfl, rfl, rfl, rfl, rfl, rfl⟩, trivial, ?_⟩
              conv => whnf
              refine iL.grow 1 16 _ _ _ _ _ _ wH (.old rfl) rfl rfl (.rw rfl f2) f4 ?_
              conv => whnf
              exact ⟨⟨dQ X, hB.De hm, (fT (fun _ => ia) hc).trans hX⟩, ia hc, gR 7 8 9 10 11 14 rfl (by decide) rfl (f6 _ _ _ _ _ _) rfl (aj _) rfl (ai _) rfl (ai _) rfl (bf _) rfl (ai _) rfl (f7 _ rfl)⟩
        · have hn : ¬ ao X = true := da fun q => hp (by exact Int.ofNat_lt.2 q)
          conv => whnf
          exact bI (show jq R = X by rw [← hX, bU (show ¬ eG X = true by unfold eG; rw [Bool.eq_false_iff.2 hn]; simp)]) 7 8 9 10 11 12 (.same rfl) (by decide) rfl rfl rfl rfl rfl rfl rfl rfl
      · have hn : ¬ ao X = true := c9 h0
        conv => whnf
        exact bI (show jq R = X by rw [← hX, bU (show ¬ eG X = true by unfold eG; rw [Bool.eq_false_iff.2 hn]; simp)]) 7 8 9 10 11 12 (.same rfl) (by decide) rfl rfl rfl rfl rfl rfl rfl rfl
  · conv => whnf
    refine ⟨0, 1, 2, 3, 4, 5, 6, R, rfl, rfl, ⟨by decide, by decide, rfl, rfl, rfl, rfl, rfl, rfl, rfl⟩, trivial, ?_⟩
    conv => whnf
    refine iL.grow 1 16 _ _ _ _ _ _ wH (.old rfl) rfl rfl (.rw rfl g2) g4 ?_
    conv => whnf
    refine cW.mk { X : Rd // Bz 880001 X ∧ wh eG dQ X = jq R } 13 (fun X => rdS X.val) (fun X => muR X.val) ⟨dQ R, hok.fs1, rfl⟩ ?_ ?_
    · exact gR 1 2 3 4 5 8 rfl (by decide) rfl (g6 _ _ _ _ _ _) rfl (aj _) rfl (ai _) rfl (ai _) rfl (bf _) rfl (ai _) rfl (g7 _ rfl)
    · intro ⟨X, hB, hX⟩
      conv => whnf
      refine ab.dec (fun h0 => ?_) (fun h0 => ?_)
      · conv => whnf
        refine ab.dec (fun hp => ?_) (fun hp => ?_)
        · have hp : 0 < X.ws.length := by exact Int.ofNat_lt.1 hp
          have hm := c8 h0 hp
          by_cases hw : atR gj X = true
          · conv => whnf
            refine ⟨_, 0, 7, 8, 9, 10, 11, 12, X, _, _, rfl, ⟨_, rfl, rfl⟩, ⟨by decide, by decide, rfl, rfl, rfl, rfl, rfl, rfl, rfl⟩, hB.ok, Dl hw, ?_⟩
            conv => whnf
            refine ab.nsb (fun q => absurd q (by decide)) (fun _ => ?_)
            conv => whnf
            exact bI (show jq R = X by rw [← hX, bU (show ¬ eG X = true by unfold eG; rw [hw]; simp)]) 7 8 9 10 11 12 (.same rfl) (by decide) rfl rfl rfl rfl rfl rfl rfl rfl
          · have hc : eG X = true := by unfold eG; rw [hm, Bool.eq_false_iff.2 hw]; rfl
            obtain ⟨f1, f2, f3, f4, f5, f6, f7⟩ := oL (R := X) (by have := hB.fs; omega)
            conv => whnf
            refine ⟨_, 0, 7, 8, 9, 10, 11, 12, X, _, _, rfl, ⟨_, rfl, rfl⟩, ⟨by decide, by decide, rfl, rfl, rfl, rfl, rfl, rfl, rfl⟩, hB.ok, F8 hw, ?_⟩
            conv => whnf
            refine ab.nsb (fun _ => ?_) (fun q => absurd q (by decide))
            conv => whnf
            refine ⟨?_, ?_, trivial⟩
            · conv => whnf
              refine ⟨0, 7, 8, 9, 10, 11, 12, X, rfl, rfl, ⟨by decide, by decide, rfl, rfl, rfl, rfl, rfl, rfl, rfl⟩, trivial, ?_⟩
              conv => whnf
              refine iL.grow 1 16 _ _ _ _ _ _ wH (.old rfl) rfl rfl (.rw rfl f1) f3 ?_
              conv => whnf
              exact ⟨⟨dQ X, hB.De hm, (fT (fun _ => ia) hc).trans hX⟩, ia hc, gR 7 8 9 10 11 14 rfl (by decide) rfl (f5 _ _ _ _ _ _) rfl (aj _) rfl (ai _) rfl (ai _) rfl (bf _) rfl (ai _) rfl (f7 _ rfl)⟩
            · conv => whnf
              refine ⟨0, 7, 8, 9, 10, 11, 12, X, rfl, rfl, ⟨by decide, by decide, rfl, rfl, rfl, rfl, rfl, rfl, rfl⟩, trivial, ?_⟩
              conv => whnf
              refine iL.grow 1 16 _ _ _ _ _ _ wH (.old rfl) rfl rfl (.rw rfl f2) f4 ?_
              conv => whnf
              exact ⟨⟨dQ X, hB.De hm, (fT (fun _ => ia) hc).trans hX⟩, ia hc, gR 7 8 9 10 11 14 rfl (by decide) rfl (f6 _ _ _ _ _ _) rfl (aj _) rfl (ai _) rfl (ai _) rfl (bf _) rfl (ai _) rfl (f7 _ rfl)⟩
        · have hn : ¬ ao X = true := da fun q => hp (by exact Int.ofNat_lt.2 q)
          conv => whnf
          exact bI (show jq R = X by rw [← hX, bU (show ¬ eG X = true by unfold eG; rw [Bool.eq_false_iff.2 hn]; simp)]) 7 8 9 10 11 12 (.same rfl) (by decide) rfl rfl rfl rfl rfl rfl rfl rfl
      · have hn : ¬ ao X = true := c9 h0
        conv => whnf
        exact bI (show jq R = X by rw [← hX, bU (show ¬ eG X = true by unfold eG; rw [Bool.eq_false_iff.2 hn]; simp)]) 7 8 9 10 11 12 (.same rfl) (by decide) rfl rfl rfl rfl rfl rfl rfl rfl
theorem Dq : aI 57 (bF (fun R => Bz 880000 R) noA (aH jq)) := bL (az Hi 4 _) (by kernel_rfl) de (fun _ => rfl) (fun R => ⟨rfl, fun _ => rfl⟩) fun R h => A9 R h
noncomputable def KMg : FuncId → EP := (aG 57 (bF (fun R => Bz 880000 R) noA (aH jq)) KB)
theorem Hj : cm KMg := (an ly Dq)
theorem yk (R : Rd) (hok : Bz 870000 R) : dh (aw KMg 4 54) (.ptr 0 0 :: []) (mkH (dr (rdO R) 0)) 7 (RdP (aH ff R).1 (aH ff R).2) := by
  show aw KMg 4 54 _ _ _ _
  conv => whnf
  refine ⟨_, 0, 1, 2, 3, 4, 5, 6, R, rfl, ⟨_, rfl, rfl⟩, ⟨by decide, by decide, rfl, rfl, rfl, rfl, rfl, rfl, rfl⟩, hok.ok, ?_⟩
  conv => whnf
  refine ⟨0, 1, 2, 3, 4, 5, 6, (bj cu R).2, rfl, rfl, ⟨by decide, by decide, rfl, rfl, rfl, rfl, rfl, rfl, rfl⟩, ((hok.nJ cu).mono (by decide)), ?_⟩
  conv => whnf
  exact bI (show ff R = _ from rfl) 7 8 9 10 11 12 (.same rfl) (by decide) rfl rfl rfl rfl rfl rfl rfl rfl
theorem zj : aI 54 (bF (fun R => Bz 870000 R) noA (aH ff)) := bL (az Hj 4 _) (by kernel_rfl) de (fun _ => rfl) (fun R => ⟨rfl, fun _ => rfl⟩) fun R h => yk R h
end Go.Proofs.Ytdfeigkooeeeaaa
namespace Go.Proofs.Ytdfeigkooeeeaaa
open Go Go.RowKit
def wR (ok : Rd → Prop) (F : Rd → Rd) (args : List AV) (H : AH) (n : Nat) (κ : PK) : Prop := match args with
  | [x] => ∃ (r k t v l q f : Nat) (R R' : Rd), x = .ptr r 0 ∧ x1 H n r k t v l q f R ∧ ok R ∧ F R = R' ∧ κ (.tup []) (uV H n r k t v l q f R') (n + 6)
  | _ => False
theorem aI.Hk {f : FuncId} {ok : Rd → Prop} {F : Rd → Rd} (h : aI f (bF ok noA (aH F))) : aI f (wR ok F) := fun args H n κ hs => h args H n κ (by
  unfold wR at hs
  split at hs
  · obtain ⟨r, k, t, v, l, q, f, R, R', h2, h3, h4, h5, h6⟩ := hs
    subst h5
    exact ⟨r, k, t, v, l, q, f, R, h2, rfl, h3, h4, h6⟩
  · exact hs.elim)
noncomputable def KOn : FuncId → EP := (aG 74 (wR (fun R => Bz 790000 R) eV) (aG 54 (wR (fun R => Bz 870000 R) ff) (aG 53 (wR (fun R => R.ks.length ≤ 1000000) aF) KB3)))
theorem Dr : cm KOn := (an (an (an Dn uW.Hk) zj.Hk) Hg.Hk)
theorem Ba (R : Rd) (hok : Bz 780000 R) : dh (aw KOn 4 55) (.ptr 0 0 :: []) (mkH (dr (rdO R) 0)) 7 (RdP (aH wP R).1 (aH wP R).2) := by
  show aw KOn 4 55 _ _ _ _
  obtain ⟨K, hK⟩ : ∃ K, aF R = K := ⟨_, rfl⟩
  have bK : Bz 780001 K := by rw [← hK]; exact hok.key
  obtain ⟨O, hO⟩ : ∃ O, eV K = O := ⟨_, rfl⟩
  conv => whnf
  refine ⟨0, _, _, _, _, _, _, R, K, rfl, ⟨by decide, by decide, rfl, rfl, rfl, rfl, rfl, rfl, rfl⟩, hok.kk, hK, ?_⟩
  conv => whnf
  refine ⟨0, _, _, _, _, _, _, K, O, rfl, ⟨by decide, by decide, rfl, rfl, rfl, rfl, rfl, rfl, rfl⟩, bK.mono (by decide), hO, ?_⟩
  conv => whnf
  exact bI (show wP R = O by unfold wP; rw [hK, hO]) _ _ _ _ _ _ (.same rfl) (by decide) rfl rfl rfl rfl rfl rfl rfl rfl
theorem Hl : aI 55 (bF (fun R => Bz 780000 R) noA (aH wP)) := bL (az Dr 4 _) (by kernel_rfl) de (fun _ => rfl) (fun R => ⟨rfl, fun _ => rfl⟩) fun R h => Ba R h
theorem Bb (R : Rd) (hok : Bz 780000 R) : dh (aw KOn 4 56) (.ptr 0 0 :: []) (mkH (dr (rdO R) 0)) 7 (RdP (aH mM R).1 (aH mM R).2) := by
  show aw KOn 4 56 _ _ _ _
  obtain ⟨O, hO⟩ : ∃ O, eV R = O := ⟨_, rfl⟩
  have bO : Bz 790001 O := by rw [← hO]; exact (hok.mono (by decide)).opt
  obtain ⟨M, hM⟩ : ∃ M, ff O = M := ⟨_, rfl⟩
  have bM : Bz 790002 M := by rw [← hM]; exact bO.sj
  have e1 : rA R = M := by unfold rA; rw [hO, hM]
  obtain ⟨q, Y, hh, ht, hf⟩ := kg gj M
  have bY : Bz 790002 Y := by
    cases q with
    | true => rw [(ht rfl).2]; exact bM.next
    | false => rw [(hf rfl).2]; exact bM
  obtain ⟨N, hN⟩ : ∃ N, N = { (aa Y).2 with gr := (aa Y).1 } := ⟨_, rfl⟩
  have bN : Bz 790002 { (aa Y).2 with gr := (aa Y).1 } := bY.next.set _
  obtain ⟨P, hP⟩ : ∃ P, bj iJ { (aa Y).2 with gr := (aa Y).1 } = (.tup [], P) := ⟨_, rfl⟩
  have bP : Bz 790002 P := by have := bN.nJ iJ; rw [hP] at this; exact this
  obtain ⟨z, T, hT, hT'⟩ := rD aN P
  conv => whnf
  refine ⟨0, _, _, _, _, _, _, R, O, rfl, ⟨by decide, by decide, rfl, rfl, rfl, rfl, rfl, rfl, rfl⟩, hok.mono (by decide), hO, ?_⟩
  conv => whnf
  refine ⟨0, _, _, _, _, _, _, O, M, rfl, ⟨by decide, by decide, rfl, rfl, rfl, rfl, rfl, rfl, rfl⟩, bO.mono (by decide), hM, ?_⟩
  conv => whnf
  refine ⟨_, 0, _, _, _, _, _, _, M, _, _, rfl, ⟨_, rfl, rfl⟩, ⟨by decide, by decide, rfl, rfl, rfl, rfl, rfl, rfl, rfl⟩, bM.ok, hh, ?_⟩
  conv => whnf
  refine ab.sb (fun hb => ?_) (fun hb => ?_)
  focus
    conv => whnf
    refine ⟨0, _, _, _, _, _, _, Y, rfl, rfl, ⟨by decide, by decide, rfl, rfl, rfl, rfl, rfl, rfl, rfl⟩, trivial, ?_⟩
    conv => whnf
    refine ⟨_, 0, _, _, _, _, _, _, { (aa Y).2 with gr := (aa Y).1 }, _, _, rfl, ⟨_, rfl, rfl⟩, ⟨by decide, by decide, rfl, rfl, rfl, rfl, rfl, rfl, rfl⟩, bN.ok, hP, ?_⟩
    conv => whnf
    refine .inr (.inr ⟨0, _, _, _, _, _, _, P, _, _, rfl, rfl, ⟨by decide, by decide, rfl, rfl, rfl, rfl, rfl, rfl, rfl⟩, bP.ok, hT, ?_⟩)
    conv => whnf
    exact bI (show mM R = { T with rd := z } by unfold mM; rw [e1, if_pos (ht hb).1]; unfold yd; rw [← (ht hb).2, hP]; unfold stF kz; rw [hT']) _ _ _ _ _ _ (.same rfl) (by decide) rfl rfl rfl rfl rfl rfl rfl rfl
  conv => whnf
  exact bI (show mM R = Y by unfold mM; rw [e1, if_neg (hf hb).1, (hf hb).2]) _ _ _ _ _ _ (.same rfl) (by decide) rfl rfl rfl rfl rfl rfl rfl rfl
theorem Hm : aI 56 (bF (fun R => Bz 780000 R) noA (aH mM)) := bL (az Dr 4 _) (by kernel_rfl) de (fun _ => rfl) (fun R => ⟨rfl, fun _ => rfl⟩) fun R h => Bb R h
end Go.Proofs.Ytdfeigkooeeeaaa
namespace Go.Proofs.Ytdfeigkooeeeaaa
open Go Go.RowKit
def dj (F : Rd → Rd) (args : List AV) (H : AH) (n : Nat) (κ : PK) : Prop := match args with
  | [x] => ∃ (H0 : AH) (n0 : Nat), cJ H n H0 n0 ∧ ∃ (r k t v l q f : Nat) (R R' : Rd), x = .ptr r 0 ∧ x1 H0 n0 r k t v l q f R ∧ Bz 780000 R ∧ F R = R' ∧ κ (.tup []) (uV H0 n0 r k t v l q f R') (n0 + 6)
  | _ => False
theorem aI.oM {f : FuncId} {ok : Rd → Prop} {F : Rd → Rd} (h : aI f (bF ok noA (aH F))) (hw : ∀ R, Bz 780000 R → ok R) : aI f (dj F) := fun args H n κ hs => h.Dc args H n κ (by
  unfold dj at hs
  split at hs
  · obtain ⟨H0, n0, h1, r, k, t, v, l, q, f, R, R', h2, h3, h4, h5, h6⟩ := hs
    subst h5
    exact ⟨H0, n0, h1, r, k, t, v, l, q, f, R, h2, rfl, h3, hw R h4, h6⟩
  · exact hs.elim)
noncomputable def aS : Nat → Rd → Rd
  | 1 => mK
  | 2 => mK
  | 3 => kF
  | 4 => fe
  | 5 => gL
  | 6 => gL
  | 7 => wO
  | 8 => lr
  | 9 => cI
  | 10 => fG
  | 11 => aF
  | 12 => ff
  | 13 => wP
  | 14 => mM
  | 15 => jq
  | 16 => aF
  | _ => id
def wS : Nat → FuncId
  | 1 => 45
  | 2 => 45
  | 3 => 46
  | 4 => 47
  | 5 => 48
  | 6 => 48
  | 7 => 49
  | 8 => 50
  | 9 => 51
  | 10 => 52
  | 11 => 53
  | 12 => 54
  | 13 => 55
  | 14 => 56
  | 15 => 57
  | 16 => 53
  | _ => 0
theorem wT {P : Nat → Prop} (h1 : P 1) (h2 : P 2) (h3 : P 3) (h4 : P 4) (h5 : P 5) (h6 : P 6) (h7 : P 7) (h8 : P 8) (h9 : P 9) (h10 : P 10) (h11 : P 11) (h12 : P 12) (h13 : P 13) (h14 : P 14) (h15 : P 15) (h16 : P 16) : ∀ k, 1 ≤ k → k ≤ 16 → P k
  | 0, h, _ => absurd h (by decide)
  | 1, _, _ => h1
  | 2, _, _ => h2
  | 3, _, _ => h3
  | 4, _, _ => h4
  | 5, _, _ => h5
  | 6, _, _ => h6
  | 7, _, _ => h7
  | 8, _, _ => h8
  | 9, _, _ => h9
  | 10, _, _ => h10
  | 11, _, _ => h11
  | 12, _, _ => h12
  | 13, _, _ => h13
  | 14, _, _ => h14
  | 15, _, _ => h15
  | 16, _, _ => h16
  | k + 17, _, h => absurd h (by omega)
noncomputable def KPa : FuncId → EP := (dg 14 EW (aG 23 yb (aG 45 (dj mK) (aG 46 (dj kF) (aG 47 (dj fe) (aG 48 (dj gL) (aG 49 (dj wO) (aG 50 (dj lr) (aG 51 (dj cI) (aG 52 (dj fG) (aG 53 (dj aF) (aG 54 (dj ff) (aG 55 (dj wP) (aG 56 (dj mM) (aG 57 (dj jq) (aG 24 (ll (fB rv)) (aG 25 (ll (fB eg)) (aG 26 (ll Im) evP))))))))))))))))))
theorem Ds : cm KPa := (aX (an (an (an (an (an (an (an (an (an (an (an (an (an (an (an (an (an ba EV) Db) zd) (Dq.oM (fun R h => h.mono (by decide)))) (Hm.oM (fun R h => h.mono (by decide)))) (Hl.oM (fun R h => h.mono (by decide)))) (zj.oM (fun R h => h.mono (by decide)))) (uW.oM (fun R h => h.kk))) (zg.oM (fun R h => h.mono (by decide)))) (E1.oM (fun R h => h.mono (by decide)))) (E0.oM (fun R h => h.mono (by decide)))) (G3.oM (fun R h => h.mono (by decide)))) (G7.oM (fun R h => h.mono (by decide)))) (G0.oM (fun R h => ⟨h.ok, by have := h.ks; omega, by have := h.ts; omega, by have := h.vs; omega⟩))) (G4.oM (fun R h => h.mono (by decide)))) (Hc.oM (fun R h => h.mono (by decide)))) Da) (by kernel_rfl) (by kernel_rfl))
theorem tk {args : List AV} {H : AH} {n : Nat} {κ : PK} : ∀ k, 1 ≤ k → k ≤ 16 → dj (aS k) args H n κ → aw KPa 4 (wS k) args H n κ := wT (fun h => h) (fun h => h) (fun h => h) (fun h => h) (fun h => h) (fun h => h) (fun h => h) (fun h => h) (fun h => h) (fun h => h) (fun h => h) (fun h => h) (fun h => h) (fun h => h) (fun h => h) (fun h => h)
theorem pN : ∀ {N : List (Nat × List Nat)} {u : List Nat}, whF N u ≠ 0 → ∃ x ∈ N, x.1 = whF N u ∧ bg x.2 u = true
  | [], _, h => absurd rfl h
  | x :: N, u, h => by
    unfold whF at h ⊢
    cases e : bg x.2 u with
    | true => exact ⟨x, List.mem_cons_self, rfl, e⟩
    | false =>
      rw [e] at h
      obtain ⟨y, h1, h2⟩ := pN h
      exact ⟨y, List.mem_cons_of_mem _ h1, h2⟩
theorem uY (u : List Nat) : whF rv u ≤ 16 := by
  by_cases h : whF rv u = 0
  · omega
  · obtain ⟨x, h1, h2, _⟩ := pN h
    rw [← h2]
    exact (show ∀ y ∈ rv, y.1 ≤ 16 by decide) x h1
theorem uZ (u : List Nat) : whF eg u = 0 ∨ (1 ≤ whF eg u ∧ whF eg u ≤ 16) := by
  by_cases h : whF eg u = 0
  · exact .inl h
  · obtain ⟨x, h1, h2, _⟩ := pN h
    rw [← h2]
    exact .inr ((show ∀ y ∈ eg, 1 ≤ y.1 ∧ y.1 ≤ 16 by decide) x h1)
def Bc : Rd := { ky with e := 15 }
noncomputable def db (u : List Nat) : Nat := if whF eg u = 0 then whF rv u else whF eg u
noncomputable def cL (W : List (List Nat)) : Rd := if W.length = 0 then Bc else if db (upF (W.headD [])) = 0 then Bc else dP (aS (db (upF (W.headD []))) (aJ W.tail (db (upF (W.headD [])) : Nat) (!decide (whF eg (upF (W.headD [])) = 0))))
theorem yl {W : List (List Nat)} (hl : W.length ≤ 700000) (hw : ∀ w ∈ W, (∀ c ∈ w, c < 256) ∧ w.length ≤ 1000000) (k : Int) (b : Bool) : Bz 780000 (aJ W.tail k b) :=
  ⟨fun w h => hw w (List.mem_of_mem_tail h), by simp [aJ]; omega, by simp [aJ]; omega, by simp [aJ]; omega, by simp [aJ]; omega, by simp [aJ, noQ]; omega, by simp [aJ]; omega⟩
theorem tl (W : List (List Nat)) (hl : W.length ≤ 700000) (hw : ∀ w ∈ W, (∀ c ∈ w, c < 256) ∧ w.length ≤ 1000000) :
    F5 (aw KPa 5 14) [.fr W.length 1 (au W)] .nil 0 (fun v => v = j9 (cL W)) := by
  obtain ⟨P, hP'⟩ : ∃ P, cL W = P := ⟨_, rfl⟩
  rw [hP']
  show aw KPa 5 14 _ _ _ _
  conv => whnf
  refine ab.dec (fun q => ?_) (fun hne => ?_)
  focus
    have hP : Bc = P := by rw [← hP']; unfold cL; rw [if_pos (by omega)]
    conv => whnf
    exact ⟨_, FzT.zero (R := Bc) (by decide) lP rfl, congrArg j9 hP⟩
  have hp : 0 < W.length := by omega
  have hh := hw _ (List.getElem_mem hp)
  rw [pM hp] at hh
  obtain ⟨k, hk⟩ : ∃ k, whF rv (upF (W.headD [])) = k := ⟨_, rfl⟩
  obtain ⟨b, hb⟩ : ∃ b, whF eg (upF (W.headD [])) = b := ⟨_, rfl⟩
  have k16 : k ≤ 16 := by rw [← hk]; exact uY _
  have b16 : b = 0 ∨ (1 ≤ b ∧ b ≤ 16) := by rw [← hb]; exact uZ _
  have hpar : ∀ nm bb X, db (upF (W.headD [])) = nm → (!decide (whF eg (upF (W.headD [])) = 0)) = bb → 1 ≤ nm → aS nm (aJ W.tail (nm : Int) bb) = X → dP X = P := fun nm bb X h1 h2 h3 h4 => by rw [← hP']; unfold cL; rw [if_neg (by omega), h1, h2, if_neg (by omega), h4]
  conv => whnf
  refine RSl.mk 1 _ rfl rfl (.inl rfl) hp (Nat.le_refl _) ?_
  conv => whnf
  refine ⟨?_, ?_, trivial⟩
  all_goals
    conv => whnf
    refine Idx.mk 0 rfl hp ?_
    conv => whnf
    refine aO (gi hp) ?_
    conv => whnf
    refine ⟨_, rv, W.headD [], k, rfl, rfl, by decide, rfl, AY, hh.1, hh.2, hk, ?_⟩
    conv => whnf
    refine ⟨?_, ?_, trivial⟩
    all_goals
      conv => whnf
      refine Idx.mk 0 rfl hp ?_
      conv => whnf
      refine aO (gi hp) ?_
      conv => whnf
      refine ⟨_, eg, W.headD [], b, rfl, rfl, by decide, rfl, AZ, hh.1, hh.2, hb, ?_⟩
      conv => whnf
      refine ab.dec (fun hg => ?_) (fun hg => ?_)
      focus
        have hg : 0 < b := by exact Int.ofNat_lt.1 hg
        let nm := b
        let bb := true
        have n1 : 1 ≤ nm := hg
        have n16 : nm ≤ 16 := b16.elim (fun h => absurd h (by omega)) fun h => h.2
        have hnm : db (upF (W.headD [])) = nm := by unfold db; rw [hb, if_neg (by omega)]
        have hbb : (!decide (whF eg (upF (W.headD [])) = 0)) = bb := by rw [hb, decide_eq_false (by omega)]; rfl
        obtain ⟨X, hX⟩ : ∃ X, aS nm (aJ W.tail (nm : Int) bb) = X := ⟨_, rfl⟩
        have hP : dP X = P := hpar nm bb X hnm hbb n1 hX
        conv => whnf
        refine ⟨?_, ?_, trivial⟩
        all_goals
          conv => whnf
          refine Ask.mk (.tup [.fn (wS nm) [] [], .bool true]) (wT (P := fun j => fy _ _ _ (hd (.si .i64 (Int.ofNat j))) _ _ = some (AV.tup [.fn (wS j) [] [], .bool true])) (by rfl) (by rfl) (by rfl) (by rfl) (by rfl) (by rfl) (by rfl) (by rfl) (by rfl) (by rfl) (by rfl) (by rfl) (by rfl) (by rfl) (by rfl) (by rfl) nm n1 n16) ?_
          conv => whnf
          refine tk nm n1 n16 ?_
          refine ⟨_, _, cJ.reader (r := 1) (ws := W.tail) (k := (nm : Int)) (b := bb) rfl (congrArg (fun a => a :: (ET (aJ W.tail (nm : Int) bb)).tail) (uS W)) (by decide) (by decide), 1, 5, 6, 7, 8, 9, 10, aJ W.tail (nm : Int) bb, X, rfl, ⟨by decide, by decide, rfl, rfl, rfl, rfl, rfl, rfl, rfl⟩, yl hl hw _ _, hX, ?_⟩
          conv => whnf
          refine ab.dec (fun he => ?_) (fun he => ?_)
          focus
            have he : X.e = 0 := he
            conv => whnf
            refine ab.dec (fun hq => ?_) (fun hq => ?_)
            focus
              have hq : 0 < X.ws.length := by exact Int.ofNat_lt.1 hq
              have hf : dP X = { X with e := 14 } := by unfold dP cg; rw [if_pos (c8 he hq), if_pos he]
              have hz : ¬ (dP X).e = 0 := by rw [hf]; show ¬ (14 : Int) = 0; decide
              have hx : AV.si .i64 14 = .si .i64 (dP X).e := by rw [hf]
              conv => whnf
              refine ab.dec (fun _ => ?_) (fun q => absurd he q)
              conv => whnf
              refine ⟨?_, ?_, trivial⟩
              all_goals
                conv => whnf
                exact ⟨_, FzT.zero (R := dP X) hz lP hx, congrArg j9 hP⟩
            have hq : ¬ 0 < X.ws.length := fun q => hq (by exact Int.ofNat_lt.2 q)
            have hf : dP X = X := by unfold dP; rw [if_neg (da hq)]
            have hx : AV.si .i64 0 = .si .i64 X.e := by rw [he]
            conv => whnf
            refine ab.gQ (fun q => absurd he q) (fun _ => ?_)
            conv => whnf
            exact ⟨_, FzT.rows 11 12 13 14 15 16 (by decide) (by decide) he hx rfl rfl rfl rfl rfl rfl, congrArg j9 (hf.symm.trans hP)⟩
          focus
            have he : ¬ X.e = 0 := he
            have hf : dP X = X := by unfold dP; rw [if_neg (c9 he)]
            have hz : ¬ (dP X).e = 0 := by rw [hf]; exact he
            have hx : AV.si .i64 X.e = .si .i64 (dP X).e := by rw [hf]
            conv => whnf
            refine ab.gQ (fun _ => ?_) (fun q => absurd q he)
            conv => whnf
            refine ⟨?_, ?_, trivial⟩
            all_goals
              conv => whnf
              exact ⟨_, FzT.zero (R := dP X) hz lP hx, congrArg j9 hP⟩
      focus
        have hg : ¬ 0 < b := fun q => hg (by exact Int.ofNat_lt.2 q)
        have b0 : b = 0 := by omega
        by_cases k0 : k = 0
        focus
          have hP : Bc = P := by rw [← hP']; unfold cL db; rw [if_neg (by omega), hb, if_pos b0, hk, if_pos k0]
          subst k0
          conv => whnf
          refine ⟨?_, ?_, trivial⟩
          all_goals
            conv => whnf
            refine Ask.mk _ rfl ?_
            conv => whnf
            exact ⟨_, FzT.zero (R := Bc) (by decide) lP rfl, congrArg j9 hP⟩
        let nm := k
        let bb := false
        have n1 : 1 ≤ nm := by show 1 ≤ k; omega
        have n16 : nm ≤ 16 := k16
        have hnm : db (upF (W.headD [])) = nm := by unfold db; rw [hb, if_pos b0, hk]
        have hbb : (!decide (whF eg (upF (W.headD [])) = 0)) = bb := by rw [hb, decide_eq_true b0]; rfl
        obtain ⟨X, hX⟩ : ∃ X, aS nm (aJ W.tail (nm : Int) bb) = X := ⟨_, rfl⟩
        have hP : dP X = P := hpar nm bb X hnm hbb n1 hX
        conv => whnf
        refine ⟨?_, ?_, trivial⟩
        all_goals
          conv => whnf
          refine Ask.mk (.tup [.fn (wS nm) [] [], .bool true]) (wT (P := fun j => fy _ _ _ (hd (.si .i64 (Int.ofNat j))) _ _ = some (AV.tup [.fn (wS j) [] [], .bool true])) (by rfl) (by rfl) (by rfl) (by rfl) (by rfl) (by rfl) (by rfl) (by rfl) (by rfl) (by rfl) (by rfl) (by rfl) (by rfl) (by rfl) (by rfl) (by rfl) nm n1 n16) ?_
          conv => whnf
          refine tk nm n1 n16 ?_
          refine ⟨_, _, cJ.reader (r := 1) (ws := W.tail) (k := (nm : Int)) (b := bb) rfl (congrArg (fun a => a :: (ET (aJ W.tail (nm : Int) bb)).tail) (uS W)) (by decide) (by decide), 1, 5, 6, 7, 8, 9, 10, aJ W.tail (nm : Int) bb, X, rfl, ⟨by decide, by decide, rfl, rfl, rfl, rfl, rfl, rfl, rfl⟩, yl hl hw _ _, hX, ?_⟩
          conv => whnf
          refine ab.dec (fun he => ?_) (fun he => ?_)
          focus
            have he : X.e = 0 := he
            conv => whnf
            refine ab.dec (fun hq => ?_) (fun hq => ?_)
            focus
              have hq : 0 < X.ws.length := by exact Int.ofNat_lt.1 hq
              have hf : dP X = { X with e := 14 } := by unfold dP cg; rw [if_pos (c8 he hq), if_pos he]
              have hz : ¬ (dP X).e = 0 := by rw [hf]; show ¬ (14 : Int) = 0; decide
              have hx : AV.si .i64 14 = .si .i64 (dP X).e := by rw [hf]
              conv => whnf
              refine ab.dec (fun _ => ?_) (fun q => absurd he q)
              conv => whnf
              refine ⟨?_, ?_, trivial⟩
              all_goals
                conv => whnf
                exact ⟨_, FzT.zero (R := dP X) hz lP hx, congrArg j9 hP⟩
            have hq : ¬ 0 < X.ws.length := fun q => hq (by exact Int.ofNat_lt.2 q)
            have hf : dP X = X := by unfold dP; rw [if_neg (da hq)]
            have hx : AV.si .i64 0 = .si .i64 X.e := by rw [he]
            conv => whnf
            refine ab.gQ (fun q => absurd he q) (fun _ => ?_)
            conv => whnf
            exact ⟨_, FzT.rows 11 12 13 14 15 16 (by decide) (by decide) he hx rfl rfl rfl rfl rfl rfl, congrArg j9 (hf.symm.trans hP)⟩
          focus
            have he : ¬ X.e = 0 := he
            have hf : dP X = X := by unfold dP; rw [if_neg (c9 he)]
            have hz : ¬ (dP X).e = 0 := by rw [hf]; exact he
            have hx : AV.si .i64 X.e = .si .i64 (dP X).e := by rw [hf]
            conv => whnf
            refine ab.gQ (fun _ => ?_) (fun q => absurd q he)
            conv => whnf
            refine ⟨?_, ?_, trivial⟩
            all_goals
              conv => whnf
              exact ⟨_, FzT.zero (R := dP X) hz lP hx, congrArg j9 hP⟩
def Dt (args : List AV) (H : AH) (n : Nat) (κ : PK) : Prop := match args with
  | [x] => ∃ (W : List (List Nat)) (X : Rd), W.length ≤ 700000 ∧ (∀ w ∈ W, (∀ c ∈ w, c < 256) ∧ w.length ≤ 1000000) ∧ cL W = X ∧ ((x = .fr W.length 1 (au W) ∧ κ (j9 X) H n) ∨ ∃ (b m : Nat) (l : List AV), x = .rw b 0 m 1 0 ∧ m = W.length ∧ H.get b = some (.cells l true) ∧ l.map mk = au W ∧ κ (j9 X) (H.set none ag b) n)
  | _ => False
theorem E3 : aI 14 Dt := fun args H n κ hs φ h0' hp vs K hr hargs hk => by
  unfold Dt at hs
  split at hs
  · obtain ⟨x, rfl, e1⟩ := vs1 hargs
    obtain ⟨W, X, g1, g2, g3, hs⟩ := hs
    subst g3
    rcases hs with ⟨rfl, hs⟩ | ⟨b, m, l, rfl, rfl, hb, hl, hs⟩
    · exact Dd (az Ds 5 _) (l := cmF (if (cL W).e = 0 then cL W else ky)) (x := .si .i64 (cL W).e) (aC _) rfl (tl W g1 g2) hs hr hk (by kernel_rfl) (φ0 := ⟨fun _ => none, φ.z, φ.z, fun _ _ => False⟩) (fun hw => hr.yY (ga hw) (fun _ _ h => by cases h) (fun _ h => h)) rfl
        (.cons (hE (ψ := ⟨fun _ => none, φ.z, φ.z, fun _ _ => False⟩) (fun _ h => h) rfl e1) .nil)
    · obtain ⟨χ, h1, h2, h3⟩ := hr.Ij (s := au W) hb e1 (by decide) (aR W) (by rw [c7, Nat.mul_one]) (by rw [hl, aj])
      exact Dd (az Ds 5 _) (l := cmF (if (cL W).e = 0 then cL W else ky)) (x := .si .i64 (cL W).e) (aC _) rfl (tl W g1 g2) hs h2 (fun ψ v H' n' u g hle => hk ψ v H' n' u g (h1.trans hle)) (by kernel_rfl) (φ0 := ⟨fun _ => none, χ.z, χ.z, fun _ _ => False⟩) (fun hw => h2.yY (ga hw) (fun _ _ h => by cases h) (fun _ h => h)) rfl
        (.cons (hE (ψ := ⟨fun _ => none, χ.z, χ.z, fun _ _ => False⟩) (fun _ h => h) rfl h3) .nil)
  · exact hs.elim
end Go.Proofs.Ytdfeigkooeeeaaa
