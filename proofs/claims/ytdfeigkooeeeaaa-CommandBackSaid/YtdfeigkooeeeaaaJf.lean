/- Texts of our own, joined: the engine, the machine that runs code, and what is known of the functions. -/
import Derived.Test.YtdfeigkooeeeaaaRows
import Derived.WalkKit
import Derived.Deep.Quiet
import Derived.ProofKit
import Derived.Laws.StructEq
import Derived.LaidEql
import Derived.Laws.BytesArg
import Derived.Maps.RangeRun
import Derived.Scope
import Derived.Laws.Strings
import Derived.Laws.Strings2
import Derived.Below
import Derived.Carry
import Derived.OpenShut
import Derived.ChangeMaps5
import Derived.Deep.Slices
import Derived.Deep.SlicePairs
import Derived.SizedLaws
import Derived.Laws.BitsAllLaws
import Derived.Test.YtdfeigkooeeeaaaJe
import Derived.Test.YtdfeigkooeeeaaaJd
set_option linter.unusedSimpArgs false
set_option linter.unusedVariables false
set_option maxHeartbeats 16000000
set_option maxRecDepth 100000
namespace Go.Proofs.Ytdfeigkooeeeaaa
open Go Go.RowKit
def u9 (es : List (AV × AV)) (args : List AV) (H : AH) (n : Nat) (κ : PK) : Prop := H.get n = none ∧ n < 1000000 ∧ ll es args H n κ
theorem tH {f : FuncId} {es : List (AV × AV)} (h : aI f (ll es)) : aI f (u9 es) := fun args H n κ hs => h args H n κ hs.2.2
theorem D4 (es : List (AV × AV)) : pc (u9 es) := fun args H n κ ⟨h1, h2, h3⟩ => by
  unfold ll at h3
  split at h3
  · refine ⟨_, _, _, h3, fun b o hb => PM.aA _ _ _ _ ?_ (fun q => by rw [q, h1] at hb; cases hb) hb, Nat.le_succ _, fun κ' k => ⟨h1, h2, k⟩⟩
    have : (1000001 : Nat) < 2 ^ ag := by show 1000001 < 2 ^ 40; decide
    omega
  · exact h3.elim
theorem bo {t : TypeId} {m : AV} {H : AH} {ok : Bool} {z k : Int} {a : AV} {κ : AV → Prop} (hk : z = k) (h : fy Try.prog t m (.int .i64 k) ok H = some a) (hκ : κ a) : Ask (fy Try.prog t m (.int .i64 z) ok H) κ := by
  subst hk; exact .mk a h hκ
def JA : DT := [(1000008, []), (1, [(none, []), (some 1, [1]), (some 2, [14]), (some 0, [13, 15]), (some 0, [16]), (some 0, [12]), (some 0, [12]), (some 0, [17])]),
  (4, [(none, []), (some 1, [1]), (some 2, [23]), (some 0, [22, 24]), (some 0, [25]), (some 0, [21]), (some 0, [21]), (some 0, [26])]),
  (18, [(some 0, [1]), (some 0, [58]), (some 0, [59]), (some 0, [1]), (some 0, [61]), (none, [62]), (none, [63])]),
  (25, [(some 0, [8]), (some 0, [1]), (some 0, [81]), (some 0, [82]), (some 0, [80, 83]), (some 0, [9]), (none, [85]), (none, [86])]),
  (34, [(some 0, [1]), (some 0, [107]), (none, [108]), (some 1, [1]), (some 2, [110]), (none, [111]), (none, [109, 112])]),
  (37, [(some 0, [1]), (some 0, [120]), (none, [121]), (some 1, [1]), (some 2, [123]), (none, [124]), (none, [122, 125])]),
  (38, [(some 0, [1]), (some 0, [128]), (some 0, [129]), (some 0, [1]), (some 0, [131]), (none, [132]), (none, [133])]),
  (45, [(some 0, [1]), (some 0, [153]), (some 0, [154]), (some 0, [1]), (some 0, [156]), (some 0, [1]), (some 0, [158]), (none, [159]), (none, [157, 160])])]
noncomputable def I3 : FuncId → EP := eu 11 (cT Fl) (eu 33 (cT HB) (eu 32 (cT Hz) (eu 34 (cT HA) evP)))
theorem FE : cm I3 := cf (cf (cf (cf ba IN (ed _)) IM (ed _)) IP (ed _)) HC (ed _)
noncomputable def I4 : FuncId → EP := aG 29 oR (aG 30 yy (aG 31 yB (aG 35 yC I3)))
theorem FF : cm I4 := an (an (an (an FE I2) I0) IS) zv
noncomputable def KWo : FuncId → EP := dg 15 JA (eu 24 (u9 (fB rv)) (eu 25 (u9 (fB eg)) I4))
theorem HK : cm KWo := aX (cf (cf FF (tH Db) (D4 _)) (tH zd) (D4 _)) (by kernel_rfl) (by kernel_rfl)
def HL (j0 j1 j2 : Nat) : Nat → Nat := fun b => if b = 3 then j1 else if b = 2 then j2 else if b = 0 then j0 else b
theorem dz {σ : AE} {H : AH} {n : Nat} {V0 V : List (List Nat)} {C : List AV} (e : V0 = V) (j0 j1 j2 : Nat) {le : List (Nat × AV)} {a : AV} {l : List AV} (he : ∀ x ∈ le, ak H 4 (HL j0 j1 j2) (aL (pa x.1) σ) x.2) (hj : j0 ≠ j1 ∧ j0 ≠ j2 ∧ j1 ≠ j2) (h0 : PM.get H j0 = some (.cells [a] true)) (ha : ak H 4 (HL j0 j1 j2) a (.rw 3 0 V0.length 1 0)) (h1 : PM.get H j1 = some (.cells l true)) (hl : l.map mk = au V0) (h2 : PM.get H j2 = some (.cells C true)) (hC : C.all dV = true) : Cov 0 σ H n (cq le V C) := by
  subst e
  refine Cov.ofR (m := 4) (p := 0) (HL j0 j1 j2) (Nat.zero_le _) (fun b hb => by omega) he ?_ ?_
  · intro x hx
    simp only [List.mem_cons, List.not_mem_nil, or_false] at hx
    rcases hx with rfl | rfl | rfl
    · exact ⟨Nat.le_of_ble_eq_true rfl, .inl ⟨_, h0, cU.cells (Nat.le_refl _) (fun q => q) fun i a' hi => by
        cases i with
        | zero => injection hi with hi; subst hi; exact ⟨_, rfl, ha⟩
        | succ i => simp at hi⟩⟩
    · exact ⟨Nat.le_of_ble_eq_true rfl, .inl ⟨_, h1, cU.cn (aR _) (by rw [hl, aj]) (fun q => q)⟩⟩
    · exact ⟨Nat.le_of_ble_eq_true rfl, .inl ⟨_, h2, cU.zx hC⟩⟩
  · intro x hx y hy e
    simp only [List.mem_cons, List.not_mem_nil, or_false] at hx hy
    rcases hx with rfl | rfl | rfl <;> rcases hy with rfl | rfl | rfl
    · rfl
    · exact absurd (show j0 = j1 from e) (by omega)
    · exact absurd (show j0 = j2 from e) (by omega)
    · exact absurd (show j1 = j0 from e) (by omega)
    · rfl
    · exact absurd (show j1 = j2 from e) (by omega)
    · exact absurd (show j2 = j0 from e) (by omega)
    · exact absurd (show j2 = j1 from e) (by omega)
    · rfl
theorem dR {L V : List (List Nat)} {H' : AH} {b : Nat} (e : V = L) (hb : H'.get b = some (.cells (au V) true)) : FrG L.length 1 (au L) (.rw b 0 V.length 1 0) H' := by
  subst e
  exact EG rfl rfl hb rfl (by rw [c7, Nat.mul_one])
structure SmW (X : Rd) : Prop where
  ks : X.ks.length ≤ 1000
  ts : X.ts.length ≤ 1000
  vs : X.vs.length ≤ 1000
  ls : X.ls.length ≤ 1000
  q : X.q.times.length ≤ 1000
  fs : X.fs.length ≤ 1000
theorem cx {X : Rd} {k : Nat} (hk : X.nm = (k : Int)) (h1 : 1 ≤ k) (h2 : k ≤ 16) : ay X = aM k X.q.back :: cz k X := by
  unfold ay
  rw [if_pos ⟨by omega, by omega⟩, hk, Int.toNat_natCast]
theorem D5 {k : Int} (h : 1 ≤ k) : lY k = gV k := if_pos h
def onW (X : Rd) : List (List Nat) := if X.pol = 0 then [] else [rz, iQ X.pol]
def alW (X : Rd) : List (List Nat) := if X.al = 0 then [] else [aq X.al]
def gbW (X : Rd) : List (List Nat) := if X.rd = 0 then [] else [gj, X.gr, iJ, gV X.rd]
def cF (m : Nat) (l : List Int) : List (List Nat) := (l.take m).flatMap fun v => [aq v, iI]
theorem nU (m : Nat) (l : List Int) : (cF m l).length ≤ 2 * l.length := by
  unfold cF
  have : ∀ l : List Int, (l.flatMap fun v => [aq v, iI]).length = 2 * l.length := fun l => by
    induction l with
    | nil => rfl
    | cons x l ih => rw [List.flatMap_cons, List.length_append, ih]; simp only [List.length_cons, List.length_nil]; omega
  rw [this, List.length_take]; omega
theorem tI {m i : Nat} {l : List Int} (h : i < l.length) (hm : i < m) : cF m (l.take i) ++ [aq l[i], iI] = cF m (l.take (i + 1)) := by
  unfold cF
  rw [List.take_take, List.take_take, Nat.min_eq_right (by omega), Nat.min_eq_right (by omega), List.take_add_one, List.flatMap_append, List.getElem?_eq_getElem h]; rfl
theorem tJ {m i : Nat} {l : List Int} (hm : ¬ i < m) : cF m (l.take i) = cF m (l.take (i + 1)) := by
  unfold cF
  rw [List.take_take, List.take_take, Nat.min_eq_left (by omega), Nat.min_eq_left (by omega)]
theorem tK {l : List Int} {i : Nat} (h : i < l.length) : (l.take i).map bW ++ [bW l[i]] = (l.take (i + 1)).map bW := by
  rw [List.take_add_one, List.map_append, List.getElem?_eq_getElem h]; rfl
theorem JB (X : Rd) (hk : X.nm = 1) (hN : N64 X) (hS : SmW X) : aw KWo 5 15 [.agg (cmF X)] .nil 0 fun u H' _ => FrG (ay X).length 1 (au (ay X)) u H' := by
  have hW : ay X = aM 1 X.q.back :: cz 1 X := cx (k := 1) hk (by decide) (by decide)
  rw [hW]
  have z1 := hS.ks
  have z2 := hS.ts
  have z3 := hS.vs
  have z4 := hS.ls
  have z5 := hS.q
  have z6 := hS.fs
  obtain ⟨hd0, hh⟩ : ∃ w, w = aM 1 X.q.back := ⟨_, rfl⟩
  have hh2 : [dS 1] = [hd0] := by rw [hh]; unfold aM; rw [if_neg (fun q => absurd q.2 (by decide))]
  rw [← hh]
  conv => whnf
  refine ⟨rfl, Nat.le_of_ble_eq_true rfl, ?_⟩
  conv => whnf
  refine bo hk (a := .tup [.str (dS 1), .bool true]) (by kernel_rfl) ?_
  conv => whnf
  refine ⟨rfl, Nat.le_of_ble_eq_true rfl, ?_⟩
  conv => whnf
  refine bo hk (a := .tup [.str [], .bool false]) (by kernel_rfl) ?_
  conv => whnf
  refine df.mk Unit 4 (fun _ => ((cq [(1, .ptr 2 0), (7, .ptr 0 0)] [hd0] (cmF X)).1, (cq [(1, .ptr 2 0), (7, .ptr 0 0)] [hd0] (cmF X)).2.1)) ?_ ?_
  focus
    conv => whnf
    exact ⟨(), dz hh2 4 3 0 (le := [(1, .ptr 2 0), (7, .ptr 0 0)]) (fun x hx => by
      simp only [List.mem_cons, List.not_mem_nil, or_false] at hx
      rcases hx with rfl | rfl
      · exact ak.ptr (Nat.le_of_ble_eq_true rfl) rfl
      · exact ak.ptr (Nat.le_of_ble_eq_true rfl) rfl) ⟨by decide, by decide, by decide⟩ rfl (ak.jZ (Nat.le_of_ble_eq_true rfl) rfl (.inr ⟨rfl, _, rfl, Nat.le_refl _⟩) (Nat.le_refl _)) rfl rfl rfl (aC X)⟩
  intro _
  conv => whnf
  refine ab.dec (fun _ => ?_) (fun q => absurd hk q)
  conv => whnf
  refine ⟨0, 3, [hd0], X.ks, true, rfl, rfl, by (try simp only [List.length_append, List.length_cons, List.length_nil]); omega, by omega, .inl ⟨X.ks.length, ⟨by decide, by decide, rfl, rfl⟩, rfl, rfl, ?_⟩⟩
  rw [said (M := X.ks) rfl]
  conv => whnf
  refine ⟨0, 4, [hd0] ++ X.ks, X, rfl, rfl, ⟨by decide, by decide, rfl, rfl⟩, by (try simp only [List.length_append, List.length_cons, List.length_nil]); omega, hN, by omega, ?_⟩
  conv => whnf
  exact dR (show [hd0] ++ X.ks ++ lB X = hd0 :: (X.ks ++ lB X) by simp) rfl
theorem JC (X : Rd) (hk : X.nm = 2) (hN : N64 X) (hS : SmW X) : aw KWo 5 15 [.agg (cmF X)] .nil 0 fun u H' _ => FrG (ay X).length 1 (au (ay X)) u H' := by
  have hW : ay X = aM 2 X.q.back :: cz 2 X := cx (k := 2) hk (by decide) (by decide)
  rw [hW]
  have z1 := hS.ks
  have z2 := hS.ts
  have z3 := hS.vs
  have z4 := hS.ls
  have z5 := hS.q
  have z6 := hS.fs
  obtain ⟨hd0, hh⟩ : ∃ w, w = aM 2 X.q.back := ⟨_, rfl⟩
  have hh2 : [dS 2] = [hd0] := by rw [hh]; unfold aM; rw [if_neg (fun q => absurd q.2 (by decide))]
  rw [← hh]
  conv => whnf
  refine ⟨rfl, Nat.le_of_ble_eq_true rfl, ?_⟩
  conv => whnf
  refine bo hk (a := .tup [.str (dS 2), .bool true]) (by kernel_rfl) ?_
  conv => whnf
  refine ⟨rfl, Nat.le_of_ble_eq_true rfl, ?_⟩
  conv => whnf
  refine bo hk (a := .tup [.str [], .bool false]) (by kernel_rfl) ?_
  conv => whnf
  refine df.mk Unit 4 (fun _ => ((cq [(1, .ptr 2 0), (7, .ptr 0 0)] [hd0] (cmF X)).1, (cq [(1, .ptr 2 0), (7, .ptr 0 0)] [hd0] (cmF X)).2.1)) ?_ ?_
  focus
    conv => whnf
    exact ⟨(), dz hh2 4 3 0 (le := [(1, .ptr 2 0), (7, .ptr 0 0)]) (fun x hx => by
      simp only [List.mem_cons, List.not_mem_nil, or_false] at hx
      rcases hx with rfl | rfl
      · exact ak.ptr (Nat.le_of_ble_eq_true rfl) rfl
      · exact ak.ptr (Nat.le_of_ble_eq_true rfl) rfl) ⟨by decide, by decide, by decide⟩ rfl (ak.jZ (Nat.le_of_ble_eq_true rfl) rfl (.inr ⟨rfl, _, rfl, Nat.le_refl _⟩) (Nat.le_refl _)) rfl rfl rfl (aC X)⟩
  intro _
  conv => whnf
  refine ab.dec (fun q => absurd (hk.symm.trans q) (by decide)) (fun _ => ?_)
  conv => whnf
  refine ab.dec (fun _ => ?_) (fun q => absurd hk q)
  conv => whnf
  refine ⟨0, 3, [hd0], X.ks, true, rfl, rfl, by (try simp only [List.length_append, List.length_cons, List.length_nil]); omega, by omega, .inl ⟨X.ks.length, ⟨by decide, by decide, rfl, rfl⟩, rfl, rfl, ?_⟩⟩
  rw [said (M := X.ks) rfl]
  conv => whnf
  refine ⟨0, 4, [hd0] ++ X.ks, X, rfl, rfl, ⟨by decide, by decide, rfl, rfl⟩, by (try simp only [List.length_append, List.length_cons, List.length_nil]); omega, hN, by omega, ?_⟩
  conv => whnf
  exact dR (show [hd0] ++ X.ks ++ lB X = hd0 :: (X.ks ++ lB X) by simp) rfl
theorem JD (X : Rd) (hk : X.nm = 3) (hN : N64 X) (hS : SmW X) : aw KWo 5 15 [.agg (cmF X)] .nil 0 fun u H' _ => FrG (ay X).length 1 (au (ay X)) u H' := by
  have hW : ay X = aM 3 X.q.back :: cz 3 X := cx (k := 3) hk (by decide) (by decide)
  rw [hW]
  have z1 := hS.ks
  have z2 := hS.ts
  have z3 := hS.vs
  have z4 := hS.ls
  have z5 := hS.q
  have z6 := hS.fs
  obtain ⟨hd0, hh⟩ : ∃ w, w = aM 3 X.q.back := ⟨_, rfl⟩
  have hh2 : [dS 3] = [hd0] := by rw [hh]; unfold aM; rw [if_neg (fun q => absurd q.2 (by decide))]
  rw [← hh]
  conv => whnf
  refine ⟨rfl, Nat.le_of_ble_eq_true rfl, ?_⟩
  conv => whnf
  refine bo hk (a := .tup [.str (dS 3), .bool true]) (by kernel_rfl) ?_
  conv => whnf
  refine ⟨rfl, Nat.le_of_ble_eq_true rfl, ?_⟩
  conv => whnf
  refine bo hk (a := .tup [.str [], .bool false]) (by kernel_rfl) ?_
  conv => whnf
  refine df.mk Unit 4 (fun _ => ((cq [(1, .ptr 2 0), (7, .ptr 0 0)] [hd0] (cmF X)).1, (cq [(1, .ptr 2 0), (7, .ptr 0 0)] [hd0] (cmF X)).2.1)) ?_ ?_
  focus
    conv => whnf
    exact ⟨(), dz hh2 4 3 0 (le := [(1, .ptr 2 0), (7, .ptr 0 0)]) (fun x hx => by
      simp only [List.mem_cons, List.not_mem_nil, or_false] at hx
      rcases hx with rfl | rfl
      · exact ak.ptr (Nat.le_of_ble_eq_true rfl) rfl
      · exact ak.ptr (Nat.le_of_ble_eq_true rfl) rfl) ⟨by decide, by decide, by decide⟩ rfl (ak.jZ (Nat.le_of_ble_eq_true rfl) rfl (.inr ⟨rfl, _, rfl, Nat.le_refl _⟩) (Nat.le_refl _)) rfl rfl rfl (aC X)⟩
  intro _
  conv => whnf
  refine ab.dec (fun q => absurd (hk.symm.trans q) (by decide)) (fun _ => ?_)
  conv => whnf
  refine ab.dec (fun q => absurd (hk.symm.trans q) (by decide)) (fun _ => ?_)
  conv => whnf
  refine ab.dec (fun _ => ?_) (fun q => absurd hk q)
  conv => whnf
  refine ⟨0, 3, [hd0], X, rfl, rfl, ⟨by decide, by decide, rfl, rfl⟩, by (try simp only [List.length_append, List.length_cons, List.length_nil]); omega, hN, by omega, ?_⟩
  conv => whnf
  refine ⟨_, ⟨X.pol, hN.pol.1, hN.pol.2, rfl, rfl⟩, ?_⟩
  conv => whnf
  have lw := lT X.ks X.ts X.vs
  refine ⟨0, 4, [hd0] ++ bu X.ks X.ts X.vs, [rz, yx X.pol], !decide (X.pol = 0), rfl, rfl, by (try simp only [List.length_append, List.length_cons, List.length_nil]); omega, Nat.le_of_ble_eq_true rfl, .inr ⟨5, 2, 2, _, _, true, rfl, rfl, Nat.le_refl _, rfl, rfl, ⟨by decide, by decide, rfl, rfl⟩, ?_⟩⟩
  rw [said (M := onW X) (by
    unfold onW yx
    by_cases h : X.pol = 0
    · simp [h]
    · have := hN.pol.1
      rw [if_pos (show 1 ≤ X.pol by omega)]; simp [h])]
  conv => whnf
  exact dR (show [hd0] ++ bu X.ks X.ts X.vs ++ onW X = hd0 :: (bu X.ks X.ts X.vs ++ onW X) by simp) rfl
theorem JE (X : Rd) (hk : X.nm = 4) (hN : N64 X) (hS : SmW X) : aw KWo 5 15 [.agg (cmF X)] .nil 0 fun u H' _ => FrG (ay X).length 1 (au (ay X)) u H' := by
  have hW : ay X = aM 4 X.q.back :: cz 4 X := cx (k := 4) hk (by decide) (by decide)
  rw [hW]
  have z1 := hS.ks
  have z2 := hS.ts
  have z3 := hS.vs
  have z4 := hS.ls
  have z5 := hS.q
  have z6 := hS.fs
  obtain ⟨hd0, hh⟩ : ∃ w, w = aM 4 X.q.back := ⟨_, rfl⟩
  have hh2 : [dS 4] = [hd0] := by rw [hh]; unfold aM; rw [if_neg (fun q => absurd q.2 (by decide))]
  rw [← hh]
  conv => whnf
  refine ⟨rfl, Nat.le_of_ble_eq_true rfl, ?_⟩
  conv => whnf
  refine bo hk (a := .tup [.str (dS 4), .bool true]) (by kernel_rfl) ?_
  conv => whnf
  refine ⟨rfl, Nat.le_of_ble_eq_true rfl, ?_⟩
  conv => whnf
  refine bo hk (a := .tup [.str [], .bool false]) (by kernel_rfl) ?_
  conv => whnf
  refine df.mk Unit 4 (fun _ => ((cq [(1, .ptr 2 0), (7, .ptr 0 0)] [hd0] (cmF X)).1, (cq [(1, .ptr 2 0), (7, .ptr 0 0)] [hd0] (cmF X)).2.1)) ?_ ?_
  focus
    conv => whnf
    exact ⟨(), dz hh2 4 3 0 (le := [(1, .ptr 2 0), (7, .ptr 0 0)]) (fun x hx => by
      simp only [List.mem_cons, List.not_mem_nil, or_false] at hx
      rcases hx with rfl | rfl
      · exact ak.ptr (Nat.le_of_ble_eq_true rfl) rfl
      · exact ak.ptr (Nat.le_of_ble_eq_true rfl) rfl) ⟨by decide, by decide, by decide⟩ rfl (ak.jZ (Nat.le_of_ble_eq_true rfl) rfl (.inr ⟨rfl, _, rfl, Nat.le_refl _⟩) (Nat.le_refl _)) rfl rfl rfl (aC X)⟩
  intro _
  conv => whnf
  refine ab.dec (fun q => absurd (hk.symm.trans q) (by decide)) (fun _ => ?_)
  conv => whnf
  refine ab.dec (fun q => absurd (hk.symm.trans q) (by decide)) (fun _ => ?_)
  conv => whnf
  refine ab.dec (fun q => absurd (hk.symm.trans q) (by decide)) (fun _ => ?_)
  conv => whnf
  refine ab.dec (fun _ => ?_) (fun q => absurd hk q)
  conv => whnf
  refine ⟨0, 3, [hd0], X, rfl, rfl, ⟨by decide, by decide, rfl, rfl⟩, by (try simp only [List.length_append, List.length_cons, List.length_nil]); omega, hN, by omega, ?_⟩
  conv => whnf
  refine ⟨_, ⟨X.pol, hN.pol.1, hN.pol.2, rfl, rfl⟩, ?_⟩
  conv => whnf
  have lw := lT X.ks X.ts X.vs
  refine ⟨0, 4, [hd0] ++ bu X.ks X.ts X.vs, [rz, yx X.pol], !decide (X.pol = 0), rfl, rfl, by (try simp only [List.length_append, List.length_cons, List.length_nil]); omega, Nat.le_of_ble_eq_true rfl, .inr ⟨5, 2, 2, _, _, true, rfl, rfl, Nat.le_refl _, rfl, rfl, ⟨by decide, by decide, rfl, rfl⟩, ?_⟩⟩
  rw [said (M := onW X) (by
    unfold onW yx
    by_cases h : X.pol = 0
    · simp [h]
    · have := hN.pol.1
      rw [if_pos (show 1 ≤ X.pol by omega)]; simp [h])]
  conv => whnf
  exact dR (show [hd0] ++ bu X.ks X.ts X.vs ++ onW X = hd0 :: (bu X.ks X.ts X.vs ++ onW X) by simp) rfl
theorem JF (X : Rd) (hk : X.nm = 5) (hN : N64 X) (hS : SmW X) : aw KWo 5 15 [.agg (cmF X)] .nil 0 fun u H' _ => FrG (ay X).length 1 (au (ay X)) u H' := by
  have hW : ay X = aM 5 X.q.back :: cz 5 X := cx (k := 5) hk (by decide) (by decide)
  rw [hW]
  have z1 := hS.ks
  have z2 := hS.ts
  have z3 := hS.vs
  have z4 := hS.ls
  have z5 := hS.q
  have z6 := hS.fs
  obtain ⟨hd0, hh⟩ : ∃ w, w = aM 5 X.q.back := ⟨_, rfl⟩
  have hh2 : [dS 5] = [hd0] := by rw [hh]; unfold aM; rw [if_neg (fun q => absurd q.2 (by decide))]
  rw [← hh]
  conv => whnf
  refine ⟨rfl, Nat.le_of_ble_eq_true rfl, ?_⟩
  conv => whnf
  refine bo hk (a := .tup [.str (dS 5), .bool true]) (by kernel_rfl) ?_
  conv => whnf
  refine ⟨rfl, Nat.le_of_ble_eq_true rfl, ?_⟩
  conv => whnf
  refine bo hk (a := .tup [.str [], .bool false]) (by kernel_rfl) ?_
  conv => whnf
  refine df.mk Unit 4 (fun _ => ((cq [(1, .ptr 2 0), (7, .ptr 0 0)] [hd0] (cmF X)).1, (cq [(1, .ptr 2 0), (7, .ptr 0 0)] [hd0] (cmF X)).2.1)) ?_ ?_
  focus
    conv => whnf
    exact ⟨(), dz hh2 4 3 0 (le := [(1, .ptr 2 0), (7, .ptr 0 0)]) (fun x hx => by
      simp only [List.mem_cons, List.not_mem_nil, or_false] at hx
      rcases hx with rfl | rfl
      · exact ak.ptr (Nat.le_of_ble_eq_true rfl) rfl
      · exact ak.ptr (Nat.le_of_ble_eq_true rfl) rfl) ⟨by decide, by decide, by decide⟩ rfl (ak.jZ (Nat.le_of_ble_eq_true rfl) rfl (.inr ⟨rfl, _, rfl, Nat.le_refl _⟩) (Nat.le_refl _)) rfl rfl rfl (aC X)⟩
  intro _
  conv => whnf
  refine ab.dec (fun q => absurd (hk.symm.trans q) (by decide)) (fun _ => ?_)
  conv => whnf
  refine ab.dec (fun q => absurd (hk.symm.trans q) (by decide)) (fun _ => ?_)
  conv => whnf
  refine ab.dec (fun q => absurd (hk.symm.trans q) (by decide)) (fun _ => ?_)
  conv => whnf
  refine ab.dec (fun q => absurd (hk.symm.trans q) (by decide)) (fun _ => ?_)
  conv => whnf
  refine ab.dec (fun _ => ?_) (fun q => absurd hk q)
  conv => whnf
  refine ⟨0, 3, [hd0], X.ks, true, rfl, rfl, by (try simp only [List.length_append, List.length_cons, List.length_nil]); omega, by omega, .inl ⟨X.ks.length, ⟨by decide, by decide, rfl, rfl⟩, rfl, rfl, ?_⟩⟩
  rw [said (M := X.ks) rfl]
  conv => whnf
  have e0 : [hd0] ++ X.ks = [hd0] ++ X.ks ++ cF X.ts.length (X.vs.take 0) := by rw [List.take_zero]; unfold cF; simp
  have eN : [hd0] ++ X.ks ++ cF X.ts.length (X.vs.take X.vs.length) = [hd0] ++ X.ks ++ cF X.ts.length X.vs := by rw [List.take_length]
  refine cW.mk { i : Nat // i ≤ X.vs.length } 4 (fun i => ((cq [(1, .ptr 2 0), (7, .ptr 0 0), (73, .fr X.vs.length 1 (ints X.vs)), (74, .si .i64 (X.vs.length : Int)), (75, .si .i64 ((i.val : Int)))] ([hd0] ++ X.ks ++ cF X.ts.length (X.vs.take i.val)) (cmF X)).1, (cq [(1, .ptr 2 0), (7, .ptr 0 0), (73, .fr X.vs.length 1 (ints X.vs)), (74, .si .i64 (X.vs.length : Int)), (75, .si .i64 ((i.val : Int)))] ([hd0] ++ X.ks ++ cF X.ts.length (X.vs.take i.val)) (cmF X)).2.1)) (fun i => X.vs.length - i.val) ⟨0, Nat.zero_le _⟩ ?_ ?_
  focus
    exact dz e0 0 4 2 (le := [(1, .ptr 2 0), (7, .ptr 0 0), (73, .fr X.vs.length 1 (ints X.vs)), (74, .si .i64 (X.vs.length : Int)), (75, .si .i64 (((0 : Nat) : Int)))]) (fun x hx => by
      simp only [List.mem_cons, List.not_mem_nil, or_false] at hx
      rcases hx with rfl | rfl | rfl | rfl | rfl
      · exact ak.ptr (Nat.le_of_ble_eq_true rfl) rfl
      · exact ak.ptr (Nat.le_of_ble_eq_true rfl) rfl
      · exact ak.frE rfl
      · exact ak.int rfl
      · exact ak.int rfl) ⟨by decide, by decide, by decide⟩ rfl (ak.rw (Nat.le_of_ble_eq_true rfl) rfl) rfl (aj _) rfl (aC X)
  intro ⟨i, hi⟩
  have lw : (cF X.ts.length (X.vs.take i)).length ≤ 3000 := by have := nU X.ts.length (X.vs.take i); rw [List.length_take] at this; omega
  conv => whnf
  refine ab.dec (fun h => ?_) (fun h => ?_)
  focus
    have hi2 : i < X.vs.length := Int.ofNat_lt.1 h
    have hw : IntKind.i64.wrap ((i : Int) + 1) = ((i + 1 : Nat) : Int) := eF ⟨by omega, by omega⟩
    conv => whnf
    refine Idx.mk i rfl hi2 ?_
    conv => whnf
    refine aO (en hi2) ?_
    conv => whnf
    have es : [hd0] ++ X.ks ++ cF X.ts.length (X.vs.take i) ++ (if decide ((i : Int) < (X.ts.length : Int)) = true then [aq X.vs[i], iI] else []) = [hd0] ++ X.ks ++ cF X.ts.length (X.vs.take (i + 1)) := by
      rw [List.append_assoc]
      by_cases c : (i : Int) < (X.ts.length : Int)
      · rw [if_pos (decide_eq_true c), tI hi2 (Int.ofNat_lt.1 c)]
      · rw [if_neg (fun q => c (of_decide_eq_true q)), List.append_nil, tJ (fun q => c (Int.ofNat_lt.2 q))]
    refine ⟨_, ⟨X.vs[i], hN.vs _ (List.getElem_mem hi2), rfl, rfl⟩, ?_⟩
    conv => whnf
    refine ⟨0, 3, [hd0] ++ X.ks ++ cF X.ts.length (X.vs.take i), [aq X.vs[i], iI], decide ((i : Int) < (X.ts.length : Int)), rfl, rfl, by (try simp only [List.length_append, List.length_cons, List.length_nil]); omega, Nat.le_of_ble_eq_true rfl, .inr ⟨4, 2, 2, _, _, true, rfl, rfl, Nat.le_refl _, rfl, rfl, ⟨by decide, by decide, rfl, rfl⟩, ?_⟩⟩
    conv => whnf
    exact ⟨⟨i + 1, hi2⟩, by show X.vs.length - (i + 1) < X.vs.length - i; omega, dz es 0 5 2 (le := [(1, .ptr 2 0), (7, .ptr 0 0), (73, .fr X.vs.length 1 (ints X.vs)), (74, .si .i64 (X.vs.length : Int)), (75, .si .i64 (((i + 1 : Nat) : Int)))]) (fun x hx => by
      simp only [List.mem_cons, List.not_mem_nil, or_false] at hx
      rcases hx with rfl | rfl | rfl | rfl | rfl
      · exact ak.ptr (Nat.le_of_ble_eq_true rfl) rfl
      · exact ak.ptr (Nat.le_of_ble_eq_true rfl) rfl
      · exact ak.frE rfl
      · exact ak.int rfl
      · exact ak.int (congrArg (AV.si .i64) hw)) ⟨by decide, by decide, by decide⟩ rfl (ak.rw (Nat.le_of_ble_eq_true rfl) rfl) rfl (aj _) rfl (aC X)⟩
  have hin : i = X.vs.length := by have : ¬ i < X.vs.length := fun q => h (Int.ofNat_lt.2 q); omega
  subst hin
  rw [eN]
  clear e0 eN
  conv => whnf
  have lx : (cF X.ts.length X.vs).length ≤ 3000 := by have := nU X.ts.length X.vs; omega
  have e0 : [hd0] ++ X.ks ++ cF X.ts.length X.vs = [hd0] ++ X.ks ++ cF X.ts.length X.vs ++ (X.ts.take 0).map bW := (List.append_nil _).symm
  have eN : [hd0] ++ X.ks ++ cF X.ts.length X.vs ++ (X.ts.take X.ts.length).map bW = [hd0] ++ X.ks ++ cF X.ts.length X.vs ++ X.ts.map bW := by rw [List.take_length]
  refine cW.mk { i : Nat // i ≤ X.ts.length } 4 (fun i => ((cq [(1, .ptr 2 0), (7, .ptr 0 0), (91, .fr X.ts.length 1 (ints X.ts)), (92, .si .i64 (X.ts.length : Int)), (93, .si .i64 ((i.val : Int)))] ([hd0] ++ X.ks ++ cF X.ts.length X.vs ++ (X.ts.take i.val).map bW) (cmF X)).1, (cq [(1, .ptr 2 0), (7, .ptr 0 0), (91, .fr X.ts.length 1 (ints X.ts)), (92, .si .i64 (X.ts.length : Int)), (93, .si .i64 ((i.val : Int)))] ([hd0] ++ X.ks ++ cF X.ts.length X.vs ++ (X.ts.take i.val).map bW) (cmF X)).2.1)) (fun i => X.ts.length - i.val) ⟨0, Nat.zero_le _⟩ ?_ ?_
  focus
    exact dz e0 0 3 2 (le := [(1, .ptr 2 0), (7, .ptr 0 0), (91, .fr X.ts.length 1 (ints X.ts)), (92, .si .i64 (X.ts.length : Int)), (93, .si .i64 (((0 : Nat) : Int)))]) (fun x hx => by
      simp only [List.mem_cons, List.not_mem_nil, or_false] at hx
      rcases hx with rfl | rfl | rfl | rfl | rfl
      · exact ak.ptr (Nat.le_of_ble_eq_true rfl) rfl
      · exact ak.ptr (Nat.le_of_ble_eq_true rfl) rfl
      · exact ak.frE rfl
      · exact ak.int rfl
      · exact ak.int rfl) ⟨by decide, by decide, by decide⟩ rfl (ak.rw (Nat.le_of_ble_eq_true rfl) rfl) rfl (aj _) rfl (aC X)
  intro ⟨i, hi⟩
  have lw : ((X.ts.take i).map bW).length ≤ 3000 := by rw [List.length_map, List.length_take]; omega
  conv => whnf
  refine ab.dec (fun h => ?_) (fun h => ?_)
  focus
    have hi2 : i < X.ts.length := Int.ofNat_lt.1 h
    have hw : IntKind.i64.wrap ((i : Int) + 1) = ((i + 1 : Nat) : Int) := eF ⟨by omega, by omega⟩
    conv => whnf
    refine Idx.mk i rfl hi2 ?_
    conv => whnf
    refine aO (en hi2) ?_
    conv => whnf
    have es : [hd0] ++ X.ks ++ cF X.ts.length X.vs ++ (X.ts.take i).map bW ++ [bW X.ts[i]] = [hd0] ++ X.ks ++ cF X.ts.length X.vs ++ (X.ts.take (i + 1)).map bW := by rw [List.append_assoc, tK hi2]
    refine ⟨_, ⟨X.ts[i], hN.ts _ (List.getElem_mem hi2), rfl, rfl⟩, ?_⟩
    conv => whnf
    refine ⟨0, 3, [hd0] ++ X.ks ++ cF X.ts.length X.vs ++ (X.ts.take i).map bW, [bW X.ts[i]], true, rfl, rfl, by (try simp only [List.length_append, List.length_cons, List.length_nil]); omega, Nat.le_of_ble_eq_true rfl, .inr ⟨4, 1, 1, _, _, true, rfl, rfl, Nat.le_refl _, rfl, rfl, ⟨by decide, by decide, rfl, rfl⟩, ?_⟩⟩
    rw [said (M := [bW X.ts[i]]) rfl]
    conv => whnf
    exact ⟨⟨i + 1, hi2⟩, by show X.ts.length - (i + 1) < X.ts.length - i; omega, dz es 0 5 2 (le := [(1, .ptr 2 0), (7, .ptr 0 0), (91, .fr X.ts.length 1 (ints X.ts)), (92, .si .i64 (X.ts.length : Int)), (93, .si .i64 (((i + 1 : Nat) : Int)))]) (fun x hx => by
      simp only [List.mem_cons, List.not_mem_nil, or_false] at hx
      rcases hx with rfl | rfl | rfl | rfl | rfl
      · exact ak.ptr (Nat.le_of_ble_eq_true rfl) rfl
      · exact ak.ptr (Nat.le_of_ble_eq_true rfl) rfl
      · exact ak.frE rfl
      · exact ak.int rfl
      · exact ak.int (congrArg (AV.si .i64) hw)) ⟨by decide, by decide, by decide⟩ rfl (ak.rw (Nat.le_of_ble_eq_true rfl) rfl) rfl (aj _) rfl (aC X)⟩
  have hin : i = X.ts.length := by have : ¬ i < X.ts.length := fun q => h (Int.ofNat_lt.2 q); omega
  subst hin
  rw [eN]
  clear e0 eN
  conv => whnf
  exact dR (show [hd0] ++ X.ks ++ cF X.ts.length X.vs ++ X.ts.map bW = hd0 :: (X.ks ++ (cF X.ts.length X.vs ++ X.ts.map bW)) by simp) rfl
theorem JG (X : Rd) (hk : X.nm = 6) (hN : N64 X) (hS : SmW X) : aw KWo 5 15 [.agg (cmF X)] .nil 0 fun u H' _ => FrG (ay X).length 1 (au (ay X)) u H' := by
  have hW : ay X = aM 6 X.q.back :: cz 6 X := cx (k := 6) hk (by decide) (by decide)
  rw [hW]
  have z1 := hS.ks
  have z2 := hS.ts
  have z3 := hS.vs
  have z4 := hS.ls
  have z5 := hS.q
  have z6 := hS.fs
  obtain ⟨hd0, hh⟩ : ∃ w, w = aM 6 X.q.back := ⟨_, rfl⟩
  have hh2 : [dS 6] = [hd0] := by rw [hh]; unfold aM; rw [if_neg (fun q => absurd q.2 (by decide))]
  rw [← hh]
  conv => whnf
  refine ⟨rfl, Nat.le_of_ble_eq_true rfl, ?_⟩
  conv => whnf
  refine bo hk (a := .tup [.str (dS 6), .bool true]) (by kernel_rfl) ?_
  conv => whnf
  refine ⟨rfl, Nat.le_of_ble_eq_true rfl, ?_⟩
  conv => whnf
  refine bo hk (a := .tup [.str [], .bool false]) (by kernel_rfl) ?_
  conv => whnf
  refine df.mk Unit 4 (fun _ => ((cq [(1, .ptr 2 0), (7, .ptr 0 0)] [hd0] (cmF X)).1, (cq [(1, .ptr 2 0), (7, .ptr 0 0)] [hd0] (cmF X)).2.1)) ?_ ?_
  focus
    conv => whnf
    exact ⟨(), dz hh2 4 3 0 (le := [(1, .ptr 2 0), (7, .ptr 0 0)]) (fun x hx => by
      simp only [List.mem_cons, List.not_mem_nil, or_false] at hx
      rcases hx with rfl | rfl
      · exact ak.ptr (Nat.le_of_ble_eq_true rfl) rfl
      · exact ak.ptr (Nat.le_of_ble_eq_true rfl) rfl) ⟨by decide, by decide, by decide⟩ rfl (ak.jZ (Nat.le_of_ble_eq_true rfl) rfl (.inr ⟨rfl, _, rfl, Nat.le_refl _⟩) (Nat.le_refl _)) rfl rfl rfl (aC X)⟩
  intro _
  conv => whnf
  refine ab.dec (fun q => absurd (hk.symm.trans q) (by decide)) (fun _ => ?_)
  conv => whnf
  refine ab.dec (fun q => absurd (hk.symm.trans q) (by decide)) (fun _ => ?_)
  conv => whnf
  refine ab.dec (fun q => absurd (hk.symm.trans q) (by decide)) (fun _ => ?_)
  conv => whnf
  refine ab.dec (fun q => absurd (hk.symm.trans q) (by decide)) (fun _ => ?_)
  conv => whnf
  refine ab.dec (fun q => absurd (hk.symm.trans q) (by decide)) (fun _ => ?_)
  conv => whnf
  refine ab.dec (fun _ => ?_) (fun q => absurd hk q)
  conv => whnf
  refine ⟨0, 3, [hd0], X.ks, true, rfl, rfl, by (try simp only [List.length_append, List.length_cons, List.length_nil]); omega, by omega, .inl ⟨X.ks.length, ⟨by decide, by decide, rfl, rfl⟩, rfl, rfl, ?_⟩⟩
  rw [said (M := X.ks) rfl]
  conv => whnf
  have e0 : [hd0] ++ X.ks = [hd0] ++ X.ks ++ cF X.ts.length (X.vs.take 0) := by rw [List.take_zero]; unfold cF; simp
  have eN : [hd0] ++ X.ks ++ cF X.ts.length (X.vs.take X.vs.length) = [hd0] ++ X.ks ++ cF X.ts.length X.vs := by rw [List.take_length]
  refine cW.mk { i : Nat // i ≤ X.vs.length } 4 (fun i => ((cq [(1, .ptr 2 0), (7, .ptr 0 0), (73, .fr X.vs.length 1 (ints X.vs)), (74, .si .i64 (X.vs.length : Int)), (75, .si .i64 ((i.val : Int)))] ([hd0] ++ X.ks ++ cF X.ts.length (X.vs.take i.val)) (cmF X)).1, (cq [(1, .ptr 2 0), (7, .ptr 0 0), (73, .fr X.vs.length 1 (ints X.vs)), (74, .si .i64 (X.vs.length : Int)), (75, .si .i64 ((i.val : Int)))] ([hd0] ++ X.ks ++ cF X.ts.length (X.vs.take i.val)) (cmF X)).2.1)) (fun i => X.vs.length - i.val) ⟨0, Nat.zero_le _⟩ ?_ ?_
  focus
    exact dz e0 0 4 2 (le := [(1, .ptr 2 0), (7, .ptr 0 0), (73, .fr X.vs.length 1 (ints X.vs)), (74, .si .i64 (X.vs.length : Int)), (75, .si .i64 (((0 : Nat) : Int)))]) (fun x hx => by
      simp only [List.mem_cons, List.not_mem_nil, or_false] at hx
      rcases hx with rfl | rfl | rfl | rfl | rfl
      · exact ak.ptr (Nat.le_of_ble_eq_true rfl) rfl
      · exact ak.ptr (Nat.le_of_ble_eq_true rfl) rfl
      · exact ak.frE rfl
      · exact ak.int rfl
      · exact ak.int rfl) ⟨by decide, by decide, by decide⟩ rfl (ak.rw (Nat.le_of_ble_eq_true rfl) rfl) rfl (aj _) rfl (aC X)
  intro ⟨i, hi⟩
  have lw : (cF X.ts.length (X.vs.take i)).length ≤ 3000 := by have := nU X.ts.length (X.vs.take i); rw [List.length_take] at this; omega
  conv => whnf
  refine ab.dec (fun h => ?_) (fun h => ?_)
  focus
    have hi2 : i < X.vs.length := Int.ofNat_lt.1 h
    have hw : IntKind.i64.wrap ((i : Int) + 1) = ((i + 1 : Nat) : Int) := eF ⟨by omega, by omega⟩
    conv => whnf
    refine Idx.mk i rfl hi2 ?_
    conv => whnf
    refine aO (en hi2) ?_
    conv => whnf
    have es : [hd0] ++ X.ks ++ cF X.ts.length (X.vs.take i) ++ (if decide ((i : Int) < (X.ts.length : Int)) = true then [aq X.vs[i], iI] else []) = [hd0] ++ X.ks ++ cF X.ts.length (X.vs.take (i + 1)) := by
      rw [List.append_assoc]
      by_cases c : (i : Int) < (X.ts.length : Int)
      · rw [if_pos (decide_eq_true c), tI hi2 (Int.ofNat_lt.1 c)]
      · rw [if_neg (fun q => c (of_decide_eq_true q)), List.append_nil, tJ (fun q => c (Int.ofNat_lt.2 q))]
    refine ⟨_, ⟨X.vs[i], hN.vs _ (List.getElem_mem hi2), rfl, rfl⟩, ?_⟩
    conv => whnf
    refine ⟨0, 3, [hd0] ++ X.ks ++ cF X.ts.length (X.vs.take i), [aq X.vs[i], iI], decide ((i : Int) < (X.ts.length : Int)), rfl, rfl, by (try simp only [List.length_append, List.length_cons, List.length_nil]); omega, Nat.le_of_ble_eq_true rfl, .inr ⟨4, 2, 2, _, _, true, rfl, rfl, Nat.le_refl _, rfl, rfl, ⟨by decide, by decide, rfl, rfl⟩, ?_⟩⟩
    conv => whnf
    exact ⟨⟨i + 1, hi2⟩, by show X.vs.length - (i + 1) < X.vs.length - i; omega, dz es 0 5 2 (le := [(1, .ptr 2 0), (7, .ptr 0 0), (73, .fr X.vs.length 1 (ints X.vs)), (74, .si .i64 (X.vs.length : Int)), (75, .si .i64 (((i + 1 : Nat) : Int)))]) (fun x hx => by
      simp only [List.mem_cons, List.not_mem_nil, or_false] at hx
      rcases hx with rfl | rfl | rfl | rfl | rfl
      · exact ak.ptr (Nat.le_of_ble_eq_true rfl) rfl
      · exact ak.ptr (Nat.le_of_ble_eq_true rfl) rfl
      · exact ak.frE rfl
      · exact ak.int rfl
      · exact ak.int (congrArg (AV.si .i64) hw)) ⟨by decide, by decide, by decide⟩ rfl (ak.rw (Nat.le_of_ble_eq_true rfl) rfl) rfl (aj _) rfl (aC X)⟩
  have hin : i = X.vs.length := by have : ¬ i < X.vs.length := fun q => h (Int.ofNat_lt.2 q); omega
  subst hin
  rw [eN]
  clear e0 eN
  conv => whnf
  have lx : (cF X.ts.length X.vs).length ≤ 3000 := by have := nU X.ts.length X.vs; omega
  have e0 : [hd0] ++ X.ks ++ cF X.ts.length X.vs = [hd0] ++ X.ks ++ cF X.ts.length X.vs ++ (X.ts.take 0).map bW := (List.append_nil _).symm
  have eN : [hd0] ++ X.ks ++ cF X.ts.length X.vs ++ (X.ts.take X.ts.length).map bW = [hd0] ++ X.ks ++ cF X.ts.length X.vs ++ X.ts.map bW := by rw [List.take_length]
  refine cW.mk { i : Nat // i ≤ X.ts.length } 4 (fun i => ((cq [(1, .ptr 2 0), (7, .ptr 0 0), (91, .fr X.ts.length 1 (ints X.ts)), (92, .si .i64 (X.ts.length : Int)), (93, .si .i64 ((i.val : Int)))] ([hd0] ++ X.ks ++ cF X.ts.length X.vs ++ (X.ts.take i.val).map bW) (cmF X)).1, (cq [(1, .ptr 2 0), (7, .ptr 0 0), (91, .fr X.ts.length 1 (ints X.ts)), (92, .si .i64 (X.ts.length : Int)), (93, .si .i64 ((i.val : Int)))] ([hd0] ++ X.ks ++ cF X.ts.length X.vs ++ (X.ts.take i.val).map bW) (cmF X)).2.1)) (fun i => X.ts.length - i.val) ⟨0, Nat.zero_le _⟩ ?_ ?_
  focus
    exact dz e0 0 3 2 (le := [(1, .ptr 2 0), (7, .ptr 0 0), (91, .fr X.ts.length 1 (ints X.ts)), (92, .si .i64 (X.ts.length : Int)), (93, .si .i64 (((0 : Nat) : Int)))]) (fun x hx => by
      simp only [List.mem_cons, List.not_mem_nil, or_false] at hx
      rcases hx with rfl | rfl | rfl | rfl | rfl
      · exact ak.ptr (Nat.le_of_ble_eq_true rfl) rfl
      · exact ak.ptr (Nat.le_of_ble_eq_true rfl) rfl
      · exact ak.frE rfl
      · exact ak.int rfl
      · exact ak.int rfl) ⟨by decide, by decide, by decide⟩ rfl (ak.rw (Nat.le_of_ble_eq_true rfl) rfl) rfl (aj _) rfl (aC X)
  intro ⟨i, hi⟩
  have lw : ((X.ts.take i).map bW).length ≤ 3000 := by rw [List.length_map, List.length_take]; omega
  conv => whnf
  refine ab.dec (fun h => ?_) (fun h => ?_)
  focus
    have hi2 : i < X.ts.length := Int.ofNat_lt.1 h
    have hw : IntKind.i64.wrap ((i : Int) + 1) = ((i + 1 : Nat) : Int) := eF ⟨by omega, by omega⟩
    conv => whnf
    refine Idx.mk i rfl hi2 ?_
    conv => whnf
    refine aO (en hi2) ?_
    conv => whnf
    have es : [hd0] ++ X.ks ++ cF X.ts.length X.vs ++ (X.ts.take i).map bW ++ [bW X.ts[i]] = [hd0] ++ X.ks ++ cF X.ts.length X.vs ++ (X.ts.take (i + 1)).map bW := by rw [List.append_assoc, tK hi2]
    refine ⟨_, ⟨X.ts[i], hN.ts _ (List.getElem_mem hi2), rfl, rfl⟩, ?_⟩
    conv => whnf
    refine ⟨0, 3, [hd0] ++ X.ks ++ cF X.ts.length X.vs ++ (X.ts.take i).map bW, [bW X.ts[i]], true, rfl, rfl, by (try simp only [List.length_append, List.length_cons, List.length_nil]); omega, Nat.le_of_ble_eq_true rfl, .inr ⟨4, 1, 1, _, _, true, rfl, rfl, Nat.le_refl _, rfl, rfl, ⟨by decide, by decide, rfl, rfl⟩, ?_⟩⟩
    rw [said (M := [bW X.ts[i]]) rfl]
    conv => whnf
    exact ⟨⟨i + 1, hi2⟩, by show X.ts.length - (i + 1) < X.ts.length - i; omega, dz es 0 5 2 (le := [(1, .ptr 2 0), (7, .ptr 0 0), (91, .fr X.ts.length 1 (ints X.ts)), (92, .si .i64 (X.ts.length : Int)), (93, .si .i64 (((i + 1 : Nat) : Int)))]) (fun x hx => by
      simp only [List.mem_cons, List.not_mem_nil, or_false] at hx
      rcases hx with rfl | rfl | rfl | rfl | rfl
      · exact ak.ptr (Nat.le_of_ble_eq_true rfl) rfl
      · exact ak.ptr (Nat.le_of_ble_eq_true rfl) rfl
      · exact ak.frE rfl
      · exact ak.int rfl
      · exact ak.int (congrArg (AV.si .i64) hw)) ⟨by decide, by decide, by decide⟩ rfl (ak.rw (Nat.le_of_ble_eq_true rfl) rfl) rfl (aj _) rfl (aC X)⟩
  have hin : i = X.ts.length := by have : ¬ i < X.ts.length := fun q => h (Int.ofNat_lt.2 q); omega
  subst hin
  rw [eN]
  clear e0 eN
  conv => whnf
  exact dR (show [hd0] ++ X.ks ++ cF X.ts.length X.vs ++ X.ts.map bW = hd0 :: (X.ks ++ (cF X.ts.length X.vs ++ X.ts.map bW)) by simp) rfl
theorem JH (X : Rd) (hk : X.nm = 7) (hN : N64 X) (hS : SmW X) : aw KWo 5 15 [.agg (cmF X)] .nil 0 fun u H' _ => FrG (ay X).length 1 (au (ay X)) u H' := by
  have hW : ay X = aM 7 X.q.back :: cz 7 X := cx (k := 7) hk (by decide) (by decide)
  rw [hW]
  have z1 := hS.ks
  have z2 := hS.ts
  have z3 := hS.vs
  have z4 := hS.ls
  have z5 := hS.q
  have z6 := hS.fs
  obtain ⟨hd0, hh⟩ : ∃ w, w = aM 7 X.q.back := ⟨_, rfl⟩
  have hh2 : [dS 7] = [hd0] := by rw [hh]; unfold aM; rw [if_neg (fun q => absurd q.2 (by decide))]
  rw [← hh]
  conv => whnf
  refine ⟨rfl, Nat.le_of_ble_eq_true rfl, ?_⟩
  conv => whnf
  refine bo hk (a := .tup [.str (dS 7), .bool true]) (by kernel_rfl) ?_
  conv => whnf
  refine ⟨rfl, Nat.le_of_ble_eq_true rfl, ?_⟩
  conv => whnf
  refine bo hk (a := .tup [.str [], .bool false]) (by kernel_rfl) ?_
  conv => whnf
  refine df.mk Unit 4 (fun _ => ((cq [(1, .ptr 2 0), (7, .ptr 0 0)] [hd0] (cmF X)).1, (cq [(1, .ptr 2 0), (7, .ptr 0 0)] [hd0] (cmF X)).2.1)) ?_ ?_
  focus
    conv => whnf
    exact ⟨(), dz hh2 4 3 0 (le := [(1, .ptr 2 0), (7, .ptr 0 0)]) (fun x hx => by
      simp only [List.mem_cons, List.not_mem_nil, or_false] at hx
      rcases hx with rfl | rfl
      · exact ak.ptr (Nat.le_of_ble_eq_true rfl) rfl
      · exact ak.ptr (Nat.le_of_ble_eq_true rfl) rfl) ⟨by decide, by decide, by decide⟩ rfl (ak.jZ (Nat.le_of_ble_eq_true rfl) rfl (.inr ⟨rfl, _, rfl, Nat.le_refl _⟩) (Nat.le_refl _)) rfl rfl rfl (aC X)⟩
  intro _
  conv => whnf
  refine ab.dec (fun q => absurd (hk.symm.trans q) (by decide)) (fun _ => ?_)
  conv => whnf
  refine ab.dec (fun q => absurd (hk.symm.trans q) (by decide)) (fun _ => ?_)
  conv => whnf
  refine ab.dec (fun q => absurd (hk.symm.trans q) (by decide)) (fun _ => ?_)
  conv => whnf
  refine ab.dec (fun q => absurd (hk.symm.trans q) (by decide)) (fun _ => ?_)
  conv => whnf
  refine ab.dec (fun q => absurd (hk.symm.trans q) (by decide)) (fun _ => ?_)
  conv => whnf
  refine ab.dec (fun q => absurd (hk.symm.trans q) (by decide)) (fun _ => ?_)
  conv => whnf
  refine ab.dec (fun _ => ?_) (fun q => absurd hk q)
  conv => whnf
  refine ⟨0, 3, [hd0], X.ks, true, rfl, rfl, by (try simp only [List.length_append, List.length_cons, List.length_nil]); omega, by omega, .inl ⟨X.ks.length, ⟨by decide, by decide, rfl, rfl⟩, rfl, rfl, ?_⟩⟩
  rw [said (M := X.ks) rfl]
  conv => whnf
  refine ⟨_, ⟨X.fr, hN.fr, rfl, rfl⟩, ?_⟩
  conv => whnf
  refine ⟨_, ⟨X.to, hN.to, rfl, rfl⟩, ?_⟩
  conv => whnf
  refine ⟨0, 4, [hd0] ++ X.ks, [aq X.fr, aq X.to], true, rfl, rfl, by (try simp only [List.length_append, List.length_cons, List.length_nil]); omega, Nat.le_of_ble_eq_true rfl, .inr ⟨5, 2, 2, _, _, true, rfl, rfl, Nat.le_refl _, rfl, rfl, ⟨by decide, by decide, rfl, rfl⟩, ?_⟩⟩
  rw [said (M := [aq X.fr, aq X.to]) rfl]
  conv => whnf
  exact dR (show [hd0] ++ X.ks ++ [aq X.fr, aq X.to] = hd0 :: (X.ks ++ [aq X.fr, aq X.to]) by simp) rfl
theorem JI (X : Rd) (hk : X.nm = 8) (hN : N64 X) (hS : SmW X) : aw KWo 5 15 [.agg (cmF X)] .nil 0 fun u H' _ => FrG (ay X).length 1 (au (ay X)) u H' := by
  have hW : ay X = aM 8 X.q.back :: cz 8 X := cx (k := 8) hk (by decide) (by decide)
  rw [hW]
  have z1 := hS.ks
  have z2 := hS.ts
  have z3 := hS.vs
  have z4 := hS.ls
  have z5 := hS.q
  have z6 := hS.fs
  obtain ⟨hd0, hh⟩ : ∃ w, w = aM 8 X.q.back := ⟨_, rfl⟩
  have hh2 : [dS 8] = [hd0] := by rw [hh]; unfold aM; rw [if_neg (fun q => absurd q.2 (by decide))]
  rw [← hh]
  conv => whnf
  refine ⟨rfl, Nat.le_of_ble_eq_true rfl, ?_⟩
  conv => whnf
  refine bo hk (a := .tup [.str (dS 8), .bool true]) (by kernel_rfl) ?_
  conv => whnf
  refine ⟨rfl, Nat.le_of_ble_eq_true rfl, ?_⟩
  conv => whnf
  refine bo hk (a := .tup [.str [], .bool false]) (by kernel_rfl) ?_
  conv => whnf
  refine df.mk Unit 4 (fun _ => ((cq [(1, .ptr 2 0), (7, .ptr 0 0)] [hd0] (cmF X)).1, (cq [(1, .ptr 2 0), (7, .ptr 0 0)] [hd0] (cmF X)).2.1)) ?_ ?_
  focus
    conv => whnf
    exact ⟨(), dz hh2 4 3 0 (le := [(1, .ptr 2 0), (7, .ptr 0 0)]) (fun x hx => by
      simp only [List.mem_cons, List.not_mem_nil, or_false] at hx
      rcases hx with rfl | rfl
      · exact ak.ptr (Nat.le_of_ble_eq_true rfl) rfl
      · exact ak.ptr (Nat.le_of_ble_eq_true rfl) rfl) ⟨by decide, by decide, by decide⟩ rfl (ak.jZ (Nat.le_of_ble_eq_true rfl) rfl (.inr ⟨rfl, _, rfl, Nat.le_refl _⟩) (Nat.le_refl _)) rfl rfl rfl (aC X)⟩
  intro _
  conv => whnf
  refine ab.dec (fun q => absurd (hk.symm.trans q) (by decide)) (fun _ => ?_)
  conv => whnf
  refine ab.dec (fun q => absurd (hk.symm.trans q) (by decide)) (fun _ => ?_)
  conv => whnf
  refine ab.dec (fun q => absurd (hk.symm.trans q) (by decide)) (fun _ => ?_)
  conv => whnf
  refine ab.dec (fun q => absurd (hk.symm.trans q) (by decide)) (fun _ => ?_)
  conv => whnf
  refine ab.dec (fun q => absurd (hk.symm.trans q) (by decide)) (fun _ => ?_)
  conv => whnf
  refine ab.dec (fun q => absurd (hk.symm.trans q) (by decide)) (fun _ => ?_)
  conv => whnf
  refine ab.dec (fun q => absurd (hk.symm.trans q) (by decide)) (fun _ => ?_)
  conv => whnf
  refine ab.dec (fun q => absurd (hk.symm.trans q) (by decide)) (fun _ => ?_)
  conv => whnf
  refine ab.dec (fun q => absurd (hk.symm.trans q) (by decide)) (fun _ => ?_)
  conv => whnf
  refine ab.dec (fun q => absurd (hk.symm.trans q) (by decide)) (fun _ => ?_)
  conv => whnf
  refine ab.dec (fun q => absurd (hk.symm.trans q) (by decide)) (fun _ => ?_)
  conv => whnf
  refine ⟨0, 3, [hd0], X.ks, true, rfl, rfl, by (try simp only [List.length_append, List.length_cons, List.length_nil]); omega, by omega, .inl ⟨X.ks.length, ⟨by decide, by decide, rfl, rfl⟩, rfl, rfl, ?_⟩⟩
  rw [said (M := X.ks) rfl]
  conv => whnf
  refine ⟨0, 4, [hd0] ++ X.ks, X.fs, true, rfl, rfl, by (try simp only [List.length_append, List.length_cons, List.length_nil]); omega, by omega, .inl ⟨X.fs.length, ⟨by decide, by decide, rfl, rfl⟩, rfl, rfl, ?_⟩⟩
  rw [said (M := X.fs) rfl]
  conv => whnf
  exact dR (show [hd0] ++ X.ks ++ X.fs = hd0 :: (X.ks ++ X.fs) by simp) rfl
theorem JJ (X : Rd) (hk : X.nm = 9) (hkd : 1 ≤ X.kd) (hN : N64 X) (hS : SmW X) : aw KWo 5 15 [.agg (cmF X)] .nil 0 fun u H' _ => FrG (ay X).length 1 (au (ay X)) u H' := by
  have hW : ay X = aM 9 X.q.back :: cz 9 X := cx (k := 9) hk (by decide) (by decide)
  rw [hW]
  have z1 := hS.ks
  have z2 := hS.ts
  have z3 := hS.vs
  have z4 := hS.ls
  have z5 := hS.q
  have z6 := hS.fs
  obtain ⟨hd0, hh⟩ : ∃ w, w = aM 9 X.q.back := ⟨_, rfl⟩
  have hh2 : [dS 9] = [hd0] := by rw [hh]; unfold aM; rw [if_neg (fun q => absurd q.2 (by decide))]
  rw [← hh]
  conv => whnf
  refine ⟨rfl, Nat.le_of_ble_eq_true rfl, ?_⟩
  conv => whnf
  refine bo hk (a := .tup [.str (dS 9), .bool true]) (by kernel_rfl) ?_
  conv => whnf
  refine ⟨rfl, Nat.le_of_ble_eq_true rfl, ?_⟩
  conv => whnf
  refine bo hk (a := .tup [.str [], .bool false]) (by kernel_rfl) ?_
  conv => whnf
  refine df.mk Unit 4 (fun _ => ((cq [(1, .ptr 2 0), (7, .ptr 0 0)] [hd0] (cmF X)).1, (cq [(1, .ptr 2 0), (7, .ptr 0 0)] [hd0] (cmF X)).2.1)) ?_ ?_
  focus
    conv => whnf
    exact ⟨(), dz hh2 4 3 0 (le := [(1, .ptr 2 0), (7, .ptr 0 0)]) (fun x hx => by
      simp only [List.mem_cons, List.not_mem_nil, or_false] at hx
      rcases hx with rfl | rfl
      · exact ak.ptr (Nat.le_of_ble_eq_true rfl) rfl
      · exact ak.ptr (Nat.le_of_ble_eq_true rfl) rfl) ⟨by decide, by decide, by decide⟩ rfl (ak.jZ (Nat.le_of_ble_eq_true rfl) rfl (.inr ⟨rfl, _, rfl, Nat.le_refl _⟩) (Nat.le_refl _)) rfl rfl rfl (aC X)⟩
  intro _
  conv => whnf
  refine ab.dec (fun q => absurd (hk.symm.trans q) (by decide)) (fun _ => ?_)
  conv => whnf
  refine ab.dec (fun q => absurd (hk.symm.trans q) (by decide)) (fun _ => ?_)
  conv => whnf
  refine ab.dec (fun q => absurd (hk.symm.trans q) (by decide)) (fun _ => ?_)
  conv => whnf
  refine ab.dec (fun q => absurd (hk.symm.trans q) (by decide)) (fun _ => ?_)
  conv => whnf
  refine ab.dec (fun q => absurd (hk.symm.trans q) (by decide)) (fun _ => ?_)
  conv => whnf
  refine ab.dec (fun q => absurd (hk.symm.trans q) (by decide)) (fun _ => ?_)
  conv => whnf
  refine ab.dec (fun q => absurd (hk.symm.trans q) (by decide)) (fun _ => ?_)
  conv => whnf
  refine ab.dec (fun _ => ?_) (fun q => absurd hk q)
  conv => whnf
  refine ⟨0, 3, [hd0], X.ks, true, rfl, rfl, by (try simp only [List.length_append, List.length_cons, List.length_nil]); omega, by omega, .inl ⟨X.ks.length, ⟨by decide, by decide, rfl, rfl⟩, rfl, rfl, ?_⟩⟩
  rw [said (M := X.ks) rfl]
  conv => whnf
  refine ⟨_, ⟨X.kd, hN.kd.1, hN.kd.2, rfl, rfl⟩, ?_⟩
  conv => whnf
  refine ⟨_, ⟨X.bk, hN.bk, rfl, rfl⟩, ?_⟩
  conv => whnf
  refine ⟨0, 4, [hd0] ++ X.ks, [di, lY X.kd, aq X.bk], true, rfl, rfl, by (try simp only [List.length_append, List.length_cons, List.length_nil]); omega, Nat.le_of_ble_eq_true rfl, .inr ⟨5, 3, 3, _, _, true, rfl, rfl, Nat.le_refl _, rfl, rfl, ⟨by decide, by decide, rfl, rfl⟩, ?_⟩⟩
  rw [said (M := [di, lY X.kd, aq X.bk]) rfl]
  conv => whnf
  refine ⟨_, ⟨X.al, hN.al, rfl, rfl⟩, ?_⟩
  conv => whnf
  refine ⟨0, 6, [hd0] ++ X.ks ++ [di, lY X.kd, aq X.bk], [aq X.al], !decide (X.al = 0), rfl, rfl, by (try simp only [List.length_append, List.length_cons, List.length_nil]); omega, Nat.le_of_ble_eq_true rfl, .inr ⟨7, 1, 1, _, _, true, rfl, rfl, Nat.le_refl _, rfl, rfl, ⟨by decide, by decide, rfl, rfl⟩, ?_⟩⟩
  rw [said (M := alW X) (by unfold alW; by_cases h : X.al = 0 <;> simp [h])]
  conv => whnf
  exact dR (show [hd0] ++ X.ks ++ [di, lY X.kd, aq X.bk] ++ alW X = hd0 :: (X.ks ++ ([di, gV X.kd, aq X.bk] ++ alW X)) by rw [D5 hkd]; simp) rfl
theorem I5 (X : Rd) (hk : X.nm = 10) (hN : N64 X) (hS : SmW X) : aw KWo 5 15 [.agg (cmF X)] .nil 0 fun u H' _ => FrG (ay X).length 1 (au (ay X)) u H' := by
  have hW : ay X = aM 10 X.q.back :: cz 10 X := cx (k := 10) hk (by decide) (by decide)
  rw [hW]
  have z1 := hS.ks
  have z2 := hS.ts
  have z3 := hS.vs
  have z4 := hS.ls
  have z5 := hS.q
  have z6 := hS.fs
  obtain ⟨hd0, hh⟩ : ∃ w, w = aM 10 X.q.back := ⟨_, rfl⟩
  have hh2 : [dS 10] = [hd0] := by rw [hh]; unfold aM; rw [if_neg (fun q => absurd q.2 (by decide))]
  rw [← hh]
  conv => whnf
  refine ⟨rfl, Nat.le_of_ble_eq_true rfl, ?_⟩
  conv => whnf
  refine bo hk (a := .tup [.str (dS 10), .bool true]) (by kernel_rfl) ?_
  conv => whnf
  refine ⟨rfl, Nat.le_of_ble_eq_true rfl, ?_⟩
  conv => whnf
  refine bo hk (a := .tup [.str [], .bool false]) (by kernel_rfl) ?_
  conv => whnf
  refine df.mk Unit 4 (fun _ => ((cq [(1, .ptr 2 0), (7, .ptr 0 0)] [hd0] (cmF X)).1, (cq [(1, .ptr 2 0), (7, .ptr 0 0)] [hd0] (cmF X)).2.1)) ?_ ?_
  focus
    conv => whnf
    exact ⟨(), dz hh2 4 3 0 (le := [(1, .ptr 2 0), (7, .ptr 0 0)]) (fun x hx => by
      simp only [List.mem_cons, List.not_mem_nil, or_false] at hx
      rcases hx with rfl | rfl
      · exact ak.ptr (Nat.le_of_ble_eq_true rfl) rfl
      · exact ak.ptr (Nat.le_of_ble_eq_true rfl) rfl) ⟨by decide, by decide, by decide⟩ rfl (ak.jZ (Nat.le_of_ble_eq_true rfl) rfl (.inr ⟨rfl, _, rfl, Nat.le_refl _⟩) (Nat.le_refl _)) rfl rfl rfl (aC X)⟩
  intro _
  conv => whnf
  refine ab.dec (fun q => absurd (hk.symm.trans q) (by decide)) (fun _ => ?_)
  conv => whnf
  refine ab.dec (fun q => absurd (hk.symm.trans q) (by decide)) (fun _ => ?_)
  conv => whnf
  refine ab.dec (fun q => absurd (hk.symm.trans q) (by decide)) (fun _ => ?_)
  conv => whnf
  refine ab.dec (fun q => absurd (hk.symm.trans q) (by decide)) (fun _ => ?_)
  conv => whnf
  refine ab.dec (fun q => absurd (hk.symm.trans q) (by decide)) (fun _ => ?_)
  conv => whnf
  refine ab.dec (fun q => absurd (hk.symm.trans q) (by decide)) (fun _ => ?_)
  conv => whnf
  refine ab.dec (fun q => absurd (hk.symm.trans q) (by decide)) (fun _ => ?_)
  conv => whnf
  refine ab.dec (fun q => absurd (hk.symm.trans q) (by decide)) (fun _ => ?_)
  conv => whnf
  refine ab.dec (fun q => absurd (hk.symm.trans q) (by decide)) (fun _ => ?_)
  conv => whnf
  refine ab.dec (fun q => absurd (hk.symm.trans q) (by decide)) (fun _ => ?_)
  conv => whnf
  refine ab.dec (fun q => absurd (hk.symm.trans q) (by decide)) (fun _ => ?_)
  conv => whnf
  refine ⟨0, 3, [hd0], X.ks, true, rfl, rfl, by (try simp only [List.length_append, List.length_cons, List.length_nil]); omega, by omega, .inl ⟨X.ks.length, ⟨by decide, by decide, rfl, rfl⟩, rfl, rfl, ?_⟩⟩
  rw [said (M := X.ks) rfl]
  conv => whnf
  refine ⟨0, 4, [hd0] ++ X.ks, X.fs, true, rfl, rfl, by (try simp only [List.length_append, List.length_cons, List.length_nil]); omega, by omega, .inl ⟨X.fs.length, ⟨by decide, by decide, rfl, rfl⟩, rfl, rfl, ?_⟩⟩
  rw [said (M := X.fs) rfl]
  conv => whnf
  exact dR (show [hd0] ++ X.ks ++ X.fs = hd0 :: (X.ks ++ X.fs) by simp) rfl
theorem I6 (X : Rd) (hk : X.nm = 11) (hN : N64 X) (hS : SmW X) : aw KWo 5 15 [.agg (cmF X)] .nil 0 fun u H' _ => FrG (ay X).length 1 (au (ay X)) u H' := by
  have hW : ay X = aM 11 X.q.back :: cz 11 X := cx (k := 11) hk (by decide) (by decide)
  rw [hW]
  have z1 := hS.ks
  have z2 := hS.ts
  have z3 := hS.vs
  have z4 := hS.ls
  have z5 := hS.q
  have z6 := hS.fs
  obtain ⟨hd0, hh⟩ : ∃ w, w = aM 11 X.q.back := ⟨_, rfl⟩
  have hh2 : [dS 11] = [hd0] := by rw [hh]; unfold aM; rw [if_neg (fun q => absurd q.2 (by decide))]
  rw [← hh]
  conv => whnf
  refine ⟨rfl, Nat.le_of_ble_eq_true rfl, ?_⟩
  conv => whnf
  refine bo hk (a := .tup [.str (dS 11), .bool true]) (by kernel_rfl) ?_
  conv => whnf
  refine ⟨rfl, Nat.le_of_ble_eq_true rfl, ?_⟩
  conv => whnf
  refine bo hk (a := .tup [.str [], .bool false]) (by kernel_rfl) ?_
  conv => whnf
  refine df.mk Unit 4 (fun _ => ((cq [(1, .ptr 2 0), (7, .ptr 0 0)] [hd0] (cmF X)).1, (cq [(1, .ptr 2 0), (7, .ptr 0 0)] [hd0] (cmF X)).2.1)) ?_ ?_
  focus
    conv => whnf
    exact ⟨(), dz hh2 4 3 0 (le := [(1, .ptr 2 0), (7, .ptr 0 0)]) (fun x hx => by
      simp only [List.mem_cons, List.not_mem_nil, or_false] at hx
      rcases hx with rfl | rfl
      · exact ak.ptr (Nat.le_of_ble_eq_true rfl) rfl
      · exact ak.ptr (Nat.le_of_ble_eq_true rfl) rfl) ⟨by decide, by decide, by decide⟩ rfl (ak.jZ (Nat.le_of_ble_eq_true rfl) rfl (.inr ⟨rfl, _, rfl, Nat.le_refl _⟩) (Nat.le_refl _)) rfl rfl rfl (aC X)⟩
  intro _
  conv => whnf
  refine ab.dec (fun q => absurd (hk.symm.trans q) (by decide)) (fun _ => ?_)
  conv => whnf
  refine ab.dec (fun q => absurd (hk.symm.trans q) (by decide)) (fun _ => ?_)
  conv => whnf
  refine ab.dec (fun q => absurd (hk.symm.trans q) (by decide)) (fun _ => ?_)
  conv => whnf
  refine ab.dec (fun q => absurd (hk.symm.trans q) (by decide)) (fun _ => ?_)
  conv => whnf
  refine ab.dec (fun q => absurd (hk.symm.trans q) (by decide)) (fun _ => ?_)
  conv => whnf
  refine ab.dec (fun q => absurd (hk.symm.trans q) (by decide)) (fun _ => ?_)
  conv => whnf
  refine ab.dec (fun q => absurd (hk.symm.trans q) (by decide)) (fun _ => ?_)
  conv => whnf
  refine ab.dec (fun q => absurd (hk.symm.trans q) (by decide)) (fun _ => ?_)
  conv => whnf
  refine ab.dec (fun q => absurd (hk.symm.trans q) (by decide)) (fun _ => ?_)
  conv => whnf
  refine ab.dec (fun q => absurd (hk.symm.trans q) (by decide)) (fun _ => ?_)
  conv => whnf
  refine ab.dec (fun q => absurd (hk.symm.trans q) (by decide)) (fun _ => ?_)
  conv => whnf
  refine ⟨0, 3, [hd0], X.ks, true, rfl, rfl, by (try simp only [List.length_append, List.length_cons, List.length_nil]); omega, by omega, .inl ⟨X.ks.length, ⟨by decide, by decide, rfl, rfl⟩, rfl, rfl, ?_⟩⟩
  rw [said (M := X.ks) rfl]
  conv => whnf
  refine ⟨0, 4, [hd0] ++ X.ks, X.fs, true, rfl, rfl, by (try simp only [List.length_append, List.length_cons, List.length_nil]); omega, by omega, .inl ⟨X.fs.length, ⟨by decide, by decide, rfl, rfl⟩, rfl, rfl, ?_⟩⟩
  rw [said (M := X.fs) rfl]
  conv => whnf
  exact dR (show [hd0] ++ X.ks ++ X.fs = hd0 :: (X.ks ++ X.fs) by simp) rfl
theorem I7 (X : Rd) (hk : X.nm = 12) (hN : N64 X) (hS : SmW X) : aw KWo 5 15 [.agg (cmF X)] .nil 0 fun u H' _ => FrG (ay X).length 1 (au (ay X)) u H' := by
  have hW : ay X = aM 12 X.q.back :: cz 12 X := cx (k := 12) hk (by decide) (by decide)
  rw [hW]
  have z1 := hS.ks
  have z2 := hS.ts
  have z3 := hS.vs
  have z4 := hS.ls
  have z5 := hS.q
  have z6 := hS.fs
  obtain ⟨hd0, hh⟩ : ∃ w, w = aM 12 X.q.back := ⟨_, rfl⟩
  have hh2 : [dS 12] = [hd0] := by rw [hh]; unfold aM; rw [if_neg (fun q => absurd q.2 (by decide))]
  rw [← hh]
  conv => whnf
  refine ⟨rfl, Nat.le_of_ble_eq_true rfl, ?_⟩
  conv => whnf
  refine bo hk (a := .tup [.str (dS 12), .bool true]) (by kernel_rfl) ?_
  conv => whnf
  refine ⟨rfl, Nat.le_of_ble_eq_true rfl, ?_⟩
  conv => whnf
  refine bo hk (a := .tup [.str [], .bool false]) (by kernel_rfl) ?_
  conv => whnf
  refine df.mk Unit 4 (fun _ => ((cq [(1, .ptr 2 0), (7, .ptr 0 0)] [hd0] (cmF X)).1, (cq [(1, .ptr 2 0), (7, .ptr 0 0)] [hd0] (cmF X)).2.1)) ?_ ?_
  focus
    conv => whnf
    exact ⟨(), dz hh2 4 3 0 (le := [(1, .ptr 2 0), (7, .ptr 0 0)]) (fun x hx => by
      simp only [List.mem_cons, List.not_mem_nil, or_false] at hx
      rcases hx with rfl | rfl
      · exact ak.ptr (Nat.le_of_ble_eq_true rfl) rfl
      · exact ak.ptr (Nat.le_of_ble_eq_true rfl) rfl) ⟨by decide, by decide, by decide⟩ rfl (ak.jZ (Nat.le_of_ble_eq_true rfl) rfl (.inr ⟨rfl, _, rfl, Nat.le_refl _⟩) (Nat.le_refl _)) rfl rfl rfl (aC X)⟩
  intro _
  conv => whnf
  refine ab.dec (fun q => absurd (hk.symm.trans q) (by decide)) (fun _ => ?_)
  conv => whnf
  refine ab.dec (fun q => absurd (hk.symm.trans q) (by decide)) (fun _ => ?_)
  conv => whnf
  refine ab.dec (fun q => absurd (hk.symm.trans q) (by decide)) (fun _ => ?_)
  conv => whnf
  refine ab.dec (fun q => absurd (hk.symm.trans q) (by decide)) (fun _ => ?_)
  conv => whnf
  refine ab.dec (fun q => absurd (hk.symm.trans q) (by decide)) (fun _ => ?_)
  conv => whnf
  refine ab.dec (fun q => absurd (hk.symm.trans q) (by decide)) (fun _ => ?_)
  conv => whnf
  refine ab.dec (fun q => absurd (hk.symm.trans q) (by decide)) (fun _ => ?_)
  conv => whnf
  refine ab.dec (fun q => absurd (hk.symm.trans q) (by decide)) (fun _ => ?_)
  conv => whnf
  refine ab.dec (fun q => absurd (hk.symm.trans q) (by decide)) (fun _ => ?_)
  conv => whnf
  refine ab.dec (fun q => absurd (hk.symm.trans q) (by decide)) (fun _ => ?_)
  conv => whnf
  refine ab.dec (fun _ => ?_) (fun q => absurd hk q)
  conv => whnf
  refine ⟨0, 3, [hd0], [cu], true, rfl, rfl, by (try simp only [List.length_append, List.length_cons, List.length_nil]); omega, Nat.le_of_ble_eq_true rfl, .inr ⟨4, 1, 1, _, _, true, rfl, rfl, Nat.le_refl _, rfl, rfl, ⟨by decide, by decide, rfl, rfl⟩, ?_⟩⟩
  rw [said (M := [cu]) rfl]
  conv => whnf
  refine ⟨0, 5, [hd0] ++ [cu], X.fs, true, rfl, rfl, by (try simp only [List.length_append, List.length_cons, List.length_nil]); omega, by omega, .inl ⟨X.fs.length, ⟨by decide, by decide, rfl, rfl⟩, rfl, rfl, ?_⟩⟩
  rw [said (M := X.fs) rfl]
  conv => whnf
  exact dR (show [hd0] ++ [cu] ++ X.fs = hd0 :: (cu :: X.fs) by simp) rfl
theorem I8 (X : Rd) (hk : X.nm = 15) (hN : N64 X) (hS : SmW X) : aw KWo 5 15 [.agg (cmF X)] .nil 0 fun u H' _ => FrG (ay X).length 1 (au (ay X)) u H' := by
  have hW : ay X = aM 15 X.q.back :: cz 15 X := cx (k := 15) hk (by decide) (by decide)
  rw [hW]
  have z1 := hS.ks
  have z2 := hS.ts
  have z3 := hS.vs
  have z4 := hS.ls
  have z5 := hS.q
  have z6 := hS.fs
  obtain ⟨hd0, hh⟩ : ∃ w, w = aM 15 X.q.back := ⟨_, rfl⟩
  have hh2 : [dS 15] = [hd0] := by rw [hh]; unfold aM; rw [if_neg (fun q => absurd q.2 (by decide))]
  rw [← hh]
  conv => whnf
  refine ⟨rfl, Nat.le_of_ble_eq_true rfl, ?_⟩
  conv => whnf
  refine bo hk (a := .tup [.str (dS 15), .bool true]) (by kernel_rfl) ?_
  conv => whnf
  refine ⟨rfl, Nat.le_of_ble_eq_true rfl, ?_⟩
  conv => whnf
  refine bo hk (a := .tup [.str [], .bool false]) (by kernel_rfl) ?_
  conv => whnf
  refine df.mk Unit 4 (fun _ => ((cq [(1, .ptr 2 0), (7, .ptr 0 0)] [hd0] (cmF X)).1, (cq [(1, .ptr 2 0), (7, .ptr 0 0)] [hd0] (cmF X)).2.1)) ?_ ?_
  focus
    conv => whnf
    exact ⟨(), dz hh2 4 3 0 (le := [(1, .ptr 2 0), (7, .ptr 0 0)]) (fun x hx => by
      simp only [List.mem_cons, List.not_mem_nil, or_false] at hx
      rcases hx with rfl | rfl
      · exact ak.ptr (Nat.le_of_ble_eq_true rfl) rfl
      · exact ak.ptr (Nat.le_of_ble_eq_true rfl) rfl) ⟨by decide, by decide, by decide⟩ rfl (ak.jZ (Nat.le_of_ble_eq_true rfl) rfl (.inr ⟨rfl, _, rfl, Nat.le_refl _⟩) (Nat.le_refl _)) rfl rfl rfl (aC X)⟩
  intro _
  conv => whnf
  refine ab.dec (fun q => absurd (hk.symm.trans q) (by decide)) (fun _ => ?_)
  conv => whnf
  refine ab.dec (fun q => absurd (hk.symm.trans q) (by decide)) (fun _ => ?_)
  conv => whnf
  refine ab.dec (fun q => absurd (hk.symm.trans q) (by decide)) (fun _ => ?_)
  conv => whnf
  refine ab.dec (fun q => absurd (hk.symm.trans q) (by decide)) (fun _ => ?_)
  conv => whnf
  refine ab.dec (fun q => absurd (hk.symm.trans q) (by decide)) (fun _ => ?_)
  conv => whnf
  refine ab.dec (fun q => absurd (hk.symm.trans q) (by decide)) (fun _ => ?_)
  conv => whnf
  refine ab.dec (fun q => absurd (hk.symm.trans q) (by decide)) (fun _ => ?_)
  conv => whnf
  refine ab.dec (fun q => absurd (hk.symm.trans q) (by decide)) (fun _ => ?_)
  conv => whnf
  refine ab.dec (fun q => absurd (hk.symm.trans q) (by decide)) (fun _ => ?_)
  conv => whnf
  refine ab.dec (fun q => absurd (hk.symm.trans q) (by decide)) (fun _ => ?_)
  conv => whnf
  refine ab.dec (fun q => absurd (hk.symm.trans q) (by decide)) (fun _ => ?_)
  conv => whnf
  refine ⟨0, 3, [hd0], X.ks, true, rfl, rfl, by (try simp only [List.length_append, List.length_cons, List.length_nil]); omega, by omega, .inl ⟨X.ks.length, ⟨by decide, by decide, rfl, rfl⟩, rfl, rfl, ?_⟩⟩
  rw [said (M := X.ks) rfl]
  conv => whnf
  refine ⟨0, 4, [hd0] ++ X.ks, X.fs, true, rfl, rfl, by (try simp only [List.length_append, List.length_cons, List.length_nil]); omega, by omega, .inl ⟨X.fs.length, ⟨by decide, by decide, rfl, rfl⟩, rfl, rfl, ?_⟩⟩
  rw [said (M := X.fs) rfl]
  conv => whnf
  exact dR (show [hd0] ++ X.ks ++ X.fs = hd0 :: (X.ks ++ X.fs) by simp) rfl
theorem I9 (X : Rd) (hk : X.nm = 16) (hN : N64 X) (hS : SmW X) : aw KWo 5 15 [.agg (cmF X)] .nil 0 fun u H' _ => FrG (ay X).length 1 (au (ay X)) u H' := by
  have hW : ay X = aM 16 X.q.back :: cz 16 X := cx (k := 16) hk (by decide) (by decide)
  rw [hW]
  have z1 := hS.ks
  have z2 := hS.ts
  have z3 := hS.vs
  have z4 := hS.ls
  have z5 := hS.q
  have z6 := hS.fs
  obtain ⟨hd0, hh⟩ : ∃ w, w = aM 16 X.q.back := ⟨_, rfl⟩
  have hh2 : [dS 16] = [hd0] := by rw [hh]; unfold aM; rw [if_neg (fun q => absurd q.2 (by decide))]
  rw [← hh]
  conv => whnf
  refine ⟨rfl, Nat.le_of_ble_eq_true rfl, ?_⟩
  conv => whnf
  refine bo hk (a := .tup [.str (dS 16), .bool true]) (by kernel_rfl) ?_
  conv => whnf
  refine ⟨rfl, Nat.le_of_ble_eq_true rfl, ?_⟩
  conv => whnf
  refine bo hk (a := .tup [.str [], .bool false]) (by kernel_rfl) ?_
  conv => whnf
  refine df.mk Unit 4 (fun _ => ((cq [(1, .ptr 2 0), (7, .ptr 0 0)] [hd0] (cmF X)).1, (cq [(1, .ptr 2 0), (7, .ptr 0 0)] [hd0] (cmF X)).2.1)) ?_ ?_
  focus
    conv => whnf
    exact ⟨(), dz hh2 4 3 0 (le := [(1, .ptr 2 0), (7, .ptr 0 0)]) (fun x hx => by
      simp only [List.mem_cons, List.not_mem_nil, or_false] at hx
      rcases hx with rfl | rfl
      · exact ak.ptr (Nat.le_of_ble_eq_true rfl) rfl
      · exact ak.ptr (Nat.le_of_ble_eq_true rfl) rfl) ⟨by decide, by decide, by decide⟩ rfl (ak.jZ (Nat.le_of_ble_eq_true rfl) rfl (.inr ⟨rfl, _, rfl, Nat.le_refl _⟩) (Nat.le_refl _)) rfl rfl rfl (aC X)⟩
  intro _
  conv => whnf
  refine ab.dec (fun q => absurd (hk.symm.trans q) (by decide)) (fun _ => ?_)
  conv => whnf
  refine ab.dec (fun q => absurd (hk.symm.trans q) (by decide)) (fun _ => ?_)
  conv => whnf
  refine ab.dec (fun q => absurd (hk.symm.trans q) (by decide)) (fun _ => ?_)
  conv => whnf
  refine ab.dec (fun q => absurd (hk.symm.trans q) (by decide)) (fun _ => ?_)
  conv => whnf
  refine ab.dec (fun q => absurd (hk.symm.trans q) (by decide)) (fun _ => ?_)
  conv => whnf
  refine ab.dec (fun q => absurd (hk.symm.trans q) (by decide)) (fun _ => ?_)
  conv => whnf
  refine ab.dec (fun q => absurd (hk.symm.trans q) (by decide)) (fun _ => ?_)
  conv => whnf
  refine ab.dec (fun q => absurd (hk.symm.trans q) (by decide)) (fun _ => ?_)
  conv => whnf
  refine ab.dec (fun q => absurd (hk.symm.trans q) (by decide)) (fun _ => ?_)
  conv => whnf
  refine ab.dec (fun q => absurd (hk.symm.trans q) (by decide)) (fun _ => ?_)
  conv => whnf
  refine ab.dec (fun q => absurd (hk.symm.trans q) (by decide)) (fun _ => ?_)
  conv => whnf
  refine ⟨0, 3, [hd0], X.ks, true, rfl, rfl, by (try simp only [List.length_append, List.length_cons, List.length_nil]); omega, by omega, .inl ⟨X.ks.length, ⟨by decide, by decide, rfl, rfl⟩, rfl, rfl, ?_⟩⟩
  rw [said (M := X.ks) rfl]
  conv => whnf
  refine ⟨0, 4, [hd0] ++ X.ks, X.fs, true, rfl, rfl, by (try simp only [List.length_append, List.length_cons, List.length_nil]); omega, by omega, .inl ⟨X.fs.length, ⟨by decide, by decide, rfl, rfl⟩, rfl, rfl, ?_⟩⟩
  rw [said (M := X.fs) rfl]
  conv => whnf
  exact dR (show [hd0] ++ X.ks ++ X.fs = hd0 :: (X.ks ++ X.fs) by simp) rfl
theorem HM (X : Rd) (hk : X.nm = 13) (hb : X.q.back = true) (hN : N64 X) (hS : SmW X) : aw KWo 5 15 [.agg (cmF X)] .nil 0 fun u H' _ => FrG (ay X).length 1 (au (ay X)) u H' := by
  have hW : ay X = aM 13 X.q.back :: cz 13 X := cx (k := 13) hk (by decide) (by decide)
  rw [hW]
  have z1 := hS.ks
  have z2 := hS.ts
  have z3 := hS.vs
  have z4 := hS.ls
  have z5 := hS.q
  have z6 := hS.fs
  obtain ⟨hd0, hh⟩ : ∃ w, w = aM 13 X.q.back := ⟨_, rfl⟩
  have hh2 : [wZ 13] = [hd0] := by rw [hh, hb]; rfl
  rw [← hh]
  conv => whnf
  refine ⟨rfl, Nat.le_of_ble_eq_true rfl, ?_⟩
  conv => whnf
  refine bo hk (a := .tup [.str (dS 13), .bool true]) (by kernel_rfl) ?_
  conv => whnf
  refine ⟨rfl, Nat.le_of_ble_eq_true rfl, ?_⟩
  conv => whnf
  refine bo hk (a := .tup [.str (wZ 13), .bool true]) (by kernel_rfl) ?_
  conv => whnf
  refine ab.sb (fun _ => ?_) (fun q => absurd (hb.symm.trans q) (by decide))
  conv => whnf
  refine df.mk Unit 4 (fun _ => ((cq [(1, .ptr 2 0), (7, .ptr 0 0)] [hd0] (cmF X)).1, (cq [(1, .ptr 2 0), (7, .ptr 0 0)] [hd0] (cmF X)).2.1)) ?_ ?_
  focus
    conv => whnf
    exact ⟨(), dz hh2 4 3 0 (le := [(1, .ptr 2 0), (7, .ptr 0 0)]) (fun x hx => by
      simp only [List.mem_cons, List.not_mem_nil, or_false] at hx
      rcases hx with rfl | rfl
      · exact ak.ptr (Nat.le_of_ble_eq_true rfl) rfl
      · exact ak.ptr (Nat.le_of_ble_eq_true rfl) rfl) ⟨by decide, by decide, by decide⟩ rfl (ak.jZ (Nat.le_of_ble_eq_true rfl) rfl (.inr ⟨rfl, _, rfl, Nat.le_refl _⟩) (Nat.le_refl _)) rfl rfl rfl (aC X)⟩
  intro _
  conv => whnf
  refine ab.dec (fun q => absurd (hk.symm.trans q) (by decide)) (fun _ => ?_)
  conv => whnf
  refine ab.dec (fun q => absurd (hk.symm.trans q) (by decide)) (fun _ => ?_)
  conv => whnf
  refine ab.dec (fun q => absurd (hk.symm.trans q) (by decide)) (fun _ => ?_)
  conv => whnf
  refine ab.dec (fun q => absurd (hk.symm.trans q) (by decide)) (fun _ => ?_)
  conv => whnf
  refine ab.dec (fun q => absurd (hk.symm.trans q) (by decide)) (fun _ => ?_)
  conv => whnf
  refine ab.dec (fun q => absurd (hk.symm.trans q) (by decide)) (fun _ => ?_)
  conv => whnf
  refine ab.dec (fun q => absurd (hk.symm.trans q) (by decide)) (fun _ => ?_)
  conv => whnf
  refine ab.dec (fun q => absurd (hk.symm.trans q) (by decide)) (fun _ => ?_)
  conv => whnf
  refine ab.dec (fun _ => ?_) (fun q => absurd hk q)
  conv => whnf
  refine ⟨0, 3, [hd0], X.ks, true, rfl, rfl, by (try simp only [List.length_append, List.length_cons, List.length_nil]); omega, by omega, .inl ⟨X.ks.length, ⟨by decide, by decide, rfl, rfl⟩, rfl, rfl, ?_⟩⟩
  rw [said (M := X.ks) rfl]
  conv => whnf
  refine ⟨0, 4, [hd0] ++ X.ks, X, rfl, rfl, ⟨by decide, by decide, rfl, rfl⟩, by (try simp only [List.length_append, List.length_cons, List.length_nil]); omega, hN, by omega, ?_⟩
  conv => whnf
  obtain ⟨V2, hV2⟩ : ∃ V2, V2 = [hd0] ++ X.ks ++ qW X.q := ⟨_, rfl⟩
  have lV2 : V2.length ≤ 5000 := by
    rw [hV2]
    have a2 := nP X.q
    have a3 := nQ X.q
    have a4 := nR X.q
    have a5 := nS X.q
    have a6 := nT X.q
    have a7 : (b7W X.q).length ≤ 1 := by unfold b7W; split <;> exact Nat.le_of_ble_eq_true rfl
    unfold qW
    simp only [List.length_append, List.length_cons, List.length_nil]; omega
  rw [← hV2]
  refine ⟨0, 5, V2, [cu], decide (X.nm = 14), rfl, rfl, by (try simp only [List.length_append, List.length_cons, List.length_nil]); omega, Nat.le_of_ble_eq_true rfl, .inr ⟨6, 1, 1, _, _, true, rfl, rfl, Nat.le_refl _, rfl, rfl, ⟨by decide, by decide, rfl, rfl⟩, ?_⟩⟩
  rw [said (M := []) (by rw [hk]; rfl)]
  conv => whnf
  refine ⟨0, 7, V2 ++ [], X.fs, true, rfl, rfl, by (try simp only [List.length_append, List.length_cons, List.length_nil]); omega, by omega, .inl ⟨X.fs.length, ⟨by decide, by decide, rfl, rfl⟩, rfl, rfl, ?_⟩⟩
  rw [said (M := X.fs) rfl]
  conv => whnf
  refine ⟨_, ⟨X.rd, hN.rd.1, hN.rd.2, rfl, rfl⟩, ?_⟩
  conv => whnf
  refine ⟨0, 8, V2 ++ [] ++ X.fs, [gj, X.gr, iJ, lY X.rd], !decide (X.rd = 0), rfl, rfl, by (try simp only [List.length_append, List.length_cons, List.length_nil]); omega, Nat.le_of_ble_eq_true rfl, .inr ⟨9, 4, 4, _, _, true, rfl, rfl, Nat.le_refl _, rfl, rfl, ⟨by decide, by decide, rfl, rfl⟩, ?_⟩⟩
  rw [said (M := gbW X) (by
    unfold gbW lY
    by_cases h : X.rd = 0
    · simp [h]
    · have := hN.rd.1
      rw [if_pos (show 1 ≤ X.rd by omega)]; simp [h])]
  conv => whnf
  exact dR (show V2 ++ [] ++ X.fs ++ gbW X = hd0 :: (X.ks ++ (qW X.q ++ (X.fs ++ gbW X))) by rw [hV2]; simp) rfl
theorem HN (X : Rd) (hk : X.nm = 13) (hb : X.q.back = false) (hN : N64 X) (hS : SmW X) : aw KWo 5 15 [.agg (cmF X)] .nil 0 fun u H' _ => FrG (ay X).length 1 (au (ay X)) u H' := by
  have hW : ay X = aM 13 X.q.back :: cz 13 X := cx (k := 13) hk (by decide) (by decide)
  rw [hW]
  have z1 := hS.ks
  have z2 := hS.ts
  have z3 := hS.vs
  have z4 := hS.ls
  have z5 := hS.q
  have z6 := hS.fs
  obtain ⟨hd0, hh⟩ : ∃ w, w = aM 13 X.q.back := ⟨_, rfl⟩
  have hh2 : [dS 13] = [hd0] := by rw [hh, hb]; rfl
  rw [← hh]
  conv => whnf
  refine ⟨rfl, Nat.le_of_ble_eq_true rfl, ?_⟩
  conv => whnf
  refine bo hk (a := .tup [.str (dS 13), .bool true]) (by kernel_rfl) ?_
  conv => whnf
  refine ⟨rfl, Nat.le_of_ble_eq_true rfl, ?_⟩
  conv => whnf
  refine bo hk (a := .tup [.str (wZ 13), .bool true]) (by kernel_rfl) ?_
  conv => whnf
  refine ab.sb (fun q => absurd (hb.symm.trans q) (by decide)) (fun _ => ?_)
  conv => whnf
  refine df.mk Unit 4 (fun _ => ((cq [(1, .ptr 2 0), (7, .ptr 0 0)] [hd0] (cmF X)).1, (cq [(1, .ptr 2 0), (7, .ptr 0 0)] [hd0] (cmF X)).2.1)) ?_ ?_
  focus
    conv => whnf
    exact ⟨(), dz hh2 4 3 0 (le := [(1, .ptr 2 0), (7, .ptr 0 0)]) (fun x hx => by
      simp only [List.mem_cons, List.not_mem_nil, or_false] at hx
      rcases hx with rfl | rfl
      · exact ak.ptr (Nat.le_of_ble_eq_true rfl) rfl
      · exact ak.ptr (Nat.le_of_ble_eq_true rfl) rfl) ⟨by decide, by decide, by decide⟩ rfl (ak.jZ (Nat.le_of_ble_eq_true rfl) rfl (.inr ⟨rfl, _, rfl, Nat.le_refl _⟩) (Nat.le_refl _)) rfl rfl rfl (aC X)⟩
  intro _
  conv => whnf
  refine ab.dec (fun q => absurd (hk.symm.trans q) (by decide)) (fun _ => ?_)
  conv => whnf
  refine ab.dec (fun q => absurd (hk.symm.trans q) (by decide)) (fun _ => ?_)
  conv => whnf
  refine ab.dec (fun q => absurd (hk.symm.trans q) (by decide)) (fun _ => ?_)
  conv => whnf
  refine ab.dec (fun q => absurd (hk.symm.trans q) (by decide)) (fun _ => ?_)
  conv => whnf
  refine ab.dec (fun q => absurd (hk.symm.trans q) (by decide)) (fun _ => ?_)
  conv => whnf
  refine ab.dec (fun q => absurd (hk.symm.trans q) (by decide)) (fun _ => ?_)
  conv => whnf
  refine ab.dec (fun q => absurd (hk.symm.trans q) (by decide)) (fun _ => ?_)
  conv => whnf
  refine ab.dec (fun q => absurd (hk.symm.trans q) (by decide)) (fun _ => ?_)
  conv => whnf
  refine ab.dec (fun _ => ?_) (fun q => absurd hk q)
  conv => whnf
  refine ⟨0, 3, [hd0], X.ks, true, rfl, rfl, by (try simp only [List.length_append, List.length_cons, List.length_nil]); omega, by omega, .inl ⟨X.ks.length, ⟨by decide, by decide, rfl, rfl⟩, rfl, rfl, ?_⟩⟩
  rw [said (M := X.ks) rfl]
  conv => whnf
  refine ⟨0, 4, [hd0] ++ X.ks, X, rfl, rfl, ⟨by decide, by decide, rfl, rfl⟩, by (try simp only [List.length_append, List.length_cons, List.length_nil]); omega, hN, by omega, ?_⟩
  conv => whnf
  obtain ⟨V2, hV2⟩ : ∃ V2, V2 = [hd0] ++ X.ks ++ qW X.q := ⟨_, rfl⟩
  have lV2 : V2.length ≤ 5000 := by
    rw [hV2]
    have a2 := nP X.q
    have a3 := nQ X.q
    have a4 := nR X.q
    have a5 := nS X.q
    have a6 := nT X.q
    have a7 : (b7W X.q).length ≤ 1 := by unfold b7W; split <;> exact Nat.le_of_ble_eq_true rfl
    unfold qW
    simp only [List.length_append, List.length_cons, List.length_nil]; omega
  rw [← hV2]
  refine ⟨0, 5, V2, [cu], decide (X.nm = 14), rfl, rfl, by (try simp only [List.length_append, List.length_cons, List.length_nil]); omega, Nat.le_of_ble_eq_true rfl, .inr ⟨6, 1, 1, _, _, true, rfl, rfl, Nat.le_refl _, rfl, rfl, ⟨by decide, by decide, rfl, rfl⟩, ?_⟩⟩
  rw [said (M := []) (by rw [hk]; rfl)]
  conv => whnf
  refine ⟨0, 7, V2 ++ [], X.fs, true, rfl, rfl, by (try simp only [List.length_append, List.length_cons, List.length_nil]); omega, by omega, .inl ⟨X.fs.length, ⟨by decide, by decide, rfl, rfl⟩, rfl, rfl, ?_⟩⟩
  rw [said (M := X.fs) rfl]
  conv => whnf
  refine ⟨_, ⟨X.rd, hN.rd.1, hN.rd.2, rfl, rfl⟩, ?_⟩
  conv => whnf
  refine ⟨0, 8, V2 ++ [] ++ X.fs, [gj, X.gr, iJ, lY X.rd], !decide (X.rd = 0), rfl, rfl, by (try simp only [List.length_append, List.length_cons, List.length_nil]); omega, Nat.le_of_ble_eq_true rfl, .inr ⟨9, 4, 4, _, _, true, rfl, rfl, Nat.le_refl _, rfl, rfl, ⟨by decide, by decide, rfl, rfl⟩, ?_⟩⟩
  rw [said (M := gbW X) (by
    unfold gbW lY
    by_cases h : X.rd = 0
    · simp [h]
    · have := hN.rd.1
      rw [if_pos (show 1 ≤ X.rd by omega)]; simp [h])]
  conv => whnf
  exact dR (show V2 ++ [] ++ X.fs ++ gbW X = hd0 :: (X.ks ++ (qW X.q ++ (X.fs ++ gbW X))) by rw [hV2]; simp) rfl
theorem HO (X : Rd) (hk : X.nm = 14) (hb : X.q.back = true) (hN : N64 X) (hS : SmW X) : aw KWo 5 15 [.agg (cmF X)] .nil 0 fun u H' _ => FrG (ay X).length 1 (au (ay X)) u H' := by
  have hW : ay X = aM 14 X.q.back :: cz 14 X := cx (k := 14) hk (by decide) (by decide)
  rw [hW]
  have z1 := hS.ks
  have z2 := hS.ts
  have z3 := hS.vs
  have z4 := hS.ls
  have z5 := hS.q
  have z6 := hS.fs
  obtain ⟨hd0, hh⟩ : ∃ w, w = aM 14 X.q.back := ⟨_, rfl⟩
  have hh2 : [wZ 14] = [hd0] := by rw [hh, hb]; rfl
  rw [← hh]
  conv => whnf
  refine ⟨rfl, Nat.le_of_ble_eq_true rfl, ?_⟩
  conv => whnf
  refine bo hk (a := .tup [.str (dS 14), .bool true]) (by kernel_rfl) ?_
  conv => whnf
  refine ⟨rfl, Nat.le_of_ble_eq_true rfl, ?_⟩
  conv => whnf
  refine bo hk (a := .tup [.str (wZ 14), .bool true]) (by kernel_rfl) ?_
  conv => whnf
  refine ab.sb (fun _ => ?_) (fun q => absurd (hb.symm.trans q) (by decide))
  conv => whnf
  refine df.mk Unit 4 (fun _ => ((cq [(1, .ptr 2 0), (7, .ptr 0 0)] [hd0] (cmF X)).1, (cq [(1, .ptr 2 0), (7, .ptr 0 0)] [hd0] (cmF X)).2.1)) ?_ ?_
  focus
    conv => whnf
    exact ⟨(), dz hh2 4 3 0 (le := [(1, .ptr 2 0), (7, .ptr 0 0)]) (fun x hx => by
      simp only [List.mem_cons, List.not_mem_nil, or_false] at hx
      rcases hx with rfl | rfl
      · exact ak.ptr (Nat.le_of_ble_eq_true rfl) rfl
      · exact ak.ptr (Nat.le_of_ble_eq_true rfl) rfl) ⟨by decide, by decide, by decide⟩ rfl (ak.jZ (Nat.le_of_ble_eq_true rfl) rfl (.inr ⟨rfl, _, rfl, Nat.le_refl _⟩) (Nat.le_refl _)) rfl rfl rfl (aC X)⟩
  intro _
  conv => whnf
  refine ab.dec (fun q => absurd (hk.symm.trans q) (by decide)) (fun _ => ?_)
  conv => whnf
  refine ab.dec (fun q => absurd (hk.symm.trans q) (by decide)) (fun _ => ?_)
  conv => whnf
  refine ab.dec (fun q => absurd (hk.symm.trans q) (by decide)) (fun _ => ?_)
  conv => whnf
  refine ab.dec (fun q => absurd (hk.symm.trans q) (by decide)) (fun _ => ?_)
  conv => whnf
  refine ab.dec (fun q => absurd (hk.symm.trans q) (by decide)) (fun _ => ?_)
  conv => whnf
  refine ab.dec (fun q => absurd (hk.symm.trans q) (by decide)) (fun _ => ?_)
  conv => whnf
  refine ab.dec (fun q => absurd (hk.symm.trans q) (by decide)) (fun _ => ?_)
  conv => whnf
  refine ab.dec (fun q => absurd (hk.symm.trans q) (by decide)) (fun _ => ?_)
  conv => whnf
  refine ab.dec (fun q => absurd (hk.symm.trans q) (by decide)) (fun _ => ?_)
  conv => whnf
  refine ab.dec (fun _ => ?_) (fun q => absurd hk q)
  conv => whnf
  refine ⟨0, 3, [hd0], X.ks, true, rfl, rfl, by (try simp only [List.length_append, List.length_cons, List.length_nil]); omega, by omega, .inl ⟨X.ks.length, ⟨by decide, by decide, rfl, rfl⟩, rfl, rfl, ?_⟩⟩
  rw [said (M := X.ks) rfl]
  conv => whnf
  refine ⟨0, 4, [hd0] ++ X.ks, X, rfl, rfl, ⟨by decide, by decide, rfl, rfl⟩, by (try simp only [List.length_append, List.length_cons, List.length_nil]); omega, hN, by omega, ?_⟩
  conv => whnf
  obtain ⟨V2, hV2⟩ : ∃ V2, V2 = [hd0] ++ X.ks ++ qW X.q := ⟨_, rfl⟩
  have lV2 : V2.length ≤ 5000 := by
    rw [hV2]
    have a2 := nP X.q
    have a3 := nQ X.q
    have a4 := nR X.q
    have a5 := nS X.q
    have a6 := nT X.q
    have a7 : (b7W X.q).length ≤ 1 := by unfold b7W; split <;> exact Nat.le_of_ble_eq_true rfl
    unfold qW
    simp only [List.length_append, List.length_cons, List.length_nil]; omega
  rw [← hV2]
  refine ⟨0, 5, V2, [cu], decide (X.nm = 14), rfl, rfl, by (try simp only [List.length_append, List.length_cons, List.length_nil]); omega, Nat.le_of_ble_eq_true rfl, .inr ⟨6, 1, 1, _, _, true, rfl, rfl, Nat.le_refl _, rfl, rfl, ⟨by decide, by decide, rfl, rfl⟩, ?_⟩⟩
  rw [said (M := [cu]) (by rw [hk]; rfl)]
  conv => whnf
  refine ⟨0, 7, V2 ++ [cu], X.fs, true, rfl, rfl, by (try simp only [List.length_append, List.length_cons, List.length_nil]); omega, by omega, .inl ⟨X.fs.length, ⟨by decide, by decide, rfl, rfl⟩, rfl, rfl, ?_⟩⟩
  rw [said (M := X.fs) rfl]
  conv => whnf
  refine ⟨_, ⟨X.rd, hN.rd.1, hN.rd.2, rfl, rfl⟩, ?_⟩
  conv => whnf
  refine ⟨0, 8, V2 ++ [cu] ++ X.fs, [gj, X.gr, iJ, lY X.rd], !decide (X.rd = 0), rfl, rfl, by (try simp only [List.length_append, List.length_cons, List.length_nil]); omega, Nat.le_of_ble_eq_true rfl, .inr ⟨9, 4, 4, _, _, true, rfl, rfl, Nat.le_refl _, rfl, rfl, ⟨by decide, by decide, rfl, rfl⟩, ?_⟩⟩
  rw [said (M := gbW X) (by
    unfold gbW lY
    by_cases h : X.rd = 0
    · simp [h]
    · have := hN.rd.1
      rw [if_pos (show 1 ≤ X.rd by omega)]; simp [h])]
  conv => whnf
  exact dR (show V2 ++ [cu] ++ X.fs ++ gbW X = hd0 :: (X.ks ++ (qW X.q ++ (cu :: X.fs ++ gbW X))) by rw [hV2]; simp) rfl
theorem HQ (X : Rd) (hk : X.nm = 14) (hb : X.q.back = false) (hN : N64 X) (hS : SmW X) : aw KWo 5 15 [.agg (cmF X)] .nil 0 fun u H' _ => FrG (ay X).length 1 (au (ay X)) u H' := by
  have hW : ay X = aM 14 X.q.back :: cz 14 X := cx (k := 14) hk (by decide) (by decide)
  rw [hW]
  have z1 := hS.ks
  have z2 := hS.ts
  have z3 := hS.vs
  have z4 := hS.ls
  have z5 := hS.q
  have z6 := hS.fs
  obtain ⟨hd0, hh⟩ : ∃ w, w = aM 14 X.q.back := ⟨_, rfl⟩
  have hh2 : [dS 14] = [hd0] := by rw [hh, hb]; rfl
  rw [← hh]
  conv => whnf
  refine ⟨rfl, Nat.le_of_ble_eq_true rfl, ?_⟩
  conv => whnf
  refine bo hk (a := .tup [.str (dS 14), .bool true]) (by kernel_rfl) ?_
  conv => whnf
  refine ⟨rfl, Nat.le_of_ble_eq_true rfl, ?_⟩
  conv => whnf
  refine bo hk (a := .tup [.str (wZ 14), .bool true]) (by kernel_rfl) ?_
  conv => whnf
  refine ab.sb (fun q => absurd (hb.symm.trans q) (by decide)) (fun _ => ?_)
  conv => whnf
  refine df.mk Unit 4 (fun _ => ((cq [(1, .ptr 2 0), (7, .ptr 0 0)] [hd0] (cmF X)).1, (cq [(1, .ptr 2 0), (7, .ptr 0 0)] [hd0] (cmF X)).2.1)) ?_ ?_
  focus
    conv => whnf
    exact ⟨(), dz hh2 4 3 0 (le := [(1, .ptr 2 0), (7, .ptr 0 0)]) (fun x hx => by
      simp only [List.mem_cons, List.not_mem_nil, or_false] at hx
      rcases hx with rfl | rfl
      · exact ak.ptr (Nat.le_of_ble_eq_true rfl) rfl
      · exact ak.ptr (Nat.le_of_ble_eq_true rfl) rfl) ⟨by decide, by decide, by decide⟩ rfl (ak.jZ (Nat.le_of_ble_eq_true rfl) rfl (.inr ⟨rfl, _, rfl, Nat.le_refl _⟩) (Nat.le_refl _)) rfl rfl rfl (aC X)⟩
  intro _
  conv => whnf
  refine ab.dec (fun q => absurd (hk.symm.trans q) (by decide)) (fun _ => ?_)
  conv => whnf
  refine ab.dec (fun q => absurd (hk.symm.trans q) (by decide)) (fun _ => ?_)
  conv => whnf
  refine ab.dec (fun q => absurd (hk.symm.trans q) (by decide)) (fun _ => ?_)
  conv => whnf
  refine ab.dec (fun q => absurd (hk.symm.trans q) (by decide)) (fun _ => ?_)
  conv => whnf
  refine ab.dec (fun q => absurd (hk.symm.trans q) (by decide)) (fun _ => ?_)
  conv => whnf
  refine ab.dec (fun q => absurd (hk.symm.trans q) (by decide)) (fun _ => ?_)
  conv => whnf
  refine ab.dec (fun q => absurd (hk.symm.trans q) (by decide)) (fun _ => ?_)
  conv => whnf
  refine ab.dec (fun q => absurd (hk.symm.trans q) (by decide)) (fun _ => ?_)
  conv => whnf
  refine ab.dec (fun q => absurd (hk.symm.trans q) (by decide)) (fun _ => ?_)
  conv => whnf
  refine ab.dec (fun _ => ?_) (fun q => absurd hk q)
  conv => whnf
  refine ⟨0, 3, [hd0], X.ks, true, rfl, rfl, by (try simp only [List.length_append, List.length_cons, List.length_nil]); omega, by omega, .inl ⟨X.ks.length, ⟨by decide, by decide, rfl, rfl⟩, rfl, rfl, ?_⟩⟩
  rw [said (M := X.ks) rfl]
  conv => whnf
  refine ⟨0, 4, [hd0] ++ X.ks, X, rfl, rfl, ⟨by decide, by decide, rfl, rfl⟩, by (try simp only [List.length_append, List.length_cons, List.length_nil]); omega, hN, by omega, ?_⟩
  conv => whnf
  obtain ⟨V2, hV2⟩ : ∃ V2, V2 = [hd0] ++ X.ks ++ qW X.q := ⟨_, rfl⟩
  have lV2 : V2.length ≤ 5000 := by
    rw [hV2]
    have a2 := nP X.q
    have a3 := nQ X.q
    have a4 := nR X.q
    have a5 := nS X.q
    have a6 := nT X.q
    have a7 : (b7W X.q).length ≤ 1 := by unfold b7W; split <;> exact Nat.le_of_ble_eq_true rfl
    unfold qW
    simp only [List.length_append, List.length_cons, List.length_nil]; omega
  rw [← hV2]
  refine ⟨0, 5, V2, [cu], decide (X.nm = 14), rfl, rfl, by (try simp only [List.length_append, List.length_cons, List.length_nil]); omega, Nat.le_of_ble_eq_true rfl, .inr ⟨6, 1, 1, _, _, true, rfl, rfl, Nat.le_refl _, rfl, rfl, ⟨by decide, by decide, rfl, rfl⟩, ?_⟩⟩
  rw [said (M := [cu]) (by rw [hk]; rfl)]
  conv => whnf
  refine ⟨0, 7, V2 ++ [cu], X.fs, true, rfl, rfl, by (try simp only [List.length_append, List.length_cons, List.length_nil]); omega, by omega, .inl ⟨X.fs.length, ⟨by decide, by decide, rfl, rfl⟩, rfl, rfl, ?_⟩⟩
  rw [said (M := X.fs) rfl]
  conv => whnf
  refine ⟨_, ⟨X.rd, hN.rd.1, hN.rd.2, rfl, rfl⟩, ?_⟩
  conv => whnf
  refine ⟨0, 8, V2 ++ [cu] ++ X.fs, [gj, X.gr, iJ, lY X.rd], !decide (X.rd = 0), rfl, rfl, by (try simp only [List.length_append, List.length_cons, List.length_nil]); omega, Nat.le_of_ble_eq_true rfl, .inr ⟨9, 4, 4, _, _, true, rfl, rfl, Nat.le_refl _, rfl, rfl, ⟨by decide, by decide, rfl, rfl⟩, ?_⟩⟩
  rw [said (M := gbW X) (by
    unfold gbW lY
    by_cases h : X.rd = 0
    · simp [h]
    · have := hN.rd.1
      rw [if_pos (show 1 ≤ X.rd by omega)]; simp [h])]
  conv => whnf
  exact dR (show V2 ++ [cu] ++ X.fs ++ gbW X = hd0 :: (X.ks ++ (qW X.q ++ (cu :: X.fs ++ gbW X))) by rw [hV2]; simp) rfl
end Go.Proofs.Ytdfeigkooeeeaaa
namespace Go.Proofs.Ytdfeigkooeeeaaa
open Go Go.RowKit
def Gw (w : List Nat) : Prop := (∀ c ∈ w, c < 256) ∧ w.length ≤ 1000000
structure Tx (R : Rd) : Prop where
  ws : ∀ w ∈ R.ws, Gw w
  ks : ∀ w ∈ R.ks, Gw w
  fs : ∀ w ∈ R.fs, Gw w
  ls : ∀ l ∈ R.ls, Gw l.1 ∧ Gw l.2
  gr : Gw R.gr
section
variable {R : Rd}
theorem Gw.nil : Gw [] := ⟨(fun _ h => by cases h), by decide⟩
theorem zC {l : List (List Nat)} {w : List Nat} (h : ∀ x ∈ l, Gw x) (hw : Gw w) : ∀ x ∈ l ++ [w], Gw x := fun x hx => by
  rcases List.mem_append.1 hx with q | q
  · exact h x q
  · rw [List.mem_singleton.1 q]; exact hw
theorem Tx.num (h : Tx R) {S : Rd} (e1 : S.ws = R.ws := by rfl) (e2 : S.ks = R.ks := by rfl) (e3 : S.fs = R.fs := by rfl) (e4 : S.ls = R.ls := by rfl) (e5 : S.gr = R.gr := by rfl) : Tx S := ⟨by rw [e1]; exact h.ws, by rw [e2]; exact h.ks, by rw [e3]; exact h.fs, by rw [e4]; exact h.ls, by rw [e5]; exact h.gr⟩
theorem Tx.fail (h : Tx R) (e : Int) : Tx (cg R e) := by
  unfold cg; split
  · exact h.num
  · exact h
theorem Tx.next (h : Tx R) : Gw (aa R).1 ∧ Tx (aa R).2 := by
  unfold aa; split
  · refine ⟨?_, ⟨fun w hw => h.ws w (List.mem_of_mem_tail hw), h.ks, h.fs, h.ls, h.gr⟩⟩
    cases hw : R.ws with
    | nil => exact Gw.nil
    | cons w ws => exact h.ws w (by rw [hw]; exact List.mem_cons_self)
  · exact ⟨Gw.nil, h.fail 14⟩
theorem Tx.told (h : Tx R) (g : List Nat → Int × Int) : Tx (ae g R).2 := by
  unfold ae; dsimp only; split
  · exact h.next.2
  · exact h.next.2.fail _
theorem Tx.pos (h : Tx R) : Tx (hY R).2 := by
  unfold hY; dsimp only; split
  · exact (h.told ah).fail 16
  · exact h.told ah
theorem Tx.nJ (h : Tx R) (w : List Nat) : Tx (bj w R).2 := by
  unfold bj; dsimp only; split
  · exact h.next.2
  · exact h.next.2.fail 17
theorem Tx.orW (h : Tx R) (w : List Nat) (z : Int) : Tx (orR w z R).2 := by
  unfold orR; split
  · exact h.next.2
  · exact h.told ah
theorem Tx.key (h : Tx R) : Tx (aF R) := ⟨h.next.2.ws, zC h.next.2.ks h.next.1, h.next.2.fs, h.next.2.ls, h.next.2.gr⟩
theorem Tx.time (h : Tx R) : Tx (bl R) := (h.orW [42] (-1)).num
theorem Tx.val (h : Tx R) : Tx (cV R) := (h.told ah).num
theorem Tx.iO (h : Tx R) : Tx (aU R) := h.key.time.val
theorem Tx.wh {c : Rd → Bool} {f : Rd → Rd} (hf : ∀ R, Tx R → Tx (f R)) (h : Tx R) : Tx (wh c f R) := ke Tx (fun R _ q => hf R q) R h
theorem Tx.Bl (h : Tx R) : Tx (fe R) := by
  have e : fe R = Go.Proofs.Ytdfeigkooeeeaaa.wh ao aU (aU R) := pQ (fun R => pR) (fun R => (jb R).2) _ _ (Nat.le_refl _)
  rw [e]; exact Tx.wh (fun R q => q.iO) h.iO
theorem Tx.add (h : Tx R) : Tx (kF R) := by
  unfold kF; split
  · exact (h.iO.next.2.told bS).num
  · exact h.iO
theorem Tx.inc (h : Tx R) : Tx (gL R) := by
  unfold gL; split
  · exact h.key.val.next.2.time
  · exact h.key.val.num
theorem Tx.st {g : List Nat → Int × Int} {put : Int → Rd → Rd} (h : Tx R) (e1 : ∀ z S, (put z S).ws = S.ws := by intros; rfl) (e2 : ∀ z S, (put z S).ks = S.ks := by intros; rfl) (e3 : ∀ z S, (put z S).fs = S.fs := by intros; rfl) (e4 : ∀ z S, (put z S).ls = S.ls := by intros; rfl) (e5 : ∀ z S, (put z S).gr = S.gr := by intros; rfl) : Tx (stF (ae g) put R) := (h.told g).num (e1 _ _) (e2 _ _) (e3 _ _) (e4 _ _) (e5 _ _)
theorem Tx.del (h : Tx R) : Tx (wO R) := Tx.st (put := mb) (Tx.st (put := lq) h.key)
theorem Tx.drop (h : Tx R) : Tx (lr R) := Tx.wh (fun R q => q.key) h.key
theorem Tx.link (h : Tx R) : Tx (cI R) := by
  have h1 : Tx (gW R) := Tx.st (put := ez) (Tx.st (put := fD) (h.key.key.nJ di))
  unfold cI; split
  · exact Tx.st (put := jc) h1
  · exact h1
theorem Tx.fH (h : Tx R) : Tx (fH R) := ⟨h.next.2.next.2.ws, h.next.2.next.2.ks, h.next.2.next.2.fs, fun l hl => by
  rcases List.mem_append.1 hl with q | q
  · exact h.next.2.next.2.ls l q
  · rw [List.mem_singleton.1 q]; exact ⟨h.next.1, h.next.2.next.1⟩, h.next.2.next.2.gr⟩
theorem Tx.lab (h : Tx R) : Tx (nI R) := Tx.wh (fun R q => q.fH) h.num
theorem Tx.cK (h : Tx R) : Tx (cK R) := by
  unfold Go.Proofs.Ytdfeigkooeeeaaa.cK
  split
  · exact h.next.2.pos.num
  split
  · exact h.next.2.pos.num
  split
  · exact Tx.st (put := fE) h.next.2
  split
  · exact h.next.2.lab
  · exact h.fail 17
theorem Tx.cre (h : Tx R) : Tx (mK R) := Tx.wh (fun R q => q.cK) h.key
theorem Tx.dQ (h : Tx R) : Tx (dQ R) := ⟨h.next.2.ws, h.next.2.ks, zC h.next.2.fs h.next.1, h.next.2.ls, h.next.2.gr⟩
theorem Tx.fil (h : Tx R) : Tx (jq R) := Tx.wh (fun R q => q.dQ) h.dQ
theorem Tx.sj (h : Tx R) : Tx (ff R) := (h.nJ cu).fil
theorem Tx.gT (h : Tx R) : Tx (gT R) := h.next.2.num
theorem Tx.opt (h : Tx R) : Tx (eV R) := by
  have h1 : Tx (gk R) := (((h.orW [45] 0).num (S := mc (orR [45] 0 R).1 (orR [45] 0 R).2)).orW [43] 1099511627776).num
  have h2 : Tx (fI (gk R)) := by
    unfold fI; split
    · exact Tx.wh (fun R q => q.gT) (Tx.st (put := gS) h1.next.2)
    · exact h1
  have h3 : Tx (iP (fI (gk R))) := by
    unfold iP; split
    · exact Tx.st (put := nH) (Tx.st (put := kA) h2.next.2)
    · exact h2
  have h4 : Tx (jF (iP (fI (gk R)))) := by
    unfold jF; split
    · exact Tx.st (put := nG) h3.next.2
    · exact h3
  unfold eV mL
  split
  · have h5 : Tx (pe (jF (iP (fI (gk R))))) := Tx.st (put := iK) (Tx.st (put := fF) h4.next.2)
    have h6 : Tx (fJ (pe (jF (iP (fI (gk R)))))) := by
      unfold fJ; split
      · exact Tx.st (put := me) h5.next.2
      · exact h5
    unfold fU
    split
    · exact h6.next.2.num
    · exact h6.num
  · exact h4
theorem Tx.man (h : Tx R) : Tx (mM R) := by
  have h1 : Tx (rA R) := h.opt.sj
  unfold mM
  generalize rA R = M at h1 ⊢
  split
  · have h2 : Tx (yd M) := ⟨h1.next.2.next.2.ws, h1.next.2.next.2.ks, h1.next.2.next.2.fs, h1.next.2.next.2.ls, h1.next.2.next.1⟩
    exact Tx.st (put := kz) (h2.nJ iJ)
  · exact h1
theorem Tx.read (h : Tx R) : ∀ k, Tx (aS k R)
  | 1 => h.cre
  | 2 => h.cre
  | 3 => h.add
  | 4 => h.Bl
  | 5 => h.inc
  | 6 => h.inc
  | 7 => h.del
  | 8 => h.drop
  | 9 => h.link
  | 10 => h.key.key
  | 11 => h.key
  | 12 => h.sj
  | 13 => h.key.opt
  | 14 => h.man
  | 15 => h.fil
  | 16 => h.key
  | 0 => h
  | k + 17 => h
end
theorem FG {W : List (List Nat)} (hW : ∀ w ∈ W, Gw w) : Tx (cL W) := by
  have z : Tx ky := ⟨fun _ h => (by cases h), fun _ h => (by cases h), fun _ h => (by cases h), fun _ h => (by cases h), Gw.nil⟩
  unfold cL
  split
  · exact z.num
  split
  · exact z.num
  have h : Tx (aS (db (upF (W.headD []))) (aJ W.tail (db (upF (W.headD [])) : Nat) (!decide (whF eg (upF (W.headD [])) = 0)))) :=
    Tx.read ⟨fun w hw => hW w (List.mem_of_mem_tail hw), fun _ h => (by cases h), fun _ h => (by cases h), fun _ h => (by cases h), Gw.nil⟩ _
  unfold dP
  split
  · exact h.fail 14
  · exact h
end Go.Proofs.Ytdfeigkooeeeaaa
namespace Go.Proofs.Ytdfeigkooeeeaaa
open Go Go.RowKit
def AG (L : List (List Nat)) : Prop := ∀ w ∈ L, Gw w
theorem AG.nil : AG [] := fun _ h => by cases h
theorem AG.cons {w : List Nat} {L : List (List Nat)} (h : Gw w) (k : AG L) : AG (w :: L) := fun x hx => by
  rcases List.mem_cons.1 hx with rfl | q
  · exact h
  · exact k x q
theorem AG.app {L M : List (List Nat)} (h : AG L) (k : AG M) : AG (L ++ M) := fun x hx => by
  rcases List.mem_append.1 hx with q | q
  · exact h x q
  · exact k x q
theorem AG.ite {c : Prop} [Decidable c] {L M : List (List Nat)} (h : AG L) (k : AG M) : AG (if c then L else M) := by split <;> assumption
theorem AG.map {α : Type} {g : α → List Nat} (hg : ∀ x, Gw (g x)) (l : List α) : AG (l.map g) := fun x hx => by
  obtain ⟨y, _, rfl⟩ := List.mem_map.1 hx
  exact hg y
theorem AG.flat {α : Type} {g : α → List (List Nat)} {l : List α} (hg : ∀ x ∈ l, AG (g x)) : AG (l.flatMap g) := fun x hx => by
  obtain ⟨y, h1, h2⟩ := List.mem_flatMap.1 hx
  exact hg y h1 x h2
theorem dc (z : Int) : Gw (aq z) := ⟨EL z, Nat.le_trans (CL z) (by decide)⟩
theorem D6 (z : Int) : Gw (bW z) := by
  unfold bW; split
  · exact ⟨by decide, by decide⟩
  · exact dc z
theorem pT {L : List (List Nat)} (h : AG L) (k : Nat) : Gw (L.getD k []) := by
  rw [List.getD_eq_getElem?_getD]
  cases e : L[k]? with
  | none => exact Gw.nil
  | some w => exact h w (List.mem_of_getElem? e)
theorem gM {w : List Nat} (h : (w.all fun c => decide (c < 256)) = true ∧ w.length ≤ 1000000) : Gw w := ⟨fun c hc => of_decide_eq_true (List.all_eq_true.1 h.1 c hc), h.2⟩
theorem zD {L : List (List Nat)} (h : (L.all fun w => (w.all fun c => decide (c < 256)) && decide (w.length ≤ 1000000)) = true) : AG L := fun w hw => by
  have := List.all_eq_true.1 h w hw
  simp only [Bool.and_eq_true, decide_eq_true_eq] at this
  exact gM this
theorem yD (k : Int) : Gw (gV k) := pT (zD (by decide)) _
theorem D7 (k : Int) : Gw (iQ k) := pT (zD (by decide)) _
theorem FH (k : Nat) (b : Bool) : Gw (aM k b) := by
  unfold aM wZ dS
  split
  · split <;> exact pT (zD (by decide)) _
  · exact pT (zD (by decide)) _
theorem va : ∀ {ks : List (List Nat)} {ts vs : List Int}, AG ks → AG (bu ks ts vs)
  | k :: ks, t :: ts, v :: vs, h => .cons (h k List.mem_cons_self) (.cons (D6 t) (.cons (dc v) (va fun w hw => h w (List.mem_cons_of_mem _ hw))))
  | [], _, _, _ => .nil
  | _ :: _, [], _, _ => .nil
  | _ :: _, _ :: _, [], _ => .nil
theorem Ja (q : Qry) : AG (qW q) := by
  unfold qW b2W b3W b4W b5W b6W b7W
  refine .app (.cons (dc _) (.cons (dc _) .nil)) (.app (.ite .nil (.cons (gM ⟨by decide, by decide⟩) (AG.map dc _))) (.app (.ite (.cons (gM ⟨by decide, by decide⟩) (.cons (dc _) (.cons (dc _) .nil))) .nil) (.app (.ite .nil (.cons (gM ⟨by decide, by decide⟩) (.cons (dc _) .nil))) (.app (.ite .nil (.cons (gM ⟨by decide, by decide⟩) (.cons (yD _) (.cons (dc _) .nil)))) (.app (.ite .nil (.cons (gM ⟨by decide, by decide⟩) (.cons (dc _) .nil))) (.ite (.cons (gM ⟨by decide, by decide⟩) .nil) .nil))))))
theorem D8 {X : Rd} (h : Tx X) : AG (lB X) := by
  unfold lB
  exact .app (.ite .nil (.cons (gM ⟨by decide, by decide⟩) (.cons (dc _) .nil))) (.app (.ite .nil (.cons (gM ⟨by decide, by decide⟩) (.cons (dc _) .nil))) (.app (.ite .nil (.cons (gM ⟨by decide, by decide⟩) (.cons (D7 _) .nil))) (.app (.ite (.cons (gM ⟨by decide, by decide⟩) .nil) .nil) (AG.flat fun l hl => .cons (h.ls l hl).1 (.cons (h.ls l hl).2 .nil)))))
theorem D9 (X : Rd) : AG (if X.pol = 0 then [] else [rz, iQ X.pol]) := .ite .nil (.cons (gM ⟨by decide, by decide⟩) (.cons (D7 _) .nil))
theorem Ea (X : Rd) : AG ((X.vs.take X.ts.length).flatMap (fun v => [aq v, iI]) ++ X.ts.map bW) := .app (AG.flat fun v _ => .cons (dc _) (.cons (gM ⟨by decide, by decide⟩) .nil)) (AG.map D6 _)
theorem Gd {X : Rd} (h : Tx X) : AG (if X.rd = 0 then [] else [gj, X.gr, iJ, gV X.rd]) := .ite .nil (.cons (gM ⟨by decide, by decide⟩) (.cons h.gr (.cons (gM ⟨by decide, by decide⟩) (.cons (yD _) .nil))))
theorem FI {X : Rd} (h : Tx X) (k : Nat) : AG (cz k X) := by
  have fl : Gw cu := gM ⟨by decide, by decide⟩
  unfold cz
  split
  · exact .app h.ks (D8 h)
  · exact .app h.ks (D8 h)
  · exact .app (va h.ks) (D9 X)
  · exact .app (va h.ks) (D9 X)
  · exact .app h.ks (Ea X)
  · exact .app h.ks (Ea X)
  · exact .app h.ks (.cons (dc _) (.cons (dc _) .nil))
  · exact .app h.ks (.app (.cons (gM ⟨by decide, by decide⟩) (.cons (yD _) (.cons (dc _) .nil))) (.ite .nil (.cons (dc _) .nil)))
  · exact .cons fl h.fs
  · exact .app h.ks (.app (Ja _) (.app h.fs (Gd h)))
  · exact .app h.ks (.app (Ja _) (.app (.cons fl h.fs) (Gd h)))
  · exact .app h.ks h.fs
theorem Eb {X : Rd} (h : Tx X) : AG (ay X) := by
  unfold ay
  exact .ite (.cons (FH _ _) (FI h _)) .nil
end Go.Proofs.Ytdfeigkooeeeaaa
namespace Go.Proofs.Ytdfeigkooeeeaaa
open Go Go.RowKit
theorem ak.fn0 {H : AH} {m : Nat} {r : Nat → Nat} {a : AV} {f : Nat} (e : a = .fn f [] []) : ak H m r a (.fn f [] []) := fun φ ψ v _ _ hv => by
  subst e
  obtain ⟨xs, cs, rfl, h1, h2⟩ := hv.n8
  exact .fn (by rw [h1.aT]; exact .nil) (by rw [h2.aT]; exact .nil)
noncomputable def sm0 (A : Rd) (B : Rd) (q : Bool) : AE × AH := (mkE [(2, .ptr 0 (0)), (3, .ptr 1 (0)), (5, .fn 36 [] []), (6, .fn 37 [] []), (7, .sb (q))], mkH [(0, .cells (cmF A) true), (1, .cells (cmF B) true)])
theorem lU {A : Rd} {B : Rd} {q : Bool} {p n : Nat} {σ : AE} {H : AH} (hp : p ≤ 0) (e2 : aL (pa 2) σ = .ptr 0 (0)) (e3 : aL (pa 3) σ = .ptr 1 (0)) (e5 : ak H 2 (fun b => b) (aL (pa 5) σ) (.fn 36 [] [])) (e6 : ak H 2 (fun b => b) (aL (pa 6) σ) (.fn 37 [] [])) (e7 : mk (aL (pa 7) σ) = .sb (q)) (h0 : H.get 0 = some (.cells (cmF A) true)) (h1 : H.get 1 = some (.cells (cmF B) true)) : Cov p σ H n ((sm0 A B q).1, (sm0 A B q).2, 2) := by
  refine Cov.ofR (fun b => b) (by omega) (fun b hb => rfl) ?_ ?_ ?_
  · intro x hx
    simp only [List.mem_cons, List.not_mem_nil, or_false] at hx
    rcases hx with rfl | rfl | rfl | rfl | rfl
    · exact .ptr (by decide) e2
    · exact .ptr (by decide) e3
    · exact e5
    · exact e6
    · exact .bool e7
  · intro x hx
    simp only [List.mem_cons, List.not_mem_nil, or_false] at hx
    rcases hx with rfl | rfl
    · exact ⟨by simp, .inl ⟨_, h0, cU.zx (aC A)⟩⟩
    · exact ⟨by simp, .inl ⟨_, h1, cU.zx (aC B)⟩⟩
  · intro x hx y hy
    simp only [List.mem_cons, List.not_mem_nil, or_false] at hx hy
    rcases hx with rfl | rfl <;> rcases hy with rfl | rfl <;> simp <;> omega
def HS : DT := [(4, [(some 0, [5]), (some 0, [2]), (none, [50, 51]), (some 1, [5]), (some 2, [3]), (none, [53, 54]), (some 0, [52, 55]), (some 0, [56]), (some 0, [6, 57]), (some 0, [2, 57]), (none, [58, 59, 57]), (some 1, [6, 57]), (some 2, [3, 57]), (none, [61, 62, 57]), (some 0, [60, 63, 57]), (some 0, [57, 64]), (some 0, [65]), (some 0, [7, 66]), (some 0, [66, 67]), (some 0, [68])]), (1000004, [])]
def Jb (args : List AV) (v : AV) : Prop := ∃ A B : Rd, args = [.agg (cmF A), .agg (cmF B)] ∧ SmR A ∧ v = .sb (eqC A B)
noncomputable def Jc : FuncId → EP := dg 16 HS (eu 36 (cT IW) (eu 37 (cT IY) (eu 38 (cT ID) (eu 39 (cT IF) (eu 40 (cT IH) evP)))))
theorem FJ : cm Jc := aX (cf (cf (cf (cf (cf ba Jv (ed _)) Ju (ed _)) Jt (ed _)) Jz (ed _)) Jy (ed _)) (by kernel_rfl) (by kernel_rfl)
def lsE (A B : Rd) : Prop := A.ks = B.ks ∧ A.ts = B.ts ∧ A.vs = B.vs ∧ A.ls = B.ls ∧ A.q.times = B.q.times ∧ A.fs = B.fs
noncomputable def o1E (A B : Rd) : Bool := decide (A.nm = B.nm) && (decide (A.ret = B.ret) && (decide (A.siz = B.siz) && (decide (A.pol = B.pol) && (decide (A.fr = B.fr) && (decide (A.to = B.to) && (decide (A.kd = B.kd) && (decide (A.bk = B.bk) && (decide (A.al = B.al) && (decide (A.rd = B.rd) && true)))))))))
noncomputable def o2E (A B : Rd) : Bool := decide (A.q.f = B.q.f) && (decide (A.q.t = B.q.t) && (decide (A.q.count = B.q.count) && (decide (A.q.kind = B.q.kind) && (decide (A.q.size = B.q.size) && (decide (A.q.align = B.q.align) && (decide (A.q.low = B.q.low) && (decide (A.q.high = B.q.high) && ((A.q.back == B.q.back) && ((A.q.empty == B.q.empty) && ((A.q.kC == B.q.kC) && ((A.lbd == B.lbd) && (bg A.gr B.gr && true))))))))))))
theorem HT {A B : Rd} (h1 : o1E A B = true) (h2 : o2E A B = true) (h3 : lsE A B) : cmT A = cmT B := by
  unfold o1E at h1
  unfold o2E at h2
  obtain ⟨k1, k2, k3, k4, k5, k6⟩ := h3
  simp only [Bool.and_eq_true, decide_eq_true_eq, beq_iff_eq, and_true, bH] at h1 h2
  obtain ⟨a1, a2, a3, a4, a5, a6, a7, a8, a9, a10⟩ := h1
  obtain ⟨b1, b2, b3, b4, b5, b6, b7, b8, b9, b10, b11, b12, b13⟩ := h2
  exact Fx a1 k1 k2 k3 a2 a3 a4 k4 b12 a5 a6 a7 a8 a9 (Fw b1 b2 b9 b3 b4 b5 b6 b10 k5 b11 b7 b8) k6 b13 a10
theorem yE {A B : Rd} (e : cmT A = cmT B) : o1E A B = true ∧ o2E A B = true ∧ lsE A B := by
  have h0 : A.nm = B.nm := by have q := congrArg Rd.nm e; exact q
  have h1 : A.ks = B.ks := by have q := congrArg Rd.ks e; exact q
  have h2 : A.ts = B.ts := by have q := congrArg Rd.ts e; exact q
  have h3 : A.vs = B.vs := by have q := congrArg Rd.vs e; exact q
  have h4 : A.ret = B.ret := by have q := congrArg Rd.ret e; exact q
  have h5 : A.siz = B.siz := by have q := congrArg Rd.siz e; exact q
  have h6 : A.pol = B.pol := by have q := congrArg Rd.pol e; exact q
  have h7 : A.ls = B.ls := by have q := congrArg Rd.ls e; exact q
  have h8 : A.lbd = B.lbd := by have q := congrArg Rd.lbd e; exact q
  have h9 : A.fr = B.fr := by have q := congrArg Rd.fr e; exact q
  have h10 : A.to = B.to := by have q := congrArg Rd.to e; exact q
  have h11 : A.kd = B.kd := by have q := congrArg Rd.kd e; exact q
  have h12 : A.bk = B.bk := by have q := congrArg Rd.bk e; exact q
  have h13 : A.al = B.al := by have q := congrArg Rd.al e; exact q
  have h14 : A.q = B.q := by have q := congrArg Rd.q e; exact q
  have h15 : A.fs = B.fs := by have q := congrArg Rd.fs e; exact q
  have h16 : A.gr = B.gr := by have q := congrArg Rd.gr e; exact q
  have h17 : A.rd = B.rd := by have q := congrArg Rd.rd e; exact q
  refine ⟨?_, ?_, h1, h2, h3, h7, by rw [h14], h15⟩
  · unfold o1E; rw [h0, h4, h5, h6, h9, h10, h11, h12, h13, h17]; simp
  · unfold o2E; rw [h14, h8, h16, bH.2 rfl]; simp
theorem HU (A B : Rd) (hb : SmR A) : aw Jc 3 16 [.agg (cmF A), .agg (cmF B)] .nil 0 fun u _ _ => VTo u (.sb (eqC A B)) := by
  conv => whnf
  refine df.mk { q : Bool // q = true ↔ lsE A B } 2 (fun q => sm0 A B q.val) ?_ ?_
  focus
    conv => whnf
    refine ⟨_, ⟨A.ks, B.ks, rfl, hb.1, rfl⟩, ?_⟩
    conv => whnf
    refine ab.dec (fun q => ?_) (fun q => ?_)
    rotate_left
    focus
      conv => whnf
      exact ⟨⟨false, (fun z => by cases z), fun z => absurd z.1 q⟩, lU (Nat.le_refl 0) rfl rfl (.fn0 rfl) (.fn0 rfl) rfl rfl rfl⟩
    have h0 : A.ks = B.ks := q
    conv => whnf
    refine ⟨_, ⟨A.ts, B.ts, rfl, hb.2.1, rfl⟩, ?_⟩
    conv => whnf
    refine ab.dec (fun q => ?_) (fun q => ?_)
    rotate_left
    focus
      conv => whnf
      exact ⟨⟨false, (fun z => by cases z), fun z => absurd z.2.1 q⟩, lU (Nat.le_refl 0) rfl rfl (.fn0 rfl) (.fn0 rfl) rfl rfl rfl⟩
    have h1 : A.ts = B.ts := q
    conv => whnf
    refine ⟨_, ⟨A.vs, B.vs, rfl, hb.2.2.1, rfl⟩, ?_⟩
    conv => whnf
    refine ab.dec (fun q => ?_) (fun q => ?_)
    rotate_left
    focus
      conv => whnf
      exact ⟨⟨false, (fun z => by cases z), fun z => absurd z.2.2.1 q⟩, lU (Nat.le_refl 0) rfl rfl (.fn0 rfl) (.fn0 rfl) rfl rfl rfl⟩
    have h2 : A.vs = B.vs := q
    conv => whnf
    refine ⟨_, ⟨A.ls, B.ls, rfl, hb.2.2.2.1, rfl⟩, ?_⟩
    conv => whnf
    refine ab.dec (fun q => ?_) (fun q => ?_)
    rotate_left
    focus
      conv => whnf
      exact ⟨⟨false, (fun z => by cases z), fun z => absurd z.2.2.2.1 q⟩, lU (Nat.le_refl 0) rfl rfl (.fn0 rfl) (.fn0 rfl) rfl rfl rfl⟩
    have h3 : A.ls = B.ls := q
    conv => whnf
    refine ⟨_, ⟨A.q.times, B.q.times, rfl, hb.2.2.2.2.1, rfl⟩, ?_⟩
    conv => whnf
    refine ab.dec (fun q => ?_) (fun q => ?_)
    rotate_left
    focus
      conv => whnf
      exact ⟨⟨false, (fun z => by cases z), fun z => absurd z.2.2.2.2.1 q⟩, lU (Nat.le_refl 0) rfl rfl (.fn0 rfl) (.fn0 rfl) rfl rfl rfl⟩
    have h4 : A.q.times = B.q.times := q
    conv => whnf
    refine ⟨_, ⟨A.fs, B.fs, rfl, hb.2.2.2.2.2, rfl⟩, ?_⟩
    conv => whnf
    exact ⟨⟨decide (A.fs = B.fs), ⟨fun z => ⟨h0, h1, h2, h3, h4, of_decide_eq_true z⟩, fun z => decide_eq_true z.2.2.2.2.2⟩⟩, lU (Nat.le_refl 0) rfl rfl (.fn0 rfl) (.fn0 rfl) rfl rfl rfl⟩
  intro ⟨q, hq⟩
  conv => whnf
  refine ⟨_, ⟨A, rfl, rfl⟩, ?_⟩
  conv => whnf
  refine ⟨_, ⟨B, rfl, rfl⟩, ?_⟩
  conv => whnf
  refine aO (zA (pl := [(0, 0), (0, 1), (0, 2), (0, 3), (0, 4), (0, 5), (0, 6), (0, 7), (0, 8), (0, 9)]) (q := o1E A B) (by kernel_rfl) rfl) ?_
  conv => whnf
  refine ab.sb (fun g1 => ?_) (fun g1 => ?_)
  rotate_left
  focus
    conv => whnf
    exact VTo.isb rfl (yA fun e => by rw [(yE e).1] at g1; cases g1).symm
  conv => whnf
  refine ⟨_, ⟨A, rfl, rfl⟩, ?_⟩
  conv => whnf
  refine ⟨_, ⟨B, rfl, rfl⟩, ?_⟩
  conv => whnf
  refine aO (zA (pl := [(0, 0), (0, 1), (0, 2), (0, 3), (0, 4), (0, 5), (0, 6), (0, 7), (2, 8), (2, 9), (2, 10), (2, 11), (1, 12)]) (q := o2E A B) (by kernel_rfl) rfl) ?_
  conv => whnf
  refine ab.sb (fun g2 => ?_) (fun g2 => ?_)
  rotate_left
  focus
    conv => whnf
    exact VTo.isb rfl (yA fun e => by rw [(yE e).2.1] at g2; cases g2).symm
  conv => whnf
  exact VTo.isb rfl (by
    cases q with
    | true => exact (Fy (HT g1 g2 (hq.1 rfl))).symm
    | false => exact (yA fun e => by have := hq.2 (yE e).2.2; cases this).symm)
theorem JK : aI 16 (cT Jb) := dI FJ 3 (by kernel_rfl) fun args v ⟨A, B, h1, h2, h3⟩ => by
  subst h1 h3; exact ⟨rfl, rfl, HU A B h2⟩
end Go.Proofs.Ytdfeigkooeeeaaa
namespace Go.Proofs.Ytdfeigkooeeeaaa
open Go Go.RowKit
theorem Ec {W : List (List Nat)} (h : js W = true) : W.length ≤ 70 ∧ ∀ w ∈ W, w.length ≤ 600 := by
  unfold js at h
  simp only [Bool.and_eq_true, decide_eq_true_eq, List.all_eq_true] at h
  exact h
theorem Bz.Jd {B : Nat} {R : Rd} (h : Bz B R) (hm : ao R = true) : Bz B (aU R) := by
  have r := ti R
  have w := (jb R).2 hm
  have k := h.key.time.val
  have e1 : (aU R).ls = R.ls := by show (cV (bl (aF R))).ls = _; exact ((fc ah (bl (aF R))).ls.trans ((lO [42] (-1) (aF R)).ls.trans (bQ R).ls))
  have e2 : (aU R).q = R.q := by show (cV (bl (aF R))).q = _; exact ((fc ah (bl (aF R))).q.trans ((lO [42] (-1) (aF R)).q.trans (bQ R).q))
  have e3 : (aU R).fs = R.fs := by show (cV (bl (aF R))).fs = _; exact ((fc ah (bl (aF R))).fs.trans ((lO [42] (-1) (aF R)).fs.trans (bQ R).fs))
  exact ⟨k.ok, by have := h.ks; omega, by have := h.ts; omega, by have := h.vs; omega, by rw [e1]; have := h.ls; omega, by rw [e2]; have := h.q; omega, by rw [e3]; have := h.fs; omega⟩
theorem Bz.stf {B : Nat} {R : Rd} {f : Rd → Int × Rd} (s : Int → Rd → Rd) (h : Bz B (f R).2) (hs : ∀ z T, Bz B T → Bz B (s z T)) : Bz B (stF f s R) := hs _ _ h
theorem Bz.kF {B : Nat} {R : Rd} (h : Bz B R) : Bz (B + 3) (kF R) := by
  unfold Go.Proofs.Ytdfeigkooeeeaaa.kF
  split
  · exact Bz.stf fE (h.iO.next.told bS) fun _ _ q => q.set _
  · exact h.iO
theorem Bz.Bl {B : Nat} {R : Rd} (h : Bz B R) : Bz (B + 3) (fe R) := by
  unfold fe
  generalize (aU R).ws.length = k
  have : ∀ (k : Nat) (S : Rd), Bz (B + 3) S → Bz (B + 3) (gK aU k S) := fun k => by
    induction k with
    | zero => exact fun S h => h
    | succ k ih =>
      intro S hS
      unfold gK
      split
      · rename_i hm
        exact ih _ (hS.Jd hm)
      · exact hS
  exact this k _ h.iO
theorem Bz.inc {B : Nat} {R : Rd} (h : Bz B R) : Bz (B + 3) (gL R) := by
  unfold gL
  split
  · exact h.key.val.next.time
  · have q : Bz (B + 2) (cV (aF R)) := h.key.val
    have k := q.ts
    have m := q.mono (Nat.le_succ (B + 2))
    exact ⟨m.ok, m.ks, by show [(-1 : Int)].length + (cV (aF R)).ws.length ≤ _; simp only [List.length_singleton]; omega, m.vs, m.ls, m.q, m.fs⟩
theorem Bz.drop {B : Nat} {R : Rd} (h : Bz B R) : Bz (B + 1) (lr R) := ke (Bz (B + 1)) (fun S hm q => q.Ip hm) (aF R) h.key
theorem Bz.link {B : Nat} {R : Rd} (h : Bz B R) : Bz (B + 2) (cI R) := by
  have h1 : Bz (B + 2) (gW R) := Bz.stf ez ((Bz.stf fD ((h.keys.nJ di).told aN) fun _ _ q => q.set _).told ah) fun _ _ q => q.set _
  unfold cI
  split
  · exact Bz.stf jc (h1.told ah) fun _ _ q => q.set _
  · exact h1
theorem Bz.cre {B : Nat} {R : Rd} (h : Bz B R) : Bz (B + 1) (mK R) := ke (Bz (B + 1)) (fun S _ q => q.cs1) (aF R) h.key
theorem Bz.man {B : Nat} {R : Rd} (h : Bz B R) : Bz (B + 2) (mM R) := by
  have h1 : Bz (B + 2) (rA R) := h.opt.sj
  unfold mM
  split
  · exact Bz.stf kz (((h1.next.next.set (yd (rA R))).nJ iJ).told aN) fun _ _ q => q.set _
  · exact h1
theorem FK {R : Rd} (h : Bz 780000 R) : ∀ k, Bz 790000 (aS k R)
  | 0 => h.mono (by decide)
  | 1 => h.cre.mono (by decide)
  | 2 => h.cre.mono (by decide)
  | 3 => h.kF.mono (by decide)
  | 4 => h.Bl.mono (by decide)
  | 5 => h.inc.mono (by decide)
  | 6 => h.inc.mono (by decide)
  | 7 => (Bz.stf mb ((Bz.stf lq (h.key.told ah) fun _ _ q => q.set _).told ah) fun _ _ q => q.set _).mono (by decide)
  | 8 => h.drop.mono (by decide)
  | 9 => h.link.mono (by decide)
  | 10 => h.keys.mono (by decide)
  | 11 => h.key.mono (by decide)
  | 12 => h.sj.mono (by decide)
  | 13 => h.key.opt.mono (by decide)
  | 14 => h.man.mono (by decide)
  | 15 => h.fil.mono (by decide)
  | 16 => h.key.mono (by decide)
  | k + 17 => h.mono (by decide)
theorem Ed {W : List (List Nat)} {X : Rd} (hl : W.length ≤ 700000) (hw : ∀ w ∈ W, (∀ c ∈ w, c < 256) ∧ w.length ≤ 1000000) (e : cL W = X) : SmR (if X.e = 0 then X else ky) := by
  have z : SmR ky := ⟨by decide, by decide, by decide, by decide, by decide, by decide⟩
  split
  · rename_i h
    rw [← e] at h ⊢
    unfold cL at h ⊢
    split
    · exact absurd h (by rw [if_pos (by assumption)]; decide)
    · split
      · exact absurd h (by rw [if_neg (by assumption), if_pos (by assumption)]; decide)
      · have b0 := yl hl hw (db (upF (W.headD [])) : Nat) (!decide (whF eg (upF (W.headD [])) = 0))
        have b1 : Bz 790000 (aS (db (upF (W.headD []))) (aJ W.tail (db (upF (W.headD [])) : Nat) (!decide (whF eg (upF (W.headD [])) = 0)))) := by
          generalize aJ W.tail (db (upF (W.headD [])) : Nat) (!decide (whF eg (upF (W.headD [])) = 0)) = R at b0
          generalize db (upF (W.headD [])) = k
          exact FK b0 k
        have b2 : Bz 790000 (dP (aS (db (upF (W.headD []))) (aJ W.tail (db (upF (W.headD [])) : Nat) (!decide (whF eg (upF (W.headD [])) = 0))))) := by
          unfold dP
          split
          · exact b1.fail 14
          · exact b1
        exact ⟨by have := b2.ks; omega, by have := b2.ts; omega, by have := b2.vs; omega, by have := b2.ls; omega, by have := b2.q; omega, by have := b2.fs; omega⟩
  · exact z
end Go.Proofs.Ytdfeigkooeeeaaa
namespace Go.Proofs.Ytdfeigkooeeeaaa
open Go Go.RowKit
def Ee (args : List AV) (H : AH) (n : Nat) (κ : PK) : Prop := match args with
  | [x] => ∃ X : Rd, x = .agg (cmF X) ∧ 1 ≤ X.nm ∧ X.nm ≤ 16 ∧ (X.nm = 9 → 1 ≤ X.kd) ∧ N64 X ∧ SmW X ∧ κ (.fr (ay X).length 1 (au (ay X))) H n
  | _ => False
theorem Bo {X : Rd} (h1 : 1 ≤ X.nm) (h2 : X.nm ≤ 16) (h9 : X.nm = 9 → 1 ≤ X.kd) (hN : N64 X) (hS : SmW X) : aw KWo 5 15 [.agg (cmF X)] .nil 0 fun u H' _ => FrG (ay X).length 1 (au (ay X)) u H' := by
  have : X.nm = 1 ∨ X.nm = 2 ∨ X.nm = 3 ∨ X.nm = 4 ∨ X.nm = 5 ∨ X.nm = 6 ∨ X.nm = 7 ∨ X.nm = 8 ∨ X.nm = 9 ∨ X.nm = 10 ∨ X.nm = 11 ∨ X.nm = 12 ∨ X.nm = 13 ∨ X.nm = 14 ∨ X.nm = 15 ∨ X.nm = 16 := by omega
  rcases this with h | h | h | h | h | h | h | h | h | h | h | h | h | h | h | h
  · exact JB X h hN hS
  · exact JC X h hN hS
  · exact JD X h hN hS
  · exact JE X h hN hS
  · exact JF X h hN hS
  · exact JG X h hN hS
  · exact JH X h hN hS
  · exact JI X h hN hS
  · exact JJ X h (h9 h) hN hS
  · exact I5 X h hN hS
  · exact I6 X h hN hS
  · exact I7 X h hN hS
  · cases hb : X.q.back with
    | true => exact HM X h hb hN hS
    | false => exact HN X h hb hN hS
  · cases hb : X.q.back with
    | true => exact HO X h hb hN hS
    | false => exact HQ X h hb hN hS
  · exact I8 X h hN hS
  · exact I9 X h hN hS
theorem JL : aI 15 Ee := fun args H n κ hs φ h0' hp vs K hr hargs hk => by
  unfold Ee at hs
  split at hs
  · obtain ⟨X, rfl, h1, h2, h9, hN, hS, hs⟩ := hs
    exact Cz (az HK 5 _) (aR _) (by rw [c7, Nat.mul_one]) (Bo h1 h2 h9 hN hS) hs hr hk (by kernel_rfl) (φ0 := ⟨fun _ => none, φ.z, φ.z, fun _ _ => False⟩) (fun hw => hr.yY (ga hw) (fun _ _ h => by cases h) (fun _ h => h)) rfl
      (rN (φ := φ) (ψ := ⟨fun _ => none, φ.z, φ.z, fun _ _ => False⟩) (fun _ h => h) (show (cmF X).all dV && true = true by rw [aC]; rfl) hargs)
  · exact hs.elim
theorem zE (R : Rd) (e : Int) : (cg R e).kd = R.kd := by unfold cg; split <;> rfl
theorem zF (R : Rd) : (aa R).2.kd = R.kd := by
  unfold aa
  split
  · rfl
  · exact zE R 14
theorem FL (g : List Nat → Int × Int) (R : Rd) : (ae g R).2.kd = R.kd := by
  unfold ae
  dsimp only
  split
  · exact zF R
  · rw [zE, zF]
theorem HV {M : Rd} (h : (stF (ae aN) fD M).e = 0) : 1 ≤ (stF (ae aN) fD M).kd := by
  obtain ⟨h0, w, ws, hw, hg⟩ := cp (g := aN) (R := M) h
  obtain ⟨k, hk, k1, k2⟩ := nM hg
  have e : (ae aN M).1 = (k : Int) := by rw [fK h0 hw hg]; exact hk
  have e2 : (stF (ae aN) fD M).kd = (ae aN M).1 := rfl
  rw [e2, e]; omega
theorem Ge (put : Int → Rd → Rd) (hp : ∀ z T, (put z T).kd = T.kd) (S : Rd) : (stF (ae ah) put S).kd = S.kd := by
  unfold stF
  rw [hp, FL]
theorem FM {R : Rd} (h : (cI R).e = 0) : 1 ≤ (cI R).kd := by
  obtain ⟨L, hL⟩ : ∃ L, gW R = L := ⟨_, rfl⟩
  have e0 : cI R = if ao L = true then stF (ae ah) jc L else L := by rw [← hL]; rfl
  rw [e0] at h ⊢
  have h4 : L.e = 0 := by
    split at h
    · exact dN (put := jc) (g := ah) (R := L) (fun _ _ => rfl) h
    · exact h
  have e1 : (if ao L = true then stF (ae ah) jc L else L).kd = L.kd := by
    split
    · exact Ge jc (fun _ _ => rfl) L
    · rfl
  rw [e1]
  obtain ⟨M, hM⟩ : ∃ M, (bj di (fG R)).2 = M := ⟨_, rfl⟩
  have eL : L = stF (ae ah) ez (stF (ae aN) fD M) := by rw [← hL, ← hM]; rfl
  rw [eL] at h4 ⊢
  have h3 := dN (put := ez) (g := ah) (R := stF (ae aN) fD M) (fun _ _ => rfl) h4
  rw [Ge ez (fun _ _ => rfl)]
  exact HV h3
theorem Bz.read {B : Nat} {R : Rd} (h : Bz B R) : ∀ k, Bz (B + 10) (aS k R)
  | 0 => h.mono (by omega)
  | 1 => h.cre.mono (by omega)
  | 2 => h.cre.mono (by omega)
  | 3 => h.kF.mono (by omega)
  | 4 => h.Bl.mono (by omega)
  | 5 => h.inc.mono (by omega)
  | 6 => h.inc.mono (by omega)
  | 7 => (Bz.stf mb ((Bz.stf lq (h.key.told ah) fun _ _ q => q.set _).told ah) fun _ _ q => q.set _).mono (by omega)
  | 8 => h.drop.mono (by omega)
  | 9 => h.link.mono (by omega)
  | 10 => h.keys.mono (by omega)
  | 11 => h.key.mono (by omega)
  | 12 => h.sj.mono (by omega)
  | 13 => h.key.opt.mono (by omega)
  | 14 => h.man.mono (by omega)
  | 15 => h.fil.mono (by omega)
  | 16 => h.key.mono (by omega)
  | k + 17 => h.mono (by omega)
theorem w9 {W : List (List Nat)} {X : Rd} (hX : cL W = X) (he : X.e = 0) (hl : W.length ≤ 700) (hw : ∀ w ∈ W, (∀ c ∈ w, c < 256) ∧ w.length ≤ 1000000) : 1 ≤ X.nm ∧ X.nm ≤ 16 ∧ (X.nm = 9 → 1 ≤ X.kd) ∧ SmW X := by
  unfold cL at hX
  by_cases q1 : W.length = 0
  · rw [if_pos q1] at hX; subst hX; cases he
  rw [if_neg q1] at hX
  obtain ⟨k, hk⟩ : ∃ k, db (upF (W.headD [])) = k := ⟨_, rfl⟩
  obtain ⟨b, hb⟩ : ∃ b, (!decide (whF eg (upF (W.headD [])) = 0)) = b := ⟨_, rfl⟩
  rw [hk, hb] at hX
  by_cases q2 : k = 0
  · rw [if_pos q2] at hX; subst hX; cases he
  rw [if_neg q2] at hX
  have hk16 : k ≤ 16 := by
    rw [← hk]; unfold db
    split
    · exact uY _
    · rcases uZ (upF (W.headD [])) with h | h <;> omega
  have hm : ao (aS k (aJ W.tail k b)) = false := by
    cases hm : ao (aS k (aJ W.tail k b)) with
    | false => rfl
    | true =>
      unfold dP at hX
      rw [if_pos hm] at hX
      subst hX
      exact absurd he (jf (by decide))
  have hX2 : aS k (aJ W.tail k b) = X := by
    unfold dP at hX
    rwa [if_neg (by rw [hm]; decide)] at hX
  obtain ⟨g, p, hn, hq⟩ := tA (by omega) hk16 (by rw [hX2]; exact he) hm
  have eX : X = wsR g [] := by rw [← hX2]; exact p.out
  have hnm : X.nm = (k : Int) := by rw [eX]; exact hn
  have b0 : Bz 700 (aJ W.tail (k : Int) b) := ⟨fun w h => hw w (List.mem_of_mem_tail h), by simp [aJ]; omega, by simp [aJ]; omega, by simp [aJ]; omega, by simp [aJ]; omega, by simp [aJ, noQ]; omega, by simp [aJ]; omega⟩
  have b1 := b0.read k
  rw [hX2] at b1
  refine ⟨by omega, by omega, fun h9 => ?_, by have := b1.ks; omega, by have := b1.ts; omega, by have := b1.vs; omega, by have := b1.ls; omega, by have := b1.q; omega, by have := b1.fs; omega⟩
  have k9 : k = 9 := by omega
  subst k9
  rw [← hX2]
  have q9 : (cI (aJ W.tail ((9 : Nat) : Int) b)).e = 0 := (show (aS 9 (aJ W.tail ((9 : Nat) : Int) b)).e = 0 by rw [hX2]; exact he)
  exact FM q9
noncomputable def KCb : FuncId → EP := dg 4 [] (eu 13 (cT IU) (aG 14 Dt (eu 16 (cT Jb) (aG 15 Ee (eu 17 (cT IJ) (eu 8 (Ct yM) evP))))))
theorem HW : cm KCb := aX (cf (an (cf (an (cf (cf ba Bk Cv) Jw (ed _)) JL) JK (ed _)) E3) Jx (ed _)) (by kernel_rfl) (by kernel_rfl)
theorem so (A : List (List Nat)) (hA : ∀ w ∈ A, (∀ c ∈ w, c < 256) ∧ w.length ≤ maxLen) (hAl : A.length ≤ 8796093022208) : aw KCb 6 4 [.fr A.length 1 (au A)] .nil 0 fun v _ _ => v = .bool true ∨ v = .sb true := by
  obtain ⟨X, hX⟩ : ∃ X, cL A = X := ⟨_, rfl⟩
  conv => whnf
  refine ⟨_, ⟨A, rfl, hAl, rfl⟩, ?_⟩
  conv => whnf
  refine ab.nsb (fun g1 => ?_) (fun g1 => ?_)
  focus
    conv => whnf
    first | exact .inl rfl | exact .inr rfl
  have lA := Ec g1
  have oA : ∀ w ∈ A, (∀ c ∈ w, c < 256) ∧ w.length ≤ 1000000 := fun w h => ⟨(hA w h).1, Nat.le_trans (lA.2 w h) (by decide)⟩
  by_cases he : X.e = 0
  focus
    obtain ⟨f1, f2, f3, f4⟩ := w9 hX he (Nat.le_trans lA.1 (by decide)) oA
    obtain ⟨ag1, ag2⟩ := w7 hX he
    have agw : ∀ w ∈ ay X, (∀ c ∈ w, c < 256) ∧ w.length ≤ 1000000 := Eb (hX ▸ FG (fun w h => oA w h))
    have n64 : N64 X := hX ▸ Fk A
    have sX : SmR X := by have := Ed (Nat.le_trans lA.1 (by decide)) oA hX; rwa [if_pos he] at this
    have er : j9 X = .tup [.agg (cmF X), .si .i64 X.e] := by unfold j9; rw [if_pos he]
    have l2 := lA.1
    have hw2 : IntKind.i64.wrap ((A.length : Int) + 2) = (A.length : Int) + 2 := eF ⟨by omega, by omega⟩
    conv => whnf
    refine ⟨A, X, Nat.le_trans lA.1 (by decide), oA, hX, .inl ⟨rfl, ?_⟩⟩
    rw [er]
    conv => whnf
    refine ab.gQ (fun q => absurd he q) (fun _ => ?_)
    conv => whnf
    refine ⟨X, rfl, f1, f2, f3, n64, f4, ?_⟩
    conv => whnf
    refine ⟨ay X, X, by omega, agw, ag1, .inl ⟨rfl, ?_⟩⟩
    rw [er]
    conv => whnf
    refine ab.dec (fun _ => ?_) (fun q => absurd he q)
    conv => whnf
    refine ⟨_, ⟨X, X, rfl, sX, rfl⟩, ?_⟩
    conv => whnf
    refine ab.sb (fun _ => ?_) (fun q => absurd (D3 _) (by rw [q]; decide))
    conv => whnf
    refine ⟨X, rfl, f1, f2, f3, n64, f4, ?_⟩
    conv => whnf
    refine ⟨_, ⟨ay X, ay X, rfl, by omega, rfl⟩, ?_⟩
    conv => whnf
    refine ab.sb (fun _ => ?_) (fun q => absurd rfl (of_decide_eq_false q))
    conv => whnf
    refine ab.dec (fun _ => ?_) (fun q => absurd (show ((ay X).length : Int) ≤ IntKind.i64.wrap ((A.length : Int) + 2) by rw [hw2]; omega) q)
    conv => whnf
    first | exact .inl rfl | exact .inr rfl
  have er : j9 X = .tup [.agg (cmF ky), .si .i64 X.e] := by unfold j9; rw [if_neg he]
  conv => whnf
  refine ⟨A, X, Nat.le_trans lA.1 (by decide), oA, hX, .inl ⟨rfl, ?_⟩⟩
  rw [er]
  conv => whnf
  refine ab.gQ (fun _ => ?_) (fun q => absurd q he)
  conv => whnf
  refine ab.dec (fun _ => ?_) (fun q => absurd rfl q)
  conv => whnf
  first | exact .inl rfl | exact .inr rfl
end Go.Proofs.Ytdfeigkooeeeaaa
