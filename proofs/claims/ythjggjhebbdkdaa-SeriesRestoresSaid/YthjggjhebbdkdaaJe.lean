/- Texts of our own, joined: the engine, the machine that runs code, and what is known of the functions. -/
import Derived.Test.YthjggjhebbdkdaaRows
import Derived.WalkKit
import Derived.Deep.Quiet
import Derived.ProofKit
import Derived.Laws.StructEq
import Derived.LaidEql
import Derived.Laws.BytesArg
import Derived.Maps.RangeRun
import Derived.RangeFuncSeq
import Derived.Scope
import Derived.Laws.Strings
import Derived.Laws.Strings2
import Derived.Below
import Derived.Carry
import Derived.OpenShut
import Derived.ChangeMaps5
import Derived.Deep.Slices
import Derived.Deep.SlicePairs
import Derived.SizedLaws
import Derived.Laws.BitsAllLaws
import Derived.Test.YthjggjhebbdkdaaJd
import Derived.RangeFuncRecord
set_option linter.unusedSimpArgs false
set_option linter.unusedVariables false
set_option maxHeartbeats 16000000
set_option maxRecDepth 100000
namespace Go.Proofs.Ythjggjhebbdkdaa
open Go Go.RowKit
noncomputable def KDb : FuncId → EP := a9 79 mE evP
theorem Iu : bG KDb := aw bd wz
theorem Bo (L : Smp) (hL : L.length ≤ 100000) (h64 : ∀ x ∈ L, aM x.1 ∧ aM x.2) (h0 : L.length ≠ 0) : az KDb 3 69 [.fr L.length 2 (smp L)] .nil 0 fun u _ _ => mkT u = mkT (.si .i64 ((aU L).length : Int)) := by
  conv => whnf
  refine ⟨L, .inr (.inl (.inr ⟨_, rfl, aV _, h0⟩)), hL, h64, ?_⟩
  conv => whnf
  rfl
def wF (args : List AV) (H : AH) (n : Nat) (κ : PK) : Prop := match args with
  | [x] => ∃ L : Smp, x = .fr L.length 2 (smp L) ∧ L.length ≤ 100000 ∧ (∀ x ∈ L, aM x.1 ∧ aM x.2) ∧ L.length ≠ 0 ∧ κ (.si .i64 ((aU L).length : Int)) H n
  | _ => False
theorem FM : aF 69 wF := fun args H n κ hs φ h0' hp vs K hr hargs hk => by
  unfold wF at hs
  split at hs
  · obtain ⟨x, rfl, e1⟩ := vs1 hargs
    obtain ⟨L, rfl, hL, h64, h0, hs⟩ := hs
    exact iI Iu (v := .si .i64 ((aU L).length : Int)) rfl (Bo L hL h64 h0) hs hr hk (by kernel_rfl) (φ0 := ⟨fun _ => none, φ.z, φ.z, fun _ _ => False⟩) (fun hw => hr.za (ga hw) (fun _ _ h => by cases h) (fun _ h => h)) (.cons (m3 (ψ := ⟨fun _ => none, φ.z, φ.z, fun _ _ => False⟩) (fun _ h => h) rfl e1) .nil)
  · exact hs.elim
theorem Iv : iW wF := .pure fun args H n κ hs => by
  unfold wF at *
  split at hs
  · obtain ⟨L, h1, h2, h3, h4, h5⟩ := hs
    exact ⟨_, h5, fun κ' h => ⟨L, h1, h2, h3, h4, h⟩⟩
  · exact hs.elim
def SpQ (sz : Nat) (L : Smp) (k : Nat) : PK := fun u H' _ => u = .tup [.ptr 1 0, .int .i64 0] ∧ PM.get H' 0 = some (.cells (chk sz (L.take k)) true) ∧ PM.get H' 1 = some (.cells (chk sz (L.drop k)) true)
noncomputable def spt (sz : Nat) (L : Smp) (k : Nat) : AE × AH := (mkE [(0, .ptr 0 (0)), (4, .fr L.length 2 (smp L)), (5, .si .i64 (((k : Nat) : Int)))], mkH [(0, .cells (chk sz L) true)])
theorem zH {sz : Nat} {L : Smp} {k : Nat} {p n : Nat} {σ : AE} {H : AH} (hp : p ≤ 1) (e0 : ay (pa 0) σ = .ptr 0 (0)) (e4 : ay (pa 4) σ = .fr L.length 2 (smp L)) (e5 : mk (ay (pa 5) σ) = .si .i64 (((k : Nat) : Int))) (h0 : ∃ l, H.get 0 = some (.cells l true) ∧ lf H 1 (fun b => b) l (chk sz L)) : Cov p σ H n ((spt sz L k).1, (spt sz L k).2, 1) := by
  refine Cov.ofR (fun b => b) (by omega) (fun b hb => rfl) ?_ ?_ ?_
  · intro x hx
    simp only [List.mem_cons, List.not_mem_nil, or_false] at hx
    rcases hx with rfl | rfl | rfl
    · exact .ptr (by decide) e0
    · exact ae.frE e4
    · exact .int e5
  · intro x hx
    simp only [List.mem_cons, List.not_mem_nil, or_false] at hx
    subst hx
    exact ⟨by simp, .inl (h0.elim fun l h => ⟨_, h.1, aO.st h.2⟩)⟩
  · intro x hx y hy
    simp only [List.mem_cons, List.not_mem_nil, or_false] at hx hy
    subst hx hy
    exact fun q => rfl
def FN : DT := [(7, [(some 0, [5]), (some 0, [4]), (some 0, [20]), (some 0, [21]), (some 0, [19, 22]), (some 0, [23]), (some 0, [4, 24]), (some 0, [5, 24]), (some 0, [25, 26, 24]), (none, [27, 24]), (some 0, [28, 24]), (some 2, [0, 24]), (some 3, [30, 24]), (some 4, [31, 24]), (some 5, [32, 24]), (some 0, [29, 33, 24]), (some 0, [24, 34])])]
noncomputable def KSp : FuncId → EP := bK 40 FN (cq 69 wF (a9 31 mF (a9 79 mE evP)))
theorem DV : bG KSp := aL (aY (aw (aw bd wz) wC) FM Iv) (by kernel_rfl) (by kernel_rfl)
theorem DW {sz : Nat} {L : Smp} : ∀ {H : AH} {m : Nat} {r : Nat → Nat}, lf H m r (chk sz L) (chk sz L) := .cons (.int rfl) (.cons (.str rfl) (.cons (.int rfl) (.cons (.int rfl) .nil)))
theorem yj (sz : Nat) (L : Smp) (hsz : 0 < sz) (h2 : L.length < 2) : post (az KSp 4 40) [.ptr 0 0] (mkH [(0, .cells (chk sz L) true)]) 1 (fun u H' _ => u = .tup [.nil, .int .i64 5] ∧ PM.get H' 0 = some (.cells (chk sz L) true)) := by
  have hz : (0 : Int) < (sz : Int) := by omega
  show az KSp 4 40 _ _ _ _
  conv => whnf
  refine ag.dB (fun h => absurd hz h) (fun _ => ?_)
  conv => whnf
  refine ag.dec (fun _ => ?_) (fun q => absurd (show (L.length : Int) < 2 by omega) q)
  conv => whnf
  exact ⟨_, _, _, .refl _, .refl _ _, rfl, rfl⟩
theorem yk (sz : Nat) (L : Smp) (hsz : 0 < sz) (hF : bX L) (h2 : 2 ≤ L.length) : post (az KSp 4 40) [.ptr 0 0] (mkH [(0, .cells (chk sz L) true)]) 1 (SpQ sz L (bH L)) := by
  have hz : (0 : Int) < (sz : Int) := by omega
  have hL := hF.2.2
  have h64 := hF.gO
  have hL1 : L.length ≤ 100000 := by omega
  have leaf : ∀ {H' : AH} {n' k : Nat} {l m : List AV}, k = bH L → PM.get H' 0 = some (.cells l true) → l.map mk = chk sz (L.take k) → PM.get H' 1 = some (.cells m true) → m.map mk = chk sz (L.drop k) → ∃ v2 H2 n2, VTo (.tup [.ptr 1 0, .int .i64 0]) v2 ∧ cY H' n' H2 n2 ∧ SpQ sz L (bH L) v2 H2 n2 := fun hk g1 g2 g3 g4 => by
    rw [← hk]
    exact ⟨_, _, _, .refl _, (cY.yf (l' := chk sz (L.drop _)) g3 rfl g4).trans (cY.yf (l' := chk sz (L.take _)) (qJ.trans g1) rfl g2), rfl, PM.qH, qK.trans qL⟩
  have hlw : IntKind.i64.wrap ((L.length : Int) - 1) = ((L.length - 1 : Nat) : Int) := (cr ⟨by omega, by omega⟩).trans (by omega)
  show az KSp 4 40 _ _ _ _
  conv => whnf
  refine ag.dB (fun h => absurd hz h) (fun _ => ?_)
  conv => whnf
  refine ag.dec (fun q => absurd q (by omega)) (fun _ => ?_)
  conv => whnf
  refine ⟨0, sz, _, L, rfl, rfl, rfl, hsz, hL1, h64, ?_⟩
  conv => whnf
  refine bg.mk { k : Nat // 1 ≤ k ∧ k ≤ L.length - 1 ∧ oX L (L.length - k) k = bH L } 1 (fun k => spt sz L k.val) (fun k => L.length - k.val) ⟨1, Nat.le_refl _, by omega, rfl⟩ ?_ ?_
  · exact zH (Nat.le_refl 1) rfl rfl rfl ⟨_, rfl, DW⟩
  · intro ⟨k, hk1, hk2, hk3⟩
    have hkl : k ≤ L.length := by omega
    have hFt := hF.sub (List.take_sublist k L)
    have hFd := hF.sub (List.drop_sublist k L)
    have hit : (L.take k).length ≤ 100000 := by rw [List.length_take]; omega
    have hid : (L.drop k).length ≤ 100000 := by rw [List.length_drop]; omega
    have hnt : (L.take k).length ≠ 0 := by rw [List.length_take]; omega
    have hnd : (L.drop k).length ≠ 0 := by rw [List.length_drop]; omega
    have hlt := wi (L.take k)
    have hlt2 : (aU (L.take k)).length ≤ 13600000 := by omega
    have hk : IntKind.i64.wrap ((k : Int) + 1) = ((k + 1 : Nat) : Int) := cr ⟨by omega, by omega⟩
    have h2w : IntKind.i64.wrap (2 * ((aU (L.take k)).length : Int)) = ((2 * (aU (L.take k)).length : Nat) : Int) := (cr ⟨by omega, by omega⟩).trans (by omega)
    have hqt : [AV.si .i64 (sz : Int), .ss (pack (aU (L.take k))), .si .i64 ((aU (L.take k)).length : Int), .si .i64 (k : Int)].map mk = chk sz (L.take k) := by unfold chk; rw [List.length_take, Nat.min_eq_left hkl]; rfl
    have hqd : [AV.si .i64 (sz : Int), .ss (pack (aU (L.drop k))), .si .i64 ((aU (L.drop k)).length : Int), .si .i64 ((L.length - k : Nat) : Int)].map mk = chk sz (L.drop k) := by unfold chk; rw [List.length_drop]; rfl
    conv => whnf
    refine ag.dec (fun h => ?_) (fun h => ?_)
    · have hc1 : k < L.length - 1 := by rw [hlw] at h; exact Int.ofNat_lt.1 h
      conv => whnf
      refine RSl.mk 0 k rfl rfl (.inl rfl) (Nat.zero_le _) hkl ?_
      conv => whnf
      refine ⟨L.take k, tX L hkl, hit, hFt.gO, hnt, ?_⟩
      conv => whnf
      refine ag.dec (fun h3 => ?_) (fun h3 => ?_)
      · have hcut : mG L k = true := by rw [h2w] at h3; unfold mG; rw [decide_eq_true hc1, Bool.true_and]; exact decide_eq_true (Int.ofNat_lt.1 h3)
        conv => whnf
        exact ⟨⟨k + 1, by omega, by omega, (FL hcut).symm.trans hk3⟩, (show L.length - (k + 1) < L.length - k by omega), zH (Nat.le_refl 1) rfl rfl (congrArg (AV.si .i64) hk) ⟨_, rfl, DW⟩⟩
      · have hsk : k = bH L := by rw [← hk3, sK (by rw [h2w] at h3; unfold mG; rw [decide_eq_true hc1, Bool.true_and]; exact decide_eq_false (fun q => h3 (Int.ofNat_lt.2 q)))]
        conv => whnf
        refine RSl.mk k _ rfl rfl (.inl rfl) hkl (Nat.le_refl _) ?_
        conv => whnf
        refine ⟨L.drop k, .inr (.inl (.inr ⟨_, zE L k, aV _, hnd⟩)), hid, hFd.gO, ?_⟩
        conv => whnf
        refine RSl.mk 0 k rfl rfl (.inl rfl) (Nat.zero_le _) hkl ?_
        conv => whnf
        refine ⟨L.take k, .inr (.inl (.inr ⟨_, tX L hkl, aV _, hnt⟩)), hit, hFt.gO, ?_⟩
        conv => whnf
        exact leaf hsk rfl hqt rfl hqd
    · have hsk : k = bH L := by rw [← hk3, sK (by rw [hlw] at h; unfold mG; rw [decide_eq_false (fun q => h (Int.ofNat_lt.2 q))]; rfl)]
      conv => whnf
      refine RSl.mk k _ rfl rfl (.inl rfl) hkl (Nat.le_refl _) ?_
      conv => whnf
      refine ⟨L.drop k, .inr (.inl (.inr ⟨_, zE L k, aV _, hnd⟩)), hid, hFd.gO, ?_⟩
      conv => whnf
      refine RSl.mk 0 k rfl rfl (.inl rfl) (Nat.zero_le _) hkl ?_
      conv => whnf
      refine ⟨L.take k, .inr (.inl (.inr ⟨_, tX L hkl, aV _, hnt⟩)), hit, hFt.gO, ?_⟩
      conv => whnf
      exact leaf hsk rfl hqt rfl hqd
def wG (args : List AV) (H : AH) (n : Nat) (κ : PK) : Prop := match args with
  | [x] => ∃ (c sz : Nat) (L : Smp), x = .ptr c 0 ∧ c < n ∧ H.get c = some (.cells (chk sz L) true) ∧ 0 < sz ∧ bX L ∧ (L.length < 2 → κ (.tup [.nil, .int .i64 5]) H n) ∧
      (2 ≤ L.length → κ (.tup [.ptr n 0, .int .i64 0]) ((H.set (some (.cells (chk sz (L.drop (bH L))) true)) aa n).set (some (.cells (chk sz (L.take (bH L))) true)) aa c) (n + 1))
  | _ => False
theorem Hn {c n : Nat} {H H' : AH} {sz : Nat} {L : Smp} (hc : H.get c = some (.cells (chk sz L) true)) (h2 : PM.get H' 0 = some (.cells (chk sz L) true)) : cG [c] n ([c] : List Nat).length H H' H := cG.same fun i s o h3 h4 _ => by
  cases i with
  | zero =>
    injection h3 with h3; subst h3
    rw [hc] at h4; injection h4 with h4; subst h4
    exact ⟨_, h2, rfl, rfl, rfl⟩
  | succ i => simp at h3
theorem FO : aF 40 wG := fun args H n κ hs φ h0' hp vs K hr hargs hk => by
  unfold wG at hs
  split at hs
  · obtain ⟨x, rfl, e1⟩ := vs1 hargs
    obtain ⟨c, sz, L, rfl, hcn, hc, hsz, hF, ha, hb⟩ := hs
    rcases Nat.lt_or_ge L.length 2 with h2 | h2
    · refine cw (S := [c]) (O := [.cells (chk sz L) true]) (args0 := [.ptr 0 0]) (aF.post (aB DV 4 _)) (by kernel_rfl) hr
        (jo hcn hc (.inr rfl)) (.cons e1 .nil) hk (yj sz L hsz h2) fun u H' n' ⟨g1, g2⟩ => ?_
      subst g1
      exact ⟨1, H, Nat.le_refl _, Hn hc g2, rfl, ha h2⟩
    · refine cw (S := [c]) (O := [.cells (chk sz L) true]) (args0 := [.ptr 0 0]) (aF.post (aB DV 4 _)) (by kernel_rfl) hr
        (jo hcn hc (.inr rfl)) (.cons e1 .nil) hk (yk sz L hsz hF h2) fun u H' n' ⟨g1, g2, g3⟩ => ?_
      subst g1
      refine ⟨2, iP [c] n H [(0, some (.cells (chk sz (L.take (bH L))) true)), (1, some (.cells (chk sz (L.drop (bH L))) true))], Nat.le_succ 1, cG.put (Nat.le_succ 1) rfl (fun x hx o ho => ?_), rfl, hb h2⟩
      simp only [List.mem_cons, List.not_mem_nil, or_false] at hx
      rcases hx with rfl | rfl
      · injection ho with ho; subst ho; exact ⟨g2, rfl, rfl⟩
      · injection ho with ho; subst ho; exact ⟨g3, rfl, rfl⟩
  · exact hs.elim
end Go.Proofs.Ythjggjhebbdkdaa
namespace Go.Proofs.Ythjggjhebbdkdaa
open Go Go.RowKit
theorem VTo.DX {a b c : AV} {x y : Int} {q : Bool} (h1 : mk a = .si .i64 x) (h2 : mk b = .si .i64 y) (h3 : mk c = .sb q) : VTo (.tup [.agg [a, b], c]) (.tup [.agg [.si .i64 x, .si .i64 y], .sb q]) := fun φ w h => by
  obtain ⟨cs, rfl, hv⟩ := h.dt
  obtain ⟨v1, v2, rfl, e1, e2⟩ := vs2 hv
  obtain ⟨ds, rfl, hw⟩ := e1.eJ
  obtain ⟨w1, w2, rfl, f1, f2⟩ := vs2 hw
  have k1 := f1.mk; have k2 := f2.mk; have k3 := e2.mk
  rw [h1] at k1; rw [h2] at k2; rw [h3] at k3
  exact .tup (.cons (.agg (.cons k1 (.cons k2 .nil))) (.cons k3 .nil))
def FLv (i : Nat) (L : Smp) : AV := .tup [.agg [.si .i64 (tAt L i), .si .i64 (vAt L i)], .sb (decide ((0 : Int) < (L.length : Int)))]
def FLQ (i sz : Nat) (L : Smp) : PK := fun u H' _ => u = FLv i L ∧ PM.get H' 0 = some (.cells (chk sz L) true)
theorem pt {i sz n' : Nat} {L : Smp} {a b c : AV} {H' : AH} (h1 : mk a = .si .i64 (tAt L i)) (h2 : mk b = .si .i64 (vAt L i)) (h3 : mk c = .sb (decide ((0 : Int) < (L.length : Int)))) (hc : PM.get H' 0 = some (.cells (chk sz L) true)) : ∃ v H2 n2, VTo (.tup [.agg [a, b], c]) v ∧ cY H' n' H2 n2 ∧ FLQ i sz L v H2 n2 := ⟨_, H', n', VTo.DX h1 h2 h3, .refl _ _, rfl, hc⟩
noncomputable def KFL : FuncId → EP := a9 31 mF evP
theorem Iw : bG KFL := aw bd wC
theorem Bp (sz : Nat) (L : Smp) (hs : 0 < sz) (hF : bX L) : post (az KFL 4 67) [.ptr 0 0] (mkH [(0, .cells (chk sz L) true)]) 1 (FLQ (0) sz L) := by
  have hL := hF.2.2
  have h64 := hF.gO
  have hL1 : L.length ≤ 100000 := by omega
  have hnt : ∀ i, ¬ (0 : Int) < (L.length : Int) → AV.si .i64 0 = .si .i64 (tAt L i) := fun i h => by rw [List.eq_nil_of_length_eq_zero (show L.length = 0 by omega)]; rfl
  have hnv : ∀ i, ¬ (0 : Int) < (L.length : Int) → AV.si .i64 0 = .si .i64 (vAt L i) := fun i h => by rw [List.eq_nil_of_length_eq_zero (show L.length = 0 by omega)]; rfl
  show az KFL 4 67 _ _ _ _
  conv => whnf
  refine ⟨0, sz, _, L, rfl, rfl, rfl, hs, hL1, h64, ?_⟩
  conv => whnf
  refine ag.dec (fun h => ?_) (fun h => ?_)
  · have hz : ¬ (0 : Int) < (L.length : Int) := by omega
    have hq : AV.sb false = .sb (decide ((0 : Int) < (L.length : Int))) := by rw [decide_eq_false hz]
    conv => whnf
    exact pt (hnt _ hz) (hnv _ hz) hq rfl
  · have hz : (0 : Int) < (L.length : Int) := by omega
    have hp : 0 < L.length := by omega
    have hq : AV.sb true = .sb (decide ((0 : Int) < (L.length : Int))) := by rw [decide_eq_true hz]
    have hw : (0 : Int) = ((0 : Nat) : Int) := rfl
    have ht : AV.si .i64 L[0].1 = .si .i64 (tAt L (0)) := by rw [cX hp]
    have hv : AV.si .i64 L[0].2 = .si .i64 (vAt L (0)) := by rw [lg hp]
    conv => whnf
    refine Idx.mk (0) hw hp ?_
    conv => whnf
    refine ao (bT hp rfl) ?_
    conv => whnf
    exact pt ht hv hq rfl
theorem DY (sz : Nat) (L : Smp) (hs : 0 < sz) (hF : bX L) : post (az KFL 4 68) [.ptr 0 0] (mkH [(0, .cells (chk sz L) true)]) 1 (FLQ (L.length - 1) sz L) := by
  have hL := hF.2.2
  have h64 := hF.gO
  have hL1 : L.length ≤ 100000 := by omega
  have hnt : ∀ i, ¬ (0 : Int) < (L.length : Int) → AV.si .i64 0 = .si .i64 (tAt L i) := fun i h => by rw [List.eq_nil_of_length_eq_zero (show L.length = 0 by omega)]; rfl
  have hnv : ∀ i, ¬ (0 : Int) < (L.length : Int) → AV.si .i64 0 = .si .i64 (vAt L i) := fun i h => by rw [List.eq_nil_of_length_eq_zero (show L.length = 0 by omega)]; rfl
  show az KFL 4 68 _ _ _ _
  conv => whnf
  refine ⟨0, sz, _, L, rfl, rfl, rfl, hs, hL1, h64, ?_⟩
  conv => whnf
  refine ag.dec (fun h => ?_) (fun h => ?_)
  · have hz : ¬ (0 : Int) < (L.length : Int) := by omega
    have hq : AV.sb false = .sb (decide ((0 : Int) < (L.length : Int))) := by rw [decide_eq_false hz]
    conv => whnf
    exact pt (hnt _ hz) (hnv _ hz) hq rfl
  · have hz : (0 : Int) < (L.length : Int) := by omega
    have hp : L.length - 1 < L.length := by omega
    have hq : AV.sb true = .sb (decide ((0 : Int) < (L.length : Int))) := by rw [decide_eq_true hz]
    have hw : IntKind.i64.wrap ((L.length : Int) - 1) = ((L.length - 1 : Nat) : Int) := (cr ⟨by omega, by omega⟩).trans (by omega)
    have ht : AV.si .i64 L[L.length - 1].1 = .si .i64 (tAt L (L.length - 1)) := by rw [cX hp]
    have hv : AV.si .i64 L[L.length - 1].2 = .si .i64 (vAt L (L.length - 1)) := by rw [lg hp]
    conv => whnf
    refine Idx.mk (L.length - 1) hw hp ?_
    conv => whnf
    refine ao (bT hp rfl) ?_
    conv => whnf
    exact pt ht hv hq rfl
def wH (i : Smp → Nat) (args : List AV) (H : AH) (n : Nat) (κ : PK) : Prop := match args with
  | [x] => ∃ (c sz : Nat) (L : Smp), x = .ptr c 0 ∧ c < n ∧ H.get c = some (.cells (chk sz L) true) ∧ 0 < sz ∧ bX L ∧ κ (FLv (i L) L) H n
  | _ => False
theorem wI {f : FuncId} {i : Smp → Nat} (hic : aj Try.prog f = true) (hrun : ∀ (sz : Nat) (L : Smp), 0 < sz → bX L → post (az KFL 4 f) [.ptr 0 0] (mkH [(0, .cells (chk sz L) true)]) 1 (FLQ (i L) sz L)) : aF f (wH i) := fun args H n κ hs φ h0' hp vs K hr hargs hk => by
  unfold wH at hs
  split at hs
  · obtain ⟨x, rfl, e1⟩ := vs1 hargs
    obtain ⟨c, sz, L, rfl, hcn, hc, hsz, hF, hs⟩ := hs
    refine cw (S := [c]) (O := [.cells (chk sz L) true]) (args0 := [.ptr 0 0]) (aF.post (aB Iw 4 _)) hic hr
      (jo hcn hc (.inr rfl)) (.cons e1 .nil) hk (hrun sz L hsz hF) fun u H' n' ⟨h1, h2⟩ => ?_
    subst h1
    exact ⟨1, H, Nat.le_refl _, Hn hc h2, rfl, hs⟩
  · exact hs.elim
theorem FP : aF 67 (wH fun _ => 0) := wI (by kernel_rfl) Bp
theorem Ix : aF 68 (wH fun L => L.length - 1) := wI (by kernel_rfl) DY
end Go.Proofs.Ythjggjhebbdkdaa
namespace Go.Proofs.Ythjggjhebbdkdaa
open Go Go.RowKit
theorem Up.app {A B : Smp} : Up (A ++ B) ↔ Up A ∧ Up B ∧ ∀ x ∈ A, ∀ y ∈ B, x.1 < y.1 := List.pairwise_append
def cO (L : Smp) (t v p : Int) : Smp × Int := if has L t then (if (a8 p (vAt L (plc L t)) v).2 ≠ 0 then (L, (a8 p (vAt L (plc L t)) v).2) else (iJ L t (a8 p (vAt L (plc L t)) v).1, 0)) else (gx L t v, 0)
theorem yl (p a b : Int) : (a8 p a b).2 ≠ 2 := by
  unfold a8
  repeat' split
  all_goals exact fun q => absurd q (by simp)
theorem oc {sz : Nat} {L : Smp} {t v p : Int} (ht : 0 ≤ t ∧ t < 1099511627776) : di sz L t v p = if (cO L t v p).2 ≠ 0 then (L, (cO L t v p).2) else mB sz L (cO L t v p).1 := by
  unfold di cO
  rw [if_neg (by omega)]
  by_cases h : has L t = true
  · rw [if_pos h, if_pos h]
    by_cases q : (a8 p (vAt L (plc L t)) v).2 ≠ 0
    · rw [if_pos q, if_pos q]; simp [q]
    · rw [if_neg q, if_neg q]; simp
  · rw [if_neg h, if_neg h]; simp
theorem DZ (L : Smp) (t v p : Int) : (cO L t v p).2 ≠ 2 := by
  unfold cO
  split
  · split
    · exact yl _ _ _
    · exact fun q => absurd q (by simp)
  · exact fun q => absurd q (by simp)
theorem wJ {L : Smp} {t v p : Int} (h : (cO L t v p).2 ≠ 0) : (cO L t v p).1 = L := by
  unfold cO at h ⊢
  split
  · split
    · rfl
    · rename_i a b; rw [if_pos a, if_neg b] at h; exact absurd rfl h
  · rename_i a; rw [if_neg a] at h; exact absurd rfl h
theorem wK {A X : Smp} {t : Int} (h : ∀ x ∈ A, x.1 < t) : plc (A ++ X) t = A.length + plc X t := by
  induction A with
  | nil => simp
  | cons a A ih =>
    rw [List.cons_append, plc, if_pos (h a (by simp)), ih fun x hx => h x (List.mem_cons_of_mem _ hx)]
    simp only [List.length_cons]; omega
theorem Bq {M B : Smp} {t : Int} (h : ∀ x ∈ B, t < x.1) : plc (M ++ B) t = plc M t := by
  induction M with
  | nil =>
    cases B with
    | nil => rfl
    | cons b B =>
      have hb : ¬ b.1 < t := by have := h b (by simp); omega
      show plc (b :: B) t = 0
      unfold plc
      rw [if_neg hb]
  | cons a M ih => rw [List.cons_append, plc, plc, ih]
theorem nz {A M B : Smp} {t : Int} (hA : ∀ x ∈ A, x.1 < t) (hB : ∀ x ∈ B, t < x.1) : plc (A ++ (M ++ B)) t = A.length + plc M t := by rw [wK hA, Bq hB]
theorem tY {A M B : Smp} {i : Nat} (h : i < M.length) : (A ++ (M ++ B))[A.length + i]? = M[i]? := by
  rw [List.getElem?_append_right (by omega), show A.length + i - A.length = i by omega, List.getElem?_append_left h]
theorem zI {A M B : Smp} {t : Int} (hA : ∀ x ∈ A, x.1 < t) (hB : ∀ x ∈ B, t < x.1) : has (A ++ (M ++ B)) t = has M t := by
  unfold has
  rw [nz hA hB]
  by_cases h : plc M t < M.length
  · have e : tAt (A ++ (M ++ B)) (A.length + plc M t) = tAt M (plc M t) := by unfold tAt; rw [tY h]
    rw [e]
    congr 1
    simp only [List.length_append, eq_iff_iff]
    constructor
    · exact fun q => ⟨h, q.2⟩
    · exact fun q => ⟨by omega, q.2⟩
  · have hp : plc M t = M.length := by have := mC M t; omega
    have e2 : ¬ (plc M t < M.length ∧ tAt M (plc M t) = t) := fun q => h q.1
    rw [decide_eq_false e2]
    refine decide_eq_false fun ⟨q1, q2⟩ => ?_
    have q1 : M.length < (M ++ B).length := by simp only [List.length_append] at q1 ⊢; omega
    have e3 : (A ++ (M ++ B))[A.length + plc M t]? = B[0]? := by
      rw [List.getElem?_append_right (by omega), show A.length + plc M t - A.length = M.length by omega, List.getElem?_append_right (Nat.le_refl _), Nat.sub_self]
    cases hB0 : B with
    | nil => rw [hB0] at q1; simp at q1
    | cons y B' =>
      unfold tAt at q2
      rw [e3, hB0] at q2
      have := hB y (by rw [hB0]; simp)
      simp at q2
      omega
theorem wL {A M B : Smp} {t : Int} (v p : Int) (hA : ∀ x ∈ A, x.1 < t) (hB : ∀ x ∈ B, t < x.1) : cO (A ++ (M ++ B)) t v p = (A ++ ((cO M t v p).1 ++ B), (cO M t v p).2) := by
  have hle := mC M t
  have e1 : gx (A ++ (M ++ B)) t v = A ++ (gx M t v ++ B) := by
    unfold gx
    rw [nz hA hB, List.take_length_add_append, List.drop_length_add_append, List.take_append_of_le_length hle, List.drop_append_of_le_length hle]
    simp
  unfold cO
  rw [zI hA hB]
  by_cases h : has M t = true
  · have hlt : plc M t < M.length := by unfold has at h; exact (of_decide_eq_true h).1
    have e2 : vAt (A ++ (M ++ B)) (plc (A ++ (M ++ B)) t) = vAt M (plc M t) := by unfold vAt; rw [nz hA hB, tY hlt]
    have e3 : ∀ w, iJ (A ++ (M ++ B)) t w = A ++ (iJ M t w ++ B) := fun w => by
      unfold iJ
      rw [nz hA hB, List.set_append_right _ _ (by omega), show A.length + plc M t - A.length = plc M t by omega, List.set_append_left _ _ hlt]
    rw [if_pos h, if_pos h, e2, e3]
    split <;> rfl
  · rw [if_neg h, if_neg h, e1]
theorem gy (X : Smp) (i : Nat) : 2 ≤ (bM X i).length ∧ (bM X i).length ≤ 136 ∧ (i = 0 → (bM X i).length = 128) := by
  unfold bM
  split
  · simp [aN]
  · rename_i h
    have h1 := dX (dT X i)
    have h2 := dX (dV X i)
    rw [List.length_append]
    exact ⟨by omega, by omega, fun q => absurd q h⟩
theorem od {A M : Smp} (i : Nat) : tAt (A ++ M) (A.length + i) = tAt M i ∧ vAt (A ++ M) (A.length + i) = vAt M i := by
  unfold tAt vAt
  rw [List.getElem?_append_right (by omega), show A.length + i - A.length = i by omega]
  exact ⟨rfl, rfl⟩
theorem jb {A M : Smp} {i : Nat} (h : i < A.length) : tAt (A ++ M) i = tAt A i ∧ vAt (A ++ M) i = vAt A i := by
  unfold tAt vAt
  rw [List.getElem?_append_left h]
  exact ⟨rfl, rfl⟩
theorem ym {A M : Smp} {i : Nat} (h : i < A.length) : bM (A ++ M) i = bM A i := by
  unfold bM dT dV cW
  rw [(jb h).1, (jb h).2, (jb (show i - 1 < A.length by omega)).1, (jb (show i - 1 < A.length by omega)).2, (jb (show i - 2 < A.length by omega)).1, (jb (show 0 < A.length by omega)).1, (jb (show 0 < A.length by omega)).2]
theorem wM {A M : Smp} {i : Nat} (h : 2 ≤ i) : bM (A ++ M) (A.length + i) = bM M i := by
  unfold bM dT dV cW
  rw [show A.length + i - 1 = A.length + (i - 1) by omega, show A.length + i - 2 = A.length + (i - 2) by omega, (od i).1, (od i).2, (od (i - 1)).1, (od (i - 1)).2, (od (i - 2)).1]
  simp only [show ¬ (A.length + i = 0) by omega, show ¬ (A.length + i < 2) by omega, show ¬ (i = 0) by omega, show ¬ (i < 2) by omega, if_false]
theorem iM {A M : Smp} : ∀ {i : Nat}, i ≤ A.length → aE (A ++ M) i = aE A i
  | 0, _ => rfl
  | i + 1, h => by rw [aE, aE, iM (by omega), ym (by omega)]
theorem ll (A M : Smp) : ∀ i : Nat, (aE (A ++ M) (A.length + i)).length ≤ (aU A).length + (aE M i).length + 142 ∧ (aU A).length + (aE M i).length ≤ (aE (A ++ M) (A.length + i)).length + 260
  | 0 => by
    rw [Nat.add_zero, iM (Nat.le_refl _), aE]
    have : (aE A A.length).length = (aU A).length := rfl
    simp only [List.length_nil]; omega
  | 1 => by
    obtain ⟨h1, h2⟩ := ll A M 0
    have e : aE (A ++ M) (A.length + 1) = aE (A ++ M) (A.length + 0) ++ bM (A ++ M) (A.length + 0) := rfl
    have e0 : aE (A ++ M) (A.length + 0) = aE A A.length := by rw [Nat.add_zero, iM (Nat.le_refl _)]
    have : (aE A A.length).length = (aU A).length := rfl
    have s1 := gy (A ++ M) (A.length + 0)
    have s2 := gy M 0
    have s3 := s2.2.2 rfl
    have e2 : aE M 1 = [] ++ bM M 0 := rfl
    rw [e, e0, e2, List.length_append, List.length_append, List.length_nil]
    omega
  | i + 2 => by
    by_cases hi : i = 0
    · subst hi
      have e : aE (A ++ M) (A.length + 2) = aE (A ++ M) (A.length + 0) ++ bM (A ++ M) (A.length + 0) ++ bM (A ++ M) (A.length + 1) := rfl
      have e0 : aE (A ++ M) (A.length + 0) = aE A A.length := by rw [Nat.add_zero, iM (Nat.le_refl _)]
      have : (aE A A.length).length = (aU A).length := rfl
      have s1 := gy (A ++ M) (A.length + 0)
      have s2 := gy M 0
      have s3 := s2.2.2 rfl
      have s4 := gy (A ++ M) (A.length + 1)
      have s5 := gy M 1
      have e2 : aE M 2 = [] ++ bM M 0 ++ bM M 1 := rfl
      rw [e, e0, e2]
      simp only [List.length_append, List.length_nil]
      omega
    · obtain ⟨h1, h2⟩ := ll A M (i + 1)
      have e : aE (A ++ M) (A.length + (i + 2)) = aE (A ++ M) (A.length + (i + 1)) ++ bM (A ++ M) (A.length + (i + 1)) := rfl
      have e2 : aE M (i + 2) = aE M (i + 1) ++ bM M (i + 1) := rfl
      rw [e, e2, wM (by omega), List.length_append, List.length_append]
      omega
theorem wN (A M : Smp) : (aU (A ++ M)).length ≤ (aU A).length + (aU M).length + 142 ∧ (aU A).length + (aU M).length ≤ (aU (A ++ M)).length + 260 := by
  have := ll A M M.length
  unfold aU
  rw [List.length_append]
  exact this
theorem zJ {L : Smp} : ∀ (f k : Nat), 1 ≤ k → k ≤ L.length - 1 → 1 ≤ oX L f k ∧ oX L f k ≤ L.length - 1
  | 0, k, h1, h2 => ⟨h1, h2⟩
  | f + 1, k, h1, h2 => by
    unfold oX
    split
    · rename_i h
      unfold mG at h
      simp only [Bool.and_eq_true, decide_eq_true_eq] at h
      exact zJ f (k + 1) (by omega) (by omega)
    · exact ⟨h1, h2⟩
theorem tZ {L : Smp} (h : 2 ≤ L.length) : 1 ≤ bH L ∧ bH L ≤ L.length - 1 := zJ _ 1 (Nat.le_refl _) (by omega)
theorem wO {L : Smp} : ∀ (f k : Nat), L.length - k ≤ f → mG L (oX L f k) = false
  | 0, k, h => by
    show mG L k = false
    unfold mG
    rw [decide_eq_false (show ¬ k < L.length - 1 by omega)]; rfl
  | f + 1, k, h => by
    unfold oX
    split
    · exact wO f (k + 1) (by omega)
    · rename_i h; simpa using h
theorem D0 {L : Smp} (h : 1 ≤ L.length) : mG L (bH L) = false := wO _ 1 (by omega)
theorem D1 {sz : Nat} (hs : 128 ≤ sz) {L : Smp} (h2 : 2 ≤ L.length) (hf : (aU L).length ≤ 8 * sz) : (aU (L.take (bH L))).length ≤ 8 * sz ∧ (aU (L.drop (bH L))).length ≤ 8 * sz := by
  obtain ⟨k1, k2⟩ := tZ h2
  have he := D0 (L := L) (by omega)
  generalize bH L = k at *
  have e := wN (L.take k) (L.drop k)
  rw [List.take_append_drop] at e
  have e2 : (aU (L.take k)).length ≤ (aU L).length := by
    have : aU L = aE (L.take k ++ L.drop k) L.length := by rw [List.take_append_drop]; rfl
    have hl : (L.take k).length = k := by rw [List.length_take]; omega
    have e4 : aE (L.take k ++ L.drop k) (L.take k).length = aU (L.take k) := iM (Nat.le_refl _)
    have mono : ∀ (X : Smp) (i j : Nat), (aE X i).length ≤ (aE X (i + j)).length := fun X i j => by
      induction j with
      | zero => exact Nat.le_refl _
      | succ j ih =>
        have e5 : aE X (i + (j + 1)) = aE X (i + j) ++ bM X (i + j) := rfl
        rw [e5, List.length_append]; omega
    have := mono (L.take k ++ L.drop k) k (L.length - k)
    rw [← e4, hl]
    have e6 : aU L = aE (L.take k ++ L.drop k) (k + (L.length - k)) := by rw [List.take_append_drop, show k + (L.length - k) = L.length by omega]; rfl
    rw [e6]; exact this
  refine ⟨by omega, ?_⟩
  unfold mG at he
  by_cases q : k < L.length - 1
  · rw [decide_eq_true q] at he
    have : ¬ 2 * (aU (L.take k)).length < (aU L).length := by simpa using he
    omega
  · have hl : (L.drop k).length ≤ 7 := by rw [List.length_drop]; omega
    have := lI hl
    omega
end Go.Proofs.Ythjggjhebbdkdaa
namespace Go.Proofs.Ythjggjhebbdkdaa
open Go Go.RowKit
abbrev Ck5 := List ((Nat × Nat) × Smp)
def chs (sz : Nat) (C : Ck5) : Pk := C.map fun c => (c.1, chk sz c.2)
theorem c9 (sz : Nat) (A B : Ck5) (p : Nat × Nat) (L : Smp) : chs sz (A ++ (p, L) :: B) = chs sz A ++ (p, chk sz L) :: chs sz B := by simp [chs]
def dJ (sz : Nat) (C D : Ck5) : Prop := ∀ z S h, (pk (chs sz C)).P z S h → (pk (chs sz D)).P z S h
theorem dJ.refl (sz : Nat) (C : Ck5) : dJ sz C C := fun _ _ _ h => h
theorem dJ.sub {sz : Nat} {C D : Ck5} (h : D.Sublist C) : dJ sz C D := HX (h.map _)
noncomputable def wP (H : AH) (b sz : Nat) (D : Ck5) : AH := H.set (some (.sep (pk (chs sz D)))) aa b
structure ua (H : AH) (n b sz : Nat) (C : Ck5) : Prop where
  bn : b < n
  lt : n < 1000000
  nn : H.get n = none
  hb : H.get b = some (.sep (pk (chs sz C)))
def ub (args : List AV) (H : AH) (n : Nat) (κ : PK) : Prop := match args with
  | [x, y, z] => ∃ (b sz : Nat) (A B D : Ck5) (p : Nat × Nat) (L : Smp) (t v q : Int) (r : Smp × Int), x = bW p ∧ la y t v ∧ mk z = .si .i64 q ∧ ua H n b sz (A ++ (p, L) :: B) ∧ 0 < sz ∧ sz ≤ 4096 ∧ bX L ∧ aM v ∧ di sz L t v q = r ∧ dJ sz (A ++ (p, r.1) :: B) D ∧
      κ (.si .i64 r.2) (wP H b sz D) (n + 1)
  | _ => False
theorem Iy : aF 29 ub := fun args H n κ hs φ h0' hp vs K hr hargs hk => by
  unfold ub at hs
  split at hs
  · obtain ⟨b, sz, A, B, D, p, L, t, v, q, r, rfl, hy, hz, ⟨hbn, hn, hn0, hb⟩, s1, s2, hF, hv, hr5, hD, hs⟩ := hs
    subst hr5
    rw [c9] at hb
    unfold dJ at hD
    rw [c9] at hD
    exact JR.v7 hr hbn hn hn0 hb hargs hk ⟨n, sz, L, t, v, q, rfl, hy, hz, Nat.lt_succ_self _, ni hn, s1, s2, hF, hv, lX.set hbn hn rfl (de _ _) hD hs⟩
  · exact hs.elim
def qM (args : List AV) (H : AH) (n : Nat) (κ : PK) : Prop := match args with
  | [x, y, z] => ∃ (b sz : Nat) (A B D : Ck5) (p : Nat × Nat) (L : Smp) (s t : Int), x = bW p ∧ mk y = .si .i64 s ∧ mk z = .si .i64 t ∧ ua H n b sz (A ++ (p, L) :: B) ∧ 0 < sz ∧ bX L ∧ dJ sz (A ++ (p, aS L s t) :: B) D ∧
      κ (.si .i64 ((L.length : Int) - ((aS L s t).length : Int))) (wP H b sz D) (n + 1)
  | _ => False
theorem FQ : aF 30 qM := fun args H n κ hs φ h0' hp vs K hr hargs hk => by
  unfold qM at hs
  split at hs
  · obtain ⟨b, sz, A, B, D, p, L, s, t, rfl, hy, hz, ⟨hbn, hn, hn0, hb⟩, s1, hF, hD, hs⟩ := hs
    rw [c9] at hb
    unfold dJ at hD
    rw [c9] at hD
    exact Ik.v7 hr hbn hn hn0 hb hargs hk ⟨n, sz, L, s, t, rfl, hy, hz, Nat.lt_succ_self _, ni hn, s1, hF, lX.set hbn hn rfl (de _ _) hD hs⟩
  · exact hs.elim
def uc (args : List AV) (H : AH) (n : Nat) (κ : PK) : Prop := match args with
  | [x, y] => ∃ (b sz : Nat) (A B D : Ck5) (p : Nat × Nat) (L : Smp) (t : Int), x = bW p ∧ mk y = .si .i64 t ∧ ua H n b sz (A ++ (p, L) :: B) ∧ 0 < sz ∧ bX L ∧ dJ sz (A ++ (p, L) :: B) D ∧ κ (.tup [.si .i64 (ij L t).1, .si .i64 (ij L t).2]) (wP H b sz D) (n + 1)
  | _ => False
theorem Iz : aF 32 uc := fun args H n κ hs φ h0' hp vs K hr hargs hk => by
  unfold uc at hs
  split at hs
  · obtain ⟨b, sz, A, B, D, p, L, t, rfl, hy, ⟨hbn, hn, hn0, hb⟩, s1, hF, hD, hs⟩ := hs
    rw [c9] at hb
    unfold dJ at hD
    rw [c9] at hD
    exact JS.v7 hr hbn hn hn0 hb hargs hk ⟨n, sz, L, t, rfl, hy, Nat.lt_succ_self _, ni hn, s1, hF, lX.same hbn hn rfl (de _ _) hD hs⟩
  · exact hs.elim
def mH (i : Smp → Nat) (args : List AV) (H : AH) (n : Nat) (κ : PK) : Prop := match args with
  | [x] => ∃ (b sz : Nat) (A B D : Ck5) (p : Nat × Nat) (L : Smp), x = bW p ∧ ua H n b sz (A ++ (p, L) :: B) ∧ 0 < sz ∧ bX L ∧ dJ sz (A ++ (p, L) :: B) D ∧ κ (FLv (i L) L) (wP H b sz D) (n + 1)
  | _ => False
theorem sL {f : FuncId} {i : Smp → Nat} (h : aF f (wH i)) : aF f (mH i) := fun args H n κ hs φ h0' hp vs K hr hargs hk => by
  unfold mH at hs
  split at hs
  · obtain ⟨b, sz, A, B, D, p, L, rfl, ⟨hbn, hn, hn0, hb⟩, s1, hF, hD, hs⟩ := hs
    rw [c9] at hb
    unfold dJ at hD
    rw [c9] at hD
    exact h.v7 hr hbn hn hn0 hb hargs hk ⟨n, sz, L, rfl, Nat.lt_succ_self _, ni hn, s1, hF, lX.same hbn hn rfl (de _ _) hD hs⟩
  · exact hs.elim
theorem D3 : aF 67 (mH fun _ => 0) := sL FP
theorem zK : aF 68 (mH fun L => L.length - 1) := sL Ix
def ue (f : Nat → Smp → AV) (args : List AV) (H : AH) (n : Nat) (κ : PK) : Prop := match args with
  | [x] => ∃ (b sz : Nat) (A B D : Ck5) (p : Nat × Nat) (L : Smp), x = bW p ∧ ua H n b sz (A ++ (p, L) :: B) ∧ dJ sz (A ++ (p, L) :: B) D ∧ κ (f sz L) (wP H b sz D) (n + 1)
  | _ => False
theorem Bt {f : FuncId} {g : Nat → Smp → AV} (h : aF f (zF g)) : aF f (ue g) := fun args H n κ hs φ h0' hp vs K hr hargs hk => by
  unfold ue at hs
  split at hs
  · obtain ⟨b, sz, A, B, D, p, L, rfl, ⟨hbn, hn, hn0, hb⟩, hD, hs⟩ := hs
    rw [c9] at hb
    unfold dJ at hD
    rw [c9] at hD
    exact h.v7 hr hbn hn hn0 hb hargs hk ⟨n, sz, chk sz L, L, rfl, ni hn, rfl, lX.same hbn hn rfl (de _ _) hD hs⟩
  · exact hs.elim
theorem IA : aF 34 (ue It) := Bt JU
theorem pj.ro {p : Nat × Nat} {l : List AV} {h : Hp} (k : pj p l h) : jx h ⟨p.1, p.2, l.length⟩ l := by
  obtain ⟨hf, T, c, t, h1, h2, h3, h4⟩ := k
  exact ⟨c, t, (0, 0), h1, Nat.le_refl _, by show p.2 + l.length ≤ c.size; omega, fun ψ => CR.kf (ψ := Ph.no) h4 rfl hf⟩
theorem wQ {φ : Ph} {H : AH} {n : Nat} {h0 hp : Hp} {b sz : Nat} {A B : Ck5} {p : Nat × Nat} {L : Smp} (hr : HR φ H n h0 hp) (hb : H.get b = some (.sep (pk (chs sz (A ++ (p, L) :: B))))) : pj p (chk sz L) hp := by
  obtain ⟨⟨_, _, h3⟩, _⟩ := hr.sep b _ hb
  rw [c9] at h3
  exact (h3 (p, chk sz L) (by simp)).2
def lp (f : Nat → Smp → AV) (args : List AV) (H : AH) (n : Nat) (κ : PK) : Prop := match args with
  | [x] => ∃ (b sz : Nat) (A B : Ck5) (p : Nat × Nat) (L : Smp), x = bW p ∧ H.get b = some (.sep (pk (chs sz (A ++ (p, L) :: B)))) ∧ κ (f sz L) H n
  | _ => False
theorem uf (f : Nat → Smp → AV) : iW (lp f) := .pure fun args H n κ hs => by
  unfold lp at *
  split at hs
  · obtain ⟨b, sz, A, B, p, L, h1, h2, h3⟩ := hs
    exact ⟨_, h3, fun κ' h => ⟨b, sz, A, B, p, L, h1, h2, h⟩⟩
  · exact hs.elim
theorem Bu {f : FuncId} {g : Nat → Smp → AV} (hic : aj Try.prog f = true) (hg : ∀ size L, flat.flat1 (g size L) = true) (hrun : ∀ size L, az evP 3 f [.ptr 0 0] (mkH [(0, .ro (chk size L))]) 1 fun u _ _ => mkT u = mkT (g size L)) (hm : ∀ size L, mkT (g size L) = g size L) : aF f (lp g) := fun args H n κ hs φ h0' hp vs K hr hargs hk => by
  unfold lp at hs
  split at hs
  · obtain ⟨x, rfl, e1⟩ := vs1 hargs
    obtain ⟨b, sz, A, B, p, L, rfl, hb, hs⟩ := hs
    have e1 : x = oW p := e1
    subst e1
    have hro := (wQ hr hb).ro
    exact iI bd (v := g sz L) (qn (hg sz L)) (hrun sz L) (by rw [hm]; exact hs) hr hk hic (φ0 := ph1 ⟨p.1, p.2, (chk sz L).length⟩) (fun hw => HR.ro1 hw hro) (.cons (.ptr (p := ⟨p.1, p.2, (chk sz L).length⟩) (o := 0) rfl) .nil)
  · exact hs.elim
theorem ug : aF 35 (lp zG) := Bu (by kernel_rfl) (fun _ _ => rfl) (fun size L => by
  conv => whnf
  rfl) fun _ _ => rfl
def uh (args : List AV) (H : AH) (n : Nat) (κ : PK) : Prop := match args with
  | [x] => ∃ (b sz : Nat) (A B : Ck5) (p : Nat × Nat) (L : Smp), x = bW p ∧ H.get b = some (.sep (pk (chs sz (A ++ (p, L) :: B)))) ∧ 0 < sz ∧ bX L ∧ κ (.fr L.length 2 (smp L)) H n
  | _ => False
theorem IB : aF 31 uh := fun args H n κ hs φ h0' hp vs K hr hargs hk => by
  unfold uh at hs
  split at hs
  · obtain ⟨x, rfl, e1⟩ := vs1 hargs
    obtain ⟨b, sz, A, B, p, L, rfl, hb, hsz, hF, hs⟩ := hs
    have e1 : x = oW p := e1
    subst e1
    have hro := (wQ hr hb).ro
    have hL : L.length ≤ 100000 := by have := hF.2.2; omega
    exact zb yh (ba L) (aG L) (zA sz L hsz hL hF.gO) hs hr hk (by kernel_rfl) (φ0 := ⟨(ph1 ⟨p.1, p.2, (chk sz L).length⟩).f, φ.z, φ.z, fun _ _ => False⟩)
      (fun hw => hr.za (HR.ro1 hw hro) (fun b o h => by
        have hm := bN h
        simp only [List.mem_cons, List.not_mem_nil, or_false] at hm
        injection hm with h1 h2
        subst h2; rfl) (fun _ h => h)) rfl (.cons (.ptr (p := ⟨p.1, p.2, (chk sz L).length⟩) (o := 0) rfl) .nil)
  · exact hs.elim
end Go.Proofs.Ythjggjhebbdkdaa
namespace Go.Proofs.Ythjggjhebbdkdaa
open Go Go.RowKit
structure Sr where
  sz : Nat
  ret : Int
  pol : Int
  mx : Int
  fl : Int
abbrev Ps := List (Nat × Nat)
def aQ (V : Ps) : List AV := V.map bW
def pts (C : Ck5) : Ps := C.map fun c => c.1
theorem aq (C : Ck5) : (pts C).length = C.length := List.length_map _
def bO (S : Sr) (k m : Nat) : List AV := [.si .i64 (S.sz : Int), .si .i64 S.ret, .si .i64 S.pol, .si .i64 S.mx, .si .i64 S.fl, .rw k 0 m 1 0]
def bP (S : Sr) (C : Ck5) : AO := .sep (pk (chs S.sz C))
def eG (S : Sr) (V : Ps) (C : Ck5) : List AO := [.cells (bO S 1 V.length) true, .cells (aQ V) true, bP S C]
structure cZ (H : AH) (n r k q : Nat) (S : Sr) (V : Ps) (C : Ck5) : Prop where
  ne : r ≠ k ∧ r ≠ q ∧ k ≠ q
  lt : r < n ∧ k < n ∧ q < n
  hr : H.get r = some (.cells (bO S k V.length) true)
  hk : H.get k = some (.cells (aQ V) true)
  hq : H.get q = some (bP S C)
theorem bR (C : Ps) : (aQ C).length = C.length := List.length_map _
theorem qN (A B : Ps) : aQ (A ++ B) = aQ A ++ aQ B := List.map_append
theorem fF (f : Nat → Nat) (C : Ps) : dR f (aQ C) = aQ C := by
  induction C with
  | nil => rfl
  | cons c C ih =>
    show ren f (bW c) :: dR f (aQ C) = _
    rw [ih]; rfl
theorem kj (m : Nat) (C : Ps) : kF m (aQ C) = true := by
  induction C with
  | nil => rfl
  | cons c C ih =>
    show (ltV m (bW c) && kF m (aQ C)) = true
    rw [ih]; rfl
theorem ax (C : Ps) : (aQ C).map mk = aQ C := by
  unfold aQ
  rw [List.map_map]; rfl
theorem wR (C : Ps) : (aQ C).all mf = true := by
  induction C with
  | nil => rfl
  | cons c C ih => exact ih
theorem cZ.zL {H : AH} {n r k q : Nat} {S : Sr} {V : Ps} {C : Ck5} (h : cZ H n r k q S V C) : fO H n [r, k, q] (eG S V C) :=
  ⟨by simp [h.ne.1, h.ne.2.1, h.ne.2.2], rfl, fun i s o h1 h2 => by
    match i, h1, h2 with
    | 0, h1, h2 => injection h1 with h1; injection h2 with h2; subst h1 h2; exact ⟨h.lt.1, h.hr, .inr rfl⟩
    | 1, h1, h2 => injection h1 with h1; injection h2 with h2; subst h1 h2; exact ⟨h.lt.2.1, by rw [ck, fF]; exact h.hk, .inr rfl⟩
    | 2, h1, h2 => injection h1 with h1; injection h2 with h2; subst h1 h2; exact ⟨h.lt.2.2, h.hq, .inr rfl⟩⟩
noncomputable def JV (S : Sr) (V : Ps) (C : Ck5) : AH := mkH [(0, .cells (bO S 3 V.length) true), (3, .cells (aQ V) true), (2, bP S C)]
noncomputable def dS (H : AH) (n r k q : Nat) (S : Sr) (V : Ps) (C : Ck5) : AH := PM.set (some (.cells (bO S n V.length) true)) aa (PM.set none aa (PM.set (some (bP S C)) aa (PM.set (some (.cells (aQ V) true)) aa H n) q) k) r
def SP (P : AV → Sr → Ps → Ck5 → Prop) : PK := fun u H' m => ∃ S V C, P u S V C ∧ H' = JV S V C ∧ m = 4
def cf (g : List AV → AH → Nat → PK → Prop) (args : List AV) (H : AH) (n : Nat) (κ : PK) : Prop := g args H n fun u H' n' => ∃ (v : AV) (H2 : AH) (m : Nat), Cov n (mkE [(0, u)]) H' n' (mkE [(0, v)], H2, m) ∧ κ v H2 m
theorem aF.cf {f : FuncId} {g : List AV → AH → Nat → PK → Prop} (hg : aF f g) : aF f (cf g) := fun args H n κ hs φ h0 h vs K hr ha hk => hg args H n _ hs φ h0 h vs K hr ha fun ψ u H' n' w g' hle hg' hu ⟨v, H2, m, hc, hκ⟩ => by
  obtain ⟨χ, ⟨c1, c2, c3⟩, c4, c5⟩ := hc ψ h0 g' (fun _ => w) hg' (fun t a ht => by
    have := tE ht
    simp only [List.mem_cons, List.not_mem_nil, or_false] at this
    injection this with e1 e2
    subst e1 e2; exact hu)
  exact hk χ v H2 m w g' ⟨fun b p e => c1 b p (hr.dom b p e).1 (hle.b b p e), fun q hq => c2 q (hle.z q hq), fun q hq => hle.y q (c3 q hq)⟩ c4 (c5 0 v rfl) hκ
theorem dY {f : FuncId} {run : List AV → AH → Nat → PK → Prop} (hrun : aF f run) (hic : aj Try.prog f = true) {ar0 : List AV} {S : Sr} {V : Ps} {C : Ck5} {P : AV → Sr → Ps → Ck5 → Prop} (h : cf run (.ptr 0 0 :: ar0) (mkH (eu (eG S V C) 0)) 3 (SP P)) (har : ∀ r, dR r ar0 = ar0)
    {φ : Ph} {H : AH} {n : Nat} {h0 hp : Hp} {vs : Array Value} {κ : PK} {K : KH} {r k q : Nat} (hr : HR φ H n h0 hp) (hR : cZ H n r k q S V C) (hargs : VRs φ (.ptr r 0 :: ar0) vs.toList) (hk : bV φ h0 κ K) (hP : ∀ u S' V' C', P u S' V' C' → (∀ f, ren f u = u) ∧ ltV 4 u = true) (hs : ∀ u S' V' C', P u S' V' C' → κ u (dS H n r k q S' V' C') (n + 1)) : cL Try.prog f vs hp K := by
  refine cw (S := [r, k, q]) (O := eG S V C) (args0 := .ptr 0 0 :: ar0) (aF.cf hrun) hic hr hR.zL (by show VRs φ (ren _ _ :: dR _ ar0) vs.toList; rw [har]; exact hargs) hk h fun u H' n' ⟨S', V', C', g0, g1, g2⟩ => ?_
  subst g1 g2
  obtain ⟨hren, hlt⟩ := hP u S' V' C' g0
  refine ⟨4, iP [r, k, q] n H [(0, some (.cells (bO S' 3 V'.length) true)), (1, none), (2, some (bP S' C')), (3, some (.cells (aQ V') true))], Nat.le_of_ble_eq_true rfl, cG.put (Nat.le_of_ble_eq_true rfl) rfl (fun x hx o ho => ?_), hlt, ?_⟩
  · simp only [List.mem_cons, List.not_mem_nil, or_false] at hx
    rcases hx with rfl | rfl | rfl | rfl
    · injection ho with ho; subst ho; exact ⟨rfl, rfl, rfl⟩
    · cases ho
    · injection ho with ho; subst ho; exact ⟨rfl, rfl, rfl⟩
    · injection ho with ho; subst ho; exact ⟨rfl, rfl, kj _ _⟩
  · have e : iP [r, k, q] n H [(0, some (.cells (bO S' 3 V'.length) true)), (1, none), (2, some (bP S' C')), (3, some (.cells (aQ V') true))] = dS H n r k q S' V' C' := by
      simp only [iP, Option.map_some, Option.map_none, ck, fF]
      rfl
    rw [hren _, e]; exact hs u S' V' C' g0
theorem VTo.mk5 {u v : AV} (h : mk u = v) : VTo u v := fun φ w hw => h ▸ hw.mk
theorem aO.aQ {H : AH} {m : Nat} {r : Nat → Nat} {l : List AV} {C : Ps} (h : l.map Go.Proofs.Ythjggjhebbdkdaa.mk = Go.Proofs.Ythjggjhebbdkdaa.aQ C) : aO H m r (.cells l true) (.cells (Go.Proofs.Ythjggjhebbdkdaa.aQ C) true) :=
  aO.cells (by have := congrArg List.length h; simp only [List.length_map] at this; omega) (fun q => q) fun i a' hi => by
    rw [← h, List.getElem?_map] at hi
    cases hl : l[i]? with
    | none => rw [hl] at hi; cases hi
    | some a =>
      rw [hl] at hi
      injection hi with hi
      have hi2 : (Go.Proofs.Ythjggjhebbdkdaa.aQ C)[i]? = some a' := by rw [← h, List.getElem?_map, hl]; exact congrArg some hi
      unfold Go.Proofs.Ythjggjhebbdkdaa.aQ at hi2
      rw [List.getElem?_map] at hi2
      cases hc : C[i]? with
      | none => rw [hc] at hi2; cases hi2
      | some c =>
        rw [hc] at hi2
        injection hi2 with hi2
        refine ⟨a, rfl, fun φ ψ v _ _ hv => ?_⟩
        have h1 : VR φ a' v := hi ▸ hv.mk
        rw [← hi2] at h1 ⊢
        exact h1
theorem aO.sep {H : AH} {m : Nat} {r : Nat → Nat} (Q : HP) : aO H m r (.sep Q) (.sep Q) := ⟨⟨rfl, rfl⟩, fun _ _ _ _ _ _ h => h.elim⟩
noncomputable def qO (le : List (Nat × AV)) (S : Sr) (V : Ps) (C : Ck5) : AE × AH × Nat := (mkE le, mkH [(0, .cells (bO S 3 V.length) true), (3, .cells (aQ V) true), (2, bP S C)], 4)
def ui (j1 : Nat) : Nat → Nat := fun b => if b = 3 then j1 else b
theorem df {C : Ck5} {i : Nat} (h : i < C.length) : C.take i ++ (C[i].1, C[i].2) :: C.drop (i + 1) = C := by
  show C.take i ++ C[i] :: C.drop (i + 1) = C
  rw [← List.drop_eq_getElem_cons h, List.take_append_drop]
theorem gG {H : AH} {n : Nat} {S : Sr} {C : Ck5} {i : Nat} (h : i < C.length) (hq : PM.get H 2 = some (bP S C)) (hn : 2 < n) (hl : n < 1000000) (h0 : PM.get H n = none) : ua H n 2 S.sz (C.take i ++ (C[i].1, C[i].2) :: C.drop (i + 1)) := ⟨hn, hl, h0, by rw [df h]; exact hq⟩
theorem gz {sz : Nat} {C : Ck5} {i : Nat} (h : i < C.length) : dJ sz (C.take i ++ (C[i].1, C[i].2) :: C.drop (i + 1)) C := by rw [df h]; exact .refl _ _
theorem aO.bO {H : AH} {m : Nat} {r : Nat → Nat} {S : Sr} {k m' : Nat} {a0 a1 a2 a3 a4 a5 : AV} (h0 : mk a0 = .si .i64 (S.sz : Int)) (h1 : mk a1 = .si .i64 S.ret) (h2 : mk a2 = .si .i64 S.pol) (h3 : mk a3 = .si .i64 S.mx) (h4 : mk a4 = .si .i64 S.fl) (h5 : ae H m r a5 (.rw k 0 m' 1 0)) : aO H m r (.cells [a0, a1, a2, a3, a4, a5] true) (.cells (Go.Proofs.Ythjggjhebbdkdaa.bO S k m') true) :=
  aO.cells (Nat.le_refl _) (fun q => q) fun i a' hi => by
    match i, hi with
    | 0, hi => injection hi with hi; subst hi; exact ⟨_, rfl, ae.int h0⟩
    | 1, hi => injection hi with hi; subst hi; exact ⟨_, rfl, ae.int h1⟩
    | 2, hi => injection hi with hi; subst hi; exact ⟨_, rfl, ae.int h2⟩
    | 3, hi => injection hi with hi; subst hi; exact ⟨_, rfl, ae.int h3⟩
    | 4, hi => injection hi with hi; subst hi; exact ⟨_, rfl, ae.int h4⟩
    | 5, hi => injection hi with hi; subst hi; exact ⟨_, rfl, h5⟩
    | i + 6, hi => simp [Go.Proofs.Ythjggjhebbdkdaa.bO] at hi
theorem kz {p : Nat} {σ : AE} {H : AH} {n : Nat} {S : Sr} {V : Ps} {C : Ck5} (j1 : Nat) {le : List (Nat × AV)} {a0 a1 a2 a3 a4 a5 : AV} {l : List AV} (hp : p ≤ 3) (he : ∀ x ∈ le, ae H 4 (ui j1) (ay (pa x.1) σ) x.2) (hj : j1 ≠ 0 ∧ j1 ≠ 2)
    (hc : PM.get H 0 = some (.cells [a0, a1, a2, a3, a4, a5] true)) (h0 : mk a0 = .si .i64 (S.sz : Int)) (h1 : mk a1 = .si .i64 S.ret) (h2 : mk a2 = .si .i64 S.pol) (h3 : mk a3 = .si .i64 S.mx) (h4 : mk a4 = .si .i64 S.fl) (h5 : ae H 4 (ui j1) a5 (.rw 3 0 V.length 1 0))
    (hl : PM.get H j1 = some (.cells l true)) (hl2 : l.map mk = aQ V) (hq : PM.get H 2 = some (bP S C)) : Cov p σ H n (qO le S V C) := by
  refine Cov.ofR (m := 4) (p := p) (ui j1) (by omega) (fun b hb => by unfold ui; rw [if_neg (by omega)]) he ?_ ?_
  · intro x hx
    simp only [List.mem_cons, List.not_mem_nil, or_false] at hx
    rcases hx with rfl | rfl | rfl
    · exact ⟨Nat.le_of_ble_eq_true rfl, .inl ⟨_, hc, aO.bO h0 h1 h2 h3 h4 h5⟩⟩
    · exact ⟨Nat.le_of_ble_eq_true rfl, .inl ⟨_, hl, aO.aQ hl2⟩⟩
    · exact ⟨Nat.le_of_ble_eq_true rfl, .inl ⟨_, hq, aO.sep _⟩⟩
  · intro x hx y hy e
    simp only [List.mem_cons, List.not_mem_nil, or_false] at hx hy
    rcases hx with rfl | rfl | rfl <;> rcases hy with rfl | rfl | rfl
    · rfl
    · exact absurd (show 0 = j1 from e) (by omega)
    · exact absurd (show 0 = 2 from e) (by omega)
    · exact absurd (show j1 = 0 from e) (by omega)
    · rfl
    · exact absurd (show j1 = 2 from e) (by omega)
    · exact absurd (show 2 = 0 from e) (by omega)
    · exact absurd (show 2 = j1 from e) (by omega)
    · rfl
theorem dM {u v : AV} {H : AH} {n : Nat} {S : Sr} {V : Ps} {C : Ck5} (P : AV → Sr → Ps → Ck5 → Prop) (hP : P v S V C) (hu : VTo u v) (hv : ∀ φ ψ w, VR φ v w → VR ψ v w) (j1 : Nat) {a0 a1 a2 a3 a4 a5 : AV} {l : List AV} (hj : j1 ≠ 0 ∧ j1 ≠ 2)
    (hc : PM.get H 0 = some (.cells [a0, a1, a2, a3, a4, a5] true)) (h0 : mk a0 = .si .i64 (S.sz : Int)) (h1 : mk a1 = .si .i64 S.ret) (h2 : mk a2 = .si .i64 S.pol) (h3 : mk a3 = .si .i64 S.mx) (h4 : mk a4 = .si .i64 S.fl) (h5 : ae H 4 (ui j1) a5 (.rw 3 0 V.length 1 0))
    (hl : PM.get H j1 = some (.cells l true)) (hl2 : l.map mk = aQ V) (hq : PM.get H 2 = some (bP S C)) : ∃ (v2 : AV) (H2 : AH) (m : Nat), Cov 3 (mkE [(0, u)]) H n (mkE [(0, v2)], H2, m) ∧ SP P v2 H2 m := by
  refine ⟨v, JV S V C, 4, kz (le := [(0, v)]) j1 (Nat.le_refl _) (fun x hx => ?_) hj hc h0 h1 h2 h3 h4 h5 hl hl2 hq, S, V, C, hP, rfl, rfl⟩
  simp only [List.mem_cons, List.not_mem_nil, or_false] at hx
  subst hx
  exact fun φ ψ w hr _ hw => hv φ ψ w (hu φ w hw)
end Go.Proofs.Ythjggjhebbdkdaa
namespace Go.Proofs.Ythjggjhebbdkdaa
open Go Go.RowKit
structure Okc (S : Sr) (C : Ck5) : Prop where
  lo : 128 ≤ S.sz
  hi : S.sz ≤ 4096
  bS : ∀ c ∈ C, bX c.2
  few : C.length ≤ 100000
def cnt (C : Ck5) : List Smp := C.map fun c => c.2
theorem eT (C : Ck5) : (cnt C).length = C.length := List.length_map _
theorem zM {C : Ck5} {i : Nat} (h : i < C.length) : (cnt C)[i]'(by rw [eT]; exact h) = C[i].2 := by simp [cnt]
theorem cH {C : Ck5} {i k : Nat} (h : i < C.length) (hk : k = i) : nth (aQ (pts C)) k = some (bW C[i].1) := by
  rw [hk, ep]
  simp [aQ, pts, h]
def cR : List Smp → Int → Nat
  | _ :: M :: D, t => if t < tAt M 0 then 0 else cR (M :: D) t + 1
  | _, _ => 0
theorem qQ {D : List Smp} {i : Nat} {t : Int} (h : i + 1 < D.length) : cR (D.drop i) t = if t < tAt D[i + 1] 0 then 0 else cR (D.drop (i + 1)) t + 1 := by
  rw [List.drop_eq_getElem_cons (show i < D.length by omega), List.drop_eq_getElem_cons h]
  rfl
theorem oN {D : List Smp} {t : Int} (h : D.length ≤ 1) : cR D t = 0 := by
  match D, h with
  | [], _ => rfl
  | [_], _ => rfl
  | _ :: _ :: _, h => simp at h
theorem qR : ∀ {D : List Smp} (t : Int), D ≠ [] → cR D t < D.length
  | [], _, h => absurd rfl h
  | [_], _, _ => Nat.zero_lt_one
  | _ :: M :: D, t, _ => by
    have := qR (D := M :: D) t (by simp)
    unfold cR
    split
    · simp
    · simp only [List.length_cons] at this ⊢; omega
noncomputable def KHm : FuncId → EP := bK 56 [] (a9 67 (mH fun _ => 0) evP)
theorem D4 : bG KHm := aL (aw bd D3) (by kernel_rfl) (by kernel_rfl)
def HmP (S0 : Sr) (C0 : Ck5) (t : Int) : AV → Sr → Ps → Ck5 → Prop := fun u S V C => u = .si .i64 ((cR (cnt C0) t : Nat) : Int) ∧ S = S0 ∧ V = pts C0 ∧ C = C0
theorem VR.c6 {k : IntKind} {x : Int} : ∀ φ ψ w, VR φ (.si k x) w → VR ψ (.si k x) w := fun _ _ _ h => h
theorem D5 (S : Sr) (C : Ck5) (t : Int) (hO : Okc S C) : cf (az KHm 5 56) [.ptr 0 0, .si .i64 t] (mkH (eu (eG S (pts C) C) 0)) 3 (SP (HmP S C t)) := by
  have hl := hO.few
  have hlo := hO.lo
  show az KHm 5 _ _ _ _ _
  conv => whnf
  refine bg.mk { i : Nat // (i < C.length ∨ i = 0) ∧ cR (cnt C) t = i + cR ((cnt C).drop i) t } 4 (fun i => ((qO [(0, .ptr 0 0), (1, .si .i64 t), (5, .si .i64 (i.val : Int))] S (pts C) C).1, (qO [(0, .ptr 0 0), (1, .si .i64 t), (5, .si .i64 (i.val : Int))] S (pts C) C).2.1)) (fun i => C.length - i.val) ⟨0, .inr rfl, by simp⟩ ?_ ?_
  focus
    exact kz 1 (le := [(0, .ptr 0 0), (1, .si .i64 t), (5, .si .i64 ((0 : Nat) : Int))]) (Nat.le_refl 3) (fun x hx => by
      simp only [List.mem_cons, List.not_mem_nil, or_false] at hx
      rcases hx with rfl | rfl | rfl
      · exact ae.ptr (Nat.le_of_ble_eq_true rfl) rfl
      · exact ae.int rfl
      · exact ae.int rfl) ⟨by decide, by decide⟩ rfl rfl rfl rfl rfl rfl (ae.rw (Nat.le_of_ble_eq_true rfl) rfl) rfl (ax _) rfl
  intro ⟨i, hi, hI⟩
  have hw : IntKind.i64.wrap ((i : Int) + 1) = ((i + 1 : Nat) : Int) := by rw [al (by omega) (by omega)]; omega
  conv => whnf
  refine ag.dec (fun h => ?_) (fun h => ?_)
  focus
    have h2 : i + 1 < C.length := by
      have h : IntKind.i64.wrap ((i : Int) + 1) < ((pts C).length : Int) := h
      rw [hw, aq] at h; omega
    have h3 : i + 1 < (cnt C).length := by rw [eT]; exact h2
    have hst := qQ (t := t) h3
    rw [zM h2] at hst
    conv => whnf
    refine Idx.mk (i + 1) hw (by rw [aq]; exact h2) ?_
    conv => whnf
    refine ao (cH h2 (show 0 + (i + 1) * 1 = i + 1 by omega)) ?_
    conv => whnf
    refine ⟨2, S.sz, C.take (i + 1), C.drop (i + 1 + 1), C, C[i + 1].1, C[i + 1].2, rfl, gG h2 rfl (by decide) (by decide) rfl, by omega, hO.bS _ (List.getElem_mem h2), gz h2, ?_⟩
    conv => whnf
    refine ag.dec (fun g => ?_) (fun g => ?_)
    focus
      have he : i = cR (cnt C) t := by rw [hI, hst, if_pos g]; rfl
      conv => whnf
      exact dM (HmP S C t) ⟨rfl, rfl, rfl, rfl⟩ (VTo.mk5 (congrArg (fun q : Nat => AV.si .i64 (q : Int)) he)) VR.c6 3 ⟨by decide, by decide⟩ rfl rfl rfl rfl rfl rfl (ae.rw (Nat.le_of_ble_eq_true rfl) rfl) rfl (ax _) rfl
    have he : cR (cnt C) t = (i + 1) + cR ((cnt C).drop (i + 1)) t := by rw [hI, hst, if_neg g]; omega
    conv => whnf
    exact ⟨⟨i + 1, .inl h2, he⟩, by show C.length - (i + 1) < C.length - i; omega, kz 3 (le := [(0, .ptr 0 0), (1, .si .i64 t), (5, .si .i64 ((i + 1 : Nat) : Int))]) (Nat.le_refl 3) (fun x hx => by
      simp only [List.mem_cons, List.not_mem_nil, or_false] at hx
      rcases hx with rfl | rfl | rfl
      · exact ae.ptr (Nat.le_of_ble_eq_true rfl) rfl
      · exact ae.int rfl
      · exact ae.int (congrArg (AV.si .i64) hw)) ⟨by decide, by decide⟩ rfl rfl rfl rfl rfl rfl (ae.rw (Nat.le_of_ble_eq_true rfl) rfl) rfl (ax _) rfl⟩
  have he : i = cR (cnt C) t := by
    have h2 : ¬ i + 1 < C.length := fun q => h (by
      show IntKind.i64.wrap ((i : Int) + 1) < ((pts C).length : Int)
      rw [hw, aq]; omega)
    rw [hI, oN (D := (cnt C).drop i) (by rw [List.length_drop, eT]; omega)]; rfl
  conv => whnf
  exact dM (HmP S C t) ⟨rfl, rfl, rfl, rfl⟩ (VTo.mk5 (congrArg (fun q : Nat => AV.si .i64 (q : Int)) he)) VR.c6 3 ⟨by decide, by decide⟩ rfl rfl rfl rfl rfl rfl (ae.rw (Nat.le_of_ble_eq_true rfl) rfl) rfl (ax _) rfl
def uj (args : List AV) (H : AH) (n : Nat) (κ : PK) : Prop := match args with
  | [x, y] => ∃ (r k q : Nat) (S : Sr) (C : Ck5) (t : Int) (h : Nat), x = .ptr r 0 ∧ mk y = .si .i64 t ∧ cZ H n r k q S (pts C) C ∧ Okc S C ∧ cR (cnt C) t = h ∧ κ (.si .i64 (h : Int)) (dS H n r k q S (pts C) C) (n + 1)
  | _ => False
theorem IC : aF 56 uj := fun args H n κ hs φ h0' hp vs K hr hargs hk => by
  unfold uj at hs
  split at hs
  · obtain ⟨w1, us1, q1, e1, r1⟩ := hargs.cons_inv
    obtain ⟨w2, us2, q2, e2, r2⟩ := r1.cons_inv
    obtain ⟨r, k, q, S, C, t, h, rfl, hy, hR, hO, hh, hs⟩ := hs
    subst hh
    refine dY (aB D4 5 _) (by kernel_rfl) (D5 S C t hO) (fun _ => rfl) hr hR (by rw [q1, q2]; exact .cons e1 (.cons (aA rfl (hy ▸ e2.mk)) r2)) hk (fun u S' V' C' ⟨g, _⟩ => by subst g; exact ⟨fun _ => rfl, rfl⟩) fun u S' V' C' ⟨g1, g2, g3, g4⟩ => ?_
    subst g1 g2 g3 g4; exact hs
  · exact hs.elim
noncomputable def KIn : FuncId → EP := bK 76 [] evP
theorem ID : bG KIn := aL bd (by kernel_rfl) (by kernel_rfl)
def InP (S0 : Sr) (V1 : Ps) (C0 : Ck5) : AV → Sr → Ps → Ck5 → Prop := fun u S V C => u = .tup [] ∧ S = S0 ∧ V = V1 ∧ C = C0
theorem Bv : RTy 76 76 1 8 := ⟨_, _, _, rfl, rfl, (fun q h => by cases h), rfl, rfl, rfl, rfl, by decide, by decide⟩
theorem sM (V : Ps) (i : Nat) : (aQ V).take i = aQ (V.take i) := by simp [aQ, List.map_take]
theorem sN (V : Ps) (i : Nat) : (aQ V).drop i = aQ (V.drop i) := by simp [aQ, List.map_drop]
theorem yn (S : Sr) (V : Ps) (C : Ck5) (i : Nat) (p : Nat × Nat) (hi : i ≤ V.length) (hV : V.length ≤ 200000) : cf (az KIn 5 76) [.ptr 0 0, .si .i64 (i : Int), bW p] (mkH (eu (eG S V C) 0)) 3 (SP (InP S (V.take i ++ p :: V.drop i) C)) := by
  show az KIn 5 _ _ _ _ _
  have e1 : aQ (V.take i) ++ [bW p] = aQ (V.take i ++ [p]) := by simp [aQ]
  have hli : (V.take i).length = i := by rw [List.length_take]; omega
  have s1 : bu (aQ V) 0 (i * 1) = some (aQ (V.take i)) := by
    unfold bu
    rw [Nat.ble_eq_true_of_le (by rw [bR]; omega), List.drop_zero, Nat.mul_one, sM]
  have s2 : bu (aQ V) (0 + i * 1) ((V.length - i) * 1) = some (aQ (V.drop i)) := by
    unfold bu
    rw [Nat.ble_eq_true_of_le (by rw [bR]; omega), show 0 + i * 1 = i by omega, sN, Nat.mul_one, List.take_of_length_le (by rw [bR, List.length_drop]; exact Nat.le_refl _)]
  have hlen : i + 1 + (V.length - i) = (V.take i ++ p :: V.drop i).length := by rw [List.length_append, List.length_cons, List.length_drop, hli]; omega
  conv => whnf
  refine RSl.mk 0 i rfl rfl (.inr ⟨rfl, rfl⟩) (Nat.zero_le _) hi ?_
  conv => whnf
  refine fk.exact 1 8 1 1 0 i [bW p] (aQ (V.take i)) rfl Bv (.old rfl) rfl rfl (by decide) (.rw (.inr ⟨_, rfl⟩) s1) (by omega) ?_
  conv => whnf
  refine RSl.mk i V.length rfl rfl (.inl rfl) hi (Nat.le_refl _) ?_
  conv => whnf
  refine fk.grow 1 8 (V.length - i) (i + 1) (aQ (V.drop i)) (aQ (V.take i) ++ [bW p]) _ true Bv (.rw (.inr ⟨_, rfl⟩) s2) (by rw [bR, List.length_drop, Nat.mul_one]) (wR _) (.rw rfl (cD (by rw [List.length_append, bR, hli, Nat.mul_one]; rfl))) (by omega) ?_
  conv => whnf
  exact dM (InP S (V.take i ++ p :: V.drop i) C) ⟨rfl, rfl, rfl, rfl⟩ (VTo.mk5 rfl) (fun φ ψ w h => fw rfl h) 5 ⟨by decide, by decide⟩ rfl rfl rfl rfl rfl rfl (ae.rw (Nat.le_of_ble_eq_true rfl) (congrArg (fun q => AV.rw 5 0 q 1 0) hlen)) rfl (by rw [List.map_append, List.map_append, ax, ax]; simp [aQ]; rfl) rfl
def uk (args : List AV) (H : AH) (n : Nat) (κ : PK) : Prop := match args with
  | [x, y, z] => ∃ (r k q i : Nat) (S : Sr) (V V' : Ps) (C : Ck5) (p : Nat × Nat), x = .ptr r 0 ∧ mk y = .si .i64 (i : Int) ∧ z = bW p ∧ cZ H n r k q S V C ∧ i ≤ V.length ∧ V.length ≤ 200000 ∧ V.take i ++ p :: V.drop i = V' ∧ κ (.tup []) (dS H n r k q S V' C) (n + 1)
  | _ => False
theorem wS : aF 76 uk := fun args H n κ hs φ h0' hp vs K hr hargs hk => by
  unfold uk at hs
  split at hs
  · obtain ⟨w1, us1, q1, e1, r1⟩ := hargs.cons_inv
    obtain ⟨w2, us2, q2, e2, r2⟩ := r1.cons_inv
    obtain ⟨w3, us3, q3, e3, r3⟩ := r2.cons_inv
    obtain ⟨r, k, q, i, S, V, V', C, p, rfl, hy, rfl, hR, hi, hV, hV', hs⟩ := hs
    subst hV'
    refine dY (aB ID 5 _) (by kernel_rfl) (yn S V C i p hi hV) (fun _ => rfl) hr hR (by rw [q1, q2, q3]; exact .cons e1 (.cons (aA rfl (hy ▸ e2.mk)) (.cons e3 r3))) hk (fun u S' V' C' ⟨g, _⟩ => by subst g; exact ⟨fun _ => rfl, rfl⟩) fun u S' V' C' ⟨g1, g2, g3, g4⟩ => ?_
    subst g1 g2 g3 g4; exact hs
  · exact hs.elim
end Go.Proofs.Ythjggjhebbdkdaa
namespace Go.Proofs.Ythjggjhebbdkdaa
open Go Go.RowKit
theorem PM.gne {α : Type} {v : Option α} {t : PM α} {n m : Nat} {x : α} (hn : n < 1000000) (hm : m ≠ n) (h : t.get m = some x) : (PM.set v aa t n).get m = some x := PM.aC aa _ _ _ (aD hn) hm h
theorem PM.geq {α : Type} {v : Option α} {t : PM α} {n : Nat} (hn : n < 1000000) : (PM.set v aa t n).get n = v := PM.bp aa _ _ (aD hn)
theorem VR.D6 {φ : Ph} {b : Nat} {w : Value} (h : VR φ (.ptr b 0) w) : ∃ q T, φ b = some ⟨Prod.fst q, Prod.snd q, T⟩ ∧ w = oW q := by
  obtain ⟨P, h1, h2⟩ := h.ct
  exact ⟨(P.B, P.s), P.T, h1, h2⟩
def lJ (args : List AV) (H : AH) (n : Nat) (κ : PK) : Prop := match args with
  | [x] => ∃ (b sz : Nat) (A B : Ck5) (p : Nat × Nat) (L : Smp) (D : Nat × Nat → Ck5), x = bW p ∧ ua H n b sz (A ++ (p, L) :: B) ∧ H.get (n + 1) = none ∧ n + 1 < 1000000 ∧ 0 < sz ∧ bX L ∧ 2 ≤ L.length ∧
      ∀ q, dJ sz (A ++ (p, L.take (bH L)) :: (q, L.drop (bH L)) :: B) (D q) ∧ κ (.tup [bW q, .int .i64 0]) (wP H b sz (D q)) (n + 2)
  | _ => False
theorem wT : aF 40 lJ := fun args H n κ hs φ h0' hp vs K hr hargs hk => by
  unfold lJ at hs
  split at hs
  · obtain ⟨b, sz, A, B, p, L, D, rfl, ⟨hbn, hn, hn0, hb⟩, hn1, hn2, s1, hF, h2, hs⟩ := hs
    rw [c9] at hb
    obtain ⟨w1, us1, q1, e1, r1⟩ := hargs.cons_inv
    have e1 : w1 = oW p := e1
    subst e1
    obtain ⟨ψ, T, hle, hψ, hr2⟩ := hr.zf hbn hb
    refine FO [.ptr n 0] (opn H n b (chs sz A) (chs sz B) (chk sz L)) (n + 1) (fun v H2 n2 => v = .tup [.ptr (n + 1) 0, .int .i64 0] ∧ H2 = ((opn H n b (chs sz A) (chs sz B) (chk sz L)).set (some (.cells (chk sz (L.drop (bH L))) true)) aa (n + 1)).set (some (.cells (chk sz (L.take (bH L))) true)) aa n ∧ n2 = n + 2)
      ⟨n, sz, L, rfl, Nat.lt_succ_self _, ni hn, s1, hF, fun q => by omega, fun _ => ⟨rfl, rfl, rfl⟩⟩ ψ h0' hp vs K hr2 (by rw [q1]; exact .cons (VR.mz hψ) (VRs.mono hle _ _ r1)) fun χ v H2 n2 u g hle2 hg hu ⟨g1, g2, g3⟩ => ?_
    subst g1 g2 g3
    obtain ⟨cs, rfl, hcs⟩ := hu.dt
    obtain ⟨w1, us, q2, f1, f2⟩ := hcs.cons_inv
    obtain ⟨q, T', hq1, hq2⟩ := f1.D6
    subst hq2
    have gb : (((opn H n b (chs sz A) (chs sz B) (chk sz L)).set (some (.cells (chk sz (L.drop (bH L))) true)) aa (n + 1)).set (some (.cells (chk sz (L.take (bH L))) true)) aa n).get b = some (.sep (pk (chs sz A ++ chs sz B))) :=
      PM.gne hn (by omega) (PM.gne hn2 (by omega) (vZ hbn hn))
    have gn1 : (((opn H n b (chs sz A) (chs sz B) (chk sz L)).set (some (.cells (chk sz (L.drop (bH L))) true)) aa (n + 1)).set (some (.cells (chk sz (L.take (bH L))) true)) aa n).get (n + 1) = some (.cells (chk sz (L.drop (bH L))) true) :=
      PM.gne hn (by omega) (PM.geq hn2)
    have gn : (((opn H n b (chs sz A) (chs sz B) (chk sz L)).set (some (.cells (chk sz (L.drop (bH L))) true)) aa (n + 1)).set (some (.cells (chk sz (L.take (bH L))) true)) aa n).get n = some (.cells (chk sz (L.take (bH L))) true) := PM.geq hn
    generalize hG : ((opn H n b (chs sz A) (chs sz B) (chk sz L)).set (some (.cells (chk sz (L.drop (bH L))) true)) aa (n + 1)).set (some (.cells (chk sz (L.take (bH L))) true)) aa n = G at *
    obtain ⟨ω1, _, l1, f1', hr3⟩ := hg.n6 (m := n + 1) (by omega) gb gn1 hq1 rfl (de _ _)
    have hψ2 : ω1 n = some ⟨p.1, p.2, T⟩ := l1.b _ _ (hle2.b _ _ hψ)
    obtain ⟨ω2, _, l2, _, hr4⟩ := hr3.n6 (m := n) (A := chs sz A) (B := (q, chk sz (L.drop (bH L))) :: chs sz B) (by omega) (PM.geq (by omega)) (PM.gne (by omega) (by omega) (PM.gne hn2 (by omega) gn)) hψ2 rfl (de _ _)
    obtain ⟨hD, hκ⟩ := hs q
    unfold dJ at hD
    rw [c9] at hD
    have hr5 := hr4.zg (Q' := pk (chs sz (D q))) (PM.geq (by omega)) hD
    refine hk ω2 _ _ _ _ g (((hle.trans hle2).trans l1).trans l2) (hr5.less fun x o hx => ?_) (.tup (by rw [q2]; exact .cons rfl (VRs.mono (l1.trans l2) _ _ f2))) hκ
    rcases PM.ak aa H b x o hx with ⟨rfl, h2⟩ | ⟨h1, h2⟩
    · rw [PM.geq (by omega)]; exact h2
    · have x1 : x ≠ n := fun e => by subst e; rw [hn0] at h2; cases h2
      have x2 : x ≠ n + 1 := fun e => by subst e; rw [hn1] at h2; cases h2
      refine PM.gne (by omega) h1 (PM.gne (by omega) h1 (PM.gne hn x1 (PM.gne (by omega) h1 (PM.gne hn2 x2 ?_))))
      rw [← hG]
      exact PM.gne hn x1 (PM.gne hn2 x2 (sx hbn hn x1 h1 h2))
  · exact hs.elim
def qS (args : List AV) (H : AH) (n : Nat) (κ : PK) : Prop := match args with
  | [x, y] => ∃ (b sz : Nat) (A B D : Ck5) (p q : Nat × Nat) (L M : Smp), x = bW p ∧ y = bW q ∧ ua H n b sz (A ++ (p, L) :: (q, M) :: B) ∧ H.get (n + 1) = none ∧ n + 1 < 1000000 ∧ 0 < sz ∧ sz ≤ 4096 ∧ bX L ∧ bX M ∧
      dJ sz (A ++ (p, (bA sz L M).1.1) :: (q, (bA sz L M).1.2) :: B) D ∧ κ (.si .i64 (bA sz L M).2) (wP H b sz D) (n + 2)
  | _ => False
theorem FT : aF 38 qS := fun args H n κ hs φ h0' hp vs K hr hargs hk => by
  unfold qS at hs
  split at hs
  · obtain ⟨b, sz, A, B, D, p, q, L, M, rfl, rfl, ⟨hbn, hn, hn0, hb⟩, hn1, hn2, s1, s2, hF, hM, hD, hκ⟩ := hs
    rw [c9] at hb
    obtain ⟨w1, us1, q1, e1, r1⟩ := hargs.cons_inv
    obtain ⟨w2, us2, q2, e2, r2⟩ := r1.cons_inv
    have e1 : w1 = oW p := e1
    have e2 : w2 = oW q := e2
    subst e1 e2
    obtain ⟨ψ, T, hle, hψ, hr2⟩ := hr.zf hbn hb
    have hb2 : (opn H n b (chs sz A) (chs sz ((q, M) :: B)) (chk sz L)).get b = some (.sep (pk (chs sz A ++ (q, chk sz M) :: chs sz B))) := vZ hbn hn
    obtain ⟨ψ2, T2, hle', hψ2, hr3⟩ := (show HR ψ (opn H n b (chs sz A) (chs sz ((q, M) :: B)) (chk sz L)) (n + 1) h0' hp from hr2).zf (by omega) hb2
    generalize hO : opn H n b (chs sz A) (chs sz ((q, M) :: B)) (chk sz L) = O at *
    have on : O.get n = some (.cells (chk sz L) true) := hO ▸ ni hn
    have P1 : (opn O (n + 1) b (chs sz A) (chs sz B) (chk sz M)).get n = some (.cells (chk sz L) true) := sx (by omega) hn2 (by omega) (by omega) on
    have P2 : (opn O (n + 1) b (chs sz A) (chs sz B) (chk sz M)).get (n + 1) = some (.cells (chk sz M) true) := ni hn2
    have P3 : (opn O (n + 1) b (chs sz A) (chs sz B) (chk sz M)).get b = some (.sep (pk (chs sz A ++ chs sz B))) := vZ (by omega) hn2
    have hr3 : HR ψ2 (opn O (n + 1) b (chs sz A) (chs sz B) (chk sz M)) (n + 1 + 1) h0' hp := hr3
    have P4 : ∀ x o, x ≠ n → x ≠ n + 1 → x ≠ b → H.get x = some o → (opn O (n + 1) b (chs sz A) (chs sz B) (chk sz M)).get x = some o := fun x o x1 x2 x3 h => sx (by omega) hn2 x2 x3 (hO ▸ sx hbn hn x1 x3 h)
    generalize opn O (n + 1) b (chs sz A) (chs sz B) (chk sz M) = O2 at *
    refine Ir [.ptr n 0, .ptr (n + 1) 0] O2 (n + 2) (fun v H2 n2 => v = .si .i64 (bA sz L M).2 ∧ H2 = ((O2.set (some (.cells (chk sz (bA sz L M).1.2) true)) aa (n + 1)).set (some (.cells (chk sz (bA sz L M).1.1) true)) aa n) ∧ n2 = n + 2)
      ⟨n, n + 1, sz, sz, L, M, rfl, rfl, by omega, by omega, by omega, P1, P2, s1, s2, s1, hF, hM, rfl, rfl, rfl⟩ ψ2 h0' hp vs K hr3 (by rw [q1, q2]; exact .cons (VR.mz (hle'.b _ _ hψ)) (.cons (VR.mz hψ2) (VRs.mono (hle.trans hle') _ _ r2))) fun χ v H2 n2 u g hle2 hg hu ⟨g1, g2, g3⟩ => ?_
    subst g1 g2 g3
    obtain ⟨ω1, _, l1, _, hr4⟩ := hg.n6 (m := n + 1) (p := q) (T := T2) (by omega) (PM.gne hn (by omega) (PM.gne hn2 (by omega) P3)) (PM.gne hn (by omega) (PM.geq hn2)) (hle2.b _ _ hψ2) rfl (de _ _)
    obtain ⟨ω2, _, l2, _, hr5⟩ := hr4.n6 (m := n) (p := p) (T := T) (A := chs sz A) (B := (q, chk sz (bA sz L M).1.2) :: chs sz B) (by omega) (PM.geq (by omega)) (PM.gne (by omega) (by omega) (PM.gne hn2 (by omega) (PM.geq hn))) (l1.b _ _ (hle2.b _ _ (hle'.b _ _ hψ))) rfl (de _ _)
    unfold dJ at hD
    rw [c9] at hD
    have hr6 := hr5.zg (Q' := pk (chs sz D)) (PM.geq (by omega)) hD
    refine hk ω2 _ _ _ _ g ((((hle.trans hle').trans hle2).trans l1).trans l2) (hr6.less fun x o hx => ?_) (VR.mono (l1.trans l2) _ _ hu) hκ
    rcases PM.ak aa H b x o hx with ⟨rfl, h2⟩ | ⟨h1, h2⟩
    · rw [PM.geq (by omega)]; exact h2
    · have x1 : x ≠ n := fun e => by subst e; rw [hn0] at h2; cases h2
      have x2 : x ≠ n + 1 := fun e => by subst e; rw [hn1] at h2; cases h2
      exact PM.gne (by omega) h1 (PM.gne (by omega) h1 (PM.gne hn x1 (PM.gne (by omega) h1 (PM.gne hn2 x2 (PM.gne hn x1 (PM.gne hn2 x2 (P4 x o x1 x2 h1 h2)))))))
  · exact hs.elim
def FU (sz : Nat) : List AV := [.si .i64 (sz : Int), .str [], .int .i64 0, .int .i64 0]
theorem FV (sz : Nat) : (FU sz).map mk = (chk sz []).map mk := rfl
noncomputable def KNw : FuncId → EP := bK 28 [] evP
theorem IE : bG KNw := aL bd (by kernel_rfl) (by kernel_rfl)
theorem D7 (sz : Nat) (h1 : 128 ≤ sz) (h2 : sz ≤ 4096) : az KNw 3 28 [.si .i64 (sz : Int)] (mkH (eu [] 0)) 0 (fun u H' n' => u = .tup [.ptr 0 0, .int .i64 0] ∧ H' = mkH [(0, .cells (FU sz) true)] ∧ n' = 1) := by
  conv => whnf
  refine ag.dec (fun q => absurd q (by omega)) (fun _ => ?_)
  conv => whnf
  refine ag.dec (fun q => absurd q (by omega)) (fun _ => ?_)
  conv => whnf
  exact ⟨rfl, rfl, rfl⟩
def um (args : List AV) (H : AH) (n : Nat) (κ : PK) : Prop := match args with
  | [x] => ∃ (b sz : Nat) (C : Ck5) (D : Nat × Nat → Ck5), mk x = .si .i64 (sz : Int) ∧ 128 ≤ sz ∧ sz ≤ 4096 ∧ ua H n b sz C ∧ ∀ q, dJ sz (C ++ [(q, [])]) (D q) ∧ κ (.tup [bW q, .int .i64 0]) (wP H b sz (D q)) (n + 1)
  | _ => False
theorem IF : aF 28 um := fun args H n κ hs φ h0' hp vs K hr hargs hk => by
  unfold um at hs
  split at hs
  · obtain ⟨b, sz, C, D, hx, h1, h2, ⟨hbn, hn, hn0, hb⟩, hs⟩ := hs
    obtain ⟨w1, us1, q1, e1, r1⟩ := hargs.cons_inv
    refine cw (S := []) (O := []) (args0 := [.si .i64 (sz : Int)]) (κ := fun v H2 n2 => v = .tup [.ptr n 0, .int .i64 0] ∧ H2 = H.set (some (.cells (FU sz) true)) aa n ∧ n2 = n + 1) (aB IE 3 _) (by kernel_rfl) hr ⟨List.nodup_nil, rfl, fun i s o h1 h2 => by simp at h1⟩ (by rw [q1]; exact .cons (aA rfl (hx ▸ e1.mk)) r1) ?_ (D7 sz h1 h2) fun u H' n' ⟨g0, g1, g2⟩ => ?_
    · intro χ v H2 n2 u g hle hg hu ⟨g1, g2, g3⟩
      subst g1 g2 g3
      obtain ⟨cs, rfl, hcs⟩ := hu.dt
      obtain ⟨w1, us, q2, f1, f2⟩ := hcs.cons_inv
      obtain ⟨q, T', hq1, hq2⟩ := f1.D6
      subst hq2
      obtain ⟨ω1, _, l1, _, hr3⟩ := hg.n6 (m := n) (b := b) (A := chs sz C) (B := []) (p := q) (T := T') (l' := chk sz []) (by omega) (PM.gne hn (by omega) (by rw [List.append_nil]; exact hb)) (PM.geq hn) hq1 (FV sz) (de _ _)
      obtain ⟨hD, hκ⟩ := hs q
      unfold dJ at hD
      rw [c9] at hD
      have hr4 := hr3.zg (Q' := pk (chs sz (D q))) (PM.geq (by omega)) hD
      refine hk ω1 _ _ _ _ g (hle.trans l1) (hr4.less fun x o hx => ?_) (.tup (by rw [q2]; exact .cons rfl (VRs.mono l1 _ _ f2))) hκ
      rcases PM.ak aa H b x o hx with ⟨rfl, h2⟩ | ⟨h1, h2⟩
      · rw [PM.geq (by omega)]; exact h2
      · have x1 : x ≠ n := fun e => by subst e; rw [hn0] at h2; cases h2
        exact PM.gne (by omega) h1 (PM.gne (by omega) h1 (PM.gne hn x1 (PM.gne hn x1 h2)))
    · subst g0 g1 g2
      refine ⟨1, iP [] n H [(0, some (.cells (FU sz) true))], Nat.zero_le _, cG.put (Nat.zero_le _) rfl (fun x hx o ho => ?_), rfl, rfl, ?_, rfl⟩
      · simp only [List.mem_cons, List.not_mem_nil, or_false] at hx
        subst hx
        injection ho with ho; subst ho; exact ⟨rfl, rfl, rfl⟩
      · rfl
  · exact hs.elim
end Go.Proofs.Ythjggjhebbdkdaa
namespace Go.Proofs.Ythjggjhebbdkdaa
open Go Go.RowKit
def ab (C : Ck5) : Smp := (cnt C).flatten
theorem gA (A B : Ck5) : ab (A ++ B) = ab A ++ ab B := by simp [ab, cnt]
theorem bw (c : (Nat × Nat) × Smp) (B : Ck5) : ab (c :: B) = c.2 ++ ab B := by simp [ab, cnt]
theorem dg (A B : Ck5) (p : Nat × Nat) (L : Smp) : ab (A ++ (p, L) :: B) = ab A ++ (L ++ ab B) := by rw [gA, bw]
def NeT (C : Ck5) : Prop := ∀ c ∈ C.tail, c.2 ≠ []
structure Gd (S : Sr) (C : Ck5) : Prop where
  lo : 128 ≤ S.sz
  hi : S.sz ≤ 4096
  up : Up (ab C)
  ne : NeT C
  bS : ∀ c ∈ C, bX c.2
  fit : ∀ c ∈ C, (aU c.2).length ≤ 8 * S.sz
theorem qT : ∀ {C : Ck5}, (∀ c ∈ C, c.2 ≠ []) → C.length ≤ (ab C).length
  | [], _ => Nat.zero_le _
  | c :: C, h => by
    have := qT (C := C) fun d hd => h d (List.mem_cons_of_mem _ hd)
    have h1 : 0 < c.2.length := List.length_pos_iff.2 (h c (by simp))
    rw [bw, List.length_append, List.length_cons]; omega
theorem mI {C : Ck5} (h : NeT C) : C.length ≤ (ab C).length + 1 := by
  cases C with
  | nil => exact Nat.zero_le _
  | cons c C =>
    have := qT (C := C) h
    rw [bw, List.length_append, List.length_cons]; omega
theorem Gd.okc {S : Sr} {C : Ck5} (h : Gd S C) (hf : (ab C).length ≤ 90000) : Okc S C := ⟨h.lo, h.hi, h.bS, by have := mI h.ne; omega⟩
theorem Up.FX {L : Smp} (h : Up L) {x : Int × Int} (hx : x ∈ L) : tAt L 0 ≤ x.1 := by
  cases L with
  | nil => cases hx
  | cons y L =>
    show y.1 ≤ x.1
    rcases List.mem_cons.1 hx with rfl | q
    · exact Int.le_refl _
    · have := (List.pairwise_cons.1 h).1 x q; omega
theorem zN {L : Smp} (h : L ≠ []) : ∃ x ∈ L, x.1 = tAt L 0 := by
  cases L with
  | nil => exact absurd rfl h
  | cons y L => exact ⟨y, by simp, rfl⟩
theorem mJ : ∀ {C : Ck5} {t : Int}, C ≠ [] → NeT C → Up (ab C) → (∀ x ∈ ab (C.take (cR (cnt C) t)), x.1 < t) ∧ ∀ x ∈ ab (C.drop (cR (cnt C) t + 1)), t < x.1
  | [], _, h, _, _ => absurd rfl h
  | [c], t, _, _, _ => by
    have : cR (cnt [c]) t = 0 := rfl
    rw [this]
    exact ⟨fun x hx => by simp [ab, cnt] at hx, fun x hx => by simp [ab, cnt] at hx⟩
  | c :: d :: C, t, _, hn, hu => by
    have hd : d.2 ≠ [] := hn d (by simp)
    have hu' := hu
    rw [bw, Up.app] at hu'
    obtain ⟨u1, u2, u3⟩ := hu'
    have e : cR (cnt (c :: d :: C)) t = if t < tAt d.2 0 then 0 else cR (cnt (d :: C)) t + 1 := rfl
    rw [e]
    split
    · rename_i ht
      refine ⟨fun x hx => by simp [ab, cnt] at hx, fun x hx => ?_⟩
      have hx : x ∈ ab (d :: C) := hx
      have h2 : tAt (ab (d :: C)) 0 ≤ x.1 := Up.FX u2 hx
      have h3 : tAt (ab (d :: C)) 0 = tAt d.2 0 := by
        rw [bw]
        exact (jb (List.length_pos_iff.2 hd)).1
      omega
    · rename_i ht
      obtain ⟨h1, h2⟩ := mJ (C := d :: C) (t := t) (by simp) (fun x hx => hn x (show x ∈ (c :: d :: C).tail from List.mem_cons_of_mem d hx)) u2
      refine ⟨fun x hx => ?_, h2⟩
      have hx : x ∈ ab (c :: (d :: C).take (cR (cnt (d :: C)) t)) := hx
      rw [bw] at hx
      rcases List.mem_append.1 hx with q | q
      · obtain ⟨y, hy, hy2⟩ := zN hd
        have := u3 x q y (by rw [bw]; exact List.mem_append_left _ hy)
        omega
      · exact h1 x q
theorem pv {L : Smp} (h : Up L) (t v p : Int) : Up (cO L t v p).1 := by
  unfold cO
  split
  · rename_i hh
    split
    · exact h
    · exact zl h hh
  · rename_i hh
    exact zk h (by simpa using hh) v
theorem qU (L : Smp) (t v p : Int) : (cO L t v p).1.length ≤ L.length + 1 ∧ L.length ≤ (cO L t v p).1.length := by
  unfold cO
  split
  · split
    · exact ⟨Nat.le_succ _, Nat.le_refl _⟩
    · rw [nq]; exact ⟨Nat.le_succ _, Nat.le_refl _⟩
  · rw [iK]; exact ⟨Nat.le_refl _, Nat.le_succ _⟩
theorem FY {L : Smp} {t v p : Int} (h : (cO L t v p).2 = 0) : (cO L t v p).1 ≠ [] := by
  unfold cO at h ⊢
  split
  · rename_i hh
    rw [if_pos hh] at h
    split
    · rename_i q; rw [if_pos q] at h; exact absurd h q
    · intro e
      have h1 : plc L t < L.length := by unfold has at hh; exact (of_decide_eq_true hh).1
      have := congrArg List.length e
      rw [nq] at this
      simp at this
      rw [this] at h1; simp at h1
  · intro e
    have := congrArg List.length e
    rw [iK] at this
    simp at this
structure yo (S : Sr) (C C' : Ck5) (t v p e : Int) : Prop where
  gd : Gd S C'
  err : e = (cO (ab C) t v p).2
  fl : ab C' = (cO (ab C) t v p).1
  ne : C' ≠ []
theorem NeT.set {A B : Ck5} {p q : Nat × Nat} {L M : Smp} (h : NeT (A ++ (p, L) :: B)) (hM : M ≠ []) : NeT (A ++ (q, M) :: B) := by
  cases A with
  | nil => exact h
  | cons a A =>
    intro c hc
    have hc : c ∈ A ++ (q, M) :: B := hc
    have h : ∀ c ∈ A ++ (p, L) :: B, c.2 ≠ [] := h
    rcases List.mem_append.1 hc with k | k
    · exact h c (List.mem_append_left _ k)
    · rcases List.mem_cons.1 k with rfl | k
      · exact hM
      · exact h c (List.mem_append_right _ (List.mem_cons_of_mem _ k))
theorem cK {α : Type} {A B : List α} {x c : α} : c ∈ A ++ x :: B ↔ c = x ∨ c ∈ A ++ B := by
  simp only [List.mem_append, List.mem_cons]
  constructor
  · rintro (h | h | h)
    · exact .inr (.inl h)
    · exact .inl h
    · exact .inr (.inr h)
  · rintro (h | h | h)
    · exact .inr (.inl h)
    · exact .inl h
    · exact .inr (.inr h)
theorem D8 {S : Sr} {A B : Ck5} {p : Nat × Nat} {L : Smp} {t v q : Int} (hg : Gd S (A ++ (p, L) :: B)) (hA : ∀ x ∈ ab A, x.1 < t) (hB : ∀ x ∈ ab B, t < x.1) (ht : 0 ≤ t ∧ t < 1099511627776) (hv : aM v) (h2 : (di S.sz L t v q).2 ≠ 2) :
    yo S (A ++ (p, L) :: B) (A ++ (p, (di S.sz L t v q).1) :: B) t v q (di S.sz L t v q).2 := by
  have hF : bX L := hg.bS (p, L) (by simp)
  have hF2 := Bd (p := q) hg.hi hF (t := t) (v := v) hv
  have e1 := wL (M := L) v q hA hB
  rw [← dg A B p L] at e1
  rw [oc ht] at h2 hF2 ⊢
  by_cases he : (cO L t v q).2 ≠ 0
  · rw [if_pos he] at *
    refine ⟨hg, by rw [e1], ?_, by simp⟩
    rw [e1, wJ he, dg]
  · rw [if_neg he] at *
    have he0 : (cO L t v q).2 = 0 := by omega
    unfold mB at h2 hF2 ⊢
    by_cases hl : (aU (cO L t v q).1).length ≤ 8 * S.sz
    · rw [if_pos hl] at *
      have ef : ab (A ++ (p, (cO L t v q).1) :: B) = (cO (ab (A ++ (p, L) :: B)) t v q).1 := by rw [e1, dg]
      refine ⟨⟨hg.lo, hg.hi, by rw [ef]; exact pv hg.up _ _ _, hg.ne.set (FY he0), fun c hc => ?_, fun c hc => ?_⟩, by rw [e1]; exact he0.symm, ef, by simp⟩
      · rcases cK.1 hc with rfl | k
        · exact hF2
        · exact hg.bS c (cK.2 (.inr k))
      · rcases cK.1 hc with rfl | k
        · exact hl
        · exact hg.fit c (cK.2 (.inr k))
    · rw [if_neg hl] at h2; exact absurd rfl h2
theorem D9 {sz : Nat} {L : Smp} {t v q : Int} (hs : 128 ≤ sz) (ht : 0 ≤ t ∧ t < 1099511627776) (h2 : (di sz L t v q).2 = 2) : (di sz L t v q).1 = L ∧ 2 ≤ L.length := by
  rw [oc ht] at h2 ⊢
  by_cases he : (cO L t v q).2 ≠ 0
  · rw [if_pos he] at h2
    exact absurd h2 (DZ _ _ _ _)
  · rw [if_neg he] at h2 ⊢
    unfold mB at h2 ⊢
    by_cases hl : (aU (cO L t v q).1).length ≤ 8 * sz
    · rw [if_pos hl] at h2; exact absurd h2 (by simp)
    · rw [if_neg hl]
      refine ⟨rfl, ?_⟩
      rcases Nat.lt_or_ge L.length 2 with h | h
      · have := lI (L := (cO L t v q).1) (by have := (qU L t v q).1; omega)
        omega
      · exact h
theorem Up.last {L : Smp} (h : Up L) {x : Int × Int} (hx : x ∈ L) : x.1 ≤ nt L := by
  obtain ⟨i, hi, rfl⟩ := List.getElem_of_mem hx
  unfold nt
  by_cases q : i = L.length - 1
  · subst q; rw [cX (by omega)]; exact Int.le_refl _
  · have := h.lt (i := i) (j := L.length - 1) (by omega) (by omega)
    rw [cX hi] at this; omega
theorem qV {S : Sr} {A : Ck5} {p o : Nat × Nat} {L : Smp} {t v q : Int} (hg : Gd S (A ++ [(p, L)])) (hA : ∀ x ∈ ab A, x.1 < t) (hl : nt L < t) (ht : 0 ≤ t ∧ t < 1099511627776) (hv : aM v) :
    (di S.sz [] t v q) = ([(t, v)], 0) ∧ yo S (A ++ [(p, L)]) (A ++ [(p, L)] ++ [(o, [(t, v)])]) t v q 0 := by
  have e0 : cO [] t v q = ([(t, v)], 0) := rfl
  have hb : (aU [(t, v)]).length ≤ 8 * S.sz := by have := lI (L := [(t, v)]) (by simp); have := hg.lo; omega
  have hF : bX L := hg.bS (p, L) (by simp)
  have hall : ∀ x ∈ ab (A ++ [(p, L)]), x.1 < t := fun x hx => by
    rw [gA] at hx
    rcases List.mem_append.1 hx with k | k
    · exact hA x k
    · have k : x ∈ L := by simpa [ab, cnt] using k
      have := Up.last hF.1 k; omega
  have e1 := wL (A := ab (A ++ [(p, L)])) (M := []) (B := []) v q hall (fun x hx => by cases hx)
  rw [e0] at e1
  have e2 : ab (A ++ [(p, L)]) ++ ([] ++ []) = ab (A ++ [(p, L)]) := by simp
  rw [e2] at e1
  have ef : ab (A ++ [(p, L)] ++ [(o, [(t, v)])]) = (cO (ab (A ++ [(p, L)])) t v q).1 := by rw [e1, gA]; simp [ab, cnt]
  refine ⟨by rw [oc ht, e0, if_neg (by simp)]; unfold mB; rw [if_pos hb], ⟨hg.lo, hg.hi, by rw [ef]; exact pv hg.up _ _ _, ?_, fun c hc => ?_, fun c hc => ?_⟩, by rw [e1], ef, by simp⟩
  · intro c hc
    cases A with
    | nil =>
      have hc : c ∈ [(o, [(t, v)])] := hc
      simp only [List.mem_cons, List.not_mem_nil, or_false] at hc
      subst hc; simp
    | cons a A =>
      have hc : c ∈ A ++ [(p, L)] ++ [(o, [(t, v)])] := hc
      rcases List.mem_append.1 hc with k | k
      · exact hg.ne c k
      · simp only [List.mem_cons, List.not_mem_nil, or_false] at k
        subst k; simp
  · rcases List.mem_append.1 hc with k | k
    · exact hg.bS c k
    · simp only [List.mem_cons, List.not_mem_nil, or_false] at k
      subst k
      exact ⟨List.pairwise_singleton _ _, fun x hx => by simp only [List.mem_cons, List.not_mem_nil, or_false] at hx; subst hx; exact ⟨ht, hv⟩, by simp⟩
  · rcases List.mem_append.1 hc with k | k
    · exact hg.fit c k
    · simp only [List.mem_cons, List.not_mem_nil, or_false] at k
      subst k; exact hb
theorem Ea {S : Sr} {A B : Ck5} {p q : Nat × Nat} {L : Smp} (hg : Gd S (A ++ (p, L) :: B)) (h2 : 2 ≤ L.length) : Gd S (A ++ (p, L.take (bH L)) :: (q, L.drop (bH L)) :: B) ∧ ab (A ++ (p, L.take (bH L)) :: (q, L.drop (bH L)) :: B) = ab (A ++ (p, L) :: B) := by
  obtain ⟨k1, k2⟩ := tZ h2
  obtain ⟨f1, f2⟩ := D1 hg.lo h2 (hg.fit (p, L) (by simp))
  have hF : bX L := hg.bS (p, L) (by simp)
  have n1 : L.take (bH L) ≠ [] := fun e => by
    have : (L.take (bH L)).length = 0 := by rw [e]; rfl
    rw [List.length_take] at this; omega
  have n2 : L.drop (bH L) ≠ [] := fun e => by
    have : (L.drop (bH L)).length = 0 := by rw [e]; rfl
    rw [List.length_drop] at this; omega
  have ef : ab (A ++ (p, L.take (bH L)) :: (q, L.drop (bH L)) :: B) = ab (A ++ (p, L) :: B) := by
    rw [dg, dg, bw, ← List.append_assoc (L.take (bH L)), List.take_append_drop]
  have mm : ∀ c, c ∈ A ++ (p, L.take (bH L)) :: (q, L.drop (bH L)) :: B → c = (p, L.take (bH L)) ∨ c = (q, L.drop (bH L)) ∨ c ∈ A ++ B := fun c hc => by
    rcases cK.1 hc with k | k
    · exact .inl k
    · exact .inr (cK.1 k)
  refine ⟨⟨hg.lo, hg.hi, by rw [ef]; exact hg.up, ?_, fun c hc => ?_, fun c hc => ?_⟩, ef⟩
  · have h1 : NeT (A ++ (p, L.take (bH L)) :: B) := hg.ne.set n1
    intro c hc
    cases A with
    | nil =>
      have hc : c ∈ (q, L.drop (bH L)) :: B := hc
      rcases List.mem_cons.1 hc with rfl | k
      · exact n2
      · exact h1 c k
    | cons a A =>
      have hc : c ∈ A ++ (p, L.take (bH L)) :: (q, L.drop (bH L)) :: B := hc
      have h1 : ∀ c ∈ A ++ (p, L.take (bH L)) :: B, c.2 ≠ [] := h1
      rcases cK.1 hc with rfl | k
      · exact n1
      · rcases cK.1 k with rfl | k
        · exact n2
        · exact h1 c (cK.2 (.inr k))
  · rcases mm c hc with rfl | rfl | k
    · exact hF.sub (List.take_sublist _ _)
    · exact hF.sub (List.drop_sublist _ _)
    · exact hg.bS c (cK.2 (.inr k))
  · rcases mm c hc with rfl | rfl | k
    · exact f1
    · exact f2
    · exact hg.fit c (cK.2 (.inr k))
end Go.Proofs.Ythjggjhebbdkdaa
namespace Go.Proofs.Ythjggjhebbdkdaa
open Go Go.RowKit
noncomputable def wU (le : List (Nat × AV)) (S : Sr) (V : Ps) (C : Ck5) (Bx : List AV) : AE × AH × Nat := (mkE le, mkH [(0, .cells (bO S 3 V.length) true), (3, .cells (aQ V) true), (2, bP S C), (4, .cells Bx true)], 5)
def oO (j1 j4 : Nat) : Nat → Nat := fun b => if b = 3 then j1 else if b = 4 then j4 else b
theorem qW {p : Nat} {σ : AE} {H : AH} {n : Nat} {S : Sr} {V : Ps} {C : Ck5} {Bx : List AV} (j1 j4 : Nat) {le : List (Nat × AV)} {a0 a1 a2 a3 a4 a5 : AV} {l Bc : List AV} (hp : p ≤ 3) (he : ∀ x ∈ le, ae H 5 (oO j1 j4) (ay (pa x.1) σ) x.2) (hj : j1 ≠ 0 ∧ j1 ≠ 2 ∧ j1 ≠ j4) (hj4 : j4 ≠ 0 ∧ j4 ≠ 2)
    (hc : PM.get H 0 = some (.cells [a0, a1, a2, a3, a4, a5] true)) (h0 : mk a0 = .si .i64 (S.sz : Int)) (h1 : mk a1 = .si .i64 S.ret) (h2 : mk a2 = .si .i64 S.pol) (h3 : mk a3 = .si .i64 S.mx) (h4 : mk a4 = .si .i64 S.fl) (h5 : ae H 5 (oO j1 j4) a5 (.rw 3 0 V.length 1 0))
    (hl : PM.get H j1 = some (.cells l true)) (hl2 : l.map mk = aQ V) (hq : PM.get H 2 = some (bP S C)) (hb : PM.get H j4 = some (.cells Bc true)) (hb2 : Bc.map mk = Bx.map mk) (hb3 : Bx.all flat.flat1 = true) : Cov p σ H n (wU le S V C Bx) := by
  refine Cov.ofR (m := 5) (p := p) (oO j1 j4) (by omega) (fun b hb => by unfold oO; rw [if_neg (by omega), if_neg (by omega)]) he ?_ ?_
  · intro x hx
    simp only [List.mem_cons, List.not_mem_nil, or_false] at hx
    rcases hx with rfl | rfl | rfl | rfl
    · exact ⟨Nat.le_of_ble_eq_true rfl, .inl ⟨_, hc, aO.bO h0 h1 h2 h3 h4 h5⟩⟩
    · exact ⟨Nat.le_of_ble_eq_true rfl, .inl ⟨_, hl, aO.aQ hl2⟩⟩
    · exact ⟨Nat.le_of_ble_eq_true rfl, .inl ⟨_, hq, aO.sep _⟩⟩
    · exact ⟨Nat.le_of_ble_eq_true rfl, .inl ⟨_, hb, aO.bz hb3 hb2 (fun q => q)⟩⟩
  · intro x hx y hy e
    simp only [List.mem_cons, List.not_mem_nil, or_false] at hx hy
    rcases hx with rfl | rfl | rfl | rfl <;> rcases hy with rfl | rfl | rfl | rfl
    · rfl
    · exact absurd (show 0 = j1 from e) (by omega)
    · exact absurd (show 0 = 2 from e) (by omega)
    · exact absurd (show 0 = j4 from e) (by omega)
    · exact absurd (show j1 = 0 from e) (by omega)
    · rfl
    · exact absurd (show j1 = 2 from e) (by omega)
    · exact absurd (show j1 = j4 from e) (by omega)
    · exact absurd (show 2 = 0 from e) (by omega)
    · exact absurd (show 2 = j1 from e) (by omega)
    · rfl
    · exact absurd (show 2 = j4 from e) (by omega)
    · exact absurd (show j4 = 0 from e) (by omega)
    · exact absurd (show j4 = j1 from e) (by omega)
    · exact absurd (show j4 = 2 from e) (by omega)
    · rfl
theorem jc (A B : Ck5) : pts (A ++ B) = pts A ++ pts B := List.map_append
theorem FZ {C : Ck5} {i : Nat} (h : i < C.length) (M : Smp) : pts C = pts (C.take i ++ (C[i].1, M) :: C.drop (i + 1)) := by
  have e := df h
  calc pts C = pts (C.take i ++ (C[i].1, C[i].2) :: C.drop (i + 1)) := by rw [e]
    _ = _ := by rw [jc, jc]; rfl
theorem zO {C : Ck5} {i : Nat} (h : i < C.length) (o : Nat × Nat) (M N : Smp) : (pts C).take (i + 1) ++ o :: (pts C).drop (i + 1) = pts (C.take i ++ (C[i].1, M) :: (o, N) :: C.drop (i + 1)) := by
  have h1 : (pts C).take (i + 1) = pts (C.take (i + 1)) := by simp [pts, List.map_take]
  have h2 : (pts C).drop (i + 1) = pts (C.drop (i + 1)) := by simp [pts, List.map_drop]
  rw [h1, h2, List.take_add_one, List.getElem?_eq_getElem h, jc, jc]
  simp [pts]
def PtP (S0 : Sr) (C0 : Ck5) (t v q : Int) : AV → Sr → Ps → Ck5 → Prop := fun u S V C => ∃ e : Int, u = .si .i64 e ∧ S = S0 ∧ V = pts C ∧ yo S0 C0 C t v q e
noncomputable def JW : FuncId → EP := a9 56 uj (a9 76 uk (a9 28 um (a9 29 ub (a9 68 (mH fun L => L.length - 1) (a9 40 lJ evP)))))
theorem F0 : bG JW := aw (aw (aw (aw (aw (aw bd wT) zK) Iy) IF) wS) IC
noncomputable def KPt : FuncId → EP := bK 50 [(1000004, [])] JW
theorem IG : bG KPt := aL F0 (by kernel_rfl) (by kernel_rfl)
theorem Eb (S : Sr) (C : Ck5) (t v q : Int) (hg : Gd S C) (hf : (ab C).length ≤ 80000) (ht : 0 ≤ t ∧ t < 1099511627776) (hv : aM v) : cf (az KPt 5 50) [.ptr 0 0, .agg [.si .i64 t, .si .i64 v], .si .i64 q] (mkH (eu (eG S (pts C) C) 0)) 3 (SP (PtP S C t v q)) := by
  have hlo := hg.lo
  have hhi := hg.hi
  show az KPt 5 _ _ _ _ _
  conv => whnf
  refine yV.mk { C1 : Ck5 // C1 ≠ [] ∧ ab C1 = ab C ∧ Gd S C1 } 5 (fun C1 => ((wU [(0, .ptr 0 0), (2, .si .i64 q), (4, .ptr 4 0)] S (pts C1.val) C1.val [.si .i64 t, .si .i64 v]).1, (wU [(0, .ptr 0 0), (2, .si .i64 q), (4, .ptr 4 0)] S (pts C1.val) C1.val [.si .i64 t, .si .i64 v]).2.1)) ?_ ?_
  focus
    conv => whnf
    refine ag.dec (fun h => ?_) (fun h => ?_)
    focus
      have hC : C = [] := by
        have h : ((pts C).length : Int) = 0 := h
        rw [aq] at h
        exact List.eq_nil_of_length_eq_zero (by omega)
      subst hC
      conv => whnf
      refine ⟨2, S.sz, [], fun o => [(o, [])], rfl, hlo, hhi, ⟨by decide, by decide, rfl, rfl⟩, fun o => ⟨dJ.refl _ _, ?_⟩⟩
      conv => whnf
      refine fk.grow 1 8 1 0 [bW o] (aQ []) _ true Bv (.old rfl) rfl rfl (.rw rfl rfl) (by omega) ?_
      conv => whnf
      exact ⟨⟨[(o, [])], by simp, rfl, ⟨hlo, hhi, List.Pairwise.nil, fun c hc => (by cases hc), fun c hc => (by
        simp only [List.mem_cons, List.not_mem_nil, or_false] at hc
        subst hc; exact bX.nil), fun c hc => (by
        simp only [List.mem_cons, List.not_mem_nil, or_false] at hc
        subst hc; exact Nat.zero_le _)⟩⟩, qW 6 3 (le := [(0, .ptr 0 0), (2, .si .i64 q), (4, .ptr 4 0)]) (Nat.le_refl 3) (fun x hx => by
      simp only [List.mem_cons, List.not_mem_nil, or_false] at hx
      rcases hx with rfl | rfl | rfl
      · exact ae.ptr (Nat.le_of_ble_eq_true rfl) rfl
      · exact ae.int rfl
      · exact ae.ptr (Nat.le_of_ble_eq_true rfl) rfl) ⟨by decide, by decide, by decide⟩ ⟨by decide, by decide⟩ rfl rfl rfl rfl rfl rfl (ae.rw (Nat.le_of_ble_eq_true rfl) rfl) rfl rfl rfl rfl rfl rfl⟩
    have hC : C ≠ [] := fun e => h (by
      show ((pts C).length : Int) = 0
      rw [e]; rfl)
    conv => whnf
    exact ⟨⟨C, hC, rfl, hg⟩, qW 1 3 (le := [(0, .ptr 0 0), (2, .si .i64 q), (4, .ptr 4 0)]) (Nat.le_refl 3) (fun x hx => by
      simp only [List.mem_cons, List.not_mem_nil, or_false] at hx
      rcases hx with rfl | rfl | rfl
      · exact ae.ptr (Nat.le_of_ble_eq_true rfl) rfl
      · exact ae.int rfl
      · exact ae.ptr (Nat.le_of_ble_eq_true rfl) rfl) ⟨by decide, by decide, by decide⟩ ⟨by decide, by decide⟩ rfl rfl rfl rfl rfl rfl (ae.rw (Nat.le_of_ble_eq_true rfl) rfl) rfl (ax _) rfl rfl rfl rfl⟩
  intro ⟨Ca, ha1, ha2, ha3⟩
  conv => whnf
  refine bg.mk { C1 : Ck5 // C1 ≠ [] ∧ ab C1 = ab C ∧ Gd S C1 } 5 (fun C1 => ((wU [(0, .ptr 0 0), (2, .si .i64 q), (4, .ptr 4 0)] S (pts C1.val) C1.val [.si .i64 t, .si .i64 v]).1, (wU [(0, .ptr 0 0), (2, .si .i64 q), (4, .ptr 4 0)] S (pts C1.val) C1.val [.si .i64 t, .si .i64 v]).2.1)) (fun C1 => (ab C).length + 2 - C1.val.length) ⟨Ca, ha1, ha2, ha3⟩ ?_ ?_
  focus
    exact qW 3 4 (le := [(0, .ptr 0 0), (2, .si .i64 q), (4, .ptr 4 0)]) (Nat.le_refl 3) (fun x hx => by
      simp only [List.mem_cons, List.not_mem_nil, or_false] at hx
      rcases hx with rfl | rfl | rfl
      · exact ae.ptr (Nat.le_of_ble_eq_true rfl) rfl
      · exact ae.int rfl
      · exact ae.ptr (Nat.le_of_ble_eq_true rfl) rfl) ⟨by decide, by decide, by decide⟩ ⟨by decide, by decide⟩ rfl rfl rfl rfl rfl rfl (ae.rw (Nat.le_of_ble_eq_true rfl) rfl) rfl (ax _) rfl rfl rfl rfl
  clear ha1 ha2 ha3 Ca
  intro ⟨C1, hne, hfl, hg1⟩
  have hlen := mI hg1.ne
  rw [hfl] at hlen
  have hO := hg1.okc (by rw [hfl]; omega)
  obtain ⟨h, hh⟩ : ∃ h, cR (cnt C1) t = h := ⟨_, rfl⟩
  have hlt : h < C1.length := by
    have := qR (D := cnt C1) t (fun e => hne (List.map_eq_nil_iff.1 e))
    rw [eT] at this; omega
  obtain ⟨hA, hB⟩ := mJ (t := t) hne hg1.ne hg1.up
  rw [hh] at hA hB
  have hgs : Gd S (C1.take h ++ (C1[h].1, C1[h].2) :: C1.drop (h + 1)) := by rw [df hlt]; exact hg1
  obtain ⟨D2, hD2⟩ : ∃ D2 : Nat × Nat → Ck5, D2 = fun o => C1.take h ++ (C1[h].1, C1[h].2.take (bH C1[h].2)) :: (o, C1[h].2.drop (bH C1[h].2)) :: C1.drop (h + 1) := ⟨_, rfl⟩
  have gs : 2 ≤ C1[h].2.length → ∀ o, Gd S (D2 o) ∧ ab (D2 o) = ab C := fun k o => by
    have := Ea (q := o) hgs k
    rw [df hlt, hfl] at this
    rw [hD2]; exact this
  have gp : ∀ o, (pts C1).take (h + 1) ++ o :: (pts C1).drop (h + 1) = pts (D2 o) := fun o => by rw [hD2]; exact zO hlt o _ _
  have gl : ∀ o, (D2 o).length = C1.length + 1 := fun o => by rw [hD2]; simp only [List.length_append, List.length_cons, List.length_take, List.length_drop]; omega
  have gn : ∀ o, D2 o ≠ [] := fun o e => by have := gl o; rw [e] at this; simp at this
  have gc : ∀ o, dJ S.sz (C1.take h ++ (C1[h].1, C1[h].2.take (bH C1[h].2)) :: (o, C1[h].2.drop (bH C1[h].2)) :: C1.drop (h + 1)) (D2 o) := fun o => by rw [hD2]; exact dJ.refl _ _
  have gb : h + 1 = C1.length → nt C1[h].2 < t → di S.sz [] t v q = ([(t, v)], 0) ∧ ∀ o, yo S C (C1 ++ [(o, [(t, v)])]) t v q 0 ∧ (pts C1).take (h + 1) ++ o :: (pts C1).drop (h + 1) = pts (C1 ++ [(o, [(t, v)])]) := fun k1 k2 => by
    have hd : C1.drop (h + 1) = [] := List.drop_eq_nil_of_le (by omega)
    have hC1 : C1.take h ++ [(C1[h].1, C1[h].2)] = C1 := by
      have := df hlt
      rw [hd] at this; exact this
    have hgs2 := hgs
    rw [hd] at hgs2
    refine ⟨(qV (o := (0, 0)) (q := q) hgs2 hA k2 ht hv).1, fun o => ⟨?_, ?_⟩⟩
    · have hb3 := (qV (o := o) (q := q) hgs2 hA k2 ht hv).2
      rw [hC1] at hb3
      exact ⟨hb3.gd, hfl ▸ hb3.err, hfl ▸ hb3.fl, hb3.ne⟩
    · rw [List.take_of_length_le (by rw [aq]; omega), List.drop_eq_nil_of_le (by rw [aq]; omega), jc]; rfl
  have gf : (di S.sz C1[h].2 t v q).2 = 2 → (di S.sz C1[h].2 t v q).1 = C1[h].2 ∧ 2 ≤ C1[h].2.length := fun k => D9 hlo ht k
  have gh : (di S.sz C1[h].2 t v q).2 ≠ 2 → yo S C (C1.take h ++ (C1[h].1, (di S.sz C1[h].2 t v q).1) :: C1.drop (h + 1)) t v q (di S.sz C1[h].2 t v q).2 := fun k => by
    have hp := D8 (q := q) hgs hA hB ht hv k
    rw [df hlt] at hp
    exact ⟨hp.gd, hfl ▸ hp.err, hfl ▸ hp.fl, hp.ne⟩
  obtain ⟨r, hr⟩ : ∃ r, di S.sz C1[h].2 t v q = r := ⟨_, rfl⟩
  rw [hr] at gf gh
  have gq : r.2 = 2 → dJ S.sz (C1.take h ++ (C1[h].1, r.1) :: C1.drop (h + 1)) C1 := fun k => by rw [(gf k).1]; exact gz hlt
  have hw : IntKind.i64.wrap ((h : Int) + 1) = ((h + 1 : Nat) : Int) := by rw [al (by omega) (by omega)]; omega
  have hw2 : IntKind.i64.wrap (((pts C1).length : Int) - 1) = ((C1.length - 1 : Nat) : Int) := by rw [aq, al (by omega) (by omega)]; omega
  conv => whnf
  refine ⟨0, 3, 2, S, C1, t, h, rfl, rfl, ⟨⟨by decide, by decide, by decide⟩, ⟨by decide, by decide, by decide⟩, rfl, rfl, rfl⟩, hO, hh, ?_⟩
  conv => whnf
  refine Idx.mk h rfl (by rw [aq]; exact hlt) ?_
  conv => whnf
  refine ao (cH hlt (show 0 + h * 1 = h by omega)) ?_
  conv => whnf
  by_cases hfull : r.2 = 2
  focus
    have hL2 := (gf hfull).2
    refine ⟨2, S.sz, C1.take h, C1.drop (h + 1), C1, C1[h].1, C1[h].2, t, v, q, r, rfl, ⟨_, _, rfl, rfl, rfl⟩, rfl, gG hlt rfl (by decide) (by decide) rfl, by omega, hhi, hO.bS _ (List.getElem_mem hlt), hv, hr, gq hfull, ?_⟩
    conv => whnf
    refine ag.dB (fun z => absurd hfull z) (fun _ => ?_)
    conv => whnf
    refine ⟨2, S.sz, C1.take h, C1.drop (h + 1), C1, C1[h].1, C1[h].2, rfl, gG hlt rfl (by decide) (by decide) rfl, by omega, hO.bS _ (List.getElem_mem hlt), gz hlt, ?_⟩
    conv => whnf
    by_cases hlast : h + 1 = C1.length
    focus
      refine ag.dec (fun _ => ?_) (fun z => absurd (show (h : Int) = IntKind.i64.wrap (((pts C1).length : Int) - 1) by rw [hw2]; omega) z)
      conv => whnf
      refine ag.dec (fun hlt2 => ?_) (fun _ => ?_)
      focus
        have gb1 := (gb hlast hlt2).1
        have gb2 := (gb hlast hlt2).2
        conv => whnf
        refine ⟨2, S.sz, C1, fun o => C1 ++ [(o, [])], rfl, hlo, hhi, ⟨by decide, by decide, rfl, rfl⟩, fun o => ⟨dJ.refl _ _, ?_⟩⟩
        conv => whnf
        refine ⟨0, 5, 2, h + 1, S, pts C1, pts (C1 ++ [(o, [(t, v)])]), C1 ++ [(o, [])], o, rfl, congrArg (AV.si .i64) hw, rfl, ⟨⟨by decide, by decide, by decide⟩, ⟨by decide, by decide, by decide⟩, rfl, rfl, rfl⟩, by rw [aq]; omega, by rw [aq]; omega, (gb2 o).2, ?_⟩
        conv => whnf
        refine ⟨2, S.sz, C1, [], C1 ++ [(o, [(t, v)])], o, [], t, v, q, ([(t, v)], 0), rfl, ⟨_, _, rfl, rfl, rfl⟩, rfl, ⟨by decide, by decide, rfl, rfl⟩, by omega, hhi, bX.nil, hv, gb1, dJ.refl _ _, ?_⟩
        conv => whnf
        exact dM (PtP S C t v q) ⟨0, rfl, rfl, rfl, (gb2 o).1⟩ (VTo.mk5 rfl) VR.c6 10 ⟨by decide, by decide⟩ rfl rfl rfl rfl rfl rfl (ae.rw (Nat.le_of_ble_eq_true rfl) rfl) rfl (ax _) rfl
      conv => whnf
      refine ⟨2, S.sz, C1.take h, C1.drop (h + 1), C1[h].1, C1[h].2, D2, rfl, gG hlt rfl (by decide) (by decide) rfl, rfl, by decide, by omega, hO.bS _ (List.getElem_mem hlt), hL2, fun o => ⟨gc o, ?_⟩⟩
      conv => whnf
      refine ⟨0, 5, 2, h + 1, S, pts C1, pts (D2 o), D2 o, o, rfl, congrArg (AV.si .i64) hw, rfl, ⟨⟨by decide, by decide, by decide⟩, ⟨by decide, by decide, by decide⟩, rfl, rfl, rfl⟩, by rw [aq]; omega, by rw [aq]; omega, gp o, ?_⟩
      conv => whnf
      exact ⟨⟨D2 o, gn o, (gs hL2 o).2, (gs hL2 o).1⟩, by show (ab C).length + 2 - (D2 o).length < (ab C).length + 2 - C1.length; rw [gl o]; omega, qW 11 4 (le := [(0, .ptr 0 0), (2, .si .i64 q), (4, .ptr 4 0)]) (Nat.le_refl 3) (fun x hx => by
            simp only [List.mem_cons, List.not_mem_nil, or_false] at hx
            rcases hx with rfl | rfl | rfl
            · exact ae.ptr (Nat.le_of_ble_eq_true rfl) rfl
            · exact ae.int rfl
            · exact ae.ptr (Nat.le_of_ble_eq_true rfl) rfl) ⟨by decide, by decide, by decide⟩ ⟨by decide, by decide⟩ rfl rfl rfl rfl rfl rfl (ae.rw (Nat.le_of_ble_eq_true rfl) rfl) rfl (ax _) rfl rfl rfl rfl⟩
    refine ag.dec (fun z => absurd z (show ¬ (h : Int) = IntKind.i64.wrap (((pts C1).length : Int) - 1) by rw [hw2]; omega)) (fun _ => ?_)
    conv => whnf
    refine ⟨2, S.sz, C1.take h, C1.drop (h + 1), C1[h].1, C1[h].2, D2, rfl, gG hlt rfl (by decide) (by decide) rfl, rfl, by decide, by omega, hO.bS _ (List.getElem_mem hlt), hL2, fun o => ⟨gc o, ?_⟩⟩
    conv => whnf
    refine ⟨0, 5, 2, h + 1, S, pts C1, pts (D2 o), D2 o, o, rfl, congrArg (AV.si .i64) hw, rfl, ⟨⟨by decide, by decide, by decide⟩, ⟨by decide, by decide, by decide⟩, rfl, rfl, rfl⟩, by rw [aq]; omega, by rw [aq]; omega, gp o, ?_⟩
    conv => whnf
    exact ⟨⟨D2 o, gn o, (gs hL2 o).2, (gs hL2 o).1⟩, by show (ab C).length + 2 - (D2 o).length < (ab C).length + 2 - C1.length; rw [gl o]; omega, qW 11 4 (le := [(0, .ptr 0 0), (2, .si .i64 q), (4, .ptr 4 0)]) (Nat.le_refl 3) (fun x hx => by
          simp only [List.mem_cons, List.not_mem_nil, or_false] at hx
          rcases hx with rfl | rfl | rfl
          · exact ae.ptr (Nat.le_of_ble_eq_true rfl) rfl
          · exact ae.int rfl
          · exact ae.ptr (Nat.le_of_ble_eq_true rfl) rfl) ⟨by decide, by decide, by decide⟩ ⟨by decide, by decide⟩ rfl rfl rfl rfl rfl rfl (ae.rw (Nat.le_of_ble_eq_true rfl) rfl) rfl (ax _) rfl rfl rfl rfl⟩
  refine ⟨2, S.sz, C1.take h, C1.drop (h + 1), C1.take h ++ (C1[h].1, r.1) :: C1.drop (h + 1), C1[h].1, C1[h].2, t, v, q, r, rfl, ⟨_, _, rfl, rfl, rfl⟩, rfl, gG hlt rfl (by decide) (by decide) rfl, by omega, hhi, hO.bS _ (List.getElem_mem hlt), hv, hr, dJ.refl _ _, ?_⟩
  conv => whnf
  refine ag.dB (fun _ => ?_) (fun z => absurd z hfull)
  conv => whnf
  exact dM (PtP S C t v q) ⟨_, rfl, rfl, FZ hlt _, gh hfull⟩ (VTo.mk5 rfl) VR.c6 5 ⟨by decide, by decide⟩ rfl rfl rfl rfl rfl rfl (ae.rw (Nat.le_of_ble_eq_true rfl) rfl) rfl (ax _) rfl
end Go.Proofs.Ythjggjhebbdkdaa
namespace Go.Proofs.Ythjggjhebbdkdaa
open Go Go.RowKit
structure Pre5 (S : Sr) (C : Ck5) : Prop where
  lo : 128 ≤ S.sz
  hi : S.sz ≤ 4096
  up : Up (ab C)
  bS : ∀ c ∈ C, bX c.2
  fit : ∀ c ∈ C, (aU c.2).length ≤ 8 * S.sz
theorem Gd.pre {S : Sr} {C : Ck5} (h : Gd S C) : Pre5 S C := ⟨h.lo, h.hi, h.up, h.bS, h.fit⟩
theorem Pre5.okc {S : Sr} {C : Ck5} (h : Pre5 S C) (hf : C.length ≤ 100000) : Okc S C := ⟨h.lo, h.hi, h.bS, hf⟩
structure Gt (S : Sr) (C : Ck5) : Prop extends Pre5 S C where
  all : ∀ c ∈ C, c.2 ≠ []
theorem Gt.gd {S : Sr} {C : Ck5} (h : Gt S C) : Gd S C := ⟨h.lo, h.hi, h.up, fun c hc => h.all c (List.mem_of_mem_tail hc), h.bS, h.fit⟩
theorem Gt.few {S : Sr} {C : Ck5} (h : Gt S C) : C.length ≤ (ab C).length := qT h.all
def usd (L : Smp) : Nat := (pack (aU L)).length
def Sm5 (sz : Nat) (L : Smp) : Prop := IntKind.i64.wrap (4 * (usd L : Int)) < (sz : Int)
theorem lK (L : Smp) : usd L = ((aU L).length + 7) / 8 := bb _
theorem Sm5.nat {sz : Nat} {L : Smp} (hF : bX L) (h : Sm5 sz L) : 4 * usd L < sz := by
  unfold Sm5 at h
  have h1 := lH L L.length
  have h2 := hF.2.2
  have h3 : (aU L).length ≤ 136 * L.length := h1
  have h4 := lK L
  rw [al (by omega) (by omega)] at h
  omega
def Wh (sz n : Nat) (C : Ck5) : Prop := ∀ j, (h : j + 1 < C.length) → j + 1 < n → ¬ (Sm5 sz C[j].2 ∧ Sm5 sz C[j + 1].2)
theorem F1 {A : Ck5} {p q : Nat × Nat} {L M : Smp} {B : Ck5} (hu : Up (ab (A ++ (p, L) :: (q, M) :: B))) : lY L M = false := by
  rw [dg, bw, Up.app] at hu
  have h2 := hu.2.1
  rw [Up.app] at h2
  obtain ⟨h3, h4, h5⟩ := h2
  unfold lY
  by_cases hL : L = []
  · simp [hL]
  by_cases hM : M = []
  · simp [hM]
  · obtain ⟨y, hy, hy2⟩ := zN hM
    have hx : (L[L.length - 1]'(by have := List.length_pos_iff.2 hL; omega)) ∈ L := List.getElem_mem _
    have := h5 _ hx y (List.mem_append_left _ hy)
    have e : nt L = (L[L.length - 1]'(by have := List.length_pos_iff.2 hL; omega)).1 := cX _
    simp [hL, hM]
    omega
theorem F2 {S : Sr} {A B : Ck5} {p q : Nat × Nat} {L M : Smp} (hg : Gt S (A ++ (p, L) :: (q, M) :: B)) (h1 : Sm5 S.sz L) (h2 : Sm5 S.sz M) :
    bA S.sz L M = ((L ++ M, []), 0) ∧ Gt S (A ++ (p, L ++ M) :: B) ∧ ab (A ++ (p, L ++ M) :: B) = ab (A ++ (p, L) :: (q, M) :: B) := by
  have fL : bX L := hg.bS (p, L) (by simp)
  have fM : bX M := hg.bS (q, M) (by simp)
  have n1 := h1.nat fL
  have n2 := h2.nat fM
  have u1 := lK L
  have u2 := lK M
  have hj := (wN L M).1
  have hlo := hg.lo
  have hb : (aU (L ++ M)).length ≤ 8 * S.sz := by omega
  have hmt := F1 hg.up
  have e : bA S.sz L M = ((L ++ M, []), 0) := by
    unfold bA
    rw [hmt]
    simp [hb]
  have hf := (Be hg.hi fL fM (size := S.sz)).1
  rw [e] at hf
  have ef : ab (A ++ (p, L ++ M) :: B) = ab (A ++ (p, L) :: (q, M) :: B) := by rw [dg, dg, bw, List.append_assoc]
  have mm : ∀ c, c ∈ A ++ B → c ∈ A ++ (p, L) :: (q, M) :: B := fun c hc => cK.2 (.inr (cK.2 (.inr hc)))
  refine ⟨e, ⟨⟨hg.lo, hg.hi, by rw [ef]; exact hg.up, fun c hc => ?_, fun c hc => ?_⟩, fun c hc => ?_⟩, ef⟩
  · rcases cK.1 hc with rfl | k
    · exact hf
    · exact hg.bS c (mm c k)
  · rcases cK.1 hc with rfl | k
    · exact hb
    · exact hg.fit c (mm c k)
  · rcases cK.1 hc with rfl | k
    · have := hg.all (p, L) (by simp)
      exact fun e => this (List.append_eq_nil_iff.1 e).1
    · exact hg.all c (mm c k)
def neC (C : Ck5) : Ck5 := C.filter fun c => !c.2.isEmpty
theorem qX : ∀ C : Ck5, ab (neC C) = ab C
  | [] => rfl
  | c :: C => by
    have ih := qX C
    unfold neC at *
    rw [List.filter_cons]
    split
    · rw [bw, bw, ih]
    · rename_i h
      have : c.2 = [] := by simpa using h
      rw [bw, this, ih]; rfl
theorem IH {S : Sr} {C : Ck5} (h : Pre5 S C) : Gt S (neC C) := by
  have sub : ∀ c, c ∈ neC C → c ∈ C ∧ c.2 ≠ [] := fun c hc => by
    obtain ⟨h1, h2⟩ := List.mem_filter.1 hc
    exact ⟨h1, by simpa using h2⟩
  exact ⟨⟨h.lo, h.hi, by rw [qX]; exact h.up, fun c hc => h.bS c (sub c hc).1, fun c hc => h.fit c (sub c hc).1⟩, fun c hc => (sub c hc).2⟩
theorem wV {C : Ck5} {i : Nat} (h : i < C.length) : neC (C.take (i + 1)) = neC (C.take i) ++ (if C[i].2 = [] then [] else [C[i]]) := by
  unfold neC
  rw [List.take_add_one, List.getElem?_eq_getElem h, Option.toList_some, List.filter_append]
  congr 1
  by_cases q : C[i].2 = []
  · simp [q]
  · simp [q]
theorem zP (C : Ck5) : (neC C).length ≤ C.length := List.length_filter_le _ _
theorem F3 {sz n : Nat} {C : Ck5} {c : (Nat × Nat) × Smp} {B : Ck5} (h : Wh sz n C) (hn : n < C.length) : Wh sz (max 1 (n - 1)) (C.take (n - 1) ++ c :: B) := fun j hj hjn => by
  have h1 : j + 1 < n - 1 := by omega
  have e1 : (C.take (n - 1) ++ c :: B)[j]'(by omega) = C[j]'(by omega) := by
    rw [List.getElem_append_left (by rw [List.length_take]; omega), List.getElem_take]
  have e2 : (C.take (n - 1) ++ c :: B)[j + 1]'hj = C[j + 1]'(by omega) := by
    rw [List.getElem_append_left (by rw [List.length_take]; omega), List.getElem_take]
  rw [e1, e2]
  exact h j (by omega) (by omega)
theorem F4 {sz n : Nat} {C : Ck5} (h : Wh sz n C) (hn1 : 1 ≤ n) (hn : n < C.length) (hs : ¬ (Sm5 sz (C[n - 1]'(by omega)).2 ∧ Sm5 sz C[n].2)) : Wh sz (n + 1) C := fun j hj hjn => by
  by_cases q : j + 1 = n
  · subst q
    exact hs
  · exact h j hj (by omega)
theorem Bw {C : Ck5} {n : Nat} (h1 : 1 ≤ n) (hn : n < C.length) : C.take (n - 1) ++ ((C[n - 1]'(by omega)).1, (C[n - 1]'(by omega)).2) :: (C[n].1, C[n].2) :: C.drop (n + 1) = C := by
  have e1 := df (C := C) (i := n - 1) (by omega)
  have e2 : C.drop (n - 1 + 1) = C[n] :: C.drop (n + 1) := by
    rw [show n - 1 + 1 = n by omega]; exact List.drop_eq_getElem_cons hn
  rw [e2] at e1
  exact e1
end Go.Proofs.Ythjggjhebbdkdaa
namespace Go.Proofs.Ythjggjhebbdkdaa
open Go Go.RowKit
noncomputable def Ec (le : List (Nat × AV)) (S : Sr) (V : Ps) (C : Ck5) (W : Ps) : AE × AH × Nat := (mkE le, mkH [(0, .cells (bO S 3 V.length) true), (3, .cells (aQ V) true), (2, bP S C), (4, .cells (aQ W) true)], 5)
theorem yp {p : Nat} {σ : AE} {H : AH} {n : Nat} {S : Sr} {V W : Ps} {C : Ck5} (j1 j4 : Nat) {le : List (Nat × AV)} {a0 a1 a2 a3 a4 a5 : AV} {l : List AV} (hp : p ≤ 3) (he : ∀ x ∈ le, ae H 5 (oO j1 j4) (ay (pa x.1) σ) x.2) (hj : j1 ≠ 0 ∧ j1 ≠ 2 ∧ j1 ≠ j4) (hj4 : j4 ≠ 0 ∧ j4 ≠ 2)
    (hc : PM.get H 0 = some (.cells [a0, a1, a2, a3, a4, a5] true)) (h0 : mk a0 = .si .i64 (S.sz : Int)) (h1 : mk a1 = .si .i64 S.ret) (h2 : mk a2 = .si .i64 S.pol) (h3 : mk a3 = .si .i64 S.mx) (h4 : mk a4 = .si .i64 S.fl) (h5 : ae H 5 (oO j1 j4) a5 (.rw 3 0 V.length 1 0))
    (hl : PM.get H j1 = some (.cells l true)) (hl2 : l.map mk = aQ V) (hq : PM.get H 2 = some (bP S C)) (hb : (∃ l4, PM.get H j4 = some (.cells l4 true) ∧ l4.map mk = aQ W) ∨ (W = [] ∧ n ≤ j4)) : Cov p σ H n (Ec le S V C W) := by
  refine Cov.ofR (m := 5) (p := p) (oO j1 j4) (by omega) (fun b hb => by unfold oO; rw [if_neg (by omega), if_neg (by omega)]) he ?_ ?_
  · intro x hx
    simp only [List.mem_cons, List.not_mem_nil, or_false] at hx
    rcases hx with rfl | rfl | rfl | rfl
    · exact ⟨Nat.le_of_ble_eq_true rfl, .inl ⟨_, hc, aO.bO h0 h1 h2 h3 h4 h5⟩⟩
    · exact ⟨Nat.le_of_ble_eq_true rfl, .inl ⟨_, hl, aO.aQ hl2⟩⟩
    · exact ⟨Nat.le_of_ble_eq_true rfl, .inl ⟨_, hq, aO.sep _⟩⟩
    · refine ⟨Nat.le_of_ble_eq_true rfl, ?_⟩
      rcases hb with ⟨l4, g1, g2⟩ | ⟨g1, g2⟩
      · exact .inl ⟨_, g1, aO.aQ g2⟩
      · exact .inr ⟨by rw [g1]; rfl, g2⟩
  · intro x hx y hy e
    simp only [List.mem_cons, List.not_mem_nil, or_false] at hx hy
    rcases hx with rfl | rfl | rfl | rfl <;> rcases hy with rfl | rfl | rfl | rfl
    · rfl
    · exact absurd (show 0 = j1 from e) (by omega)
    · exact absurd (show 0 = 2 from e) (by omega)
    · exact absurd (show 0 = j4 from e) (by omega)
    · exact absurd (show j1 = 0 from e) (by omega)
    · rfl
    · exact absurd (show j1 = 2 from e) (by omega)
    · exact absurd (show j1 = j4 from e) (by omega)
    · exact absurd (show 2 = 0 from e) (by omega)
    · exact absurd (show 2 = j1 from e) (by omega)
    · rfl
    · exact absurd (show 2 = j4 from e) (by omega)
    · exact absurd (show j4 = 0 from e) (by omega)
    · exact absurd (show j4 = j1 from e) (by omega)
    · exact absurd (show j4 = 2 from e) (by omega)
    · rfl
theorem aO.JX {H : AH} {m : Nat} {r : Nat → Nat} {V X : Ps} : aO H m r (.cells (Go.Proofs.Ythjggjhebbdkdaa.aQ (V ++ X)) true) (.cells (Go.Proofs.Ythjggjhebbdkdaa.aQ V) true) :=
  aO.cells (by rw [bR, bR, List.length_append]; omega) (fun q => q) fun i a' hi => by
    refine ⟨a', ?_, ?_⟩
    · rw [qN, List.getElem?_append_left (List.getElem?_eq_some_iff.1 hi).1]; exact hi
    · unfold Go.Proofs.Ythjggjhebbdkdaa.aQ at hi
      rw [List.getElem?_map] at hi
      cases hc : V[i]? with
      | none => rw [hc] at hi; cases hi
      | some c =>
        rw [hc] at hi
        injection hi with hi
        subst hi
        exact fun _ _ _ _ _ h => h
theorem II {p : Nat} {σ : AE} {H : AH} {n : Nat} {S : Sr} {V X : Ps} {C : Ck5} (j1 : Nat) {le : List (Nat × AV)} {a0 a1 a2 a3 a4 a5 : AV} (hp : p ≤ 3) (he : ∀ x ∈ le, ae H 4 (ui j1) (ay (pa x.1) σ) x.2) (hj : j1 ≠ 0 ∧ j1 ≠ 2)
    (hc : PM.get H 0 = some (.cells [a0, a1, a2, a3, a4, a5] true)) (h0 : mk a0 = .si .i64 (S.sz : Int)) (h1 : mk a1 = .si .i64 S.ret) (h2 : mk a2 = .si .i64 S.pol) (h3 : mk a3 = .si .i64 S.mx) (h4 : mk a4 = .si .i64 S.fl) (h5 : ae H 4 (ui j1) a5 (.rw 3 0 V.length 1 0))
    (hl : PM.get H j1 = some (.cells (aQ (V ++ X)) true)) (hq : PM.get H 2 = some (bP S C)) : Cov p σ H n (qO le S V C) := by
  refine Cov.ofR (m := 4) (p := p) (ui j1) (by omega) (fun b hb => by unfold ui; rw [if_neg (by omega)]) he ?_ ?_
  · intro x hx
    simp only [List.mem_cons, List.not_mem_nil, or_false] at hx
    rcases hx with rfl | rfl | rfl
    · exact ⟨Nat.le_of_ble_eq_true rfl, .inl ⟨_, hc, aO.bO h0 h1 h2 h3 h4 h5⟩⟩
    · exact ⟨Nat.le_of_ble_eq_true rfl, .inl ⟨_, hl, aO.JX⟩⟩
    · exact ⟨Nat.le_of_ble_eq_true rfl, .inl ⟨_, hq, aO.sep _⟩⟩
  · intro x hx y hy e
    simp only [List.mem_cons, List.not_mem_nil, or_false] at hx hy
    rcases hx with rfl | rfl | rfl <;> rcases hy with rfl | rfl | rfl
    · rfl
    · exact absurd (show 0 = j1 from e) (by omega)
    · exact absurd (show 0 = 2 from e) (by omega)
    · exact absurd (show j1 = 0 from e) (by omega)
    · rfl
    · exact absurd (show j1 = 2 from e) (by omega)
    · exact absurd (show 2 = 0 from e) (by omega)
    · exact absurd (show 2 = j1 from e) (by omega)
    · rfl
theorem qY {H : AH} {S : Sr} {C : Ck5} {i : Nat} (h : i < C.length) (hq : PM.get H 2 = some (bP S C)) : H.get 2 = some (.sep (pk (chs S.sz (C.take i ++ (C[i].1, C[i].2) :: C.drop (i + 1))))) := by rw [df h]; exact hq
def TdP (S0 : Sr) (C0 : Ck5) : AV → Sr → Ps → Ck5 → Prop := fun u S V C => u = .tup [] ∧ S = S0 ∧ V = pts C ∧ ab C = ab C0 ∧ Gt S0 C ∧ Wh S0.sz C.length C
def F5 : DT := [(1, [(some 0, [0]), (some 0, [5]), (some 0, [6]), (some 0, [7]), (some 0, [1]), (some 0, [8, 9]), (some 0, [10]), (none, [11]), (some 0, [12]), (some 2, [0]), (some 3, [14]), (some 4, [15]), (some 5, [16]), (some 0, [13, 17]), (some 0, [18])])]
def IJ : DT := [(12, [(some 0, [0]), (some 0, [47]), (some 0, [48]), (some 0, [49]), (some 0, [5]), (some 0, [51]), (some 0, [50, 52]), (some 0, [53]), (some 0, [0]), (some 0, [55]), (some 0, [56]), (some 0, [57]), (some 0, [5]), (some 0, [58, 59]), (some 0, [60])]),
  (13, [(some 1000000, []), (none, [0, 1, 2, 3, 4, 5, 6, 7, 8, 9, 10, 11, 12, 13, 14, 15, 16, 17, 18])])]
noncomputable def JY : FuncId → EP := a9 38 qS (cq 35 (lp zG) (a9 34 (ue It) evP))
theorem F6 : bG JY := aw (aY (aw bd IA) ug (uf _)) FT
noncomputable def KTd : FuncId → EP := bK 48 IJ (bK 77 F5 JY)
theorem IK : bG KTd := aL (aL F6 (by kernel_rfl) (by kernel_rfl)) (by kernel_rfl) (by kernel_rfl)
theorem Ed {C : Ck5} {n : Nat} (h1 : 1 ≤ n) (hn : n < C.length) (M : Smp) : (pts C).take n ++ (pts C).drop (n + 1) = pts (C.take (n - 1) ++ ((C[n - 1]'(by omega)).1, M) :: C.drop (n + 1)) := by
  have h2 : (pts C).take n = pts (C.take n) := by simp [pts, List.map_take]
  have h3 : (pts C).drop (n + 1) = pts (C.drop (n + 1)) := by simp [pts, List.map_drop]
  have h4 : C.take n = C.take (n - 1) ++ [C[n - 1]'(by omega)] := by
    have := List.take_add_one (l := C) (i := n - 1)
    rw [show n - 1 + 1 = n by omega, List.getElem?_eq_getElem (show n - 1 < C.length by omega)] at this
    exact this
  rw [h2, h3, h4, jc, jc]
  simp [pts]
theorem Ee (S : Sr) (C : Ck5) (hp : Pre5 S C) (hf : C.length ≤ 100000) : cf (az KTd 5 48) [.ptr 0 0] (mkH (eu (eG S (pts C) C) 0)) 3 (SP (TdP S C)) := by
  have hlo := hp.lo
  have hhi := hp.hi
  show az KTd 5 _ _ _ _ _
  conv => whnf
  refine bg.mk { i : Nat // i ≤ C.length } 5 (fun i => ((Ec [(0, .ptr 0 0), (2, .rw 4 0 (pts (neC (C.take i.val))).length 1 0), (9, .rw 3 0 (pts C).length 1 0), (10, .si .i64 ((pts C).length : Int)), (11, .si .i64 ((i.val : Int)))] S (pts C) (neC (C.take i.val) ++ C.drop i.val) (pts (neC (C.take i.val)))).1, (Ec [(0, .ptr 0 0), (2, .rw 4 0 (pts (neC (C.take i.val))).length 1 0), (9, .rw 3 0 (pts C).length 1 0), (10, .si .i64 ((pts C).length : Int)), (11, .si .i64 ((i.val : Int)))] S (pts C) (neC (C.take i.val) ++ C.drop i.val) (pts (neC (C.take i.val)))).2.1)) (fun i => C.length - i.val) ⟨0, Nat.zero_le _⟩ ?_ ?_
  focus
    exact yp 1 3 (le := [(0, .ptr 0 0), (2, .rw 4 0 (pts (neC (C.take 0))).length 1 0), (9, .rw 3 0 (pts C).length 1 0), (10, .si .i64 ((pts C).length : Int)), (11, .si .i64 (((0 : Nat) : Int)))]) (Nat.le_refl 3) (fun x hx => by
      simp only [List.mem_cons, List.not_mem_nil, or_false] at hx
      rcases hx with rfl | rfl | rfl | rfl | rfl
      · exact ae.ptr (Nat.le_of_ble_eq_true rfl) rfl
      · exact ae.ky rfl
      · exact ae.rw (Nat.le_of_ble_eq_true rfl) rfl
      · exact ae.int rfl
      · exact ae.int rfl) ⟨by decide, by decide, by decide⟩ ⟨by decide, by decide⟩ rfl rfl rfl rfl rfl rfl (ae.rw (Nat.le_of_ble_eq_true rfl) rfl) rfl (ax _) rfl (.inr ⟨rfl, Nat.le_refl _⟩)
  focus
    intro ⟨i, hi⟩
    have hw : IntKind.i64.wrap ((i : Int) + 1) = ((i + 1 : Nat) : Int) := by rw [al (by omega) (by omega)]; omega
    have hnl := zP (C.take i)
    rw [List.length_take, Nat.min_eq_left hi] at hnl
    have st : ∀ h : i < C.length, C.drop i = (C[i].1, C[i].2) :: C.drop (i + 1) := fun h => List.drop_eq_getElem_cons h
    have s0 : ∀ h : i < C.length, C[i].2 = [] → neC (C.take (i + 1)) = neC (C.take i) := fun h q => by rw [wV h, if_pos q, List.append_nil]
    have s1 : ∀ h : i < C.length, ¬ C[i].2 = [] → neC (C.take (i + 1)) = neC (C.take i) ++ [C[i]] := fun h q => by rw [wV h, if_neg q]
    conv => whnf
    refine ag.dec (fun h => ?_) (fun h => ?_)
    focus
      have h2 : i < C.length := by
        have h : (i : Int) < ((pts C).length : Int) := h
        rw [aq] at h; omega
      have st2 := st h2
      have s02 := s0 h2
      have s12 := s1 h2
      have hsep : some (bP S (neC (C.take i) ++ C.drop i)) = some (AO.sep (pk (chs S.sz (neC (C.take i) ++ (C[i].1, C[i].2) :: C.drop (i + 1))))) := by rw [st2]; rfl
      conv => whnf
      refine Idx.mk i rfl (by rw [aq]; exact h2) ?_
      conv => whnf
      refine ao (cH h2 (show 0 + i * 1 = i by omega)) ?_
      conv => whnf
      by_cases hz : C[i].2 = []
      focus
        have e1 := s02 hz
        refine ⟨2, S.sz, neC (C.take i), C.drop (i + 1), neC (C.take (i + 1)) ++ C.drop (i + 1), C[i].1, C[i].2, rfl, ⟨by decide, by decide, rfl, hsep⟩, by rw [e1]; exact dJ.sub ((List.sublist_cons_self _ _).append_left _), ?_⟩
        conv => whnf
        refine ag.dec (fun z => absurd z (by rw [hz]; decide)) (fun _ => ?_)
        conv => whnf
        exact ⟨⟨i + 1, h2⟩, by show C.length - (i + 1) < C.length - i; omega, yp 3 4 (le := [(0, .ptr 0 0), (2, .rw 4 0 (pts (neC (C.take (i + 1)))).length 1 0), (9, .rw 3 0 (pts C).length 1 0), (10, .si .i64 ((pts C).length : Int)), (11, .si .i64 (((i + 1 : Nat) : Int)))]) (Nat.le_refl 3) (fun x hx => by
      simp only [List.mem_cons, List.not_mem_nil, or_false] at hx
      rcases hx with rfl | rfl | rfl | rfl | rfl
      · exact ae.ptr (Nat.le_of_ble_eq_true rfl) rfl
      · exact (by rw [e1]; exact ae.rw (Nat.le_of_ble_eq_true rfl) rfl)
      · exact ae.rw (Nat.le_of_ble_eq_true rfl) rfl
      · exact ae.int rfl
      · exact ae.int (congrArg (AV.si .i64) hw)) ⟨by decide, by decide, by decide⟩ ⟨by decide, by decide⟩ rfl rfl rfl rfl rfl rfl (ae.rw (Nat.le_of_ble_eq_true rfl) rfl) rfl (ax _) rfl (.inl ⟨_, rfl, by rw [e1]; exact ax _⟩)⟩
      have e1 := s12 hz
      have hpl : 0 < (C[i].2.length : Int) := by have := List.length_pos_iff.2 hz; omega
      have hcm : dJ S.sz (neC (C.take i) ++ (C[i].1, C[i].2) :: C.drop (i + 1)) (neC (C.take (i + 1)) ++ C.drop (i + 1)) := by rw [e1, List.append_assoc]; exact dJ.refl _ _
      have hln : (pts (neC (C.take i))).length + 1 = (pts (neC (C.take (i + 1)))).length := by rw [e1, aq, aq, List.length_append]; rfl
      have hpt : (aQ (pts (neC (C.take i))) ++ [bW C[i].1]).map mk = aQ (pts (neC (C.take (i + 1)))) := by rw [e1, jc, qN, List.map_append, ax]; rfl
      refine ⟨2, S.sz, neC (C.take i), C.drop (i + 1), neC (C.take (i + 1)) ++ C.drop (i + 1), C[i].1, C[i].2, rfl, ⟨by decide, by decide, rfl, hsep⟩, hcm, ?_⟩
      conv => whnf
      refine ag.dec (fun _ => ?_) (fun z => absurd hpl z)
      conv => whnf
      refine fk.grow 1 8 1 (pts (neC (C.take i))).length [bW C[i].1] (aQ (pts (neC (C.take i)))) _ true Bv (.old rfl) rfl rfl (.rw rfl (cD (by rw [bR, Nat.mul_one]))) (by rw [aq]; omega) ?_
      conv => whnf
      exact ⟨⟨i + 1, h2⟩, by show C.length - (i + 1) < C.length - i; omega, yp 3 7 (le := [(0, .ptr 0 0), (2, .rw 4 0 (pts (neC (C.take (i + 1)))).length 1 0), (9, .rw 3 0 (pts C).length 1 0), (10, .si .i64 ((pts C).length : Int)), (11, .si .i64 (((i + 1 : Nat) : Int)))]) (Nat.le_refl 3) (fun x hx => by
      simp only [List.mem_cons, List.not_mem_nil, or_false] at hx
      rcases hx with rfl | rfl | rfl | rfl | rfl
      · exact ae.ptr (Nat.le_of_ble_eq_true rfl) rfl
      · exact ae.rw (Nat.le_of_ble_eq_true rfl) (congrArg (fun q => AV.rw 7 0 q 1 0) hln)
      · exact ae.rw (Nat.le_of_ble_eq_true rfl) rfl
      · exact ae.int rfl
      · exact ae.int (congrArg (AV.si .i64) hw)) ⟨by decide, by decide, by decide⟩ ⟨by decide, by decide⟩ rfl rfl rfl rfl rfl rfl (ae.rw (Nat.le_of_ble_eq_true rfl) rfl) rfl (ax _) rfl (.inl ⟨_, rfl, hpt⟩)⟩
    have hin : i = C.length := by
      have : ¬ i < C.length := fun q => h (by
        show (i : Int) < ((pts C).length : Int)
        rw [aq]; omega)
      omega
    have hg0 := IH hp
    have eC : neC (C.take i) = neC C := by rw [hin, List.take_length]
    have eD : neC (C.take i) ++ C.drop i = neC C := by rw [eC, hin, List.drop_length, List.append_nil]
    have hl0 := zP C
    clear st s0 s1
    conv => whnf
    refine bg.mk { x : Nat × Ck5 // 1 ≤ x.1 ∧ ab x.2 = ab C ∧ Gt S x.2 ∧ x.2.length ≤ 100000 ∧ Wh S.sz x.1 x.2 ∧ x.1 ≤ 100000 } 4 (fun x => ((qO [(0, .ptr 0 0), (5, .si .i64 ((x.val.1 : Int)))] S (pts x.val.2) x.val.2).1, (qO [(0, .ptr 0 0), (5, .si .i64 ((x.val.1 : Int)))] S (pts x.val.2) x.val.2).2.1)) (fun x => 2 * x.val.2.length - x.val.1) ⟨(1, neC C), Nat.le_refl _, qX C, hg0, by show (neC C).length ≤ 100000; omega, fun j hj hjn => absurd hjn (by omega), (show (1 : Nat) ≤ 100000 by decide)⟩ ?_ ?_
    focus
      exact kz 4 (le := [(0, .ptr 0 0), (5, .si .i64 (((1 : Nat) : Int)))]) (Nat.le_refl 3) (fun x hx => by
      simp only [List.mem_cons, List.not_mem_nil, or_false] at hx
      rcases hx with rfl | rfl
      · exact ae.ptr (Nat.le_of_ble_eq_true rfl) rfl
      · exact ae.int rfl) ⟨by decide, by decide⟩ rfl rfl rfl rfl rfl rfl (ae.rw (Nat.le_of_ble_eq_true rfl) (congrArg (fun q => AV.rw 4 0 q 1 0) (congrArg (fun q => (pts q).length) eC))) rfl (by rw [eC]; exact ax _) (congrArg (fun q => some (bP S q)) eD)
    clear hin hg0 eC eD hl0 hnl hw h hi i
    intro ⟨⟨m, C1⟩, hm1, hfl, hg1, hlen, hwh, hm9⟩
    have hm1 : 1 ≤ m := hm1
    have hwh : Wh S.sz m C1 := hwh
    have hlen : C1.length ≤ 100000 := hlen
    have hm9 : m ≤ 100000 := hm9
    have hg1 : Gt S C1 := hg1
    have hfl : ab C1 = ab C := hfl
    have hw : IntKind.i64.wrap ((m : Int) + 1) = ((m + 1 : Nat) : Int) := by rw [al (by omega) (by omega)]; omega
    have hw1 : IntKind.i64.wrap ((m : Int) - 1) = ((m - 1 : Nat) : Int) := by rw [al (by omega) (by omega)]; omega
    conv => whnf
    refine ag.dec (fun h => ?_) (fun h => ?_)
    focus
      have h2 : m < C1.length := by
        have h : (m : Int) < ((pts C1).length : Int) := h
        rw [aq] at h; omega
      have h3 : m - 1 < C1.length := by omega
      have hd2 := Bw hm1 h2
      have hgx : Gt S (C1.take (m - 1) ++ (C1[m - 1].1, C1[m - 1].2) :: (C1[m].1, C1[m].2) :: C1.drop (m + 1)) := by rw [hd2]; exact hg1
      have hjo : Sm5 S.sz C1[m - 1].2 → Sm5 S.sz C1[m].2 → bA S.sz C1[m - 1].2 C1[m].2 = ((C1[m - 1].2 ++ C1[m].2, []), 0) ∧ Gt S (C1.take (m - 1) ++ (C1[m - 1].1, C1[m - 1].2 ++ C1[m].2) :: C1.drop (m + 1)) ∧ ab (C1.take (m - 1) ++ (C1[m - 1].1, C1[m - 1].2 ++ C1[m].2) :: C1.drop (m + 1)) = ab C := fun a b => by
        have := F2 hgx a b
        rw [hd2, hfl] at this; exact this
      have hwn := F4 hwh hm1 h2
      have hwj := F3 (c := (C1[m - 1].1, C1[m - 1].2 ++ C1[m].2)) (B := C1.drop (m + 1)) hwh h2
      have hpj := Ed hm1 h2 (C1[m - 1].2 ++ C1[m].2)
      have hlj : (C1.take (m - 1) ++ (C1[m - 1].1, C1[m - 1].2 ++ C1[m].2) :: C1.drop (m + 1)).length = C1.length - 1 := by simp only [List.length_append, List.length_cons, List.length_take, List.length_drop]; omega
      obtain ⟨C2, hC2⟩ : ∃ C2, C2 = C1.take (m - 1) ++ (C1[m - 1].1, C1[m - 1].2 ++ C1[m].2) :: C1.drop (m + 1) := ⟨_, rfl⟩
      have hcl : Sm5 S.sz C1[m - 1].2 → Sm5 S.sz C1[m].2 → dJ S.sz (C1.take (m - 1) ++ (C1[m - 1].1, (bA S.sz C1[m - 1].2 C1[m].2).1.1) :: (C1[m].1, (bA S.sz C1[m - 1].2 C1[m].2).1.2) :: C1.drop (m + 1)) C2 := fun a b => by
        rw [(hjo a b).1, hC2]
        exact dJ.sub (((List.sublist_cons_self _ _).cons_cons _).append_left _)
      rw [← hC2] at hjo hwj hpj hlj
      have hpk : (qO [(0, .ptr 0 0), (5, .si .i64 ((m : Int)))] S (pts C1) C1).2.1.get 2 = some (.sep (pk (chs S.sz (C1.take (m - 1) ++ (C1[m - 1].1, C1[m - 1].2) :: (C1[m].1, C1[m].2) :: C1.drop (m + 1))))) := by rw [hd2]; rfl
      have s1 : bu (aQ (pts C1)) 0 (m * 1) = some (aQ ((pts C1).take m)) := by
        unfold bu
        rw [Nat.ble_eq_true_of_le (by rw [bR, aq]; omega), List.drop_zero, Nat.mul_one, sM]
      have s2 : bu (aQ (pts C1)) (0 + (m + 1) * 1) (((pts C1).length - (m + 1)) * 1) = some (aQ ((pts C1).drop (m + 1))) := by
        unfold bu
        rw [Nat.ble_eq_true_of_le (by rw [bR, aq]; omega), show 0 + (m + 1) * 1 = m + 1 by omega, sN, Nat.mul_one, List.take_of_length_le (by rw [bR, List.length_drop]; exact Nat.le_refl _)]
      have hmp : m ≤ (pts C1).length := by rw [aq]; omega
      have hmp1 : m + 1 ≤ (pts C1).length := by rw [aq]; omega
      have hbig : (m + ((pts C1).length - (m + 1))) * 8 ≤ 140737488355328 := by rw [aq]; omega
      have hmx : max (1 : Int) (IntKind.i64.wrap ((m : Int) - 1)) = ((max 1 (m - 1) : Nat) : Int) := by rw [hw1]; omega
      conv => whnf
      refine Idx.mk m rfl (by rw [aq]; exact h2) ?_
      conv => whnf
      refine ao (cH h2 (show 0 + m * 1 = m by omega)) ?_
      conv => whnf
      refine ⟨2, S.sz, C1.take m, C1.drop (m + 1), C1[m].1, C1[m].2, rfl, qY h2 rfl, ?_⟩
      conv => whnf
      refine ag.dB (fun z1 => ?_) (fun z1 => ?_)
      focus
        have z1 : ¬ Sm5 S.sz C1[m].2 := z1
        conv => whnf
        exact ⟨⟨(m + 1, C1), Nat.le_add_left 1 m, hfl, hg1, hlen, hwn (fun q => z1 q.2), by show m + 1 ≤ 100000; omega⟩, by show 2 * C1.length - (m + 1) < 2 * C1.length - m; omega, kz 3 (le := [(0, .ptr 0 0), (5, .si .i64 (((m + 1 : Nat) : Int)))]) (Nat.le_refl 3) (fun x hx => by
      simp only [List.mem_cons, List.not_mem_nil, or_false] at hx
      rcases hx with rfl | rfl
      · exact ae.ptr (Nat.le_of_ble_eq_true rfl) rfl
      · exact ae.int (congrArg (AV.si .i64) hw)) ⟨by decide, by decide⟩ rfl rfl rfl rfl rfl rfl (ae.rw (Nat.le_of_ble_eq_true rfl) rfl) rfl (ax _) rfl⟩
      have z1 : Sm5 S.sz C1[m].2 := z1
      conv => whnf
      refine Idx.mk (m - 1) hw1 (by rw [aq]; exact h3) ?_
      conv => whnf
      refine ao (cH h3 (show 0 + (m - 1) * 1 = m - 1 by omega)) ?_
      conv => whnf
      refine ⟨2, S.sz, C1.take (m - 1), C1.drop (m - 1 + 1), C1[m - 1].1, C1[m - 1].2, rfl, qY h3 rfl, ?_⟩
      conv => whnf
      refine ag.dB (fun z2 => ?_) (fun z2 => ?_)
      focus
        have z2 : ¬ Sm5 S.sz C1[m - 1].2 := z2
        conv => whnf
        exact ⟨⟨(m + 1, C1), Nat.le_add_left 1 m, hfl, hg1, hlen, hwn (fun q => z2 q.1), by show m + 1 ≤ 100000; omega⟩, by show 2 * C1.length - (m + 1) < 2 * C1.length - m; omega, kz 3 (le := [(0, .ptr 0 0), (5, .si .i64 (((m + 1 : Nat) : Int)))]) (Nat.le_refl 3) (fun x hx => by
      simp only [List.mem_cons, List.not_mem_nil, or_false] at hx
      rcases hx with rfl | rfl
      · exact ae.ptr (Nat.le_of_ble_eq_true rfl) rfl
      · exact ae.int (congrArg (AV.si .i64) hw)) ⟨by decide, by decide⟩ rfl rfl rfl rfl rfl rfl (ae.rw (Nat.le_of_ble_eq_true rfl) rfl) rfl (ax _) rfl⟩
      have z2 : Sm5 S.sz C1[m - 1].2 := z2
      have j2 := (hjo z2 z1).2.1
      have j3 := (hjo z2 z1).2.2
      conv => whnf
      refine Idx.mk (m - 1) hw1 (by rw [aq]; exact h3) ?_
      conv => whnf
      refine ao (cH h3 (show 0 + (m - 1) * 1 = m - 1 by omega)) ?_
      conv => whnf
      refine Idx.mk m rfl (by rw [aq]; exact h2) ?_
      conv => whnf
      refine ao (cH h2 (show 0 + m * 1 = m by omega)) ?_
      conv => whnf
      refine ⟨2, S.sz, C1.take (m - 1), C1.drop (m + 1), C2, C1[m - 1].1, C1[m].1, C1[m - 1].2, C1[m].2, rfl, rfl, ⟨by decide, by decide, rfl, hpk⟩, rfl, by decide, by omega, hhi, hg1.bS _ (List.getElem_mem h3), hg1.bS _ (List.getElem_mem h2), hcl z2 z1, ?_⟩
      conv => whnf
      refine ⟨?_, trivial⟩
      conv => whnf
      refine RSl.mk 0 m rfl rfl (.inr ⟨rfl, rfl⟩) (Nat.zero_le _) hmp ?_
      conv => whnf
      refine RSl.mk (m + 1) (pts C1).length (congrArg (fun q => jX (some (AV.int .i64 q)) 0) hw) rfl (.inl rfl) hmp1 (Nat.le_refl _) ?_
      conv => whnf
      by_cases hend : m + 1 = C1.length
      focus
        have hz : (pts C1).length - (m + 1) = 0 := by rw [aq]; omega
        have hdn : (pts C1).drop (m + 1) = [] := List.drop_eq_nil_of_le (by rw [aq]; omega)
        have hp2 : pts C1 = pts C2 ++ (pts C1).drop m := by rw [← hpj, hdn, List.append_nil, List.take_append_drop]
        have hln : m = (pts C2).length := by rw [← hpj, hdn, List.append_nil, List.length_take, aq]; omega
        have hsr : ∀ {H : AH} {b q : Nat}, H.get b = some (.cells (aQ (pts C1)) true) → tz H 1 (.rw b (0 + (m + 1) * 1) ((pts C1).length - (m + 1)) 1 q) 0 [] := fun hb => by
          rw [hz]
          exact .rw (.inr ⟨_, hb⟩) (by
            unfold bu
            rw [Nat.ble_eq_true_of_le (by rw [bR, aq]; omega)]; rfl)
        refine fk.lR 1 8 3 0 m 1 _ true rfl (by decide) Bv (hsr rfl) rfl ?_
        conv => whnf
        exact ⟨⟨(max 1 (m - 1), C2), Nat.le_max_left _ _, j3, j2, by show C2.length ≤ 100000; omega, hwj, by show max 1 (m - 1) ≤ 100000; omega⟩, by show 2 * C2.length - max 1 (m - 1) < 2 * C1.length - m; omega, II 3 (X := (pts C1).drop m) (le := [(0, .ptr 0 0), (5, .si .i64 (((max 1 (m - 1) : Nat) : Int)))]) (Nat.le_refl 3) (fun x hx => by
      simp only [List.mem_cons, List.not_mem_nil, or_false] at hx
      rcases hx with rfl | rfl
      · exact ae.ptr (Nat.le_of_ble_eq_true rfl) rfl
      · exact ae.int (congrArg (AV.si .i64) hmx)) ⟨by decide, by decide⟩ rfl rfl rfl rfl rfl rfl (ae.rw (Nat.le_of_ble_eq_true rfl) (congrArg (fun q => AV.rw 3 0 q 1 1) hln)) (congrArg (fun q => some (AO.cells (aQ q) true)) hp2) rfl⟩
      have hln : m + ((pts C1).length - (m + 1)) = (pts C2).length := by rw [← hpj, List.length_append, List.length_take, List.length_drop, aq]; omega
      have hn0 : (pts C1).length - (m + 1) ≠ 0 := by rw [aq]; omega
      have hpm : (aQ ((pts C1).take m) ++ aQ ((pts C1).drop (m + 1))).map mk = aQ (pts C2) := by rw [← hpj, qN, List.map_append, ax, ax]
      refine fk.exact 1 8 ((pts C1).length - (m + 1)) 3 0 m (aQ ((pts C1).drop (m + 1))) (aQ ((pts C1).take m)) rfl Bv (.rw (.inr ⟨_, rfl⟩) s2) (by rw [bR, List.length_drop, Nat.mul_one]) (wR _) hn0 (.rw (.inr ⟨_, rfl⟩) s1) hbig ?_
      conv => whnf
      exact ⟨⟨(max 1 (m - 1), C2), Nat.le_max_left _ _, j3, j2, by show C2.length ≤ 100000; omega, hwj, by show max 1 (m - 1) ≤ 100000; omega⟩, by show 2 * C2.length - max 1 (m - 1) < 2 * C1.length - m; omega, kz 6 (le := [(0, .ptr 0 0), (5, .si .i64 (((max 1 (m - 1) : Nat) : Int)))]) (Nat.le_refl 3) (fun x hx => by
      simp only [List.mem_cons, List.not_mem_nil, or_false] at hx
      rcases hx with rfl | rfl
      · exact ae.ptr (Nat.le_of_ble_eq_true rfl) rfl
      · exact ae.int (congrArg (AV.si .i64) hmx)) ⟨by decide, by decide⟩ rfl rfl rfl rfl rfl rfl (ae.rw (Nat.le_of_ble_eq_true rfl) (congrArg (fun q => AV.rw 6 0 q 1 0) hln)) rfl hpm rfl⟩
    have h2 : C1.length ≤ m := by
      have : ¬ m < C1.length := fun q => h (by
        show (m : Int) < ((pts C1).length : Int)
        rw [aq]; omega)
      omega
    have hwe : Wh S.sz C1.length C1 := fun j hj hjn => hwh j hj (by omega)
    conv => whnf
    exact dM (TdP S C) ⟨rfl, rfl, rfl, hfl, hg1, hwe⟩ (VTo.mk5 rfl) (fun φ ψ w h => fw rfl h) 3 ⟨by decide, by decide⟩ rfl rfl rfl rfl rfl rfl (ae.rw (Nat.le_of_ble_eq_true rfl) rfl) rfl (ax _) rfl
end Go.Proofs.Ythjggjhebbdkdaa
namespace Go.Proofs.Ythjggjhebbdkdaa
open Go Go.RowKit
def nA (args : List AV) (H : AH) (n : Nat) (κ : PK) : Prop := match args with
  | [x] => ∃ (r k q : Nat) (S : Sr) (C : Ck5), x = .ptr r 0 ∧ cZ H n r k q S (pts C) C ∧ Pre5 S C ∧ C.length ≤ 100000 ∧ ∀ C', ab C' = ab C → Gt S C' → Wh S.sz C'.length C' → κ (.tup []) (dS H n r k q S (pts C') C') (n + 1)
  | _ => False
theorem yq : aF 48 nA := fun args H n κ hs φ h0' hp vs K hr hargs hk => by
  unfold nA at hs
  split at hs
  · obtain ⟨w1, us1, q1, e1, r1⟩ := hargs.cons_inv
    obtain ⟨r, k, q, S, C, rfl, hR, hP, hf, hs⟩ := hs
    refine dY (aB IK 5 _) (by kernel_rfl) (Ee S C hP hf) (fun _ => rfl) hr hR hargs hk (fun u S' V' C' ⟨g, _⟩ => by subst g; exact ⟨fun _ => rfl, rfl⟩) fun u S' V' C' ⟨g1, g2, g3, g4, g5, g6⟩ => ?_
    subst g1 g2 g3; exact hs C' g4 g5 g6
  · exact hs.elim
def ex5 (C : Ck5) : Nat := (C.map fun c => c.2.length - 1).sum
theorem zQ (A B : Ck5) : ex5 (A ++ B) = ex5 A + ex5 B := by simp [ex5]
theorem jD (c : (Nat × Nat) × Smp) (B : Ck5) : ex5 (c :: B) = (c.2.length - 1) + ex5 B := by simp [ex5]
theorem uo : ∀ C : Ck5, ex5 C ≤ (ab C).length
  | [] => Nat.le_refl _
  | c :: C => by
    have := uo C
    rw [jD, bw, List.length_append]; omega
structure lq (S : Sr) (C : Ck5) : Prop where
  lo : 128 ≤ S.sz
  hi : S.sz ≤ 4096
  up : Up (ab C)
  bS : ∀ c ∈ C, bX c.2
theorem F7 {sz : Nat} {L : Smp} (hs : 128 ≤ sz) (h : ¬ (usd L : Int) ≤ (sz : Int)) : 2 ≤ L.length := by
  rcases Nat.lt_or_ge L.length 2 with q | q
  · have h1 := lI (L := L) (by omega)
    have h2 := lK L
    omega
  · exact q
theorem F8 {sz : Nat} {L : Smp} (h : (usd L : Int) ≤ (sz : Int)) : (aU L).length ≤ 8 * sz := by
  have h2 := lK L
  omega
theorem Ef {S : Sr} {A B : Ck5} {p q : Nat × Nat} {L : Smp} (hg : lq S (A ++ (p, L) :: B)) (h2 : 2 ≤ L.length) : lq S (A ++ (p, L.take (bH L)) :: (q, L.drop (bH L)) :: B) ∧ ab (A ++ (p, L.take (bH L)) :: (q, L.drop (bH L)) :: B) = ab (A ++ (p, L) :: B) ∧ ex5 (A ++ (p, L.take (bH L)) :: (q, L.drop (bH L)) :: B) + 1 = ex5 (A ++ (p, L) :: B) := by
  obtain ⟨k1, k2⟩ := tZ h2
  have hF : bX L := hg.bS (p, L) (by simp)
  have ef : ab (A ++ (p, L.take (bH L)) :: (q, L.drop (bH L)) :: B) = ab (A ++ (p, L) :: B) := by
    rw [dg, dg, bw, ← List.append_assoc (L.take (bH L)), List.take_append_drop]
  refine ⟨⟨hg.lo, hg.hi, by rw [ef]; exact hg.up, fun c hc => ?_⟩, ef, ?_⟩
  · rcases cK.1 hc with rfl | k
    · exact hF.sub (List.take_sublist _ _)
    · rcases cK.1 k with rfl | k
      · exact hF.sub (List.drop_sublist _ _)
      · exact hg.bS c (cK.2 (.inr k))
  · rw [zQ, zQ, jD, jD, jD]
    simp only [List.length_take, List.length_drop]
    omega
def FtP (S0 : Sr) (C0 : Ck5) : AV → Sr → Ps → Ck5 → Prop := fun u S V C => u = .tup [] ∧ S = S0 ∧ V = pts C ∧ ab C = ab C0 ∧ Pre5 S0 C ∧ C.length + ex5 C = C0.length + ex5 C0
def JZ : DT := [(2, [(some 0, [0]), (some 0, [12]), (some 0, [13]), (some 0, [14]), (some 0, [2]), (some 0, [15, 16]), (some 0, [17]), (none, [18]), (some 1, [0]), (some 2, [20]), (some 3, [21]), (some 4, [22]), (some 0, [19, 23])])]
noncomputable def J0 : FuncId → EP := a9 76 uk (a9 40 lJ (cq 35 (lp zG) evP))
theorem F9 : bG J0 := aw (aw (aY bd ug (uf _)) wT) wS
noncomputable def KFt : FuncId → EP := bK 47 JZ J0
theorem IL : bG KFt := aL F9 (by kernel_rfl) (by kernel_rfl)
theorem Ga (S : Sr) (C : Ck5) (hp : lq S C) (hf : C.length + ex5 C ≤ 100000) : cf (az KFt 5 47) [.ptr 0 0] (mkH (eu (eG S (pts C) C) 0)) 3 (SP (FtP S C)) := by
  have hlo := hp.lo
  have hhi := hp.hi
  show az KFt 5 _ _ _ _ _
  conv => whnf
  refine bg.mk { x : Nat × Ck5 // ab x.2 = ab C ∧ lq S x.2 ∧ x.2.length + ex5 x.2 = C.length + ex5 C ∧ x.1 ≤ x.2.length ∧ ∀ j, (hj : j < x.2.length) → j < x.1 → (aU (x.2[j]).2).length ≤ 8 * S.sz } 4 (fun x => ((qO [(0, .ptr 0 0), (2, .si .i64 ((x.val.1 : Int)))] S (pts x.val.2) x.val.2).1, (qO [(0, .ptr 0 0), (2, .si .i64 ((x.val.1 : Int)))] S (pts x.val.2) x.val.2).2.1)) (fun x => 2 * ex5 x.val.2 + (x.val.2.length - x.val.1)) ⟨(0, C), rfl, hp, rfl, Nat.zero_le _, fun j hj hn => absurd hn (Nat.not_lt_zero j)⟩ ?_ ?_
  focus
    exact kz 1 (le := [(0, .ptr 0 0), (2, .si .i64 (((0 : Nat) : Int)))]) (Nat.le_refl 3) (fun x hx => by
      simp only [List.mem_cons, List.not_mem_nil, or_false] at hx
      rcases hx with rfl | rfl
      · exact ae.ptr (Nat.le_of_ble_eq_true rfl) rfl
      · exact ae.int rfl) ⟨by decide, by decide⟩ rfl rfl rfl rfl rfl rfl (ae.rw (Nat.le_of_ble_eq_true rfl) rfl) rfl (ax _) rfl
  intro ⟨⟨m, C1⟩, hfl, hg1, hK, hml, hft⟩
  have hfl : ab C1 = ab C := hfl
  have hg1 : lq S C1 := hg1
  have hK : C1.length + ex5 C1 = C.length + ex5 C := hK
  have hml : m ≤ C1.length := hml
  have hft : ∀ j, (hj : j < C1.length) → j < m → (aU (C1[j]).2).length ≤ 8 * S.sz := hft
  have hw : IntKind.i64.wrap ((m : Int) + 1) = ((m + 1 : Nat) : Int) := by rw [al (by omega) (by omega)]; omega
  have hend : ¬ m < C1.length → Pre5 S C1 := fun h => ⟨hg1.lo, hg1.hi, hg1.up, hg1.bS, fun c hc => by
    obtain ⟨j, hj, rfl⟩ := List.getElem_of_mem hc
    exact hft j hj (by omega)⟩
  have hlC : (pts C1).length = C1.length := aq C1
  have body : ∀ h2 : m < C1.length, (2 ≤ C1[m].2.length → ∃ D2 : Nat × Nat → Ck5, ∀ o, dJ S.sz (C1.take m ++ (C1[m].1, C1[m].2.take (bH C1[m].2)) :: (o, C1[m].2.drop (bH C1[m].2)) :: C1.drop (m + 1)) (D2 o) ∧ (pts C1).take (m + 1) ++ o :: (pts C1).drop (m + 1) = pts (D2 o) ∧ ab (D2 o) = ab C ∧ lq S (D2 o) ∧ (D2 o).length = C1.length + 1 ∧ ex5 (D2 o) + 1 = ex5 C1 ∧ ∀ j, (hj : j < (D2 o).length) → j < m → (aU ((D2 o)[j]).2).length ≤ 8 * S.sz) ∧ ((aU C1[m].2).length ≤ 8 * S.sz → ∀ j, (hj : j < C1.length) → j < m + 1 → (aU (C1[j]).2).length ≤ 8 * S.sz) := fun h2 => by
    have hsp := df h2
    refine ⟨fun k => ⟨fun o => C1.take m ++ (C1[m].1, C1[m].2.take (bH C1[m].2)) :: (o, C1[m].2.drop (bH C1[m].2)) :: C1.drop (m + 1), fun o => ⟨dJ.refl _ _, zO h2 o _ _, ?_⟩⟩, fun k j hj hjn => ?_⟩
    · have hs := Ef (q := o) (A := C1.take m) (B := C1.drop (m + 1)) (p := C1[m].1) (L := C1[m].2) (S := S) (by rw [hsp]; exact hg1) k
      rw [hsp, hfl] at hs
      refine ⟨hs.2.1, hs.1, by simp only [List.length_append, List.length_cons, List.length_take, List.length_drop]; omega, hs.2.2, ?_⟩
      refine fun j hj hjn => ?_
      have e : (C1.take m ++ (C1[m].1, C1[m].2.take (bH C1[m].2)) :: (o, C1[m].2.drop (bH C1[m].2)) :: C1.drop (m + 1))[j]'hj = C1[j]'(by omega) := by
        rw [List.getElem_append_left (by rw [List.length_take]; omega), List.getElem_take]
      rw [e]
      exact hft j (by omega) hjn
    · by_cases q : j = m
      · subst q; exact k
      · exact hft j hj (by omega)
  conv => whnf
  refine ag.dec (fun h => ?_) (fun h => ?_)
  focus
    have h2 : m < C1.length := by
      have h : (m : Int) < ((pts C1).length : Int) := h
      omega
    have hb := body h2
    have hmp : m < (pts C1).length := by omega
    have hO : bX C1[m].2 := hg1.bS _ (List.getElem_mem h2)
    conv => whnf
    refine Idx.mk m rfl hmp ?_
    conv => whnf
    refine ao (cH h2 (show 0 + m * 1 = m by omega)) ?_
    conv => whnf
    refine ⟨2, S.sz, C1.take m, C1.drop (m + 1), C1[m].1, C1[m].2, rfl, qY h2 rfl, ?_⟩
    conv => whnf
    refine ag.dec (fun z => ?_) (fun z => ?_)
    focus
      have z : (usd C1[m].2 : Int) ≤ (S.sz : Int) := z
      have k1 := hb.2 (F8 z)
      conv => whnf
      exact ⟨⟨(m + 1, C1), hfl, hg1, hK, h2, k1⟩, by show 2 * ex5 C1 + (C1.length - (m + 1)) < 2 * ex5 C1 + (C1.length - m); omega, kz 3 (le := [(0, .ptr 0 0), (2, .si .i64 (((m + 1 : Nat) : Int)))]) (Nat.le_refl 3) (fun x hx => by
      simp only [List.mem_cons, List.not_mem_nil, or_false] at hx
      rcases hx with rfl | rfl
      · exact ae.ptr (Nat.le_of_ble_eq_true rfl) rfl
      · exact ae.int (congrArg (AV.si .i64) hw)) ⟨by decide, by decide⟩ rfl rfl rfl rfl rfl rfl (ae.rw (Nat.le_of_ble_eq_true rfl) rfl) rfl (ax _) rfl⟩
    have z : ¬ (usd C1[m].2 : Int) ≤ (S.sz : Int) := z
    have hL2 := F7 hlo z
    have k1 := hb.1 hL2
    clear hb body
    revert k1
    refine fun ⟨D2, k1⟩ => ?_
    conv => whnf
    refine Idx.mk m rfl hmp ?_
    conv => whnf
    refine ao (cH h2 (show 0 + m * 1 = m by omega)) ?_
    conv => whnf
    refine ⟨2, S.sz, C1.take m, C1.drop (m + 1), C1[m].1, C1[m].2, D2, rfl, gG h2 rfl (by decide) (by decide) rfl, rfl, by decide, by omega, hO, hL2, fun o => ⟨(k1 o).1, ?_⟩⟩
    have k2 := (k1 o).2
    conv => whnf
    refine ⟨0, 3, 2, m + 1, S, pts C1, pts (D2 o), D2 o, o, rfl, congrArg (AV.si .i64) hw, rfl, ⟨⟨by decide, by decide, by decide⟩, ⟨by decide, by decide, by decide⟩, rfl, rfl, rfl⟩, by omega, by omega, k2.1, ?_⟩
    conv => whnf
    exact ⟨⟨(m, D2 o), k2.2.1, k2.2.2.1, by show (D2 o).length + ex5 (D2 o) = C.length + ex5 C; have := k2.2.2.2.1; have := k2.2.2.2.2.1; omega, by show m ≤ (D2 o).length; have := k2.2.2.2.1; omega, k2.2.2.2.2.2⟩, by show 2 * ex5 (D2 o) + ((D2 o).length - m) < 2 * ex5 C1 + (C1.length - m); have := k2.2.2.2.1; have := k2.2.2.2.2.1; omega, kz 6 (le := [(0, .ptr 0 0), (2, .si .i64 ((m : Int)))]) (Nat.le_refl 3) (fun x hx => by
      simp only [List.mem_cons, List.not_mem_nil, or_false] at hx
      rcases hx with rfl | rfl
      · exact ae.ptr (Nat.le_of_ble_eq_true rfl) rfl
      · exact ae.int rfl) ⟨by decide, by decide⟩ rfl rfl rfl rfl rfl rfl (ae.rw (Nat.le_of_ble_eq_true rfl) rfl) rfl (ax _) rfl⟩
  have h2 : ¬ m < C1.length := fun q => h (by
    show (m : Int) < ((pts C1).length : Int)
    omega)
  have hpe := hend h2
  conv => whnf
  exact dM (FtP S C) ⟨rfl, rfl, rfl, hfl, hpe, hK⟩ (VTo.mk5 rfl) (fun φ ψ w h => fw rfl h) 3 ⟨by decide, by decide⟩ rfl rfl rfl rfl rfl rfl (ae.rw (Nat.le_of_ble_eq_true rfl) rfl) rfl (ax _) rfl
def yr (args : List AV) (H : AH) (n : Nat) (κ : PK) : Prop := match args with
  | [x] => ∃ (r k q : Nat) (S : Sr) (C : Ck5), x = .ptr r 0 ∧ cZ H n r k q S (pts C) C ∧ lq S C ∧ C.length + ex5 C ≤ 100000 ∧ ∀ C', ab C' = ab C → Pre5 S C' → C'.length ≤ 100000 → κ (.tup []) (dS H n r k q S (pts C') C') (n + 1)
  | _ => False
theorem J1 : aF 47 yr := fun args H n κ hs φ h0' hp vs K hr hargs hk => by
  unfold yr at hs
  split at hs
  · obtain ⟨w1, us1, q1, e1, r1⟩ := hargs.cons_inv
    obtain ⟨r, k, q, S, C, rfl, hR, hP, hf, hs⟩ := hs
    refine dY (aB IL 5 _) (by kernel_rfl) (Ga S C hP hf) (fun _ => rfl) hr hR hargs hk (fun u S' V' C' ⟨g, _⟩ => by subst g; exact ⟨fun _ => rfl, rfl⟩) fun u S' V' C' ⟨g1, g2, g3, g4, g5, g6⟩ => ?_
    subst g1 g2 g3; exact hs C' g4 g5 (by omega)
  · exact hs.elim
def dp (a b : Int) (C : Ck5) : Ck5 := C.map fun c => (c.1, aS c.2 a b)
theorem mK (a b : Int) : ∀ C : Ck5, ab (dp a b C) = aS (ab C) a b
  | [] => rfl
  | c :: C => by
    have ih := mK a b C
    show ab ((c.1, aS c.2 a b) :: dp a b C) = _
    rw [bw, bw, ih]
    unfold aS
    rw [List.filter_append]
theorem By (a b : Int) (C : Ck5) : pts (dp a b C) = pts C := by simp [dp, pts]
theorem Bz (a b : Int) (C : Ck5) : (dp a b C).length = C.length := List.length_map _
theorem wW (a b : Int) : ∀ C : Ck5, ex5 (dp a b C) ≤ ex5 C
  | [] => Nat.le_refl _
  | c :: C => by
    have ih := wW a b C
    show ex5 ((c.1, aS c.2 a b) :: dp a b C) ≤ _
    rw [jD, jD]
    have : (aS c.2 a b).length ≤ c.2.length := List.length_filter_le _ _
    show ((aS c.2 a b).length - 1) + _ ≤ _
    omega
theorem Eg {S : Sr} {C : Ck5} (h : lq S C) (a b : Int) : lq S (dp a b C) := ⟨h.lo, h.hi, by rw [mK]; exact h.up.sublist List.filter_sublist, fun c hc => by
  obtain ⟨d, hd, rfl⟩ := List.mem_map.1 hc
  exact qC (h.bS d hd) a b⟩
theorem yt {a b : Int} {C : Ck5} {i : Nat} (h : i < C.length) : dp a b (C.take (i + 1)) = dp a b (C.take i) ++ [(C[i].1, aS C[i].2 a b)] := by
  unfold dp
  rw [List.take_add_one, List.getElem?_eq_getElem h, List.map_append]; rfl
theorem sO {C : Ck5} {i : Nat} (h : i < C.length) : ab (C.take (i + 1)) = ab (C.take i) ++ C[i].2 := by
  rw [List.take_add_one, List.getElem?_eq_getElem h, gA]; simp [ab, cnt]
theorem uq (C : Ck5) (i : Nat) : (ab (C.take i)).length ≤ (ab C).length := by
  have : ab C = ab (C.take i) ++ ab (C.drop i) := by rw [← gA, List.take_append_drop]
  rw [this, List.length_append]; omega
def dlN (a b : Int) (C : Ck5) : Nat := (ab C).length - (aS (ab C) a b).length
theorem jE (L : Smp) (a b : Int) : (aS L a b).length ≤ L.length := List.length_filter_le _ _
theorem Eh {a b : Int} {C : Ck5} {i : Nat} (h : i < C.length) : (dlN a b (C.take (i + 1)) : Int) = (dlN a b (C.take i) : Int) + ((C[i].2.length : Int) - ((aS C[i].2 a b).length : Int)) := by
  unfold dlN
  have h1 := jE (ab (C.take i)) a b
  have h2 := jE C[i].2 a b
  rw [sO h]
  have e : aS (ab (C.take i) ++ C[i].2) a b = aS (ab (C.take i)) a b ++ aS C[i].2 a b := List.filter_append _ _
  rw [e, List.length_append, List.length_append]
  omega
def DlP (S0 : Sr) (C0 : Ck5) (a b : Int) : AV → Sr → Ps → Ck5 → Prop := fun u S V C => u = .si .i64 ((dlN a b C0 : Nat) : Int) ∧ S = S0 ∧ V = pts C ∧ ab C = aS (ab C0) a b ∧ Gt S0 C ∧ Wh S0.sz C.length C
noncomputable def KDl : FuncId → EP := bK 10 [] (a9 47 yr (a9 48 nA (a9 30 qM evP)))
theorem IM : bG KDl := aL (aw (aw (aw bd FQ) yq) J1) (by kernel_rfl) (by kernel_rfl)
theorem Gb (S : Sr) (C : Ck5) (a b : Int) (hp : lq S C) (hf : C.length + ex5 C ≤ 100000) (hf2 : (ab C).length ≤ 100000) : cf (az KDl 5 10) [.ptr 0 0, .si .i64 a, .si .i64 b] (mkH (eu (eG S (pts C) C) 0)) 3 (SP (DlP S C a b)) := by
  have hlo := hp.lo
  have hhi := hp.hi
  have hpd := Eg hp a b
  have hex := wW a b C
  have hdl := Bz a b C
  show az KDl 5 _ _ _ _ _
  conv => whnf
  refine ag.dB (fun z => absurd (show (0 : Int) < (S.sz : Int) by omega) z) (fun _ => ?_)
  conv => whnf
  refine bg.mk { i : Nat // i ≤ C.length } 4 (fun i => ((qO [(0, .ptr 0 0), (1, .si .i64 a), (2, .si .i64 b), (7, .si .i64 ((dlN a b (C.take i.val) : Nat) : Int)), (16, .rw 3 0 (pts C).length 1 0), (17, .si .i64 ((pts C).length : Int)), (18, .si .i64 ((i.val : Int)))] S (pts C) (dp a b (C.take i.val) ++ C.drop i.val)).1, (qO [(0, .ptr 0 0), (1, .si .i64 a), (2, .si .i64 b), (7, .si .i64 ((dlN a b (C.take i.val) : Nat) : Int)), (16, .rw 3 0 (pts C).length 1 0), (17, .si .i64 ((pts C).length : Int)), (18, .si .i64 ((i.val : Int)))] S (pts C) (dp a b (C.take i.val) ++ C.drop i.val)).2.1)) (fun i => C.length - i.val) ⟨0, Nat.zero_le _⟩ ?_ ?_
  focus
    exact kz 1 (le := [(0, .ptr 0 0), (1, .si .i64 a), (2, .si .i64 b), (7, .si .i64 ((dlN a b (C.take 0) : Nat) : Int)), (16, .rw 3 0 (pts C).length 1 0), (17, .si .i64 ((pts C).length : Int)), (18, .si .i64 (((0 : Nat) : Int)))]) (Nat.le_refl 3) (fun x hx => by
      simp only [List.mem_cons, List.not_mem_nil, or_false] at hx
      rcases hx with rfl | rfl | rfl | rfl | rfl | rfl | rfl
      · exact ae.ptr (Nat.le_of_ble_eq_true rfl) rfl
      · exact ae.int rfl
      · exact ae.int rfl
      · exact ae.int rfl
      · exact ae.rw (Nat.le_of_ble_eq_true rfl) rfl
      · exact ae.int rfl
      · exact ae.int rfl) ⟨by decide, by decide⟩ rfl rfl rfl rfl rfl rfl (ae.rw (Nat.le_of_ble_eq_true rfl) rfl) rfl (ax _) rfl
  intro ⟨i, hi⟩
  have hw : IntKind.i64.wrap ((i : Int) + 1) = ((i + 1 : Nat) : Int) := by rw [al (by omega) (by omega)]; omega
  have hlC : (pts C).length = C.length := aq C
  have hle := uq C (i + 1)
  have st : ∀ h : i < C.length, some (bP S (dp a b (C.take i) ++ C.drop i)) = some (AO.sep (pk (chs S.sz (dp a b (C.take i) ++ (C[i].1, C[i].2) :: C.drop (i + 1))))) ∧ dJ S.sz (dp a b (C.take i) ++ (C[i].1, aS C[i].2 a b) :: C.drop (i + 1)) (dp a b (C.take (i + 1)) ++ C.drop (i + 1)) ∧ IntKind.i64.wrap (((dlN a b (C.take i) : Nat) : Int) + ((C[i].2.length : Int) - ((aS C[i].2 a b).length : Int))) = ((dlN a b (C.take (i + 1)) : Nat) : Int) := fun h => by
    refine ⟨by rw [show C.drop i = (C[i].1, C[i].2) :: C.drop (i + 1) from List.drop_eq_getElem_cons h]; rfl, by rw [yt h, List.append_assoc]; exact dJ.refl _ _, ?_⟩
    have e := Eh (a := a) (b := b) h
    rw [← e]
    have : dlN a b (C.take (i + 1)) ≤ 100000 := by unfold dlN; omega
    rw [al (by omega) (by omega)]
  conv => whnf
  refine ag.dec (fun h => ?_) (fun h => ?_)
  focus
    have h2 : i < C.length := by
      have h : (i : Int) < ((pts C).length : Int) := h
      omega
    have st2 := st h2
    have hO : bX C[i].2 := hp.bS _ (List.getElem_mem h2)
    conv => whnf
    refine Idx.mk i rfl (by omega) ?_
    conv => whnf
    refine ao (cH h2 (show 0 + i * 1 = i by omega)) ?_
    conv => whnf
    refine ⟨2, S.sz, dp a b (C.take i), C.drop (i + 1), dp a b (C.take (i + 1)) ++ C.drop (i + 1), C[i].1, C[i].2, a, b, rfl, rfl, rfl, ⟨by decide, by decide, rfl, st2.1⟩, by omega, hO, st2.2.1, ?_⟩
    conv => whnf
    exact ⟨⟨i + 1, h2⟩, by show C.length - (i + 1) < C.length - i; omega, kz 3 (le := [(0, .ptr 0 0), (1, .si .i64 a), (2, .si .i64 b), (7, .si .i64 ((dlN a b (C.take (i + 1)) : Nat) : Int)), (16, .rw 3 0 (pts C).length 1 0), (17, .si .i64 ((pts C).length : Int)), (18, .si .i64 (((i + 1 : Nat) : Int)))]) (Nat.le_refl 3) (fun x hx => by
      simp only [List.mem_cons, List.not_mem_nil, or_false] at hx
      rcases hx with rfl | rfl | rfl | rfl | rfl | rfl | rfl
      · exact ae.ptr (Nat.le_of_ble_eq_true rfl) rfl
      · exact ae.int rfl
      · exact ae.int rfl
      · exact ae.int (congrArg (AV.si .i64) st2.2.2)
      · exact ae.rw (Nat.le_of_ble_eq_true rfl) rfl
      · exact ae.int rfl
      · exact ae.int (congrArg (AV.si .i64) hw)) ⟨by decide, by decide⟩ rfl rfl rfl rfl rfl rfl (ae.rw (Nat.le_of_ble_eq_true rfl) rfl) rfl (ax _) rfl⟩
  have hin : i = C.length := by
    have : ¬ i < C.length := fun q => h (by
      show (i : Int) < ((pts C).length : Int)
      omega)
    omega
  have eD : dp a b (C.take i) ++ C.drop i = dp a b C := by rw [hin, List.take_length, List.drop_length, List.append_nil]
  have eN : dlN a b (C.take i) = dlN a b C := by rw [hin, List.take_length]
  have eS : some (bP S (dp a b (C.take i) ++ C.drop i)) = some (bP S (dp a b C)) := by rw [eD]
  have eP := By a b C
  have eP1 : some (AO.cells (bO S 3 (pts C).length) true) = some (AO.cells (bO S 3 (pts (dp a b C)).length) true) := by rw [eP]
  have eP2 : some (AO.cells (aQ (pts C)) true) = some (AO.cells (aQ (pts (dp a b C))) true) := by rw [eP]
  have eF := mK a b C
  have eU : AV.si .i64 ((dlN a b (C.take i) : Nat) : Int) = .si .i64 ((dlN a b C : Nat) : Int) := by rw [eN]
  clear st
  conv => whnf
  refine ⟨0, 3, 2, S, dp a b C, rfl, ⟨⟨by decide, by decide, by decide⟩, ⟨by decide, by decide, by decide⟩, eP1, eP2, eS⟩, hpd, by omega, fun C1 f1 f2 f3 => ?_⟩
  conv => whnf
  refine ⟨0, 4, 2, S, C1, rfl, ⟨⟨by decide, by decide, by decide⟩, ⟨by decide, by decide, by decide⟩, rfl, rfl, rfl⟩, f2, f3, fun C2 g1 g2 g3 => ?_⟩
  conv => whnf
  exact dM (DlP S C a b) ⟨rfl, rfl, rfl, by rw [g1, f1, eF], g2, g3⟩ (VTo.mk5 eU) VR.c6 5 ⟨by decide, by decide⟩ rfl rfl rfl rfl rfl rfl (ae.rw (Nat.le_of_ble_eq_true rfl) rfl) rfl (ax _) rfl
end Go.Proofs.Ythjggjhebbdkdaa
namespace Go.Proofs.Ythjggjhebbdkdaa
open Go Go.RowKit
noncomputable def zR (le : List (Nat × AV)) (S : Sr) (V : Ps) (C : Ck5) : AE × AH × Nat := (mkE le, mkH [(0, .cells (bO S 1 V.length) true), (1, .cells (aQ V) true), (2, bP S C)], 3)
theorem yu {σ : AE} {H : AH} {n : Nat} {S : Sr} {V : Ps} {C : Ck5} {le : List (Nat × AV)} (he : ∀ x ∈ le, ae H 3 (fun b => b) (ay (pa x.1) σ) x.2) (hc : PM.get H 0 = some (.cells (bO S 1 V.length) true)) (hl : PM.get H 1 = some (.cells (aQ V) true)) (hq : PM.get H 2 = some (bP S C)) : Cov 3 σ H n (zR le S V C) := by
  refine Cov.ofR (m := 3) (p := 3) (fun b => b) (Nat.le_refl _) (fun b hb => rfl) he ?_ (fun x hx y hy e => e)
  intro x hx
  simp only [List.mem_cons, List.not_mem_nil, or_false] at hx
  rcases hx with rfl | rfl | rfl
  · exact ⟨Nat.le_of_ble_eq_true rfl, .inl ⟨_, hc, aO.bO rfl rfl rfl rfl rfl (ae.rw (Nat.le_of_ble_eq_true rfl) rfl)⟩⟩
  · exact ⟨Nat.le_of_ble_eq_true rfl, .inl ⟨_, hl, aO.aQ (ax _)⟩⟩
  · exact ⟨Nat.le_of_ble_eq_true rfl, .inl ⟨_, hq, aO.sep _⟩⟩
def RoP (P : AV → Prop) (S : Sr) (V : Ps) (C : Ck5) : PK := fun u H' m => P u ∧ H' = mkH [(0, .cells (bO S 1 V.length) true), (1, .cells (aQ V) true), (2, bP S C)] ∧ m = 3
theorem jF {u v : AV} {H : AH} {n : Nat} {S : Sr} {V : Ps} {C : Ck5} (P : AV → Prop) (hP : P v) (hu : VTo u v) (hv : ∀ φ ψ w, VR φ v w → VR ψ v w) (hc : PM.get H 0 = some (.cells (bO S 1 V.length) true)) (hl : PM.get H 1 = some (.cells (aQ V) true)) (hq : PM.get H 2 = some (bP S C)) : ∃ (v2 : AV) (H2 : AH) (m : Nat), Cov 3 (mkE [(0, u)]) H n (mkE [(0, v2)], H2, m) ∧ RoP P S V C v2 H2 m :=
  ⟨v, (zR [(0, v)] S V C).2.1, 3, yu (le := [(0, v)]) (fun x hx => by
    simp only [List.mem_cons, List.not_mem_nil, or_false] at hx
    subst hx
    exact fun φ ψ w hr _ hw => hv φ ψ w (hu φ w hw)) hc hl hq, hP, rfl, rfl⟩
theorem yw {f : FuncId} {run : List AV → AH → Nat → PK → Prop} (hrun : aF f run) (hic : aj Try.prog f = true) {ar0 : List AV} {S : Sr} {V : Ps} {C : Ck5} {P : AV → Prop} (h : cf run (.ptr 0 0 :: ar0) (mkH (eu (eG S V C) 0)) 3 (RoP P S V C)) (har : ∀ r, dR r ar0 = ar0)
    {φ : Ph} {H : AH} {n : Nat} {h0 hp : Hp} {vs : Array Value} {κ : PK} {K : KH} {r k q : Nat} (hr : HR φ H n h0 hp) (hR : cZ H n r k q S V C) (hargs : VRs φ (.ptr r 0 :: ar0) vs.toList) (hk : bV φ h0 κ K) (hP : ∀ u, P u → (∀ f, ren f u = u) ∧ ltV 3 u = true) (hs : ∀ u, P u → κ u H n) : cL Try.prog f vs hp K := by
  refine cw (S := [r, k, q]) (O := eG S V C) (args0 := .ptr 0 0 :: ar0) (aF.cf hrun) hic hr hR.zL (by show VRs φ (ren _ _ :: dR _ ar0) vs.toList; rw [har]; exact hargs) hk h fun u H' n' ⟨g0, g1, g2⟩ => ?_
  subst g1 g2
  obtain ⟨hren, hlt⟩ := hP u g0
  refine ⟨3, H, Nat.le_refl _, cG.same fun i s o h3 h4 _ => ?_, hlt, by rw [hren]; exact hs u g0⟩
  match i, h3 with
  | 0, h3 =>
    injection h3 with h3; subst h3
    rw [hR.hr] at h4; injection h4 with h4; subst h4
    exact ⟨_, rfl, rfl, rfl, rfl⟩
  | 1, h3 =>
    injection h3 with h3; subst h3
    rw [hR.hk] at h4; injection h4 with h4; subst h4
    exact ⟨_, rfl, rfl, kj _ _, by rw [ck, fF]⟩
  | 2, h3 =>
    injection h3 with h3; subst h3
    rw [hR.hq] at h4; injection h4 with h4; subst h4
    exact ⟨_, rfl, rfl, rfl, rfl⟩
def dC (A : Sr → Ck5 → List AV → AV → Prop) (args : List AV) (H : AH) (n : Nat) (κ : PK) : Prop := match args with
  | x :: ar => ∃ (r k q : Nat) (S : Sr) (C : Ck5) (v : AV), x = .ptr r 0 ∧ cZ H n r k q S (pts C) C ∧ A S C ar v ∧ κ v H n
  | _ => False
theorem iN (A : Sr → Ck5 → List AV → AV → Prop) : iW (dC A) := .pure fun args H n κ hs => by
  unfold dC at *
  split at hs
  · obtain ⟨r, k, q, S, C, v, h1, h2, h3, h4⟩ := hs
    exact ⟨v, h4, fun κ' h => ⟨r, k, q, S, C, v, h1, h2, h3, h⟩⟩
  · exact hs.elim
theorem fG {f : FuncId} {A : Sr → Ck5 → List AV → AV → Prop} {run : List AV → AH → Nat → PK → Prop} (hrun : aF f run) (hic : aj Try.prog f = true) (h : ∀ S C ar v, A S C ar v → ∃ ar0, (∀ φ vs, VRs φ ar vs → VRs φ ar0 vs) ∧ (∀ r, dR r ar0 = ar0) ∧ ((∀ f, ren f v = v) ∧ ltV 3 v = true) ∧ cf run (.ptr 0 0 :: ar0) (mkH (eu (eG S (pts C) C) 0)) 3 (RoP (fun u => u = v) S (pts C) C)) : aF f (dC A) := fun args H n κ hs φ h0' hp vs K hr hargs hk => by
  unfold dC at hs
  split at hs
  · obtain ⟨r, k, q, S, C, v, rfl, hR, hA, hs⟩ := hs
    obtain ⟨ar0, h1, h2, h3, h4⟩ := h S C _ v hA
    obtain ⟨w1, us1, q1, e1, r1⟩ := hargs.cons_inv
    refine yw hrun hic h4 h2 hr hR (by rw [q1]; exact .cons e1 (h1 _ _ r1)) hk (fun u g => by subst g; exact h3) fun u g => by subst g; exact hs
  · exact hs.elim
theorem ur {φ : Ph} {y : AV} {t : Int} {vs : List Value} (hy : mk y = .si .i64 t) (h : VRs φ [y] vs) : VRs φ [.si .i64 t] vs := by
  obtain ⟨w2, us2, q2, e2, r2⟩ := h.cons_inv
  rw [q2]; exact .cons (aA rfl (hy ▸ e2.mk)) r2
theorem BA (S : Sr) (C : Ck5) (t : Int) (hO : Okc S C) : cf (az KHm 5 56) [.ptr 0 0, .si .i64 t] (mkH (eu (eG S (pts C) C) 0)) 3 (RoP (fun u => u = .si .i64 ((cR (cnt C) t : Nat) : Int)) S (pts C) C) := by
  have hl := hO.few
  have hlo := hO.lo
  show az KHm 5 _ _ _ _ _
  conv => whnf
  refine bg.mk { i : Nat // (i < C.length ∨ i = 0) ∧ cR (cnt C) t = i + cR ((cnt C).drop i) t } 3 (fun i => ((zR [(0, .ptr 0 0), (1, .si .i64 t), (5, .si .i64 ((i.val : Int)))] S (pts C) C).1, (zR [(0, .ptr 0 0), (1, .si .i64 t), (5, .si .i64 ((i.val : Int)))] S (pts C) C).2.1)) (fun i => C.length - i.val) ⟨0, .inr rfl, by simp⟩ ?_ ?_
  focus
    exact yu (le := [(0, .ptr 0 0), (1, .si .i64 t), (5, .si .i64 (((0 : Nat) : Int)))]) (fun x hx => by
      simp only [List.mem_cons, List.not_mem_nil, or_false] at hx
      rcases hx with rfl | rfl | rfl
      · exact ae.ptr (Nat.le_of_ble_eq_true rfl) rfl
      · exact ae.int rfl
      · exact ae.int rfl) rfl rfl rfl
  intro ⟨i, hi, hI⟩
  have hw : IntKind.i64.wrap ((i : Int) + 1) = ((i + 1 : Nat) : Int) := by rw [al (by omega) (by omega)]; omega
  have hlC : (pts C).length = C.length := aq C
  conv => whnf
  refine ag.dec (fun h => ?_) (fun h => ?_)
  focus
    have h2 : i + 1 < C.length := by
      have h : IntKind.i64.wrap ((i : Int) + 1) < ((pts C).length : Int) := h
      rw [hw] at h; omega
    have h2p : i + 1 < (pts C).length := by omega
    have h3 : i + 1 < (cnt C).length := by rw [eT]; exact h2
    have hst := qQ (t := t) h3
    rw [zM h2] at hst
    conv => whnf
    refine Idx.mk (i + 1) hw h2p ?_
    conv => whnf
    refine ao (cH h2 (show 0 + (i + 1) * 1 = i + 1 by omega)) ?_
    conv => whnf
    refine ⟨2, S.sz, C.take (i + 1), C.drop (i + 1 + 1), C, C[i + 1].1, C[i + 1].2, rfl, gG h2 rfl (by decide) (by decide) rfl, by omega, hO.bS _ (List.getElem_mem h2), gz h2, ?_⟩
    conv => whnf
    refine ag.dec (fun g => ?_) (fun g => ?_)
    focus
      have he : i = cR (cnt C) t := by rw [hI, hst, if_pos g]; rfl
      conv => whnf
      exact jF _ rfl (VTo.mk5 (congrArg (fun q : Nat => AV.si .i64 (q : Int)) he)) VR.c6 rfl rfl rfl
    have he : cR (cnt C) t = (i + 1) + cR ((cnt C).drop (i + 1)) t := by rw [hI, hst, if_neg g]; omega
    conv => whnf
    exact ⟨⟨i + 1, .inl h2, he⟩, by show C.length - (i + 1) < C.length - i; omega, yu (le := [(0, .ptr 0 0), (1, .si .i64 t), (5, .si .i64 (((i + 1 : Nat) : Int)))]) (fun x hx => by
      simp only [List.mem_cons, List.not_mem_nil, or_false] at hx
      rcases hx with rfl | rfl | rfl
      · exact ae.ptr (Nat.le_of_ble_eq_true rfl) rfl
      · exact ae.int rfl
      · exact ae.int (congrArg (AV.si .i64) hw)) rfl rfl rfl⟩
  have he : i = cR (cnt C) t := by
    have h2 : ¬ i + 1 < C.length := fun q => h (by
      show IntKind.i64.wrap ((i : Int) + 1) < ((pts C).length : Int)
      rw [hw]; omega)
    rw [hI, oN (D := (cnt C).drop i) (by rw [List.length_drop, eT]; omega)]; rfl
  conv => whnf
  exact jF _ rfl (VTo.mk5 (congrArg (fun q : Nat => AV.si .i64 (q : Int)) he)) VR.c6 rfl rfl rfl
def Ei (S : Sr) (C : Ck5) (ar : List AV) (v : AV) : Prop := ∃ y t h, ar = [y] ∧ mk y = .si .i64 t ∧ Okc S C ∧ cR (cnt C) t = h ∧ v = .si .i64 (h : Int)
theorem Gc : aF 56 (dC Ei) := fG (aB D4 5 _) (by kernel_rfl) fun S C ar v ⟨y, t, h, h1, h2, h3, h4, h5⟩ => by
  subst h1 h4 h5
  exact ⟨[.si .i64 t], fun φ vs => ur h2, fun _ => rfl, ⟨fun _ => rfl, rfl⟩, BA S C t h3⟩
def aR (S : Sr) : Int := if S.ret = 0 then S.fl else max S.fl (S.mx - S.ret)
noncomputable def J2 : FuncId → EP := bK 24 [] evP
theorem Ge : bG J2 := aL bd (by kernel_rfl) (by kernel_rfl)
def Ho (S : Sr) (C : Ck5) (ar : List AV) (v : AV) : Prop := ar = [] ∧ 128 ≤ S.sz ∧ v = .si .i64 (S.mx)
theorem Hq : aF 24 (dC Ho) := fG (aB Ge 4 _) (by kernel_rfl) fun S C ar v hA => by
  obtain ⟨h1, h2, h3⟩ := hA
  subst h1 h3
  refine ⟨[], fun φ vs h => h, fun _ => rfl, ⟨fun _ => rfl, rfl⟩, ?_⟩
  show az J2 4 _ _ _ _ _
  conv => whnf
  refine ag.dB (fun z => absurd (show (0 : Int) < (S.sz : Int) by omega) z) (fun _ => ?_)
  conv => whnf
  exact jF _ rfl (VTo.mk5 rfl) VR.c6 rfl rfl rfl
noncomputable def J3 : FuncId → EP := bK 27 [] evP
theorem Gf : bG J3 := aL bd (by kernel_rfl) (by kernel_rfl)
def Hr (S : Sr) (C : Ck5) (ar : List AV) (v : AV) : Prop := ar = [] ∧ 128 ≤ S.sz ∧ v = .si .i64 (S.ret)
theorem Ht : aF 27 (dC Hr) := fG (aB Gf 4 _) (by kernel_rfl) fun S C ar v hA => by
  obtain ⟨h1, h2, h3⟩ := hA
  subst h1 h3
  refine ⟨[], fun φ vs h => h, fun _ => rfl, ⟨fun _ => rfl, rfl⟩, ?_⟩
  show az J3 4 _ _ _ _ _
  conv => whnf
  exact jF _ rfl (VTo.mk5 rfl) VR.c6 rfl rfl rfl
noncomputable def J4 : FuncId → EP := bK 26 [] evP
theorem Gg : bG J4 := aL bd (by kernel_rfl) (by kernel_rfl)
def Hu (S : Sr) (C : Ck5) (ar : List AV) (v : AV) : Prop := ar = [] ∧ 128 ≤ S.sz ∧ v = .si .i64 (S.pol)
theorem Hv : aF 26 (dC Hu) := fG (aB Gg 4 _) (by kernel_rfl) fun S C ar v hA => by
  obtain ⟨h1, h2, h3⟩ := hA
  subst h1 h3
  refine ⟨[], fun φ vs h => h, fun _ => rfl, ⟨fun _ => rfl, rfl⟩, ?_⟩
  show az J4 4 _ _ _ _ _
  conv => whnf
  exact jF _ rfl (VTo.mk5 rfl) VR.c6 rfl rfl rfl
noncomputable def J5 : FuncId → EP := bK 25 [(5, [(some 0, [0]), (some 0, [17]), (some 0, [18]), (some 0, [19]), (some 0, [0]), (some 0, [21]), (some 0, [22]), (some 0, [23]), (some 0, [0]), (some 0, [25]), (some 0, [26]), (some 0, [27]), (some 0, [24, 28]), (some 0, [20, 29]), (some 0, [30])])] evP
theorem Gh : bG J5 := aL bd (by kernel_rfl) (by kernel_rfl)
def zS (S : Sr) (C : Ck5) (ar : List AV) (v : AV) : Prop := ar = [] ∧ 128 ≤ S.sz ∧ (0 ≤ S.ret ∧ S.ret ≤ 1099511627776) ∧ (-1 ≤ S.mx ∧ S.mx < 1099511627776) ∧ v = .si .i64 (aR S)
theorem zT : aF 25 (dC zS) := fG (aB Gh 4 _) (by kernel_rfl) fun S C ar v hA => by
  obtain ⟨h1, h2, h4, h5, h3⟩ := hA
  subst h1 h3
  refine ⟨[], fun φ vs h => h, fun _ => rfl, ⟨fun _ => rfl, rfl⟩, ?_⟩
  have hw : IntKind.i64.wrap (S.mx - S.ret) = S.mx - S.ret := al (by omega) (by omega)
  show az J5 4 _ _ _ _ _
  conv => whnf
  refine ag.dB (fun z => absurd (show (0 : Int) < (S.sz : Int) by omega) z) (fun _ => ?_)
  conv => whnf
  refine ag.dec (fun z => ?_) (fun z => ?_)
  focus
    have e : S.fl = aR S := (if_pos z).symm
    conv => whnf
    exact jF _ rfl (VTo.mk5 (congrArg (AV.si .i64) e)) VR.c6 rfl rfl rfl
  have e : max S.fl (IntKind.i64.wrap (S.mx - S.ret)) = aR S := by rw [hw]; exact (if_neg z).symm
  conv => whnf
  exact jF _ rfl (VTo.mk5 (congrArg (AV.si .i64) e)) VR.c6 rfl rfl rfl
theorem BB {C : Ck5} {t : Int} {h : Nat} (hlt : h < C.length) (hA : ∀ x ∈ ab (C.take h), x.1 < t) (hB : ∀ x ∈ ab (C.drop (h + 1)), t < x.1) : ij C[h].2 t = ij (ab C) t := by
  have e : ab C = ab (C.take h) ++ (C[h].2 ++ ab (C.drop (h + 1))) := by
    rw [← dg (C.take h) (C.drop (h + 1)) C[h].1 C[h].2, df hlt]
  unfold ij
  rw [e, zI hA hB]
  by_cases q : has C[h].2 t = true
  · rw [if_pos q, if_pos q]
    have hl : plc C[h].2 t < C[h].2.length := by unfold has at q; exact (of_decide_eq_true q).1
    rw [nz hA hB]
    unfold vAt
    rw [tY hl]
  · rw [if_neg q, if_neg q]
def IN : DT := [(5, [(some 1000000, [3, 6]), (none, [0, 1, 2, 3, 4, 5, 6, 7, 8, 9, 10, 11, 12, 13, 14]), (none, [0, 1, 2, 4, 5, 6, 3, 7, 8, 9, 10, 11, 12, 13, 14])])]
noncomputable def KGe : FuncId → EP := bK 14 IN (cq 56 (dC Ei) (a9 32 uc evP))
theorem IP : bG KGe := aL (aY (aw bd Iz) Gc (iN _)) (by kernel_rfl) (by kernel_rfl)
theorem qZ {C : Ck5} (h : C = []) : ab C = [] := by subst h; rfl
def Hw (S : Sr) (C : Ck5) (ar : List AV) (v : AV) : Prop := ∃ y t, ar = [y] ∧ mk y = .si .i64 t ∧ Gt S C ∧ (ab C).length ≤ 90000 ∧ v = .tup [.si .i64 (ij (ab C) t).1, .si .i64 (ij (ab C) t).2]
theorem Ej (S : Sr) (C : Ck5) (t : Int) (hg : Gt S C) (hf : (ab C).length ≤ 90000) : cf (az KGe 5 14) [.ptr 0 0, .si .i64 t] (mkH (eu (eG S (pts C) C) 0)) 3 (RoP (fun u => u = .tup [.si .i64 (ij (ab C) t).1, .si .i64 (ij (ab C) t).2]) S (pts C) C) := by
  have hlo := hg.lo
  have hfew := hg.few
  have hO : Okc S C := hg.okc (by omega)
  have hlC : (pts C).length = C.length := aq C
  have mt : ∀ a b : Int, ∀ φ ψ w, VR φ (.tup [.si .i64 a, .si .i64 b]) w → VR ψ (.tup [.si .i64 a, .si .i64 b]) w := fun a b φ ψ w h => fw rfl h
  have tt : ∀ {a b : AV} {x y : Int}, mk a = .si .i64 x → mk b = .si .i64 y → VTo (.tup [a, b]) (.tup [.si .i64 x, .si .i64 y]) := fun h1 h2 φ w hw => by
    obtain ⟨cs, rfl, hcs⟩ := hw.dt
    obtain ⟨w1, us1, q1, e1, r1⟩ := hcs.cons_inv
    obtain ⟨w2, us2, q2, e2, r2⟩ := r1.cons_inv
    exact .tup (by rw [q1, q2]; exact .cons (aA rfl (h1 ▸ e1.mk)) (.cons (aA rfl (h2 ▸ e2.mk)) r2))
  obtain ⟨h, hh⟩ : ∃ h, cR (cnt C) t = h := ⟨_, rfl⟩
  have hne : C ≠ [] → h < C.length ∧ ∀ q : h < C.length, ij C[h].2 t = ij (ab C) t := fun k => by
    have := qR (D := cnt C) t (fun e => k (List.map_eq_nil_iff.1 e))
    rw [eT, hh] at this
    refine ⟨this, fun q => ?_⟩
    obtain ⟨hA, hB⟩ := mJ (t := t) k hg.gd.ne hg.up
    rw [hh] at hA hB
    exact BB q hA hB
  obtain ⟨g, hgt⟩ : ∃ g, ij (ab C) t = g := ⟨_, rfl⟩
  rw [hgt] at hne ⊢
  have hz : C = [] → (0, 5) = g := fun k => by rw [← hgt, qZ k]; rfl
  show az KGe 5 _ _ _ _ _
  conv => whnf
  refine ag.dB (fun z => absurd (show (0 : Int) < (S.sz : Int) by omega) z) (fun _ => ?_)
  conv => whnf
  refine ag.dec (fun z => ?_) (fun z => ?_)
  focus
    have hC : C = [] := by
      have z : ((pts C).length : Int) = 0 := z
      exact List.eq_nil_of_length_eq_zero (by omega)
    have e := hz hC
    conv => whnf
    exact jF _ rfl (tt (congrArg (fun q : Int × Int => AV.si .i64 q.1) e) (congrArg (fun q : Int × Int => AV.si .i64 q.2) e)) (mt _ _) rfl rfl rfl
  have hC : C ≠ [] := fun e => z (by
    show ((pts C).length : Int) = 0
    rw [e]; rfl)
  have hlt := (hne hC).1
  have hge := (hne hC).2 hlt
  have hltp : h < (pts C).length := by omega
  have hfi : bX C[h].2 := hg.bS _ (List.getElem_mem hlt)
  conv => whnf
  refine ⟨?_, ?_, trivial⟩
  all_goals
    conv => whnf
    refine ⟨0, 1, 2, S, C, _, rfl, ⟨⟨by decide, by decide, by decide⟩, ⟨by decide, by decide, by decide⟩, rfl, rfl, rfl⟩, ⟨_, t, h, rfl, rfl, hO, hh, rfl⟩, ?_⟩
    conv => whnf
    refine Idx.mk h rfl hltp ?_
    conv => whnf
    refine ao (cH hlt (show 0 + h * 1 = h by omega)) ?_
    conv => whnf
    refine ⟨2, S.sz, C.take h, C.drop (h + 1), C, C[h].1, C[h].2, t, rfl, rfl, gG hlt rfl (by decide) (by decide) rfl, by omega, hfi, gz hlt, ?_⟩
    conv => whnf
    exact jF _ rfl (tt (congrArg (fun q : Int × Int => AV.si .i64 q.1) hge) (congrArg (fun q : Int × Int => AV.si .i64 q.2) hge)) (mt _ _) rfl rfl rfl
theorem Ek : aF 14 (dC Hw) := fG (aB IP 5 _) (by kernel_rfl) fun S C ar v ⟨y, t, h1, h2, h3, h4, h5⟩ => by
  subst h1 h5
  exact ⟨[.si .i64 t], fun φ vs => ur h2, fun _ => rfl, ⟨fun _ => rfl, rfl⟩, Ej S C t h3 h4⟩
def lZ (L : Smp) : AV := .tup [.agg [.si .i64 (tAt L (L.length - 1)), .si .i64 (vAt L (L.length - 1))], .sb (decide ((0 : Int) < (L.length : Int)))]
theorem BC {C : Ck5} (hall : ∀ c ∈ C, c.2 ≠ []) (h : 0 < C.length) : FLv ((C[C.length - 1]'(by omega)).2.length - 1) (C[C.length - 1]'(by omega)).2 = lZ (ab C) := by
  have hn : 0 < (C[C.length - 1]'(by omega)).2.length := List.length_pos_iff.2 (hall _ (List.getElem_mem _))
  have e : ab C = ab (C.take (C.length - 1)) ++ (C[C.length - 1]'(by omega)).2 := by
    have := sO (C := C) (i := C.length - 1) (by omega)
    rw [show C.length - 1 + 1 = C.length by omega, List.take_length] at this
    exact this
  have k := od (A := ab (C.take (C.length - 1))) (M := (C[C.length - 1]'(by omega)).2) ((C[C.length - 1]'(by omega)).2.length - 1)
  unfold FLv lZ
  rw [e, List.length_append, show (ab (C.take (C.length - 1))).length + (C[C.length - 1]'(by omega)).2.length - 1 = (ab (C.take (C.length - 1))).length + ((C[C.length - 1]'(by omega)).2.length - 1) by omega, k.1, k.2, decide_eq_true (show (0 : Int) < ((C[C.length - 1]'(by omega)).2.length : Int) by omega), decide_eq_true (by omega)]
def Gi : DT := [(3, [(some 1000000, []), (none, [0, 1, 2, 3, 4, 5, 6, 7, 8, 9, 10, 11, 12, 13, 14, 15, 16])])]
noncomputable def IQ : FuncId → EP := bK 52 Gi (a9 68 (mH fun L => L.length - 1) evP)
theorem Gj : bG IQ := aL (aw bd zK) (by kernel_rfl) (by kernel_rfl)
def Hy (S : Sr) (C : Ck5) (ar : List AV) (v : AV) : Prop := ar = [] ∧ Gt S C ∧ (ab C).length ≤ 90000 ∧ v = lZ (ab C)
theorem BD (L : Smp) : ∀ φ ψ w, VR φ (lZ L) w → VR ψ (lZ L) w := fun φ ψ w h => by
  obtain ⟨cs, rfl, hcs⟩ := h.dt
  obtain ⟨w1, us1, q1, e1, r1⟩ := hcs.cons_inv
  obtain ⟨w2, us2, q2, e2, r2⟩ := r1.cons_inv
  have := r2.aW
  subst this
  exact .tup (by rw [q1, q2]; exact .cons (fw rfl e1) (.cons (fw rfl e2) .nil))
theorem BE (S : Sr) (C : Ck5) (hg : Gt S C) (hf : (ab C).length ≤ 90000) : cf (az IQ 5 52) [.ptr 0 0] (mkH (eu (eG S (pts C) C) 0)) 3 (RoP (fun u => u = lZ (ab C)) S (pts C) C) := by
  have hlo := hg.lo
  have hfew := hg.few
  have hlC : (pts C).length = C.length := aq C
  have hla := BC hg.all
  obtain ⟨lv, hlv⟩ : ∃ lv, lZ (ab C) = lv := ⟨_, rfl⟩
  have hz : C = [] → VTo (.tup [.agg [.int .i64 0, .int .i64 0], .bool false]) lv := fun k => by
    rw [← hlv, qZ k]
    exact VTo.DX rfl rfl rfl
  have hany : ∀ φ ψ w, VR φ lv w → VR ψ lv w := hlv ▸ BD _
  rw [hlv] at hla ⊢
  have hw : 0 < C.length → IntKind.i64.wrap (((pts C).length : Int) - 1) = ((C.length - 1 : Nat) : Int) := fun _ => by rw [al (by omega) (by omega)]; omega
  show az IQ 5 _ _ _ _ _
  conv => whnf
  refine ag.dB (fun z => absurd (show (0 : Int) < (S.sz : Int) by omega) z) (fun _ => ?_)
  conv => whnf
  refine ag.dec (fun z => ?_) (fun z => ?_)
  focus
    have hC : C = [] := by
      have z : ((pts C).length : Int) = 0 := z
      exact List.eq_nil_of_length_eq_zero (by omega)
    have e := hz hC
    conv => whnf
    exact jF _ rfl e hany rfl rfl rfl
  have hC : 0 < C.length := by
    have z : ¬ ((pts C).length : Int) = 0 := z
    omega
  have hlt : C.length - 1 < C.length := by omega
  have hltp : C.length - 1 < (pts C).length := by omega
  have hfi : bX C[C.length - 1].2 := hg.bS _ (List.getElem_mem hlt)
  have hw2 := hw hC
  have hl2 := hla hC
  conv => whnf
  refine ⟨?_, trivial⟩
  conv => whnf
  refine Idx.mk (C.length - 1) hw2 hltp ?_
  conv => whnf
  refine ao (cH hlt (show 0 + (C.length - 1) * 1 = C.length - 1 by omega)) ?_
  conv => whnf
  refine ⟨2, S.sz, C.take (C.length - 1), C.drop (C.length - 1 + 1), C, C[C.length - 1].1, C[C.length - 1].2, rfl, gG hlt rfl (by decide) (by decide) rfl, by omega, hfi, gz hlt, ?_⟩
  conv => whnf
  exact jF _ rfl (fun φ w h => by rw [← hl2]; exact h) hany rfl rfl rfl
theorem zU : aF 52 (dC Hy) := fG (aB Gj 5 _) (by kernel_rfl) fun S C ar v ⟨h1, h2, h3, h4⟩ => by
  subst h1 h4
  exact ⟨[], fun φ vs h => h, fun _ => rfl, ⟨fun _ => rfl, rfl⟩, BE S C h2 h3⟩
end Go.Proofs.Ythjggjhebbdkdaa
namespace Go.Proofs.Ythjggjhebbdkdaa
open Go Go.RowKit
def pw (args : List AV) (H : AH) (n : Nat) (κ : PK) : Prop := match args with
  | [x, y, z] => ∃ (r k q : Nat) (S : Sr) (C : Ck5) (t v p : Int), x = .ptr r 0 ∧ la y t v ∧ mk z = .si .i64 p ∧ cZ H n r k q S (pts C) C ∧ Gd S C ∧ (ab C).length ≤ 80000 ∧ (0 ≤ t ∧ t < 1099511627776) ∧ aM v ∧ ∀ C' e, yo S C C' t v p e → κ (.si .i64 e) (dS H n r k q S (pts C') C') (n + 1)
  | _ => False
theorem El : aF 50 pw := fun args H n κ hs φ h0' hp vs K hr hargs hk => by
  unfold pw at hs
  split at hs
  · obtain ⟨w1, us1, q1, e1, r1⟩ := hargs.cons_inv
    obtain ⟨w2, us2, q2, e2, r2⟩ := r1.cons_inv
    obtain ⟨w3, us3, q3, e3, r3⟩ := r2.cons_inv
    obtain ⟨r, k, q, S, C, t, v, p, rfl, hy, hz, hR, hg, hf, ht, hv, hs⟩ := hs
    refine dY (aB IG 5 _) (by kernel_rfl) (Eb S C t v p hg hf ht hv) (fun _ => rfl) hr hR (by rw [q1, q2, q3]; exact .cons e1 (.cons (hy.open e2 _) (.cons (aA rfl (hz ▸ e3.mk)) r3))) hk (fun u S' V' C' ⟨e, g, _⟩ => by subst g; exact ⟨fun _ => rfl, rfl⟩) fun u S' V' C' ⟨e, g1, g2, g3, g4⟩ => ?_
    subst g1 g2 g3; exact hs C' e g4
  · exact hs.elim
def pA (args : List AV) (H : AH) (n : Nat) (κ : PK) : Prop := match args with
  | [x, y, z] => ∃ (r k q : Nat) (S : Sr) (C : Ck5) (a b : Int), x = .ptr r 0 ∧ mk y = .si .i64 a ∧ mk z = .si .i64 b ∧ cZ H n r k q S (pts C) C ∧ lq S C ∧ C.length + ex5 C ≤ 100000 ∧ (ab C).length ≤ 100000 ∧ ∀ C', ab C' = aS (ab C) a b → Gt S C' → Wh S.sz C'.length C' → κ (.si .i64 ((dlN a b C : Nat) : Int)) (dS H n r k q S (pts C') C') (n + 1)
  | _ => False
theorem Em : aF 10 pA := fun args H n κ hs φ h0' hp vs K hr hargs hk => by
  unfold pA at hs
  split at hs
  · obtain ⟨w1, us1, q1, e1, r1⟩ := hargs.cons_inv
    obtain ⟨w2, us2, q2, e2, r2⟩ := r1.cons_inv
    obtain ⟨w3, us3, q3, e3, r3⟩ := r2.cons_inv
    obtain ⟨r, k, q, S, C, a, b, rfl, hy, hz, hR, hp5, hf, hf2, hs⟩ := hs
    refine dY (aB IM 5 _) (by kernel_rfl) (Gb S C a b hp5 hf hf2) (fun _ => rfl) hr hR (by rw [q1, q2, q3]; exact .cons e1 (.cons (aA rfl (hy ▸ e2.mk)) (.cons (aA rfl (hz ▸ e3.mk)) r3))) hk (fun u S' V' C' ⟨g, _⟩ => by subst g; exact ⟨fun _ => rfl, rfl⟩) fun u S' V' C' ⟨g1, g2, g3, g4, g5, g6⟩ => ?_
    subst g1 g2 g3; exact hs C' g4 g5 g6
  · exact hs.elim
structure gQ (S : Sr) : Prop where
  ret : 0 ≤ S.ret ∧ S.ret ≤ 1099511627776
  pol : 1 ≤ S.pol ∧ S.pol ≤ 6
  mx : -1 ≤ S.mx ∧ S.mx < 1099511627776
  fl : 0 ≤ S.fl ∧ S.fl ≤ 1099511627776
theorem gQ.line {S : Sr} (h : gQ S) : 0 ≤ aR S ∧ aR S ≤ 1099511627776 := by
  have h1 := h.ret
  have h2 := h.mx
  have h3 := h.fl
  unfold aR
  split <;> omega
structure dZ (S : Sr) (C : Ck5) : Prop where
  gt : Gt S C
  wh : Wh S.sz C.length C
  num : gQ S
  few : (ab C).length ≤ 80000
theorem Gd.pf {S : Sr} {C : Ck5} (h : Gd S C) : lq S C := ⟨h.lo, h.hi, h.up, h.bS⟩
theorem lq.fl {S : Sr} {C : Ck5} (h : lq S C) (a b c d : Int) : lq { S with ret := a, pol := b, mx := c, fl := d } C := ⟨h.lo, h.hi, h.up, h.bS⟩
def gR (S : Sr) (L : Smp) : Sr × Smp := ({ S with fl := aR S }, aS L 0 (aR S - 1))
def TmP (S0 : Sr) (C0 : Ck5) : AV → Sr → Ps → Ck5 → Prop := fun u S V C => u = .tup [] ∧ V = pts C ∧ (S, ab C) = gR S0 (ab C0) ∧ Gt S C ∧ Wh S.sz C.length C
noncomputable def IS : FuncId → EP := bK 51 [] (cq 25 (dC zS) (a9 10 pA evP))
theorem Gk : bG IS := aL (aY (aw bd Em) zT (iN _)) (by kernel_rfl) (by kernel_rfl)
theorem En (S : Sr) (C : Ck5) (hp : lq S C) (hn : gQ S) (hf : C.length + ex5 C ≤ 100000) (hf2 : (ab C).length ≤ 100000) : cf (az IS 5 51) [.ptr 0 0] (mkH (eu (eG S (pts C) C) 0)) 3 (SP (TmP S C)) := by
  have hlo := hp.lo
  have hln := hn.line
  have hw : IntKind.i64.wrap (aR S - 1) = aR S - 1 := al (by omega) (by omega)
  have hp2 := hp.fl S.ret S.pol S.mx (aR S)
  show az IS 5 _ _ _ _ _
  conv => whnf
  refine ⟨0, 1, 2, S, C, _, rfl, ⟨⟨by decide, by decide, by decide⟩, ⟨by decide, by decide, by decide⟩, rfl, rfl, rfl⟩, ⟨rfl, hlo, hn.ret, hn.mx, rfl⟩, ?_⟩
  conv => whnf
  refine ⟨0, 1, 2, { S with fl := aR S }, C, 0, aR S - 1, rfl, rfl, congrArg (AV.si .i64) hw, ⟨⟨by decide, by decide, by decide⟩, ⟨by decide, by decide, by decide⟩, rfl, rfl, rfl⟩, hp2, hf, hf2, fun C1 g1 g2 g3 => ?_⟩
  conv => whnf
  exact dM (TmP S C) ⟨rfl, rfl, (by rw [g1]; rfl), g2, g3⟩ (VTo.mk5 rfl) (fun φ ψ w h => fw rfl h) 3 ⟨by decide, by decide⟩ rfl rfl rfl rfl rfl rfl (ae.rw (Nat.le_of_ble_eq_true rfl) rfl) rfl (ax _) rfl
def nB (args : List AV) (H : AH) (n : Nat) (κ : PK) : Prop := match args with
  | [x] => ∃ (r k q : Nat) (S : Sr) (C : Ck5), x = .ptr r 0 ∧ cZ H n r k q S (pts C) C ∧ lq S C ∧ gQ S ∧ C.length + ex5 C ≤ 100000 ∧ (ab C).length ≤ 100000 ∧ ∀ C', ab C' = aS (ab C) 0 (aR S - 1) → Gt { S with fl := aR S } C' → Wh S.sz C'.length C' → κ (.tup []) (dS H n r k q { S with fl := aR S } (pts C') C') (n + 1)
  | _ => False
theorem zV : aF 51 nB := fun args H n κ hs φ h0' hp vs K hr hargs hk => by
  unfold nB at hs
  split at hs
  · obtain ⟨w1, us1, q1, e1, r1⟩ := hargs.cons_inv
    obtain ⟨r, k, q, S, C, rfl, hR, hp5, hn, hf, hf2, hs⟩ := hs
    refine dY (aB Gk 5 _) (by kernel_rfl) (En S C hp5 hn hf hf2) (fun _ => rfl) hr hR hargs hk (fun u S' V' C' ⟨g, _⟩ => by subst g; exact ⟨fun _ => rfl, rfl⟩) fun u S' V' C' ⟨g1, g2, g3, g4, g5⟩ => ?_
    have g6 : S' = { S with fl := aR S } := congrArg Prod.fst g3
    have g7 : ab C' = aS (ab C) 0 (aR S - 1) := congrArg Prod.snd g3
    subst g1 g2 g6; exact hs C' g7 g4 g5
  · exact hs.elim
def gS (S : Sr) (L : Smp) (t v p : Int) : (Sr × Smp) × Int :=
  if t < 0 ∨ 1099511627776 ≤ t ∨ (p ≠ 0 ∧ ¬ (1 ≤ p ∧ p ≤ 6)) then ((S, L), 1)
  else if t < aR S then ((S, L), 7)
  else if (cO L t v (if p = 0 then S.pol else p)).2 = 0 then (gR { S with mx := max S.mx t } (cO L t v (if p = 0 then S.pol else p)).1, 0)
  else ((S, L), (cO L t v (if p = 0 then S.pol else p)).2)
theorem gQ.mxs {S : Sr} (h : gQ S) {t : Int} (ht : 0 ≤ t ∧ t < 1099511627776) : gQ { S with mx := max S.mx t } := ⟨h.ret, h.pol, by have := h.mx; show -1 ≤ max S.mx t ∧ max S.mx t < 1099511627776; omega, h.fl⟩
theorem gQ.tr {S : Sr} (h : gQ S) : gQ { S with fl := aR S } := ⟨h.ret, h.pol, h.mx, h.line⟩
def AdP (S0 : Sr) (C0 : Ck5) (t v p : Int) : AV → Sr → Ps → Ck5 → Prop := fun u S V C => ∃ e : Int, u = .si .i64 e ∧ V = pts C ∧ ((S, ab C), e) = gS S0 (ab C0) t v p ∧ Gt S C ∧ Wh S.sz C.length C ∧ gQ S
def IT : DT := [(5, [(some 0, [4]), (some 0, [31]), (some 0, [0]), (none, [33]), (some 0, [32, 34]), (some 0, [35])]),
  (11, [(some 0, [0]), (some 0, [0]), (some 0, [50]), (some 0, [51]), (some 0, [52]), (some 0, [4]), (some 0, [54]), (some 0, [53, 55]), (some 0, [49]), (some 0, [57]), (none, [58, 56])])]
noncomputable def IU : FuncId → EP := bK 11 IT (cq 25 (dC zS) (a9 50 pw (a9 51 nB (a9 48 nA evP))))
theorem Gl : bG IU := aL (aY (aw (aw (aw bd yq) zV) El) zT (iN _)) (by kernel_rfl) (by kernel_rfl)
theorem Eo (S : Sr) (C : Ck5) (t v p : Int) (h5 : dZ S C) (hv : aM v) (hf : (ab C).length ≤ 40000) : cf (az IU 5 11) [.ptr 0 0, .agg [.si .i64 t, .si .i64 v], .si .i64 p] (mkH (eu (eG S (pts C) C) 0)) 3 (SP (AdP S C t v p)) := by
  have hg := h5.gt
  have hn := h5.num
  have hwh := h5.wh
  have hlo := hg.lo
  obtain ⟨q, hq⟩ : ∃ q, (if p = 0 then S.pol else p) = q := ⟨_, rfl⟩
  have e1 : t < 0 ∨ 1099511627776 ≤ t ∨ (p ≠ 0 ∧ ¬ (1 ≤ p ∧ p ≤ 6)) → AdP S C t v p (.si .i64 1) S (pts C) C := fun k => ⟨1, rfl, rfl, by unfold gS; rw [if_pos k], hg, hwh, hn⟩
  have e7 : ¬ (t < 0 ∨ 1099511627776 ≤ t ∨ (p ≠ 0 ∧ ¬ (1 ≤ p ∧ p ≤ 6))) → t < aR S → AdP S C t v p (.si .i64 7) S (pts C) C := fun k1 k2 => ⟨7, rfl, rfl, by unfold gS; rw [if_neg k1, if_pos k2], hg, hwh, hn⟩
  have okA : ¬ (t < 0 ∨ 1099511627776 ≤ t ∨ (p ≠ 0 ∧ ¬ (1 ≤ p ∧ p ≤ 6))) → ¬ t < aR S → ∀ C1 e, yo S C C1 t v q e → C1.length ≤ 100000 ∧ C1.length + ex5 C1 ≤ 100000 ∧ (ab C1).length ≤ 100000 ∧ (e = 0 → ∀ C2 C3, ab C2 = aS (ab C1) 0 (aR { S with mx := max S.mx t } - 1) → ab C3 = ab C2 → Gt { S with mx := max S.mx t, fl := aR { S with mx := max S.mx t } } C3 → Wh S.sz C3.length C3 → AdP S C t v p (.si .i64 e) { S with mx := max S.mx t, fl := aR { S with mx := max S.mx t } } (pts C3) C3) ∧ (e ≠ 0 → ∀ C3, ab C3 = ab C1 → Gt S C3 → Wh S.sz C3.length C3 → AdP S C t v p (.si .i64 e) S (pts C3) C3) := fun k1 k2 C1 e hp => by
    have hl1 := (qU (ab C) t v q).1
    rw [← hp.fl] at hl1
    have hl2 := mI hp.gd.ne
    have hl3 := uo C1
    have herr := hp.err
    have hfl := hp.fl
    refine ⟨by omega, by omega, by omega, fun he C2 C3 f2 f3 g3 w3 => ?_, fun he C3 f3 g3 w3 => ?_⟩
    · refine ⟨e, rfl, rfl, ?_, g3, w3, (hn.mxs (t := t) ⟨by omega, by omega⟩).tr⟩
      unfold gS
      rw [if_neg k1, if_neg k2, hq, ← herr, if_pos he, f3, f2, hfl, he]; rfl
    · refine ⟨e, rfl, rfl, ?_, g3, w3, hn⟩
      have hne : (cO (ab C) t v q).2 ≠ 0 := by rw [← herr]; exact he
      unfold gS
      rw [if_neg k1, if_neg k2, hq, if_neg hne, f3, hfl, wJ hne, ← herr]
  show az IU 5 _ _ _ _ _
  conv => whnf
  refine ag.dB (fun z => absurd (show (0 : Int) < (S.sz : Int) by omega) z) (fun _ => ?_)
  conv => whnf
  refine ag.dec (fun z1 => ?_) (fun z1 => ?_)
  focus
    have r := e1 (.inl z1)
    conv => whnf
    exact dM (AdP S C t v p) r (VTo.mk5 rfl) VR.c6 1 ⟨by decide, by decide⟩ rfl rfl rfl rfl rfl rfl (ae.rw (Nat.le_of_ble_eq_true rfl) rfl) rfl (ax _) rfl
  conv => whnf
  refine ag.dec (fun z2 => ?_) (fun z2 => ?_)
  focus
    have r := e1 (.inr (.inl z2))
    conv => whnf
    exact dM (AdP S C t v p) r (VTo.mk5 rfl) VR.c6 1 ⟨by decide, by decide⟩ rfl rfl rfl rfl rfl rfl (ae.rw (Nat.le_of_ble_eq_true rfl) rfl) rfl (ax _) rfl
  conv => whnf
  refine ag.dB (fun z3 => ?_) (fun z3 => ?_)
  focus
    conv => whnf
    refine ag.dec (fun z4 => ?_) (fun z4 => ?_)
    focus
      conv => whnf
      refine ag.dB (fun z5 => ?_) (fun z5 => ?_)
      focus
        have r := e1 (.inr (.inr ⟨z3, fun k => z5 k.2⟩))
        conv => whnf
        exact dM (AdP S C t v p) r (VTo.mk5 rfl) VR.c6 1 ⟨by decide, by decide⟩ rfl rfl rfl rfl rfl rfl (ae.rw (Nat.le_of_ble_eq_true rfl) rfl) rfl (ax _) rfl
      have hpq : p = q := by rw [← hq, if_neg z3]
      have k1 : ¬ (t < 0 ∨ 1099511627776 ≤ t ∨ (p ≠ 0 ∧ ¬ (1 ≤ p ∧ p ≤ 6))) := fun k => by
        rcases k with k | k | k
        · exact z1 k
        · exact z2 k
        · exact k.2 ⟨z4, z5⟩
      conv => whnf
      refine ⟨0, 1, 2, S, C, _, rfl, ⟨⟨by decide, by decide, by decide⟩, ⟨by decide, by decide, by decide⟩, rfl, rfl, rfl⟩, ⟨rfl, hlo, hn.ret, hn.mx, rfl⟩, ?_⟩
      conv => whnf
      refine ag.dec (fun z6 => ?_) (fun z6 => ?_)
      focus
        have r := e7 k1 z6
        conv => whnf
        exact dM (AdP S C t v p) r (VTo.mk5 rfl) VR.c6 1 ⟨by decide, by decide⟩ rfl rfl rfl rfl rfl rfl (ae.rw (Nat.le_of_ble_eq_true rfl) rfl) rfl (ax _) rfl
      have ht : 0 ≤ t ∧ t < 1099511627776 := ⟨by omega, by omega⟩
      have okB := okA k1 z6
      conv => whnf
      refine ag.dec (fun z7 => absurd z7 z3) (fun _ => ?_)
      conv => whnf
      refine ⟨0, 1, 2, S, C, t, v, q, rfl, ⟨_, _, rfl, rfl, rfl⟩, congrArg (AV.si .i64) hpq, ⟨⟨by decide, by decide, by decide⟩, ⟨by decide, by decide, by decide⟩, rfl, rfl, rfl⟩, hg.gd, by omega, ht, hv, fun C1 e hp5 => ?_⟩
      have ok := okB C1 e hp5
      have pf := hp5.gd.pf
      have pr := hp5.gd.pre
      conv => whnf
      refine ag.dec (fun z8 => ?_) (fun z8 => ?_)
      focus
        conv => whnf
        refine ⟨0, 4, 2, { S with mx := max S.mx t }, C1, rfl, ⟨⟨by decide, by decide, by decide⟩, ⟨by decide, by decide, by decide⟩, rfl, rfl, rfl⟩, pf.fl S.ret S.pol (max S.mx t) S.fl, hn.mxs ht, ok.2.1, ok.2.2.1, fun C2 f2 g2 w2 => ?_⟩
        have gp := g2.toPre5
        conv => whnf
        refine ⟨0, 5, 2, { S with mx := max S.mx t, fl := aR { S with mx := max S.mx t } }, C2, rfl, ⟨⟨by decide, by decide, by decide⟩, ⟨by decide, by decide, by decide⟩, rfl, rfl, rfl⟩, gp, by have h1 := qT g2.all; have h2 := ok.2.2.1; have h3 : (aS (ab C1) 0 (aR { S with mx := max S.mx t } - 1)).length ≤ (ab C1).length := List.length_filter_le _ _; rw [f2] at h1; omega, fun C3 f3 g3 w3 => ?_⟩
        have r := ok.2.2.2.1 z8 C2 C3 f2 f3 g3 w3
        conv => whnf
        exact dM (AdP S C t v p) r (VTo.mk5 rfl) VR.c6 6 ⟨by decide, by decide⟩ rfl rfl rfl rfl rfl rfl (ae.rw (Nat.le_of_ble_eq_true rfl) rfl) rfl (ax _) rfl
      conv => whnf
      refine ⟨0, 4, 2, S, C1, rfl, ⟨⟨by decide, by decide, by decide⟩, ⟨by decide, by decide, by decide⟩, rfl, rfl, rfl⟩, pr, ok.1, fun C3 f3 g3 w3 => ?_⟩
      have r := ok.2.2.2.2 z8 C3 f3 g3 w3
      conv => whnf
      exact dM (AdP S C t v p) r (VTo.mk5 rfl) VR.c6 5 ⟨by decide, by decide⟩ rfl rfl rfl rfl rfl rfl (ae.rw (Nat.le_of_ble_eq_true rfl) rfl) rfl (ax _) rfl
    have r := e1 (.inr (.inr ⟨z3, fun k => z4 k.1⟩))
    conv => whnf
    exact dM (AdP S C t v p) r (VTo.mk5 rfl) VR.c6 1 ⟨by decide, by decide⟩ rfl rfl rfl rfl rfl rfl (ae.rw (Nat.le_of_ble_eq_true rfl) rfl) rfl (ax _) rfl
  have hpq : S.pol = q := by rw [← hq, if_pos z3]
  have k1 : ¬ (t < 0 ∨ 1099511627776 ≤ t ∨ (p ≠ 0 ∧ ¬ (1 ≤ p ∧ p ≤ 6))) := fun k => by
    rcases k with k | k | k
    · exact z1 k
    · exact z2 k
    · exact k.1 z3
  conv => whnf
  refine ⟨0, 1, 2, S, C, _, rfl, ⟨⟨by decide, by decide, by decide⟩, ⟨by decide, by decide, by decide⟩, rfl, rfl, rfl⟩, ⟨rfl, hlo, hn.ret, hn.mx, rfl⟩, ?_⟩
  conv => whnf
  refine ag.dec (fun z6 => ?_) (fun z6 => ?_)
  focus
    have r := e7 k1 z6
    conv => whnf
    exact dM (AdP S C t v p) r (VTo.mk5 rfl) VR.c6 1 ⟨by decide, by decide⟩ rfl rfl rfl rfl rfl rfl (ae.rw (Nat.le_of_ble_eq_true rfl) rfl) rfl (ax _) rfl
  have ht : 0 ≤ t ∧ t < 1099511627776 := ⟨by omega, by omega⟩
  have okB := okA k1 z6
  conv => whnf
  refine ag.dec (fun _ => ?_) (fun z7 => absurd z3 z7)
  conv => whnf
  refine ⟨0, 1, 2, S, C, t, v, q, rfl, ⟨_, _, rfl, rfl, rfl⟩, congrArg (AV.si .i64) hpq, ⟨⟨by decide, by decide, by decide⟩, ⟨by decide, by decide, by decide⟩, rfl, rfl, rfl⟩, hg.gd, by omega, ht, hv, fun C1 e hp5 => ?_⟩
  have ok := okB C1 e hp5
  have pf := hp5.gd.pf
  have pr := hp5.gd.pre
  conv => whnf
  refine ag.dec (fun z8 => ?_) (fun z8 => ?_)
  focus
    conv => whnf
    refine ⟨0, 4, 2, { S with mx := max S.mx t }, C1, rfl, ⟨⟨by decide, by decide, by decide⟩, ⟨by decide, by decide, by decide⟩, rfl, rfl, rfl⟩, pf.fl S.ret S.pol (max S.mx t) S.fl, hn.mxs ht, ok.2.1, ok.2.2.1, fun C2 f2 g2 w2 => ?_⟩
    have gp := g2.toPre5
    conv => whnf
    refine ⟨0, 5, 2, { S with mx := max S.mx t, fl := aR { S with mx := max S.mx t } }, C2, rfl, ⟨⟨by decide, by decide, by decide⟩, ⟨by decide, by decide, by decide⟩, rfl, rfl, rfl⟩, gp, by have h1 := qT g2.all; have h2 := ok.2.2.1; have h3 : (aS (ab C1) 0 (aR { S with mx := max S.mx t } - 1)).length ≤ (ab C1).length := List.length_filter_le _ _; rw [f2] at h1; omega, fun C3 f3 g3 w3 => ?_⟩
    have r := ok.2.2.2.1 z8 C2 C3 f2 f3 g3 w3
    conv => whnf
    exact dM (AdP S C t v p) r (VTo.mk5 rfl) VR.c6 6 ⟨by decide, by decide⟩ rfl rfl rfl rfl rfl rfl (ae.rw (Nat.le_of_ble_eq_true rfl) rfl) rfl (ax _) rfl
  conv => whnf
  refine ⟨0, 4, 2, S, C1, rfl, ⟨⟨by decide, by decide, by decide⟩, ⟨by decide, by decide, by decide⟩, rfl, rfl, rfl⟩, pr, ok.1, fun C3 f3 g3 w3 => ?_⟩
  have r := ok.2.2.2.2 z8 C3 f3 g3 w3
  conv => whnf
  exact dM (AdP S C t v p) r (VTo.mk5 rfl) VR.c6 5 ⟨by decide, by decide⟩ rfl rfl rfl rfl rfl rfl (ae.rw (Nat.le_of_ble_eq_true rfl) rfl) rfl (ax _) rfl
end Go.Proofs.Ythjggjhebbdkdaa
namespace Go.Proofs.Ythjggjhebbdkdaa
open Go Go.RowKit
def uu (args : List AV) (H : AH) (n : Nat) (κ : PK) : Prop := match args with
  | [x, y, z] => ∃ (r k q : Nat) (S : Sr) (C : Ck5) (t v p : Int), x = .ptr r 0 ∧ la y t v ∧ mk z = .si .i64 p ∧ cZ H n r k q S (pts C) C ∧ dZ S C ∧ aM v ∧ (ab C).length ≤ 40000 ∧ ∀ C', ab C' = (gS S (ab C) t v p).1.2 → Gt (gS S (ab C) t v p).1.1 C' → Wh (gS S (ab C) t v p).1.1.sz C'.length C' → gQ (gS S (ab C) t v p).1.1 → κ (.si .i64 (gS S (ab C) t v p).2) (dS H n r k q (gS S (ab C) t v p).1.1 (pts C') C') (n + 1)
  | _ => False
theorem IV : aF 11 uu := fun args H n κ hs φ h0' hp vs K hr hargs hk => by
  unfold uu at hs
  split at hs
  · obtain ⟨w1, us1, q1, e1, r1⟩ := hargs.cons_inv
    obtain ⟨w2, us2, q2, e2, r2⟩ := r1.cons_inv
    obtain ⟨w3, us3, q3, e3, r3⟩ := r2.cons_inv
    obtain ⟨r, k, q, S, C, t, v, p, rfl, hy, hz, hR, h5, hv, hf, hs⟩ := hs
    refine dY (aB Gl 5 _) (by kernel_rfl) (Eo S C t v p h5 hv hf) (fun _ => rfl) hr hR (by rw [q1, q2, q3]; exact .cons e1 (.cons (hy.open e2 _) (.cons (aA rfl (hz ▸ e3.mk)) r3))) hk (fun u S' V' C' ⟨e, g, _⟩ => by subst g; exact ⟨fun _ => rfl, rfl⟩) fun u S' V' C' ⟨e, g1, g2, g3, g4, g5, g6⟩ => ?_
    have d1 : S' = (gS S (ab C) t v p).1.1 := congrArg (fun x => x.1.1) g3
    have d2 : ab C' = (gS S (ab C) t v p).1.2 := congrArg (fun x => x.1.2) g3
    have d3 : e = (gS S (ab C) t v p).2 := congrArg (fun x => x.2) g3
    subst g1 g2 d3
    rw [d1] at g4 g5 g6
    rw [d1]
    exact hs C' d2 g4 g5 g6
  · exact hs.elim
def kl (S : Sr) (L : Smp) (ret p : Int) : (Sr × Smp) × Int := if (0 ≤ ret ∧ ret ≤ 1099511627776) ∧ 1 ≤ p ∧ p ≤ 6 then (gR { S with ret := ret, pol := p } L, 0) else ((S, L), 1)
def AlP (S0 : Sr) (C0 : Ck5) (ret p : Int) : AV → Sr → Ps → Ck5 → Prop := fun u S V C => ∃ e : Int, u = .si .i64 e ∧ V = pts C ∧ ((S, ab C), e) = kl S0 (ab C0) ret p ∧ Gt S C ∧ Wh S.sz C.length C ∧ gQ S
noncomputable def IW : FuncId → EP := bK 60 [] (a9 51 nB evP)
theorem Gm : bG IW := aL (aw bd zV) (by kernel_rfl) (by kernel_rfl)
theorem yx (S : Sr) (C : Ck5) (ret p : Int) (h5 : dZ S C) (hf : (ab C).length ≤ 40000) : cf (az IW 5 60) [.ptr 0 0, .si .i64 ret, .si .i64 p] (mkH (eu (eG S (pts C) C) 0)) 3 (SP (AlP S C ret p)) := by
  have hg := h5.gt
  have hn := h5.num
  have hwh := h5.wh
  have hlo := hg.lo
  have h2 := hg.few
  have h3 := uo C
  have pf := hg.gd.pf
  have e1 : ¬ ((0 ≤ ret ∧ ret ≤ 1099511627776) ∧ 1 ≤ p ∧ p ≤ 6) → AlP S C ret p (.si .i64 1) S (pts C) C := fun k => ⟨1, rfl, rfl, by unfold kl; rw [if_neg k], hg, hwh, hn⟩
  have okA : ((0 ≤ ret ∧ ret ≤ 1099511627776) ∧ 1 ≤ p ∧ p ≤ 6) → gQ { S with ret := ret, pol := p } ∧ ∀ C2, ab C2 = aS (ab C) 0 (aR { S with ret := ret, pol := p } - 1) → Gt { S with ret := ret, pol := p, fl := aR { S with ret := ret, pol := p } } C2 → Wh S.sz C2.length C2 → AlP S C ret p (.si .i64 0) { S with ret := ret, pol := p, fl := aR { S with ret := ret, pol := p } } (pts C2) C2 := fun k => by
    have hn2 : gQ { S with ret := ret, pol := p } := ⟨k.1, k.2, hn.mx, hn.fl⟩
    refine ⟨hn2, fun C2 f2 g2 w2 => ⟨0, rfl, rfl, ?_, g2, w2, hn2.tr⟩⟩
    unfold kl
    rw [if_pos k, f2]; rfl
  show az IW 5 _ _ _ _ _
  conv => whnf
  refine ag.dB (fun z => absurd (show (0 : Int) < (S.sz : Int) by omega) z) (fun _ => ?_)
  conv => whnf
  refine ag.dec (fun z1 => ?_) (fun z1 => ?_)
  focus
    conv => whnf
    refine ag.dec (fun z2 => ?_) (fun z2 => ?_)
    focus
      conv => whnf
      refine ag.dec (fun z3 => ?_) (fun z3 => ?_)
      focus
        conv => whnf
        refine ag.dB (fun z4 => ?_) (fun z4 => ?_)
        focus
          have r := e1 (fun k => z4 k.2.2)
          conv => whnf
          exact dM (AlP S C ret p) r (VTo.mk5 rfl) VR.c6 1 ⟨by decide, by decide⟩ rfl rfl rfl rfl rfl rfl (ae.rw (Nat.le_of_ble_eq_true rfl) rfl) rfl (ax _) rfl
        have ok := okA ⟨⟨z1, z2⟩, z3, z4⟩
        conv => whnf
        refine ⟨0, 1, 2, { S with ret := ret, pol := p }, C, rfl, ⟨⟨by decide, by decide, by decide⟩, ⟨by decide, by decide, by decide⟩, rfl, rfl, rfl⟩, pf.fl ret p S.mx S.fl, ok.1, by omega, by omega, fun C2 f2 g2 w2 => ?_⟩
        have r := ok.2 C2 f2 g2 w2
        conv => whnf
        exact dM (AlP S C ret p) r (VTo.mk5 rfl) VR.c6 3 ⟨by decide, by decide⟩ rfl rfl rfl rfl rfl rfl (ae.rw (Nat.le_of_ble_eq_true rfl) rfl) rfl (ax _) rfl
      have r := e1 (fun k => z3 k.2.1)
      conv => whnf
      exact dM (AlP S C ret p) r (VTo.mk5 rfl) VR.c6 1 ⟨by decide, by decide⟩ rfl rfl rfl rfl rfl rfl (ae.rw (Nat.le_of_ble_eq_true rfl) rfl) rfl (ax _) rfl
    have r := e1 (fun k => z2 k.1.2)
    conv => whnf
    exact dM (AlP S C ret p) r (VTo.mk5 rfl) VR.c6 1 ⟨by decide, by decide⟩ rfl rfl rfl rfl rfl rfl (ae.rw (Nat.le_of_ble_eq_true rfl) rfl) rfl (ax _) rfl
  have r := e1 (fun k => z1 k.1.1)
  conv => whnf
  exact dM (AlP S C ret p) r (VTo.mk5 rfl) VR.c6 1 ⟨by decide, by decide⟩ rfl rfl rfl rfl rfl rfl (ae.rw (Nat.le_of_ble_eq_true rfl) rfl) rfl (ax _) rfl
def uv (args : List AV) (H : AH) (n : Nat) (κ : PK) : Prop := match args with
  | [x, y, z] => ∃ (r k q : Nat) (S : Sr) (C : Ck5) (ret p : Int), x = .ptr r 0 ∧ mk y = .si .i64 ret ∧ mk z = .si .i64 p ∧ cZ H n r k q S (pts C) C ∧ dZ S C ∧ (ab C).length ≤ 40000 ∧ ∀ C', ab C' = (kl S (ab C) ret p).1.2 → Gt (kl S (ab C) ret p).1.1 C' → Wh (kl S (ab C) ret p).1.1.sz C'.length C' → gQ (kl S (ab C) ret p).1.1 → κ (.si .i64 (kl S (ab C) ret p).2) (dS H n r k q (kl S (ab C) ret p).1.1 (pts C') C') (n + 1)
  | _ => False
theorem IX : aF 60 uv := fun args H n κ hs φ h0' hp vs K hr hargs hk => by
  unfold uv at hs
  split at hs
  · obtain ⟨w1, us1, q1, e1, r1⟩ := hargs.cons_inv
    obtain ⟨w2, us2, q2, e2, r2⟩ := r1.cons_inv
    obtain ⟨w3, us3, q3, e3, r3⟩ := r2.cons_inv
    obtain ⟨r, k, q, S, C, ret, p, rfl, hy, hz, hR, h5, hf, hs⟩ := hs
    refine dY (aB Gm 5 _) (by kernel_rfl) (yx S C ret p h5 hf) (fun _ => rfl) hr hR (by rw [q1, q2, q3]; exact .cons e1 (.cons (aA rfl (hy ▸ e2.mk)) (.cons (aA rfl (hz ▸ e3.mk)) r3))) hk (fun u S' V' C' ⟨e, g, _⟩ => by subst g; exact ⟨fun _ => rfl, rfl⟩) fun u S' V' C' ⟨e, g1, g2, g3, g4, g5, g6⟩ => ?_
    have d1 : S' = (kl S (ab C) ret p).1.1 := congrArg (fun x => x.1.1) g3
    have d2 : ab C' = (kl S (ab C) ret p).1.2 := congrArg (fun x => x.1.2) g3
    have d3 : e = (kl S (ab C) ret p).2 := congrArg (fun x => x.2) g3
    subst g1 g2 d3
    rw [d1] at g4 g5 g6
    rw [d1]
    exact hs C' d2 g4 g5 g6
  · exact hs.elim
def mL (sz ret p : Int) : Option Sr := if (128 ≤ sz ∧ sz ≤ 4096) ∧ (0 ≤ ret ∧ ret ≤ 1099511627776) ∧ 1 ≤ p ∧ p ≤ 6 then some ⟨sz.toNat, ret, p, -1, 0⟩ else none
noncomputable def ra (H : AH) (n : Nat) (S : Sr) : AH := ((H.set (some (.cells (bO S (n + 1) 0) true)) aa n).set (some (.cells [] true)) aa (n + 1)).set (some (bP S [])) aa (n + 2)
def uw (args : List AV) (H : AH) (n : Nat) (κ : PK) : Prop := match args with
  | [x, y, z] => ∃ (sz ret p : Int), mk x = .si .i64 sz ∧ mk y = .si .i64 ret ∧ mk z = .si .i64 p ∧ n < 900000 ∧ (mL sz ret p = none → κ (.tup [.nil, .int .i64 1]) H n) ∧ ∀ S, mL sz ret p = some S → κ (.tup [.ptr n 0, .int .i64 0]) (ra H n S) (n + 3)
  | _ => False
noncomputable def J6 : FuncId → EP := bK 9 [] evP
theorem Gn : bG J6 := aL bd (by kernel_rfl) (by kernel_rfl)
def NwQ (sz ret p : Int) : PK := fun u H' n' => (mL sz ret p = none ∧ u = .tup [.nil, .int .i64 1] ∧ H' = mkH [] ∧ n' = 0) ∨ ∃ S, mL sz ret p = some S ∧ u = .tup [.ptr 0 0, .int .i64 0] ∧ H' = mkH [(0, .cells [.si .i64 sz, .si .i64 ret, .si .i64 p, .int .i64 (-1), .int .i64 0, .nsl] true)] ∧ n' = 1
theorem Ep (sz ret p : Int) : az J6 5 9 [.si .i64 sz, .si .i64 ret, .si .i64 p] (mkH (eu [] 0)) 0 (NwQ sz ret p) := by
  have e1 : ¬ ((128 ≤ sz ∧ sz ≤ 4096) ∧ (0 ≤ ret ∧ ret ≤ 1099511627776) ∧ 1 ≤ p ∧ p ≤ 6) → NwQ sz ret p (.tup [.nil, .int .i64 1]) (mkH []) 0 := fun k => .inl ⟨if_neg k, rfl, rfl, rfl⟩
  have e2 : ((128 ≤ sz ∧ sz ≤ 4096) ∧ (0 ≤ ret ∧ ret ≤ 1099511627776) ∧ 1 ≤ p ∧ p ≤ 6) → NwQ sz ret p (.tup [.ptr 0 0, .int .i64 0]) (mkH [(0, .cells [.si .i64 sz, .si .i64 ret, .si .i64 p, .int .i64 (-1), .int .i64 0, .nsl] true)]) 1 := fun k => .inr ⟨_, if_pos k, rfl, rfl, rfl⟩
  conv => whnf
  refine ag.dec (fun z1 => ?_) (fun z1 => ?_)
  focus
    have r := e1 (fun k => absurd k.1.1 (by omega))
    conv => whnf
    exact r
  conv => whnf
  refine ag.dec (fun z2 => ?_) (fun z2 => ?_)
  focus
    have r := e1 (fun k => absurd k.1.2 (by omega))
    conv => whnf
    exact r
  conv => whnf
  refine ag.dec (fun z3 => ?_) (fun z3 => ?_)
  focus
    conv => whnf
    refine ag.dec (fun z4 => ?_) (fun z4 => ?_)
    focus
      conv => whnf
      refine ag.dec (fun z5 => ?_) (fun z5 => ?_)
      focus
        conv => whnf
        refine ag.dB (fun z6 => ?_) (fun z6 => ?_)
        focus
          have r := e1 (fun k => z6 k.2.2.2)
          conv => whnf
          exact r
        have r := e2 ⟨⟨by omega, by omega⟩, ⟨z3, z4⟩, z5, z6⟩
        conv => whnf
        exact r
      have r := e1 (fun k => z5 k.2.2.1)
      conv => whnf
      exact r
    have r := e1 (fun k => z4 k.2.1.2)
    conv => whnf
    exact r
  have r := e1 (fun k => z3 k.2.1.1)
  conv => whnf
  exact r
theorem wX {A B : AH} {v : Option AO} {n : Nat} (hn : n < 1000000) (h : ∀ x o, A.get x = some o → B.get x = some o) : ∀ x o, (PM.set v aa A n).get x = some o → (PM.set v aa B n).get x = some o := fun x o hx => by
  rcases PM.ak aa A n x o hx with ⟨rfl, h2⟩ | ⟨h1, h2⟩
  · rw [PM.geq hn]; exact h2
  · exact PM.gne hn h1 (h x o h2)
theorem IY : aF 9 uw := fun args H n κ hs φ h0' hp vs K hr hargs hk => by
  unfold uw at hs
  split at hs
  · obtain ⟨w1, us1, q1, e1, r1⟩ := hargs.cons_inv
    obtain ⟨w2, us2, q2, e2, r2⟩ := r1.cons_inv
    obtain ⟨w3, us3, q3, e3, r3⟩ := r2.cons_inv
    obtain ⟨sz, ret, p, hx, hy, hz, hn, hs0, hs1⟩ := hs
    refine cw (S := []) (O := []) (args0 := [.si .i64 sz, .si .i64 ret, .si .i64 p]) (κ := fun v H2 n2 => (mL sz ret p = none ∧ v = .tup [.nil, .int .i64 1] ∧ H2 = H ∧ n2 = n) ∨ ∃ S, mL sz ret p = some S ∧ v = .tup [.ptr n 0, .int .i64 0] ∧ H2 = H.set (some (.cells [.si .i64 sz, .si .i64 ret, .si .i64 p, .int .i64 (-1), .int .i64 0, .nsl] true)) aa n ∧ n2 = n + 1) (aB Gn 5 _) (by kernel_rfl) hr ⟨List.nodup_nil, rfl, fun i s o h1 h2 => by simp at h1⟩ (by rw [q1, q2, q3]; exact .cons (aA rfl (hx ▸ e1.mk)) (.cons (aA rfl (hy ▸ e2.mk)) (.cons (aA rfl (hz ▸ e3.mk)) r3))) ?_ (Ep sz ret p) fun u H' n' hq => ?_
    · intro χ v H2 n2 u g hle hg hu hq
      rcases hq with ⟨g0, g1, g2, g3⟩ | ⟨S, g0, g1, g2, g3⟩
      · subst g1 g2 g3
        exact hk χ _ _ _ u g hle hg hu (hs0 g0)
      · subst g1 g2 g3
        have hS : (sz = (S.sz : Int) ∧ ret = S.ret ∧ p = S.pol) ∧ S.mx = -1 ∧ S.fl = 0 := by
          unfold mL at g0
          split at g0
          · rename_i k
            injection g0 with g0
            subst g0
            exact ⟨⟨by show sz = ((sz.toNat : Nat) : Int); omega, rfl, rfl⟩, rfl, rfl⟩
          · cases g0
        have hb := PM.geq (v := some (AO.cells [AV.si .i64 sz, .si .i64 ret, .si .i64 p, .int .i64 (-1), .int .i64 0, .nsl] true)) (t := H) (n := n) (by omega)
        obtain ⟨⟨t1, t2, t3⟩, t4, t5⟩ := hS
        have h1 := hg.Db (l' := bO S (n + 1) 0) hb rfl fun i a' hi => by
          match i with
          | 0 => simp [bO] at hi; subst hi; exact ⟨_, rfl, fun v hv => t1 ▸ hv⟩
          | 1 => simp [bO] at hi; subst hi; exact ⟨_, rfl, fun v hv => t2 ▸ hv⟩
          | 2 => simp [bO] at hi; subst hi; exact ⟨_, rfl, fun v hv => t3 ▸ hv⟩
          | 3 => simp [bO] at hi; subst hi; exact ⟨_, rfl, fun v hv => t4 ▸ hv.mk⟩
          | 4 => simp [bO] at hi; subst hi; exact ⟨_, rfl, fun v hv => t5 ▸ hv.mk⟩
          | 5 => simp [bO] at hi; subst hi; exact ⟨_, rfl, fun v hv => by rw [hv.cg]; exact .rwn⟩
          | i + 6 => simp [bO] at hi
        obtain ⟨ψ, l1, h3⟩ := (h1.ng (o := .cells [] true) rfl).MO
        have h4 := h3.less (H := ra H n S) fun x o hx => wX (by omega) (wX (by omega) fun x o hx => by
          rcases PM.ak aa H n x o hx with ⟨rfl, h2⟩ | ⟨h1, h2⟩
          · rw [PM.geq (by omega)]; exact h2
          · exact PM.gne (by omega) h1 (PM.gne (by omega) h1 h2)) x o hx
        exact hk ψ _ _ _ u g (hle.trans l1) h4 (VR.mono l1 _ _ hu) (hs1 S g0)
    · rcases hq with ⟨g0, g1, g2, g3⟩ | ⟨S, g0, g1, g2, g3⟩
      · subst g1 g2 g3
        exact ⟨0, H, Nat.le_refl _, cG.same fun i s o h3 h4 _ => by simp at h3, rfl, .inl ⟨g0, rfl, rfl, rfl⟩⟩
      · subst g1 g2 g3
        refine ⟨1, iP [] n H [(0, some (.cells [.si .i64 sz, .si .i64 ret, .si .i64 p, .int .i64 (-1), .int .i64 0, .nsl] true))], Nat.zero_le _, cG.put (Nat.zero_le _) rfl (fun x hx o ho => ?_), rfl, .inr ⟨S, g0, rfl, rfl, rfl⟩⟩
        simp only [List.mem_cons, List.not_mem_nil, or_false] at hx
        subst hx
        injection ho with ho; subst ho; exact ⟨rfl, rfl, rfl⟩
  · exact hs.elim
end Go.Proofs.Ythjggjhebbdkdaa
namespace Go.Proofs.Ythjggjhebbdkdaa
open Go Go.RowKit
section
variable {φ : Ph} {H : AH} {n : Nat} {h0 h g hb h1 : Hp} {b : Nat} {S S' : Nat → Prop} {Q Q' : HP} {σ : AE} {ρ : Env}
theorem HR.mL (hr : HR φ H n h0 h) (hQ : Q.P φ.z S h) (hS : ∀ B, S B → (B < h.n ∧ h0.f B = none) ∧ (∀ b' o' p', H.get b' = some o' → o'.own = true → φ b' = some p' → p'.B ≠ B) ∧ (∀ q, φ.z q → q.B ≠ B) ∧ ∀ b' Q', H.get b' = some (.sep Q') → ¬ φ.s b' B) :
    PLe φ ⟨φ.f, φ.z, φ.y, fun x => if x = n then S else φ.s x⟩ ∧ HR ⟨φ.f, φ.z, φ.y, fun x => if x = n then S else φ.s x⟩ (H.set (some (.sep Q)) aa n) (n + 1) h0 h := by
  have cs : ∀ x o, (H.set (some (.sep Q)) aa n).get x = some o → (x = n ∧ o = .sep Q) ∨ (x ≠ n ∧ H.get x = some o) := fun x o hx => by
    rcases PM.ak aa H n x o hx with ⟨h1, h2⟩ | h2
    · injection h2 with h2; exact .inl ⟨h1, h2.symm⟩
    · exact .inr h2
  have hno : φ n = none := by
    cases e : φ n with
    | none => rfl
    | some q => exact absurd (hr.dom n q e).1 (Nat.lt_irrefl _)
  let ψ : Ph := ⟨φ.f, φ.z, φ.y, fun x => if x = n then S else φ.s x⟩
  have own : ∀ x o q, (H.set (some (.sep Q)) aa n).get x = some o → φ x = some q → H.get x = some o := fun x o q hx hq => by
    rcases cs x o hx with ⟨rfl, _⟩ | ⟨_, h3⟩
    · rw [hno] at hq; cases hq
    · exact h3
  have sle : SLe φ ψ := ⟨fun _ _ h => h, fun _ h => h⟩
  refine ⟨⟨fun _ _ h => h, fun _ h => h, fun _ h => h⟩, ⟨fun x q hx => ⟨by have := (hr.dom x q hx).1; omega, (hr.dom x q hx).2⟩, fun x o hx => ?_, fun x y o o' q q' hx hy ho ho' hq hq' e => hr.inj x y o o' q q' (own x o q hx hq) (own y o' q' hy hq') ho ho' hq hq' e, hr.base, hr.size, fun q hq => ⟨⟨FzR.mono (φ := φ) (ψ := ψ) sle.z (hr.frz q hq).1.1, (hr.frz q hq).1.2⟩, fun x o px hx ho hpx => (hr.frz q hq).2 x o px (own x o px hx hpx) ho hpx⟩, fun x Q2 hx => ?_⟩⟩
  · rcases cs x o hx with ⟨rfl, rfl⟩ | ⟨_, h4⟩
    · exact .inl ⟨hno, rfl⟩
    · rcases hr.live x o h4 with g | ⟨q, ob, g1, g2, g3, g4⟩
      · exact .inl g
      · exact .inr ⟨q, ob, g1, g2, g3, g4.cz sle⟩
  · rcases cs x _ hx with ⟨rfl, h2⟩ | ⟨h1, h4⟩
    · injection h2 with h2; subst h2
      have es : ψ.s x = S := if_pos rfl
      show Q2.P φ.z (ψ.s x) h ∧ _
      rw [es]
      refine ⟨hQ, fun B hB => ?_⟩
      obtain ⟨k1, k2, k3, k4⟩ := hS B hB
      refine ⟨k1, fun y o q hy ho hq => k2 y o q (own y o q hy hq) ho hq, k3, fun y Q4 hy hne hs => ?_⟩
      rcases cs y _ hy with ⟨q1, _⟩ | ⟨q1, q4⟩
      · exact hne q1
      · have : ψ.s y = φ.s y := if_neg q1
        rw [this] at hs
        exact k4 y Q4 q4 hs
    · obtain ⟨g0, g⟩ := hr.sep x Q2 h4
      have es : ψ.s x = φ.s x := if_neg h1
      show Q2.P φ.z (ψ.s x) h ∧ _
      rw [es]
      refine ⟨g0, fun X hX => ?_⟩
      obtain ⟨g1, g2, g3, g4⟩ := g X hX
      refine ⟨g1, fun y o q hy ho hq => g2 y o q (own y o q hy hq) ho hq, g3, fun y Q4 hy hne hs => ?_⟩
      rcases cs y _ hy with ⟨rfl, _⟩ | ⟨q1, q4⟩
      · have : ψ.s y = S := if_pos rfl
        rw [this] at hs
        exact (hS X hs).2.2.2 x Q2 h4 hX
      · have : ψ.s y = φ.s y := if_neg q1
        rw [this] at hs
        exact g4 y Q4 q4 hne hs
theorem HR.Hz (hr : HR φ H n h0 h) (hbb : H.get b = some (.sep Q)) (hw : Wf h) (hn : h.n ≤ g.n) (hg : ∀ B o, h.f B = some o → ¬ φ.s b B → g.f B = some o) (hS : ∀ B, S' B → B < g.n ∧ (φ.s b B ∨ h.f B = none)) (hQ : Q'.P φ.z S' g) :
    HR ⟨φ.f, φ.z, φ.y, fun x => if x = b then S' else φ.s x⟩ (H.set (some (.sep Q')) aa b) n h0 g := by
  have cs : ∀ x o, (H.set (some (.sep Q')) aa b).get x = some o → (x = b ∧ o = .sep Q') ∨ (x ≠ b ∧ H.get x = some o) := fun x o hx => by
    rcases PM.ak aa H b x o hx with ⟨h1, h2⟩ | h2
    · injection h2 with h2; exact .inl ⟨h1, h2.symm⟩
    · exact .inr h2
  have hbo := hr.my hbb
  have hsb := (hr.sep b Q hbb).2
  let ψ : Ph := ⟨φ.f, φ.z, φ.y, fun x => if x = b then S' else φ.s x⟩
  have own : ∀ x o q, (H.set (some (.sep Q')) aa b).get x = some o → φ x = some q → H.get x = some o := fun x o q hx hq => by
    rcases cs x o hx with ⟨rfl, _⟩ | ⟨_, h3⟩
    · rw [hbo] at hq; cases hq
    · exact h3
  have sle : SLe φ ψ := ⟨fun _ _ h => h, fun _ h => h⟩
  have hbs : ∀ B o, h0.f B = some o → g.f B = some o := fun B o e => hg B o (hr.base B o e).2 fun q => by rw [(hsb B q).1.2] at e; cases e
  refine ⟨fun x q hx => ⟨(hr.dom x q hx).1, Nat.lt_of_lt_of_le (hr.dom x q hx).2 hn⟩, fun x o hx => ?_, fun x y o o' q q' hx hy ho ho' hq hq' e => hr.inj x y o o' q q' (own x o q hx hq) (own y o' q' hy hq') ho ho' hq hq' e, fun B o e => ⟨Nat.lt_of_lt_of_le (hr.base B o e).1 hn, hbs B o e⟩, Nat.le_trans hr.size hn, fun q hq => ⟨⟨FzR.mono (φ := φ) (ψ := ψ) sle.z ?_, (hr.frz q hq).1.2⟩, fun x o px hx ho hpx => (hr.frz q hq).2 x o px (own x o px hx hpx) ho hpx⟩, fun x Q2 hx => ?_⟩
  · rcases cs x o hx with ⟨rfl, rfl⟩ | ⟨_, h4⟩
    · exact .inl ⟨hbo, rfl⟩
    · rcases hr.live x o h4 with g1 | ⟨q, ob, g1, g2, g3, g4⟩
      · exact .inl g1
      · refine .inr ⟨q, ob, g1, g2, ?_, g4.cz sle⟩
        cases ho : o.own with
        | true => exact hg q.B ob g3 fun k => (hsb q.B k).2.1 x o q h4 ho g1 rfl
        | false =>
          cases o with
          | ro l => exact hbs q.B ob g2
          | _ => cases ho
  · obtain ⟨k0, c, t, fz, k1, k2⟩ := (hr.frz q hq).1.1
    exact ⟨⟨Nat.lt_of_lt_of_le k0.1 hn, k0.2⟩, c, t, fz, hg q.B _ k1 fun k => (hsb q.B k).2.2.1 q hq rfl, k2⟩
  · rcases cs x _ hx with ⟨rfl, h2⟩ | ⟨h1, h4⟩
    · injection h2 with h2; subst h2
      have es : ψ.s x = S' := if_pos rfl
      show Q2.P φ.z (ψ.s x) g ∧ _
      rw [es]
      refine ⟨hQ, fun B hB => ?_⟩
      obtain ⟨k1, k2⟩ := hS B hB
      have no : ∀ o, h.f B = some o → φ.s x B := fun o e => k2.elim id fun k => by rw [k] at e; cases e
      refine ⟨⟨k1, ?_⟩, fun y o q hy ho hq e => ?_, fun q hq e => ?_, fun y Q4 hy hne hs => ?_⟩
      · cases e : h0.f B with
        | none => rfl
        | some o => rw [(hsb B (no o (hr.base B o e).2)).1.2] at e; cases e
      · have h5 := own y o q hy hq
        rcases hr.live y o h5 with ⟨k, _⟩ | ⟨q', ob, l1, l2, l3, _⟩
        · rw [k] at hq; cases hq
        · rw [l1] at hq; injection hq with hq; subst hq
          exact (hsb B (no ob (e ▸ l3))).2.1 y o q' h5 ho l1 e
      · obtain ⟨k0, c, t, fz, l1, _⟩ := (hr.frz q hq).1.1
        exact (hsb B (no _ (e ▸ l1))).2.2.1 q hq e
      · rcases cs y _ hy with ⟨q1, _⟩ | ⟨q1, q4⟩
        · exact hne q1
        · have : ψ.s y = φ.s y := if_neg q1
          rw [this] at hs
          obtain ⟨o, ho⟩ := Q4.ex _ _ _ B (hr.sep y Q4 q4).1 hs
          exact (hsb B (no o ho)).2.2.2 y Q4 q4 q1 hs
    · obtain ⟨g0, g1⟩ := hr.sep x Q2 h4
      have es : ψ.s x = φ.s x := if_neg h1
      show Q2.P φ.z (ψ.s x) g ∧ _
      rw [es]
      have nb : ∀ X, φ.s x X → ¬ φ.s b X := fun X hX k => (hsb X k).2.2.2 x Q2 h4 h1 hX
      refine ⟨Q2.loc _ _ h _ hn (fun X hX => ?_) g0, fun X hX => ?_⟩
      · obtain ⟨o, ho⟩ := Q2.ex _ _ _ X g0 hX
        rw [hg X o ho (nb X hX), ho]
      obtain ⟨k1, k2, k3, k4⟩ := g1 X hX
      refine ⟨⟨Nat.lt_of_lt_of_le k1.1 hn, k1.2⟩, fun y o q hy ho hq => k2 y o q (own y o q hy hq) ho hq, k3, fun y Q4 hy hne hs => ?_⟩
      rcases cs y _ hy with ⟨rfl, _⟩ | ⟨q1, q4⟩
      · have : ψ.s y = S' := if_pos rfl
        rw [this] at hs
        obtain ⟨o, ho⟩ := Q2.ex _ _ _ X g0 hX
        rcases (hS X hs).2 with k | k
        · exact nb X hX k
        · rw [k] at ho; cases ho
      · have : ψ.s y = φ.s y := if_neg q1
        rw [this] at hs
        exact k4 y Q4 q4 hne hs
theorem HR.IZ (hr : HR φ H n h0 h) {p : Pl} {o : AO} {ob : Obj} (ho : o.own = true) (hnq : o.AI = none) (hB : p.B < h.n ∧ h0.f p.B = none) (hf : h.f p.B = some ob) (hor : OR φ p o ob) (h1 : ∀ b' o' p', H.get b' = some o' → o'.own = true → φ b' = some p' → p'.B ≠ p.B) (h2 : ∀ q, φ.z q → q.B ≠ p.B) (h3 : ∀ b' Q', H.get b' = some (.sep Q') → ¬ φ.s b' p.B) :
    ∃ ψ : Ph, PLe φ ψ ∧ ψ n = some p ∧ HR ψ (H.set (some o) aa n) (n + 1) h0 h := by
  have hno : φ n = none := by
    cases e : φ n with
    | none => rfl
    | some q => exact absurd (hr.dom n q e).1 (Nat.lt_irrefl _)
  let ψ : Ph := ⟨fun x => if x = n then some p else φ x, φ.z, φ.y, φ.s⟩
  have en : ψ n = some p := if_pos rfl
  have ne : ∀ x, x ≠ n → ψ x = φ x := fun x e => if_neg e
  have le : PLe φ ψ := ⟨fun x q e => (ne x fun k => by subst k; rw [hno] at e; cases e).trans e, fun _ h => h, fun _ h => h⟩
  have cs : ∀ x o', (H.set (some o) aa n).get x = some o' → (x = n ∧ o' = o) ∨ (x ≠ n ∧ H.get x = some o') := fun x o' hx => by
    rcases PM.ak aa H n x o' hx with ⟨k1, k2⟩ | k2
    · injection k2 with k2; exact .inl ⟨k1, k2.symm⟩
    · exact .inr k2
  refine ⟨ψ, le, en, ⟨fun x q hx => ?_, fun x o' hx => ?_, fun x y o1 o2 q1 q2 hx hy w1 w2 e1 e2 e => ?_, hr.base, hr.size, fun q hq => ⟨⟨FzR.mono (φ := φ) (ψ := ψ) (fun _ h => h) (hr.frz q hq).1.1, (hr.frz q hq).1.2⟩, fun x o' px hx ho' hpx => ?_⟩, fun x Q2 hx => ?_⟩⟩
  · by_cases e : x = n
    · subst e; rw [en] at hx; injection hx with hx; subst hx; exact ⟨Nat.lt_succ_self _, hB.1⟩
    · rw [ne x e] at hx; exact ⟨Nat.lt_succ_of_lt (hr.dom x q hx).1, (hr.dom x q hx).2⟩
  · rcases cs x o' hx with ⟨rfl, rfl⟩ | ⟨k1, k2⟩
    · exact .inr ⟨p, ob, en, by rw [AO.bk ho]; exact hB.2, hf, hor.mono le⟩
    · rcases hr.live x o' k2 with ⟨k3, k4⟩ | ⟨q, ob', k3, k4, k5, k6⟩
      · exact .inl ⟨(ne x k1).trans k3, k4⟩
      · exact .inr ⟨q, ob', (ne x k1).trans k3, k4, k5, k6.mono le⟩
  · rcases cs x o1 hx with ⟨rfl, rfl⟩ | ⟨k1, k2⟩
    · rcases cs y o2 hy with ⟨rfl, _⟩ | ⟨k3, k4⟩
      · rfl
      · rw [en] at e1; injection e1 with e1; subst e1
        rw [ne y k3] at e2
        exact (h1 y o2 q2 k4 w2 e2 e.symm).elim
    · rw [ne x k1] at e1
      rcases cs y o2 hy with ⟨rfl, rfl⟩ | ⟨k3, k4⟩
      · rw [en] at e2; injection e2 with e2; subst e2
        exact (h1 x o1 q1 k2 w1 e1 e).elim
      · rw [ne y k3] at e2
        exact hr.inj x y o1 o2 q1 q2 k2 k4 w1 w2 e1 e2 e
  · rcases cs x o' hx with ⟨rfl, rfl⟩ | ⟨k1, k2⟩
    · rw [en] at hpx; injection hpx with hpx; subst hpx
      exact fun e => h2 q hq e.symm
    · rw [ne x k1] at hpx
      exact (hr.frz q hq).2 x o' px k2 ho' hpx
  · rcases cs x _ hx with ⟨rfl, k2⟩ | ⟨k1, k2⟩
    · subst k2; cases hnq
    · obtain ⟨g0, g1⟩ := hr.sep x Q2 k2
      refine ⟨g0, fun X hX => ?_⟩
      obtain ⟨l1, l2, l3, l4⟩ := g1 X hX
      refine ⟨l1, fun y o' q hy ho' hq' => ?_, l3, fun y Q4 hy hne hs => ?_⟩
      · rcases cs y o' hy with ⟨rfl, rfl⟩ | ⟨k3, k4⟩
        · rw [en] at hq'; injection hq' with hq'; subst hq'
          exact fun e => h3 x Q2 k2 (by rw [e]; exact hX)
        · rw [ne y k3] at hq'
          exact l2 y o' q k4 ho' hq'
      · rcases cs y _ hy with ⟨rfl, k4⟩ | ⟨k3, k4⟩
        · subst k4; cases hnq
        · exact l4 y Q4 k4 hne hs
open Classical in
noncomputable def lr (S : Nat → Prop) (hb h : Hp) : Hp := ⟨fun B => if S B ∧ hb.f B = none then none else h.f B, h.n⟩
open Classical in
noncomputable def inS (S : Nat → Prop) (h : Hp) : Hp := ⟨fun B => if S B then h.f B else none, h.n⟩
def wY (hb : Hp) (σ : AE) (ρ : Env) (H : AH) (n : Nat) : HP where
  P _ S h := (∀ B, S B → ∃ o, h.f B = some o) ∧ ∃ (φ : Ph) (g : Hp), g.n ≤ h.n ∧ (∀ B o, g.f B = some o → S B ∧ h.f B = some o) ∧ (∀ q, ¬ φ.y q) ∧ HR φ H n hb g ∧ FR φ σ ρ
  loc _ _ _ _ hn e hp := ⟨fun B hB => let ⟨o, ho⟩ := hp.1 B hB; ⟨o, (e B hB).trans ho⟩, let ⟨φ, g, h1, h2, h3⟩ := hp.2; ⟨φ, g, Nat.le_trans h1 hn, fun B o q => ⟨(h2 B o q).1, (e B (h2 B o q).1).trans (h2 B o q).2⟩, h3⟩⟩
  mono _ _ _ _ _ h := h
  ex _ _ _ B h hB := h.1 B hB
theorem sP {B : Nat} {o : Obj} (h1 : (lr S hb h).f B = some o) : h.f B = some o ∧ ¬ (S B ∧ hb.f B = none) := by
  by_cases e : S B ∧ hb.f B = none
  · have : (lr S hb h).f B = none := if_pos e
    rw [this] at h1; cases h1
  · have : (lr S hb h).f B = h.f B := if_neg e
    rw [this] at h1; exact ⟨h1, e⟩
theorem ux {B : Nat} (k : S B) (e : hb.f B = none) : (lr S hb h).f B = none := if_pos ⟨k, e⟩
theorem ik {B : Nat} (e : ¬ (S B ∧ hb.f B = none)) : (lr S hb h).f B = h.f B := if_neg e
theorem HR.lift (hr : HR φ H n hb g) (hw : Wf h) (hn : g.n ≤ h.n) (hsub : ∀ B o, g.f B = some o → S B ∧ h.f B = some o) (hy : ∀ q, ¬ φ.y q) : HR φ H n (lr S hb h) h := by
  refine ⟨fun x q hx => ⟨(hr.dom x q hx).1, Nat.lt_of_lt_of_le (hr.dom x q hx).2 hn⟩, fun x o hx => ?_, hr.inj, fun B o e => ⟨hw B o (sP e).1, (sP e).1⟩, Nat.le_refl _, fun q hq => ?_, fun x Q2 hx => ?_⟩
  · rcases hr.live x o hx with k | ⟨p, ob, k1, k2, k3, k4⟩
    · exact .inl k
    · refine .inr ⟨p, ob, k1, ?_, (hsub _ _ k3).2, k4⟩
      cases ho : o.own with
      | true =>
        rw [AO.bk ho] at k2 ⊢
        exact ux (hsub _ _ k3).1 k2
      | false =>
        cases o with
        | ro l =>
          have k2 : hb.f p.B = some ob := k2
          exact (ik fun k => by rw [k2] at k; cases k.2).trans (hsub _ _ k3).2
        | _ => cases ho
  · obtain ⟨⟨k1, k2⟩, k3⟩ := hr.frz q hq
    obtain ⟨l0, c, t, fz, l1, l2⟩ := k1
    exact ⟨⟨⟨⟨Nat.lt_of_lt_of_le l0.1 hn, l0.2⟩, c, t, fz, (hsub _ _ l1).2, l2⟩, .inr (ux (hsub _ _ l1).1 (k2.resolve_left (hy q)))⟩, k3⟩
  · obtain ⟨k1, k2⟩ := hr.sep x Q2 hx
    have ex : ∀ B, φ.s x B → ∃ o, g.f B = some o := fun B hB => Q2.ex _ _ _ B k1 hB
    refine ⟨Q2.loc _ _ g _ hn (fun B hB => ?_) k1, fun B hB => ?_⟩
    · obtain ⟨o, ho⟩ := ex B hB
      rw [ho, (hsub _ _ ho).2]
    · obtain ⟨o, ho⟩ := ex B hB
      obtain ⟨l1, l2⟩ := k2 B hB
      exact ⟨⟨Nat.lt_of_lt_of_le l1.1 hn, ux (hsub _ _ ho).1 l1.2⟩, l2⟩
theorem HR.uy (hr : HR φ H n h1 g) {L : Nat} {o o' : Obj} (hL : h1.f L = some o) (hown : ∀ b o, H.get b = some o → o.own = true) (hy : ∀ q, ¬ φ.y q) : HR φ H n (h1.put L o') (g.put L o') := by
  have ne : ∀ B, h1.f B = none → B ≠ L := fun B e k => by subst k; rw [hL] at e; cases e
  refine ⟨hr.dom, fun x o hx => ?_, hr.inj, fun B o e => ?_, hr.size, fun q hq => ?_, fun x Q2 hx => ?_⟩
  · rcases hr.live x o hx with k | ⟨p, ob, k1, k2, k3, k4⟩
    · exact .inl k
    · have hu := AO.bk (hown x o hx) ob
      rw [hu] at k2
      refine .inr ⟨p, ob, k1, ?_, ?_, k4⟩
      · rw [hu, aT _ _ _ _ (ne _ k2)]; exact k2
      · rw [aT _ _ _ _ (ne _ k2)]; exact k3
  · by_cases k : B = L
    · subst k
      rw [bB] at e ⊢
      exact ⟨(hr.base _ _ hL).1, e⟩
    · rw [aT _ _ _ _ k] at e ⊢
      exact hr.base _ _ e
  · obtain ⟨⟨k1, k2⟩, k3⟩ := hr.frz q hq
    have k2 := k2.resolve_left (hy q)
    obtain ⟨l0, c, t, fz, l1, l2⟩ := k1
    exact ⟨⟨⟨l0, c, t, fz, (aT _ _ _ _ (ne _ k2)).trans l1, l2⟩, .inr ((aT _ _ _ _ (ne _ k2)).trans k2)⟩, k3⟩
  · obtain ⟨k1, k2⟩ := hr.sep x Q2 hx
    refine ⟨Q2.loc _ _ g _ (Nat.le_refl _) (fun B hB => aT _ _ _ _ (ne _ (k2 B hB).1.2)) k1, fun B hB => ?_⟩
    obtain ⟨l1, l2⟩ := k2 B hB
    exact ⟨⟨l1.1, (aT _ _ _ _ (ne _ l1.2)).trans l1.2⟩, l2⟩
theorem HR.cut (hr : HR φ H n h1 g) (hown : ∀ b o, H.get b = some o → o.own = true) (hy : ∀ q, ¬ φ.y q) (hS : ∀ B o, g.f B = some o → h1.f B = none → S' B) (hbs : ∀ B o, hb.f B = some o → S' B ∧ g.f B = some o ∧ h1.f B ≠ none) (hbn : hb.n ≤ g.n) : HR φ H n hb (inS S' g) := by
  have is : ∀ B, S' B → (inS S' g).f B = g.f B := fun B e => if_pos e
  have no : ∀ B, h1.f B = none → hb.f B = none := fun B e => by
    cases k : hb.f B with
    | none => rfl
    | some o => exact absurd e (hbs B o k).2.2
  refine ⟨hr.dom, fun x o hx => ?_, hr.inj, fun B o e => ⟨(hr.base B _ (show h1.f B = some ((h1.f B).get (Option.isSome_iff_ne_none.2 (hbs B o e).2.2)) by simp)).1, (is B (hbs B o e).1).trans (hbs B o e).2.1⟩, hbn, fun q hq => ?_, fun x Q2 hx => ?_⟩
  · rcases hr.live x o hx with k | ⟨p, ob, k1, k2, k3, k4⟩
    · exact .inl k
    · have hu := AO.bk (hown x o hx) ob
      rw [hu] at k2
      exact .inr ⟨p, ob, k1, by rw [hu]; exact no _ k2, (is _ (hS _ _ k3 k2)).trans k3, k4⟩
  · obtain ⟨⟨k1, k2⟩, k3⟩ := hr.frz q hq
    have k2 := k2.resolve_left (hy q)
    obtain ⟨l0, c, t, fz, l1, l2⟩ := k1
    exact ⟨⟨⟨l0, c, t, fz, (is _ (hS _ _ l1 k2)).trans l1, l2⟩, .inr (no _ k2)⟩, k3⟩
  · obtain ⟨k1, k2⟩ := hr.sep x Q2 hx
    have ex : ∀ B, φ.s x B → S' B := fun B hB => let ⟨o, ho⟩ := Q2.ex _ _ _ B k1 hB; hS B o ho (k2 B hB).1.2
    refine ⟨Q2.loc _ _ g _ (Nat.le_refl _) (fun B hB => is B (ex B hB)) k1, fun B hB => ?_⟩
    obtain ⟨l1, l2⟩ := k2 B hB
    exact ⟨⟨l1.1, no _ l1.2⟩, l2⟩
end
end Go.Proofs.Ythjggjhebbdkdaa
namespace Go.Proofs.Ythjggjhebbdkdaa
open Go Go.RowKit
def ia : Code → Bool
  | .skip => true
  | .region _ _ d => !d
  | .seq a b => ia a && ia b
  | .cond _ a b => ia a && ia b
  | .block _ c => ia c
  | .exit _ => true
  | .ret => true
  | _ => false
def J7 (d : List Deferred) (n : Nat) (ds : List Nat) (ρ0 : Env) (w0 : World) (N R : EH) (X : Nat → EH) : Exit → Act → World → Prop
  | .normal, a, w => ∃ ρ h, kO d n a ρ ∧ Is w h ∧ bq w0 w ∧ dW ds ρ0 ρ ∧ N ρ h
  | .ret, a, w => ∃ ρ h, kO d n a ρ ∧ Is w h ∧ bq w0 w ∧ dW ds ρ0 ρ ∧ R ρ h
  | .exit i, a, w => ∃ ρ h, kO d n a ρ ∧ Is w h ∧ bq w0 w ∧ dW ds ρ0 ρ ∧ X i ρ h
  | _, _, _ => False
theorem gB {P : Program} {r : Option Nat} {d : List Deferred} {n : Nat} {w0 : World} : ∀ (c : Code), ia c = true → ∀ (ds : List Nat), (∀ t ∈ aI c, t < n ∧ ds.contains t = true) → ∀ (N R : EH) (X : Nat → EH) (ρ0 ρ : Env) (h : Hp) (a : Act) (w : World),
    avc P c N R X ρ h → kO d n a ρ → Is w h → bq w0 w → dW ds ρ0 ρ → c.wpIn (FW r) 0 P (J7 d n ds ρ0 w0 N R X) a w := by
  intro c
  induction c with
  | skip => intro _ ds _ N R X ρ0 ρ h a w hk hr hi hs hp; exact wpIn_skip ⟨ρ, h, hr, hi, hs, hp, hk⟩
  | region id ops draw =>
    intro hc ds hd N R X ρ0 ρ h a w hk hr hi hs hp
    have hd' := oz (l := ops.toList) hd
    cases draw with
    | true => cases hc
    | false => exact wpIn_region_list (kP (r := r) (d := d) (n := n) (ds := ds) (ρ0 := ρ0) (w0 := w0) (fun a' w' ρ' h' hr' hp' hi' hs' hN => ⟨ρ', h', hr', hi', hs', hp', hN⟩) ops.toList hd' ρ h a w hk hr hp hi hs)
  | seq x y ihx ihy =>
    intro hc ds hd N R X ρ0 ρ h a w hk hr hi hs hp
    simp only [ia, Bool.and_eq_true] at hc
    refine wpIn_seq (wpIn_mono (ihx hc.1 ds (fun t ht => hd t (by simp [aI, ht])) (fun ρ' h' => avc P y N R X ρ' h') R X ρ0 ρ h a w hk hr hi hs hp) (fun e a' w' hq => ?_))
    cases e with
    | normal =>
      obtain ⟨ρ', h', hr', hi', hs', hp', hN⟩ := hq
      exact ihy hc.2 ds (fun t ht => hd t (by simp [aI, ht])) N R X ρ0 ρ' h' a' w' hN hr' hi' hs' hp'
    | _ => exact hq
  | cond t x y ihx ihy =>
    intro hc ds hd N R X ρ0 ρ h a w hk hr hi hs hp
    simp only [ia, Bool.and_eq_true] at hc
    unfold avc at hk
    split at hk
    · rename_i q hq
      refine wpIn_cond_split (t := q) (by rw [hr.eval, hq]) (fun e => ?_) (fun e => ?_)
      · exact ihx hc.1 ds (fun t ht => hd t (by simp [aI, ht])) N R X ρ0 ρ h a w (hk.1 e) hr hi hs hp
      · exact ihy hc.2 ds (fun t ht => hd t (by simp [aI, ht])) N R X ρ0 ρ h a w (hk.2 e) hr hi hs hp
    · exact hk.elim
  | block id x ih =>
    intro hc ds hd N R X ρ0 ρ h a w hk hr hi hs hp
    refine wpIn_block (wpIn_mono (ih hc ds hd N R (fun i ρ' h' => if i = id then N ρ' h' else X i ρ' h') ρ0 ρ h a w hk hr hi hs hp) (fun e a' w' hq => ?_))
    cases e with
    | exit i =>
      obtain ⟨ρ', h', hr', hi', hs', hp', hX⟩ := hq
      simp only [Exit.inBlock]
      split
      · rename_i e; rw [if_pos e] at hX; exact ⟨ρ', h', hr', hi', hs', hp', hX⟩
      · rename_i e; rw [if_neg e] at hX; exact ⟨ρ', h', hr', hi', hs', hp', hX⟩
    | _ => exact hq
  | exit i => intro _ ds _ N R X ρ0 ρ h a w hk hr hi hs hp; exact wpIn_exit ⟨ρ, h, hr, hi, hs, hp, hk⟩
  | ret => intro _ ds _ N R X ρ0 ρ h a w hk hr hi hs hp; exact wpIn_ret ⟨ρ, h, hr, hi, hs, hp, hk⟩
  | _ => intro hc; cases hc
def c7 (rec : Loop) (st : LoopState) (pd : Option Code) : Loop := { rec with state := st, pending := pd }
def iQ (L D : Nat) (rec : Loop) (st : LoopState) (pd : Option Code) : Hp := ⟨fun B => if B = L then some (.loop (c7 rec st pd)) else if B = D then some (.deferred (some [])) else none, 0⟩
theorem oe (L D : Nat) (rec : Loop) (st : LoopState) (pd : Option Code) : (iQ L D rec st pd).f L = some (.loop (c7 rec st pd)) := if_pos rfl
theorem og {L D : Nat} (h : D ≠ L) (rec : Loop) (st : LoopState) (pd : Option Code) : (iQ L D rec st pd).f D = some (.deferred (some [])) := (if_neg h).trans (if_pos rfl)
theorem uz {L D B : Nat} (h1 : B ≠ L) (h2 : B ≠ D) (rec : Loop) (st : LoopState) (pd : Option Code) : (iQ L D rec st pd).f B = none := (if_neg h1).trans (if_neg h2)
def cx (H : AH) : Prop := ∀ b o, H.get b = some o → o.own = true
def RdK (L D b : Nat) (rec : Loop) (σ : AE) (ρ : Env) (H : AH) (n : Nat) (κ : PK) (st : LoopState) (pd : Option Code) (H3 : AH) (n3 : Nat) : Prop :=
  ∃ H4 n4, Cov 0 σ H3 n3 (σ, H4, n4) ∧ cx H4 ∧ κ (.bool pd.isNone) (H.set (some (.sep (wY (iQ L D rec st pd) σ ρ H4 n4))) aa b) n
def I0 (L D b t : Nat) (ca cb : Code) (rec : Loop) (σ : AE) (ρ : Env) (call cd : CP) (args : List AV) (H : AH) (n : Nat) (κ : PK) : Prop :=
  ∃ H1 n1 x, H.get b = some (.sep (wY (iQ L D rec .ready none) σ ρ H1 n1)) ∧ args = [x] ∧ (∀ (φ ψ : Ph) (v : Value), VR φ x v → VR ψ x v) ∧ cx H1 ∧
    gK n1 cd [] ca call (b8 σ (some t) x) H1 n1 (fun σ2 H2 n2 => cx H2 ∧ gK n2 cd [] cb call σ2 H2 n2
      (fun _ H3 n3 => cx H3 ∧ RdK L D b rec σ ρ H n κ .ready none H3 n3)
      (fun i _ H3 n3 => cx H3 ∧ RdK L D b rec σ ρ H n κ .done (some (.exit i)) H3 n3) (fun _ _ _ => False)) (fun _ _ _ _ => False) (fun _ _ _ => False)
theorem Is.putObj {w : World} {h : Hp} (hi : Is w h) {L : Nat} {o o' : Obj} (e : h.f L = some o) : Is (w.putObj L o') (h.put L o') :=
  hi.set e (by simp) (World.putObj_heap_same (by rw [hi.1]; exact hi.lt e)) fun x hx => World.putObj_heap_other hx
theorem bq.putObj (w : World) (L : Nat) (o : Obj) : bq w (w.putObj L o) := ⟨rfl, rfl, rfl⟩
section
variable {L D b t : Nat} {rec : Loop} {σ : AE} {ρ : Env} {call cd : CP}
theorem Gp (hcall : kZ call) (hcd : kZ cd) (hcs : oH cd) (hDL : D ≠ L) (hps : rec.params = #[t]) (hcA : ia rec.assign = true) (hcB : ia rec.body = true) (hdA : jk [] rec.assign = true) (hdB : jk [] rec.body = true)
    (hdd : ((aI rec.assign).all fun t => decide (t < rec.tmps.size)) = true) (hde : ((aI rec.body).all fun t => decide (t < rec.tmps.size)) = true) (ht : t < rec.tmps.size) (hρ : ∀ t, rec.tmps.getD t undef = ρ t) : Ff L (I0 L D b t rec.assign rec.body rec σ ρ call cd) := by
  intro args H n κ hs φ h0 h vs K hr hargs hk w hi
  obtain ⟨H1, n1, x, hb, rfl, hfl, hown, hs⟩ := hs
  obtain ⟨v, us, qv, ev, ru⟩ := hargs.cons_inv
  have ru := ru.aW
  subst ru
  have hvs : vs = #[v] := Array.ext' qv
  subst hvs
  have hw := hi.wf
  obtain ⟨⟨hex, φ', g, hgn, hsub, hy, hr', hf'⟩, hcond⟩ := hr.sep b _ hb
  have gL := (hr'.base L _ (oe L D rec .ready none)).2
  have gD := (hr'.base D _ (og hDL rec .ready none)).2
  have r1 := hr'.lift hw hgn hsub hy
  have bL : (lr (φ.s b) (iQ L D rec .ready none) h).f L = some (.loop (c7 rec .ready none)) := (ik fun k => by rw [oe] at k; cases k.2).trans (hsub _ _ gL).2
  have bD : (lr (φ.s b) (iQ L D rec .ready none) h).f D = some (.deferred (some [])) := (ik fun k => by rw [og hDL] at k; cases k.2).trans (hsub _ _ gD).2
  have hLw : w.heap[L]? = some (.loop (c7 rec .ready none)) := hi.2 _ _ (hsub _ _ gL).2
  have hx : VR φ' x v := hfl φ φ' v ev
  refine ⟨rec.fn, rec.tmps.setIfInBounds t v, rec.assign, rec.body, ?_, roundIn_of_wpIn trivial ?_⟩
  · rw [run_yield hLw (by show 1 = rec.params.size; rw [hps]; rfl)]
    simp [c7, hps]
  have rel : kO [] rec.tmps.size { tmps := rec.tmps.setIfInBounds t v, defers := [] } (ρ.upd t v) := by
    have : kO [] rec.tmps.size { tmps := rec.tmps, defers := [] } ρ := ⟨rfl, rfl, hρ⟩
    exact this.put (d := some t) (fun s e => by injection e with e; subst e; exact ht) v
  have dsA : ∀ t ∈ aI rec.assign, t < rec.tmps.size ∧ (aI rec.assign).contains t = true := fun t ht => ⟨by simpa using List.all_eq_true.1 hdd t ht, by simpa using ht⟩
  have dsB : ∀ t ∈ aI rec.body, t < rec.tmps.size ∧ (aI rec.body).contains t = true := fun t ht => ⟨by simpa using List.all_eq_true.1 hde t ht, by simpa using ht⟩
  have fin : ∀ (st : LoopState) (pd : Option Code) (φ2 φ3 : Ph) (H3 : AH) (n3 : Nat) (ρ3 : Env) (h3 : Hp) (w3 : World), PLe φ' φ2 → PLe φ2 φ3 → HR φ3 H3 n3 ((lr (φ.s b) (iQ L D rec .ready none) h).put L (.loop (c7 rec .busy none))) h3 → cx H3 → RdK L D b rec σ ρ H n κ st pd H3 n3 → Is w3 h3 → bq w w3 →
      ∃ v' h', Ending.returned (.bool pd.isNone) = .returned v' ∧ Is (w3.putObj L (.loop (c7 rec st pd))) h' ∧ bq w (w3.putObj L (.loop (c7 rec st pd))) ∧ K v' h' := by
    intro st pd φ2 φ3 H3 n3 ρ3 h3 w3 l1 l2 r3 ho3 ⟨H4, n4, hc, hown4, hκ⟩ hi3 hs3
    have y3 : ∀ q, ¬ φ3.y q := fun q hq => hy q ((l1.trans l2).y q hq)
    obtain ⟨χ, ⟨_, _, cy⟩, r4, f4⟩ := hc φ3 _ h3 ρ r3 (hf'.mono (l1.trans l2))
    have y4 : ∀ q, ¬ χ.y q := fun q hq => y3 q (cy q hq)
    have r4 : HR χ H4 n4 ((lr (φ.s b) (iQ L D rec .ready none) h).put L (.loop (c7 rec .busy none))) h3 := r4
    have hL3 := (r4.base L _ (bB _ _ _)).2
    have r5 := r4.uy (o' := .loop (c7 rec st pd)) (bB _ _ _) hown4 y4
    refine ⟨_, h3.put L (.loop (c7 rec st pd)), rfl, hi3.putObj hL3, hs3.trans (bq.putObj _ _ _), ?_⟩
    let S' : Nat → Prop := fun B => (∃ o, (h3.put L (.loop (c7 rec st pd))).f B = some o) ∧ (φ.s b B ∨ h.f B = none)
    have hS : ∀ B, S' B → B < h3.n ∧ (φ.s b B ∨ h.f B = none) := fun B ⟨⟨o, ho⟩, k⟩ => ⟨by
      have := (hi3.putObj (o' := .loop (c7 rec st pd)) hL3).lt ho
      exact this, k⟩
    have hn3 : h.n ≤ h3.n := r4.size
    have lR : ∀ B o, h.f B = some o → ¬ φ.s b B → (h3.put L (.loop (c7 rec st pd))).f B = some o := fun B o e k => by
      have kL : B ≠ L := fun q => by subst q; exact k (hsub _ _ gL).1
      rw [aT _ _ _ _ kL]
      refine (r4.base B o ?_).2
      rw [aT _ _ _ _ kL]
      exact (ik fun q => k q.1).trans e
    have kD : (h3.put L (.loop (c7 rec st pd))).f D = some (.deferred (some [])) := by
      rw [aT _ _ _ _ hDL]
      exact (r4.base D _ (by rw [aT _ _ _ _ hDL]; exact bD)).2
    have hQ : (wY (iQ L D rec st pd) σ ρ H4 n4).P φ.z S' (h3.put L (.loop (c7 rec st pd))) := by
      refine ⟨fun B hB => hB.1, χ, inS S' (h3.put L (.loop (c7 rec st pd))), Nat.le_refl _, fun B o e => ?_, y4, r5.cut hown4 y4 (fun B o e k => ⟨⟨o, e⟩, ?_⟩) (fun B o e => ?_) (Nat.zero_le _), f4⟩
      · by_cases k : S' B
        · have : (inS S' (h3.put L (.loop (c7 rec st pd)))).f B = (h3.put L (.loop (c7 rec st pd))).f B := if_pos k
          rw [this] at e; exact ⟨k, e⟩
        · have : (inS S' (h3.put L (.loop (c7 rec st pd)))).f B = none := if_neg k
          rw [this] at e; cases e
      · have kL : B ≠ L := fun q => by subst q; rw [bB] at k; cases k
        rw [aT _ _ _ _ kL, aT _ _ _ _ kL] at k
        by_cases q : φ.s b B
        · exact .inl q
        · rw [ik fun q' => q q'.1] at k; exact .inr k
      · by_cases kL : B = L
        · subst kL
          rw [oe] at e
          refine ⟨⟨⟨_, bB _ _ _⟩, .inl (hsub _ _ gL).1⟩, by rw [bB]; exact e, by rw [bB]; simp⟩
        · by_cases kB : B = D
          · subst kB
            rw [og hDL] at e
            refine ⟨⟨⟨_, kD⟩, .inl (hsub _ _ gD).1⟩, kD.trans e, by rw [aT _ _ _ _ kL, aT _ _ _ _ kL, bD]; simp⟩
          · rw [uz kL kB] at e; cases e
    exact hk ⟨φ.f, φ.z, φ.y, fun x => if x = b then S' else φ.s x⟩ _ _ _ _ _ ⟨fun _ _ h => h, fun _ h => h, fun _ h => h⟩ (hr.Hz (g := h3.put L (.loop (c7 rec st pd))) hb hw hn3 lR hS hQ) (.bool _) hκ
  have ha := gM hcall hcd hcs (D := []) (p := n1) (φ0 := φ') (fun b q e => (hr'.dom b q e).1) rec.assign hdA φ' _ H1 n1 _ _ _ (ρ.upd t v) h
    (fun ρ2 h2 => ∃ φ2 σ2 H2 n2, PLe φ' φ2 ∧ HR φ2 H2 n2 (lr (φ.s b) (iQ L D rec .ready none) h) h2 ∧ FR φ2 σ2 ρ2 ∧ cx H2 ∧ gK n2 cd [] rec.body call σ2 H2 n2
      (fun _ H3 n3 => cx H3 ∧ RdK L D b rec σ ρ H n κ .ready none H3 n3)
      (fun i _ H3 n3 => cx H3 ∧ RdK L D b rec σ ρ H n κ .done (some (.exit i)) H3 n3) (fun _ _ _ => False)) (fun _ _ => False) (fun _ _ _ => False) (PLe.refl _) r1 (hf'.put (some t) hx) hs
    (fun ψ σ2 H2 n2 ρ2 h2 l1 r2 f2 ⟨o2, k⟩ => ⟨ψ, σ2, H2, n2, l1, r2, f2, o2, k⟩) (fun _ _ _ _ _ _ _ _ _ k => k.elim) (fun i _ _ _ _ _ _ _ _ _ k => k.elim)
  refine wpIn_mono (gB (r := some L) (d := []) (w0 := w) rec.assign hcA _ dsA _ _ _ _ _ h _ w ha rel hi (bq.refl w) (fun _ _ => rfl)) fun e a1 w1 hq => ?_
  cases e with
  | normal =>
    obtain ⟨ρ2, h2, rel2, hi2, hs2, _, φ2, σ2, H2, n2, l1, r2, f2, o2, hbody⟩ := hq
    have hL2 := (r2.base L _ bL).2
    refine ⟨_, run_beginRound (hi2.2 _ _ hL2) rfl, ?_⟩
    have y2 : ∀ q, ¬ φ2.y q := fun q hq => hy q (l1.y q hq)
    have r3 := r2.uy (o' := .loop (c7 rec .busy none)) bL o2 y2
    have hb2 := gM hcall hcd hcs (D := []) (p := n2) (φ0 := φ2) (fun b q e => (r2.dom b q e).1) rec.body hdB φ2 _ H2 n2 _ _ _ ρ2 (h2.put L (.loop (c7 rec .busy none)))
      (fun ρ3 h3 => ∃ φ3 H3 n3, PLe φ2 φ3 ∧ HR φ3 H3 n3 ((lr (φ.s b) (iQ L D rec .ready none) h).put L (.loop (c7 rec .busy none))) h3 ∧ cx H3 ∧ RdK L D b rec σ ρ H n κ .ready none H3 n3) (fun _ _ => False)
      (fun i ρ3 h3 => ∃ φ3 H3 n3, PLe φ2 φ3 ∧ HR φ3 H3 n3 ((lr (φ.s b) (iQ L D rec .ready none) h).put L (.loop (c7 rec .busy none))) h3 ∧ cx H3 ∧ RdK L D b rec σ ρ H n κ .done (some (.exit i)) H3 n3) (PLe.refl _) r3 f2 hbody
      (fun ψ σ3 H3 n3 ρ3 h3 l2 r4 f3 ⟨o3, k⟩ => ⟨ψ, H3, n3, l2, r4, o3, k⟩) (fun _ _ _ _ _ _ _ _ _ k => k.elim) (fun i ψ σ3 H3 n3 ρ3 h3 l2 r4 f3 ⟨o3, k⟩ => ⟨ψ, H3, n3, l2, r4, o3, k⟩)
    have hs2' := hs2.trans (bq.putObj w1 L (.loop (c7 rec .busy none)))
    refine wpIn_mono (gB (r := some L) (d := []) (w0 := w) rec.body hcB _ dsB _ _ _ _ _ _ _ _ hb2 rel2 (hi2.putObj hL2) hs2' (fun _ _ => rfl)) fun e a2 w2 hq => ?_
    cases e with
    | normal =>
      obtain ⟨ρ3, h3, _, hi3, hs3, _, φ3, H3, n3, l2, r4, o3, k⟩ := hq
      have hL3 := (r4.base L _ (bB _ _ _)).2
      exact ⟨_, _, run_endRound none (hi3.2 _ _ hL3), fin .ready none φ2 φ3 H3 n3 ρ3 h3 w2 l1 l2 r4 o3 k hi3 hs3⟩
    | exit i =>
      obtain ⟨ρ3, h3, _, hi3, hs3, _, φ3, H3, n3, l2, r4, o3, k⟩ := hq
      have hL3 := (r4.base L _ (bB _ _ _)).2
      exact ⟨_, _, run_endRound (some (.exit i)) (hi3.2 _ _ hL3), fin .done (some (.exit i)) φ2 φ3 H3 n3 ρ3 h3 w2 l1 l2 r4 o3 k hi3 hs3⟩
    | ret => obtain ⟨_, _, _, _, _, _, k⟩ := hq; exact k.elim
    | _ => exact hq.elim
  | ret => obtain ⟨_, _, _, _, _, _, k⟩ := hq; exact k.elim
  | exit i => obtain ⟨_, _, _, _, _, _, k⟩ := hq; exact k.elim
  | _ => exact hq.elim
end
end Go.Proofs.Ythjggjhebbdkdaa
namespace Go.Proofs.Ythjggjhebbdkdaa
open Go Go.RowKit
section
variable {φ : Ph} {H : AH} {n : Nat} {h0 h g : Hp}
theorem HR.ext (hr : HR φ H n h0 h) (hn : h.n ≤ g.n) (hg : ∀ B o, h.f B = some o → g.f B = some o) : HR φ H n h0 g := by
  refine ⟨fun x q hx => ⟨(hr.dom x q hx).1, Nat.lt_of_lt_of_le (hr.dom x q hx).2 hn⟩, fun x o hx => ?_, hr.inj, fun B o e => ⟨Nat.lt_of_lt_of_le (hr.base B o e).1 hn, hg B o (hr.base B o e).2⟩, Nat.le_trans hr.size hn, fun q hq => ?_, fun x Q hx => ?_⟩
  · rcases hr.live x o hx with k | ⟨p, ob, k1, k2, k3, k4⟩
    · exact .inl k
    · exact .inr ⟨p, ob, k1, k2, hg _ _ k3, k4⟩
  · obtain ⟨⟨k1, k2⟩, k3⟩ := hr.frz q hq
    obtain ⟨l0, c, t, fz, l1, l2⟩ := k1
    exact ⟨⟨⟨⟨Nat.lt_of_lt_of_le l0.1 hn, l0.2⟩, c, t, fz, hg _ _ l1, l2⟩, k2⟩, k3⟩
  · obtain ⟨k1, k2⟩ := hr.sep x Q hx
    refine ⟨Q.loc _ _ h _ hn (fun B hB => ?_) k1, fun B hB => ?_⟩
    · obtain ⟨o, ho⟩ := Q.ex _ _ _ B k1 hB
      rw [ho, hg _ _ ho]
    · obtain ⟨l1, l2⟩ := k2 B hB
      exact ⟨⟨Nat.lt_of_lt_of_le l1.1 hn, l1.2⟩, l2⟩
end
def HA : AV → Bool
  | .ptr _ _ => true
  | a => flat.flat1 a
theorem Er {φ ψ : Ph} {a : AV} {v : Value} (ha : HA a = true) (hf : ∀ b p, φ b = some p → ψ b = some p) (h : VR φ a v) : VR ψ a v := by
  cases a with
  | ptr b o =>
    simp only [VR] at h ⊢
    obtain ⟨p, h1, h2⟩ := h
    exact ⟨p, hf _ _ h1, h2⟩
  | _ => exact aA ha h
structure RfC where
  A : Code
  B : Code
  C : Code
  E : Code
  id : Nat
  gt : Nat
  t : Nat
  ca : Code
  cb : Code
def RfC.code (r : RfC) : Code := .seq r.A (.seq r.B (.seq (.seq r.C (.block r.id (.rangeFunc (.tmp r.gt) ⟨[r.t]⟩ r.ca r.cb))) r.E))
def rfC : Code → Option RfC
  | .seq A (.seq B (.seq (.seq C (.block id (.rangeFunc (.tmp gt) ⟨[t]⟩ ca cb))) E)) => some ⟨A, B, C, E, id, gt, t, ca, cb⟩
  | _ => none
theorem Es {c : Code} {r : RfC} (h : rfC c = some r) : c = r.code := by
  unfold rfC at h
  split at h
  · injection h with h; subst h; rfl
  · cases h
noncomputable def RfC.ok (r : RfC) (m : Nat) : Bool := ia r.A && ia r.B && ia r.C && ia r.E && ia r.ca && ia r.cb && jk [] r.ca && jk [] r.cb && jk [] r.E && jk [] (.seq r.A (.seq r.B r.C)) &&
  ((aI r.A).all fun t => decide (t < m)) && ((aI r.B).all fun t => decide (t < m)) && ((aI r.C).all fun t => decide (t < m)) && ((aI r.E).all fun t => decide (t < m)) && ((aI r.ca).all fun t => decide (t < m)) && ((aI r.cb).all fun t => decide (t < m)) && decide (r.t < m)
def RfR (b : Nat) (κ : PK) (H : AH) (n : Nat) (H4 : AH) (v : AV) : Prop :=
  ((∀ (φ ψ : Ph) (u : Value), VR φ v u → VR ψ v u) ∧ κ v (H.set none aa b) n) ∨
  ∃ c o m k x l z, v = .rw c o m k x ∧ H4.get c = some (.cells l z) ∧ l.all flat.flat1 = true ∧ κ (.rw n o m k x) ((H.set none aa b).set (some (.cells l z)) aa n) (n + 1)
def RfE (L D b : Nat) (r : RfC) (rs : List ResultVar) (rec : Loop) (σ : AE) (ρ : Env) (call cd : CP) (κ : PK) (H : AH) (n : Nat) : Prop :=
  ∃ st pd Hx nx, H.get b = some (.sep (wY (iQ L D rec st pd) σ ρ Hx nx)) ∧ st ≠ .busy ∧ (pd = none ∨ pd = some (.exit r.id)) ∧ cx Hx ∧
    gK nx cd [] r.E call σ Hx nx (fun _ _ _ => False) (fun _ _ _ _ => False) fun σ4 H4 _ => cx H4 ∧ vD rs σ4 H4 fun vs => RfR b κ H n H4 (rX vs)
def uA (o : AO) : Bool := match o with
  | .cells l _ => l.all flat.flat1
  | _ => false
def RfS (r : RfC) (m : Nat) (rs : List ResultVar) (call cd : CP) (κ : PK) (σ1 : AE) (H1 : AH) (n1 : Nat) : Prop :=
  n1 < 900000 ∧ ∃ gf first ts Hi He σj Hj nj, ay (pa r.gt) σ1 = .fn gf first [] ∧ (ts.all fun t => HA (ay (pa t) σ1)) = true ∧ dQ Hi H1 ∧ dQ He H1 ∧ (∀ b o, Hi.get b = some o → uA o = true ∧ He.get b = none) ∧ Cov 0 (hZ σ1 ts) Hi n1 (σj, Hj, nj) ∧
    ∀ (L D : Nat) (rec : Loop) (ρ : Env), Ff L (I0 L D n1 r.t r.ca r.cb rec σj ρ call cd) →
      call gf (first ++ [.any (.func (.yield L) #[] #[])]) (He.set (some (.sep (wY (iQ L D rec .ready none) σj ρ Hj nj))) aa n1) (n1 + 1) fun _ H2 n2 => RfE L D n1 r rs rec σj ρ call cd κ H2 n2
def RfG (call cd : CP) (f : FuncId) (args : List AV) (H : AH) (n : Nat) (κ : PK) : Prop := match Try.prog.funcs[f]? with
  | some fn => (match fn.body with
    | some c => (match rfC c with
      | some r => r.ok fn.ntmps = true ∧ args.length ≤ fn.ntmps ∧ gK n cd [] (.seq r.A (.seq r.B r.C)) call (p5 args 0 .nil) H n (RfS r fn.ntmps fn.results.toList call cd κ) (fun _ _ _ _ => False) (fun _ _ _ => False)
      | none => False)
    | none => False)
  | none => False
theorem rb {φ ψ : Ph} {p : Pl} {o : AO} {ob : Obj} (ho : uA o = true) (h : OR φ p o ob) : OR ψ p o ob := by
  cases o with
  | cells l z =>
    obtain ⟨c, t, fz, h1, h2, h3, h4, h5, h6⟩ := h
    refine ⟨c, t, fz, h1, h2, h3, h4, h5, fun i a hi => ?_⟩
    obtain ⟨v, k1, k2⟩ := h6 i a hi
    exact ⟨v, k1, aA (List.all_eq_true.1 ho a (List.mem_of_getElem? hi)) k2⟩
  | _ => cases ho
theorem lu {o : AO} (ho : uA o = true) : o.own = true ∧ o.AI = none := by cases o <;> first | exact ⟨rfl, rfl⟩ | cases ho
theorem zW {H : AH} {v : Option AO} {n x : Nat} {o : AO} (h : (PM.set v aa H n).get x = some o) : (x = n ∧ v = some o) ∨ (x ≠ n ∧ H.get x = some o) := PM.ak aa H n x o h
theorem I1 {φ ψ : Ph} {H H4 : AH} {n n4 b : Nat} {h0 h1 g h : Hp} {κ : PK} {K : KH} {v : AV} {u : Value} {Q : HP} (hbn : b < 1000000) (hk : bV φ h0 κ K) (hle : PLe φ ψ) (hr : HR ψ H n h0 g) (hb : H.get b = some (.sep Q)) (hw : Wf g) (hwh : Wf h) (hn : g.n ≤ h.n) (hg : ∀ B o, g.f B = some o → ¬ ψ.s b B → h.f B = some o)
    {χ : Ph} (hx : HR χ H4 n4 h1 h) (h1s : ∀ B, h1.f B = none → (∃ o, h.f B = some o) → ψ.s b B ∨ g.f B = none) (hu : VR χ v u) (hs : RfR b κ H n H4 v) : K u h := by
  let S' : Nat → Prop := fun B => (∃ o, h.f B = some o) ∧ (ψ.s b B ∨ g.f B = none)
  have st := hr.Hz (Q' := pk []) (S' := S') hb hw hn hg (fun B ⟨⟨o, e⟩, k⟩ => ⟨hwh B o e, k⟩) ⟨fun B hB => hB.1, List.nodup_nil, fun c hc => by cases hc⟩
  let ω : Ph := ⟨ψ.f, ψ.z, ψ.y, fun x => if x = b then S' else ψ.s x⟩
  have st : HR ω (H.set (some (.sep (pk []))) aa b) n h0 h := st
  have lw : PLe φ ω := ⟨hle.b, hle.z, hle.y⟩
  have le0 : dQ (H.set none aa b) (H.set (some (.sep (pk []))) aa b) := fun x o hx => by
    rcases zW hx with ⟨_, q⟩ | ⟨q1, q2⟩
    · cases q
    · exact PM.aC aa _ _ _ (aD hbn) q1 q2
  have s0 := st.less le0
  rcases hs with ⟨hf, hκ⟩ | ⟨c, o, m, k, x, l, z, rfl, hc, hl, hκ⟩
  · exact hk ω _ _ _ _ _ lw s0 (hf χ ω u hu) hκ
  · rcases hx.live c _ hc with ⟨c1, c2⟩ | ⟨p, ob, c1, c2, c3, c4⟩
    · have hvoid : (AO.cells l z).void = true := c2
      have := s0.ng (o := .cells l z) hvoid
      refine hk ω _ _ _ _ _ lw this ?_ hκ
      simp only [VR] at hu ⊢
      rcases hu with q | ⟨p, a, C, q, _⟩
      · exact .inl q
      · rw [c1] at q; cases q
    · have c2 : h1.f p.B = none := c2
      have hS : S' p.B := ⟨⟨ob, c3⟩, h1s p.B c2 ⟨ob, c3⟩⟩
      have hsep : (H.set (some (.sep (pk []))) aa b).get b = some (.sep (pk [])) := PM.bp aa _ _ (aD hbn)
      obtain ⟨k1, k2, k3, k4⟩ := (st.sep b _ hsep).2 p.B (by show (if b = b then S' else ψ.s b) p.B; rw [if_pos rfl]; exact hS)
      obtain ⟨θ, t1, t2, t3⟩ := s0.IZ (p := p) (o := .cells l z) (ob := ob) rfl rfl k1 c3 (rb hl c4) (fun b' o' p' e1 e2 e3 => k2 b' o' p' (le0 _ _ e1) e2 e3) k3 (fun b' Q' e1 e2 => by
        rcases zW e1 with ⟨_, q⟩ | ⟨q1, q2⟩
        · cases q
        · exact k4 b' Q' (le0 _ _ e1) q1 e2)
      refine hk θ _ _ _ _ _ (lw.trans t1) t3 ?_ hκ
      simp only [VR] at hu ⊢
      rcases hu with q | ⟨p', a, C, q, q2⟩
      · exact .inl q
      · rw [c1] at q; injection q with q; subst q
        exact .inr ⟨p, a, C, t2, q2⟩
theorem HB {f : FuncId} {call cd : CP} (hic : aj Try.prog f = true) (hcall : kZ call) (hcd : kZ cd) (hcs : oH cd) : aF f (RfG call cd f) := by
  intro args H n κ hs φ h0 h vs K hr hargs hk
  unfold RfG at hs
  split at hs
  case h_2 => exact hs.elim
  rename_i fn hfn
  split at hs
  case h_2 => exact hs.elim
  rename_i c hb
  split at hs
  case h_2 => exact hs.elim
  rename_i r hrc
  obtain ⟨hok, hlen, hs⟩ := hs
  have hc := Es hrc
  simp only [RfC.ok, Bool.and_eq_true] at hok
  obtain ⟨⟨⟨⟨⟨⟨⟨⟨⟨⟨⟨⟨⟨⟨⟨⟨cA, cB⟩, cC⟩, cE⟩, cca⟩, ccb⟩, dca⟩, dcb⟩, dE⟩, dP⟩, sA⟩, sB⟩, sC⟩, sE⟩, sca⟩, scb⟩, st⟩ := hok
  have st : r.t < fn.ntmps := by simpa using st
  have dsOf : ∀ {c : Code}, ((aI c).all fun t => decide (t < fn.ntmps)) = true → ∀ t ∈ aI c, t < fn.ntmps ∧ (aI c).contains t = true := fun hq t ht => ⟨by simpa using List.all_eq_true.1 hq t ht, by simpa using ht⟩
  refine ⟨hic, fun w hi => (callsIn_wide (n := 0)).1 (callsIn_of_wp_marks hfn hb trivial ?_)⟩
  have hal := hargs.length
  have hsz : vs.size ≤ fn.ntmps := by simpa [hal] using hlen
  have hpre := gM hcall hcd hcs (D := []) (p := n) (φ0 := φ) (fun b q e => (hr.dom b q e).1) (.seq r.A (.seq r.B r.C)) dP φ _ H n _ _ _ (fu vs.toList 0) h
    (fun ρ1 h1 => ∃ φ1 σ1 H1 n1, PLe φ φ1 ∧ HR φ1 H1 n1 h0 h1 ∧ FR φ1 σ1 ρ1 ∧ RfS r fn.ntmps fn.results.toList call cd κ σ1 H1 n1) (fun _ _ => False) (fun _ _ _ => False) (PLe.refl _) hr (vw hargs) hs
    (fun ψ σ1 H1 n1 ρ1 h1 l1 r1 f1 k => ⟨ψ, σ1, H1, n1, l1, r1, f1, k⟩) (fun _ _ _ _ _ _ _ _ _ k => k.elim) (fun i _ _ _ _ _ _ _ _ _ k => k.elim)
  subst hc
  have rel0 : kO [] fn.ntmps ⟨vs ++ Array.replicate (fn.ntmps - vs.size) undef, []⟩ (fu vs.toList 0) := rS hsz
  refine wpIn_seq (wpIn_mono (gB (r := none) (d := []) (w0 := w) r.A cA _ (dsOf sA) _ _ _ _ _ h _ w hpre rel0 hi (bq.refl w) (fun _ _ => rfl)) fun e a1 w1 hq => ?_)
  cases e with
  | ret => obtain ⟨_, _, _, _, _, _, k⟩ := hq; exact k.elim
  | exit i => obtain ⟨_, _, _, _, _, _, k⟩ := hq; exact k.elim
  | goto i => exact hq.elim
  | panic i => exact hq.elim
  | outgrown => exact hq.elim
  | normal =>
  obtain ⟨ρ1, h1, rel1, hi1, hs1, _, hB⟩ := hq
  refine wpIn_seq (wpIn_mono (gB (r := none) (d := []) (w0 := w) r.B cB _ (dsOf sB) _ _ _ _ _ h1 _ w1 hB rel1 hi1 hs1 (fun _ _ => rfl)) fun e a2 w2 hq => ?_)
  cases e with
  | ret => obtain ⟨_, _, _, _, _, _, k⟩ := hq; exact k.elim
  | exit i => obtain ⟨_, _, _, _, _, _, k⟩ := hq; exact k.elim
  | goto i => exact hq.elim
  | panic i => exact hq.elim
  | outgrown => exact hq.elim
  | normal =>
  obtain ⟨ρ2, h2, rel2, hi2, hs2, _, hC⟩ := hq
  refine wpIn_seq (wpIn_seq (wpIn_mono (gB (r := none) (d := []) (w0 := w) r.C cC _ (dsOf sC) _ _ _ _ _ h2 _ w2 hC rel2 hi2 hs2 (fun _ _ => rfl)) fun e a3 w3 hq => ?_))
  cases e with
  | ret => obtain ⟨_, _, _, _, _, _, k⟩ := hq; exact k.elim
  | exit i => obtain ⟨_, _, _, _, _, _, k⟩ := hq; exact k.elim
  | goto i => exact hq.elim
  | panic i => exact hq.elim
  | outgrown => exact hq.elim
  | normal =>
  obtain ⟨ρ3, h3, rel3, hi3, hs3, _, φ1, σ1, H1, n1, l1, r1, f1, hnb, gf, first, ts, Hi, He, σj, Hj, nj, hgt, hts, hgi, hge, hio, hcov, hS⟩ := hq
  refine wpIn_block (wpIn_rangeFunc fun gg hgg => ?_)
  have e3 := hi3.1
  obtain ⟨D, hD⟩ : ∃ D, D = w3.heap.size := ⟨_, rfl⟩
  obtain ⟨L, hL⟩ : ∃ L, L = w3.heap.size + 1 := ⟨_, rfl⟩
  have hDL : D ≠ L := by omega
  let rcd : Loop := { state := .ready, pending := none, fn := gg, tmps := a3.tmps, params := ⟨[r.t]⟩, assign := r.ca, body := r.cb, defers := w3.heap.size }
  let h4 : Hp := (((h3.put h3.n (.deferred (some []))).to (h3.n + 1)).put (h3.n + 1) (.loop rcd)).to (h3.n + 2)
  let w4 : World := (w3.alloc (.deferred (some []))).alloc (.loop rcd)
  have hi4 : Is w4 h4 := (hi3.push _).push _
  have hs4 : bq w w4 := hs3.trans ((bq.push _ _).trans (bq.push _ _))
  have h4L : h4.f L = some (.loop rcd) := by
    rw [show L = h3.n + 1 from by omega]; exact bB _ _ _
  have h4D : h4.f D = some (.deferred (some [])) := by
    rw [show D = h3.n from by omega]
    show ((h3.put h3.n (.deferred (some []))).put (h3.n + 1) (.loop rcd)).f h3.n = _
    rw [aT _ _ _ _ (by omega)]; exact bB _ _ _
  have h4o : ∀ B o, h3.f B = some o → h4.f B = some o := fun B o e => by
    have := hi3.lt e
    show ((h3.put h3.n (.deferred (some []))).put (h3.n + 1) (.loop rcd)).f B = _
    rw [aT _ _ _ _ (by omega), aT _ _ _ _ (by omega)]; exact e
  have hρ : ∀ t, rcd.tmps.getD t undef = ρ3 t := rel3.2.2
  have hrs : rcd.tmps.size = fn.ntmps := rel3.2.1
  have hY : Ff L (I0 L D n1 r.t r.ca r.cb rcd σj ρ3 call cd) := Gp (rec := rcd) hcall hcd hcs hDL rfl cca ccb dca dcb (by rw [hrs]; exact sca) (by rw [hrs]; exact scb) (by rw [hrs]; exact st) hρ
  let hb0 := iQ L D rcd .ready none
  have hb0s : ∀ B o, hb0.f B = some o → (B = L ∨ B = D) ∧ h4.f B = some o := fun B o e => by
    by_cases kL : B = L
    · subst kL; rw [show hb0.f B = _ from oe _ _ _ _ _] at e; exact ⟨.inl rfl, h4L.trans e⟩
    · by_cases kD : B = D
      · subst kD; rw [show hb0.f B = _ from og hDL _ _ _] at e; exact ⟨.inr rfl, h4D.trans e⟩
      · rw [show hb0.f B = none from uz kL kD _ _ _] at e; cases e
  have hb0n : ∀ B o, h3.f B = some o → hb0.f B = none := fun B o e => by
    have := hi3.lt e
    exact uz (by omega) (by omega) _ _ _
  let S : Nat → Prop := fun B => (∃ b o p ob, Hi.get b = some o ∧ φ1 b = some p ∧ p.B = B ∧ h3.f B = some ob) ∨ B = L ∨ B = D
  let φi : Ph := ⟨φ1.f, fun _ => False, fun _ => False, fun _ _ => False⟩
  have hex : ∀ B, S B → ∃ o, h4.f B = some o := fun B hB => by
    rcases hB with ⟨_, _, _, ob, _, _, _, e⟩ | rfl | rfl
    · exact ⟨ob, h4o _ _ e⟩
    · exact ⟨_, h4L⟩
    · exact ⟨_, h4D⟩
  have is : ∀ B, S B → (inS S h4).f B = h4.f B := fun B e => if_pos e
  have n34 : h3.n ≤ h4.n := by show h3.n ≤ h3.n + 2; omega
  have hii : HR φi Hi n1 hb0 (inS S h4) := by
    refine ⟨fun x q hx => ⟨(r1.dom x q hx).1, Nat.lt_of_lt_of_le (r1.dom x q hx).2 n34⟩, fun x o hx => ?_, fun x y o o' q q' hx hy w1 w2 => r1.inj x y o o' q q' (hgi _ _ hx) (hgi _ _ hy) w1 w2, fun B o e => ⟨hi4.lt (hb0s B o e).2, (is B (.inr (hb0s B o e).1)).trans (hb0s B o e).2⟩, Nat.zero_le _, fun q hq => hq.elim, fun x Q hx => ?_⟩
    · rcases r1.live x o (hgi _ _ hx) with k | ⟨p, ob, k1, k2, k3, k4⟩
      · exact .inl k
      · refine .inr ⟨p, ob, k1, ?_, (is _ (.inl ⟨x, o, p, ob, hx, k1, rfl, k3⟩)).trans (h4o _ _ k3), rb (hio x o hx).1 k4⟩
        rw [AO.bk (lu (hio x o hx).1).1]; exact hb0n _ _ k3
    · have := (lu (hio x _ hx).1).2
      cases this
  have fi : FR φi (hZ σ1 ts) ρ3 := iH fun t ht => Er (φ := φ1) (ψ := φi) (List.all_eq_true.1 hts t ht) (fun _ _ h => h) (f1.at t)
  have sub4 : ∀ B o, (inS S h4).f B = some o → S B ∧ h4.f B = some o := fun B o e => by
    by_cases k : S B
    · rw [is B k] at e; exact ⟨k, e⟩
    · have : (inS S h4).f B = none := if_neg k
      rw [this] at e; cases e
  obtain ⟨χ, ⟨_, _, cy⟩, hij, fj⟩ := hcov φi hb0 (inS S h4) ρ3 hii fi
  have hP : (wY hb0 σj ρ3 Hj nj).P φ1.z S h4 := ⟨hex, χ, inS S h4, Nat.le_refl _, sub4, fun q hq => cy q hq, hij, fj⟩
  have r4 : HR φ1 He n1 h0 h4 := (r1.less hge).ext n34 h4o
  have big : ∀ B, B = L ∨ B = D → h3.n ≤ B ∧ B < h4.n := fun B k => ⟨by omega, by show B < h3.n + 2; omega⟩
  obtain ⟨le4, r5⟩ := r4.mL hP fun B hB => by
    rcases hB with ⟨b, o, p, ob, k1, k2, k3, k4⟩ | k
    · have hw := (lu (hio b o k1).1).1
      refine ⟨⟨Nat.lt_of_lt_of_le (hi3.lt k4) n34, ?_⟩, fun b' o' p' e1 e2 e3 e4 => ?_, fun q hq e => ?_, fun b' Q' e1 e2 => ?_⟩
      · rcases r1.live b o (hgi _ _ k1) with ⟨k, _⟩ | ⟨p', ob', k5, k6, _, _⟩
        · rw [k] at k2; cases k2
        · rw [k5] at k2; injection k2 with k2; subst k2
          rw [AO.bk hw, k3] at k6; exact k6
      · have := r1.inj b' b o' o p' p (hge _ _ e1) (hgi _ _ k1) e2 hw e3 k2 (e4.trans k3.symm)
        subst this
        rw [(hio b' o k1).2] at e1; cases e1
      · exact (r1.frz q hq).2 b o p (hgi _ _ k1) hw k2 (k3.trans e.symm)
      · exact ((r1.sep b' Q' (hge _ _ e1)).2 B e2).2.1 b o p (hgi _ _ k1) hw k2 k3
    · obtain ⟨b1, b2⟩ := big B k
      refine ⟨⟨b2, ?_⟩, fun b' o' p' e1 e2 e3 e4 => ?_, fun q hq e => ?_, fun b' Q' e1 e2 => ?_⟩
      · cases e : h0.f B with
        | none => rfl
        | some o => have := (r1.base B o e).1; omega
      · have := (r1.dom b' p' e3).2; omega
      · have := (r1.frz q hq).1.1.1.1; omega
      · have := ((r1.sep b' Q' (hge _ _ e1)).2 B e2).1.1; omega
  have hgv := f1.at r.gt
  rw [hgt] at hgv
  obtain ⟨xs, cs, hv, hx, hcv⟩ := hgv.mi
  have hcv : cs = #[] := Array.ext' hcv.aW
  subst hcv
  have hcf := hcall gf _ _ _ _ (hS L D rcd ρ3 hY) _ h0 h4 (xs ++ #[.func (.yield L) #[] #[]]) (fun u g => ∃ ψ H2 n2, PLe ⟨φ1.f, φ1.z, φ1.y, fun x => if x = n1 then S else φ1.s x⟩ ψ ∧ HR ψ H2 n2 h0 g ∧ RfE L D n1 r fn.results.toList rcd σj ρ3 call cd κ H2 n2) r5
    (by rw [Array.toList_append]; exact (VRs.mono le4 _ _ hx).append (.cons rfl .nil)) fun ψ v H2 n2 u g le hg hu k => ⟨ψ, H2, n2, le, hg, k⟩
  have hev : a3.eval (.tmp r.gt) = .func (.func gf) xs #[] := by rw [rel3.eval]; exact hv
  refine ⟨L, [{ target := .collected w3.heap.size, args := #[] }], w4, { target := .fn (.func gf) #[], args := xs ++ #[.func (.yield L) #[] #[]] }, w4, gf, xs ++ #[.func (.yield L) #[] #[]], w4, ?_, ?_, fun _ _ => trivial, ?_, fun q => Bool.noConfusion q, ?_⟩
  · rw [hL]; exact run_enterLoop_outer _ _ _ _ _
  · simp only [resolve, rangeCall, hev, Deferred.ofValue, Sem.run_pure, List.map_toArray, List.map_cons, List.map_nil]
    rfl
  · (try simp only [invoke])
    rw [jR hcf.1]
    simp
  refine callsIn_wide.2 ((hcf.2 w4 hi4).mono fun e w5 ⟨v5, g5, he, hi5, hs5, ψ, H2, n2, le5, r6, st6, pd, Hx, nx, hb2, hst, hpd, hox, hE⟩ => ?_)
  subst he
  obtain ⟨⟨hex6, φx, g6, hgn6, hsub6, hy6, rx, fx⟩, hc6⟩ := r6.sep n1 _ hb2
  have gL := hsub6 _ _ (rx.base L _ (oe L D rcd st6 pd)).2
  have gD := hsub6 _ _ (rx.base D _ (og hDL rcd st6 pd)).2
  let exh : Obj := .loop { c7 rcd st6 pd with state := .exhausted }
  have r7 := rx.lift hi5.wf hgn6 hsub6 hy6
  have bL : (lr (ψ.s n1) (iQ L D rcd st6 pd) g5).f L = some (.loop (c7 rcd st6 pd)) := (ik fun k => by rw [oe] at k; cases k.2).trans gL.2
  have bD : (lr (ψ.s n1) (iQ L D rcd st6 pd) g5).f D = some (.deferred (some [])) := (ik fun k => by rw [og hDL] at k; cases k.2).trans gD.2
  have r8 := r7.uy (o' := exh) bL hox hy6
  have hi6 : Is (w5.putObj L exh) (g5.put L exh) := hi5.putObj gL.2
  have hs6 : bq w (w5.putObj L exh) := (hs4.trans hs5).trans (bq.putObj _ _ _)
  have hEs := gM hcall hcd hcs (D := []) (p := nx) (φ0 := φx) (fun b q e => (rx.dom b q e).1) r.E dE φx _ Hx nx _ _ _ ρ3 (g5.put L exh)
    (fun _ _ => False) (fun ρ7 h7 => ∃ φ7 σ7 H7 n7, PLe φx φ7 ∧ HR φ7 H7 n7 ((lr (ψ.s n1) (iQ L D rcd st6 pd) g5).put L exh) h7 ∧ FR φ7 σ7 ρ7 ∧ cx H7 ∧ vD fn.results.toList σ7 H7 fun vs => RfR n1 κ H2 n2 H7 (rX vs)) (fun _ _ _ => False) (PLe.refl _) r8 fx hE
    (fun _ _ _ _ _ _ _ _ _ k => k.elim) (fun φ7 σ7 H7 n7 ρ7 h7 l7 r7 f7 ⟨o7, k⟩ => ⟨φ7, σ7, H7, n7, l7, r7, f7, o7, k⟩) (fun i _ _ _ _ _ _ _ _ _ k => k.elim)
  have rel6 : kO [{ target := .collected w3.heap.size, args := #[] }] fn.ntmps { a3 with defers := [{ target := .collected w3.heap.size, args := #[] }] ++ a3.defers } ρ3 := ⟨by simp [rel3.1], rel3.2⟩
  have tail : r.E.wpIn Fence.wide 0 Try.prog (bodyPostM Fence.wide 0 Try.prog fn fun e w' => ∃ v h', e = .returned v ∧ Is w' h' ∧ bq w w' ∧ K v h') { a3 with defers := [{ target := .collected w3.heap.size, args := #[] }] ++ a3.defers } (w5.putObj L exh) := by
    refine wpIn_mono (gB (r := none) (d := [{ target := .collected w3.heap.size, args := #[] }]) (w0 := w) r.E cE _ (dsOf sE) _ _ _ _ _ _ _ _ hEs rel6 hi6 hs6 (fun _ _ => rfl)) fun e a7 w7 hq => ?_
    cases e with
    | normal => obtain ⟨_, _, _, _, _, _, k⟩ := hq; exact k.elim
    | exit i => obtain ⟨_, _, _, _, _, _, k⟩ := hq; exact k.elim
    | ret =>
      obtain ⟨ρ7, h7, rel7, hi7, hs7, _, φ7, σ7, H7, n7, l7, r9, f7, o7, hres⟩ := hq
      have y7 : ∀ q, ¬ φ7.y q := fun q hq => hy6 q (l7.y q hq)
      have bD2 : ((lr (ψ.s n1) (iQ L D rcd st6 pd) g5).put L exh).f D = some (.deferred (some [])) := (aT _ _ _ _ hDL).trans bD
      have hD7 := (r9.base D _ bD2).2
      have r10 := r9.uy (o' := .deferred none) bD2 o7 y7
      have hi8 : Is (w7.putObj D (.deferred none)) (h7.put D (.deferred none)) := hi7.putObj hD7
      have hw8 := hi7.2 _ _ hD7
      have hrk : oS Try.prog fn.results.toList [] ρ7 (h7.put D (.deferred none)) K := ke r10 f7 _ [] _ hres fun ws us k hus => .here (I1 (by omega) hk (l1.trans (le4.trans le5)) r6 hb2 hi5.wf hi8.wf r10.size (fun B o e k => ?_) r10 (fun B e _ => ?_) (by simpa using vx hus) k)
      · obtain ⟨ws, q1, g', q2, q3⟩ := jW rel7.rel hi8.2 fn.results.toList [] hrk
        show LeavesInM Fence.wide 0 Try.prog fn a7.tmps _ a7.defers .returning w7
        rw [rel7.1]
        refine ⟨by simp, .inl ⟨w3.heap.size, w7.putObj D (.deferred none), rfl, hD ▸ run_takeDeferred hw8, ?_⟩⟩
        exact ⟨_, mX q1, _, g', rfl, hi8.sub q2, hs7.trans (bq.putObj _ _ _), q3⟩
      · have kL : B ≠ L := fun q => k (q ▸ gL.1)
        have kD : B ≠ D := fun q => k (q ▸ gD.1)
        refine (r10.base B o ?_).2
        rw [aT _ _ _ _ kD, aT _ _ _ _ kL, ik fun q => k q.1]; exact e
      · by_cases k : ψ.s n1 B
        · exact .inl k
        · have kL : B ≠ L := fun q => k (q ▸ gL.1)
          have kD : B ≠ D := fun q => k (q ▸ gD.1)
          rw [aT _ _ _ _ kD, aT _ _ _ _ kL, ik fun q => k q.1] at e
          exact .inr e
    | _ => exact hq.elim
  refine ⟨pd, _, run_endLoop (hi5.2 _ _ gL.2) hst, ?_⟩
  rcases hpd with rfl | rfl
  · exact tail
  · exact wpIn_exit (by
      show Exit.inBlock r.id _ (.exit r.id) _ _
      simp only [Exit.inBlock, if_true]
      exact tail)
end Go.Proofs.Ythjggjhebbdkdaa
