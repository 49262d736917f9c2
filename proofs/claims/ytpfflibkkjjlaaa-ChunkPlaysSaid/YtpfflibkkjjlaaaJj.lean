/- Texts of our own, joined: the engine, the machine that runs code, and what is known of the functions. -/
import Derived.Test.YtpfflibkkjjlaaaJi
import Derived.Test.YtpfflibkkjjlaaaJe
set_option linter.unusedSimpArgs false
set_option linter.unusedVariables false
namespace Go.Proofs.Ytpfflibkkjjlaaa
open Go Go.RowKit
set_option maxRecDepth 20000
/-! ### scripts -/
abbrev Op4 := Int × Int × Int × Int
def opsC (S : List Op4) : List AV := S.flatMap fun o => [.si .i64 o.1, .si .i64 o.2.1, .si .i64 o.2.2.1, .si .i64 o.2.2.2]
theorem opsC_length (S : List Op4) : (opsC S).length = S.length * 4 := by
  induction S with
  | nil => rfl
  | cons x S ih => simp only [opsC, List.flatMap_cons, List.length_append, List.length_cons, List.length_nil] at ih ⊢; omega
theorem opsC_flat (S : List Op4) : (opsC S).all flat.flat1 = true := by
  induction S with
  | nil => rfl
  | cons x S ih => exact ih
theorem opsC_map (S : List Op4) : (opsC S).map mk = opsC S := by
  induction S with
  | nil => rfl
  | cons x S ih =>
    show mk (.si .i64 x.1) :: mk (.si .i64 x.2.1) :: mk (.si .i64 x.2.2.1) :: mk (.si .i64 x.2.2.2) :: (opsC S).map mk = _
    rw [ih]; rfl
theorem opsC_drop : ∀ (S : List Op4) (i : Nat), (opsC S).drop (i * 4) = opsC (S.drop i)
  | S, 0 => by simp
  | [], i + 1 => by simp [opsC]
  | x :: S, i + 1 => by
    rw [show (i + 1) * 4 = i * 4 + 4 from by omega]
    exact opsC_drop S i
theorem opsC_at {S : List Op4} {i : Nat} (h : i < S.length) : (opsC S).drop (i * 4) = .si .i64 S[i].1 :: .si .i64 S[i].2.1 :: .si .i64 S[i].2.2.1 :: .si .i64 S[i].2.2.2 :: opsC (S.drop (i + 1)) := by
  rw [opsC_drop, List.drop_eq_getElem_cons h]; rfl
theorem opsC_sub {S : List Op4} {i o : Nat} (h : i < S.length) (ho : o = i * 4) : subL (opsC S) o 4 = some [.si .i64 S[i].1, .si .i64 S[i].2.1, .si .i64 S[i].2.2.1, .si .i64 S[i].2.2.2] := by
  subst ho
  unfold subL
  rw [Nat.ble_eq_true_of_le (by rw [opsC_length]; omega), opsC_at h]; rfl
theorem opsC_nth {S : List Op4} {i o j : Nat} (h : i < S.length) (ho : o = i * 4 + j) (hj : j < 4) : nth (opsC S) o = some ([AV.si .i64 S[i].1, .si .i64 S[i].2.1, .si .i64 S[i].2.2.1, .si .i64 S[i].2.2.2][j]'(by simpa using hj)) := by
  subst ho
  have := congrArg (fun l : List AV => l[j]?) (opsC_at h)
  simp only [List.getElem?_drop] at this
  rw [nth_eq, this]
  match j, hj with
  | 0, _ => rfl
  | 1, _ => rfl
  | 2, _ => rfl
  | 3, _ => rfl
def OpsIn (S : List Op4) : Prop := ∀ o ∈ S, In64 o.1 ∧ In64 o.2.1 ∧ In64 o.2.2.1 ∧ In64 o.2.2.2
theorem chk_sub (size : Nat) (L : Smp) {H : AH} {m : Nat} {r : Nat → Nat} : SubL H m r (chk size L) (chk size L) := .cons (.int rfl) (.cons (.str rfl) (.cons (.int rfl) (.cons (.int rfl) .nil)))
theorem chk_new (size : Nat) {x : AV} (hx : mk x = .si .i64 (size : Int)) {H : AH} {m : Nat} {r : Nat → Nat} : SubL H m r [x, .str [], .int .i64 0, .int .i64 0] (chk size []) := .cons (.int hx) (.cons (.str (congrArg AV.ss pack_nil.symm)) (.cons (.int rfl) (.cons (.int rfl) .nil)))
noncomputable def KR : FuncId → EP := withD 3 [] (withN 13 (natQ trueN) (withN 9 natPut (withN 10 natDrop (withN 12 natGet (withN 11 natAll evP)))))
theorem KR_ok (hK : NatP 13 (natQ trueN)) : TabP KR := withD_ok (withN_ok (withN_ok (withN_ok (withN_ok (withN_ok evP_ok n_all) n_get) n_drop) n_put) hK) (by kernel_rfl) (by kernel_rfl)
noncomputable def rs (S : List Op4) (t : Int) (L : Smp) (v : Int) (is : Bool) (i : Nat) : AE × AH := (mkE [(0, .fr S.length 4 (opsC S)), (1, .si .i64 (t)), (5, .ptr 0 (0)), (7, .si .i64 (v)), (8, .sb (is)), (9, .si .i64 (((i : Nat) : Int)))], mkH [(0, .cells (chk 4096 L) true)])
theorem rs_cov {S : List Op4} {t : Int} {L : Smp} {v : Int} {is : Bool} {i : Nat} {p n : Nat} {σ : AE} {H : AH} (hp : p ≤ 0) (e0 : getq (pa 0) σ = .fr S.length 4 (opsC S)) (e1 : mk (getq (pa 1) σ) = .si .i64 (t)) (e5 : getq (pa 5) σ = .ptr 0 (0)) (e7 : mk (getq (pa 7) σ) = .si .i64 (v)) (e8 : mk (getq (pa 8) σ) = .sb (is)) (e9 : mk (getq (pa 9) σ) = .si .i64 (((i : Nat) : Int))) (h0 : ∃ l, H.get 0 = some (.cells l true) ∧ SubL H 1 (fun b => b) l (chk 4096 L)) : Cov p σ H n ((rs S t L v is i).1, (rs S t L v is i).2, 1) := by
  refine Cov.ofR (fun b => b) (by omega) (fun b hb => rfl) ?_ ?_ ?_
  · intro x hx
    simp only [List.mem_cons, List.not_mem_nil, or_false] at hx
    rcases hx with rfl | rfl | rfl | rfl | rfl | rfl
    · exact SubV.frE e0
    · exact .int e1
    · exact .ptr (by decide) e5
    · exact .int e7
    · exact .bool e8
    · exact .int e9
  · intro x hx
    simp only [List.mem_cons, List.not_mem_nil, or_false] at hx
    subst hx
    exact ⟨by simp, .inl (h0.elim fun l h => ⟨_, h.1, SubO.st h.2⟩)⟩
  · intro x hx y hy
    simp only [List.mem_cons, List.not_mem_nil, or_false] at hx hy
    subst hx hy
    exact fun q => rfl
noncomputable def ri (S : List Op4) (t : Int) (L : Smp) (v : Int) (is : Bool) (i : Nat) (k : Nat) : AE × AH := (mkE [(0, .fr S.length 4 (opsC S)), (1, .si .i64 (t)), (5, .ptr 0 (0)), (7, .si .i64 (v)), (8, .sb (is)), (9, .si .i64 (((i : Nat) : Int))), (11, .fr L.length 2 (smp L)), (12, .si .i64 (((k : Nat) : Int)))], mkH [(0, .cells (chk 4096 L) true)])
theorem ri_cov {S : List Op4} {t : Int} {L : Smp} {v : Int} {is : Bool} {i : Nat} {k : Nat} {p n : Nat} {σ : AE} {H : AH} (hp : p ≤ 0) (e0 : getq (pa 0) σ = .fr S.length 4 (opsC S)) (e1 : mk (getq (pa 1) σ) = .si .i64 (t)) (e5 : getq (pa 5) σ = .ptr 0 (0)) (e7 : mk (getq (pa 7) σ) = .si .i64 (v)) (e8 : mk (getq (pa 8) σ) = .sb (is)) (e9 : mk (getq (pa 9) σ) = .si .i64 (((i : Nat) : Int))) (e11 : getq (pa 11) σ = .fr L.length 2 (smp L)) (e12 : mk (getq (pa 12) σ) = .si .i64 (((k : Nat) : Int))) (h0 : ∃ l, H.get 0 = some (.cells l true) ∧ SubL H 1 (fun b => b) l (chk 4096 L)) : Cov p σ H n ((ri S t L v is i k).1, (ri S t L v is i k).2, 1) := by
  refine Cov.ofR (fun b => b) (by omega) (fun b hb => rfl) ?_ ?_ ?_
  · intro x hx
    simp only [List.mem_cons, List.not_mem_nil, or_false] at hx
    rcases hx with rfl | rfl | rfl | rfl | rfl | rfl | rfl | rfl
    · exact SubV.frE e0
    · exact .int e1
    · exact .ptr (by decide) e5
    · exact .int e7
    · exact .bool e8
    · exact .int e9
    · exact SubV.frE e11
    · exact .int e12
  · intro x hx
    simp only [List.mem_cons, List.not_mem_nil, or_false] at hx
    subst hx
    exact ⟨by simp, .inl (h0.elim fun l h => ⟨_, h.1, SubO.st h.2⟩)⟩
  · intro x hx y hy
    simp only [List.mem_cons, List.not_mem_nil, or_false] at hx hy
    subst hx hy
    exact fun q => rfl
set_option maxHeartbeats 8000000 in
set_option maxRecDepth 100000 in
theorem w_chunkRises (S : List Op4) (t : Int) (hS : OpsIn S) (hSl : S.length ≤ 8796093022208) (_ : In64 t) : callT KR 6 3 [.fr S.length 4 (opsC S), .si .i64 t] .nil 0 fun v _ _ => v = .bool true ∨ v = .sb true := by
  conv => whnf
  refine LoopP.mk { x : (Nat × Smp) × (Int × Bool) // x.1.1 ≤ S.length ∧ Fine x.1.2 ∧ Held x.1.2 t x.2.1 x.2.2 } 1 (fun x => rs S t x.val.1.2 x.val.2.1 x.val.2.2 x.val.1.1) (fun x => S.length - x.val.1.1) ⟨((0, []), (0, false)), Nat.zero_le _, .nil, fun x h => by cases h⟩ ?_ ?_
  · exact rs_cov (Nat.le_refl 0) rfl rfl rfl rfl rfl rfl ⟨_, rfl, chk_new 4096 rfl⟩
  · intro ⟨((i, L), (v, is)), hi, hF, hH⟩
    dsimp only at hi hF hH
    cases is with
    | true =>
      conv => whnf
      refine Fork.dec (fun h => ?_) (fun h => ?_)
      · have hi2 : i < S.length := by exact Int.ofNat_lt.1 h
        have hV : In64 S[i].2.2.1 := (hS _ (List.getElem_mem hi2)).2.2.1
        conv => whnf
        refine Fork.dec (fun h60 => ?_) (fun h60 => ?_)
        · have hi1 : IntKind.i64.wrap ((i : Int) + 1) = ((i + 1 : Nat) : Int) := W64_of ⟨by omega, by omega⟩
          conv => whnf
          refine Idx.mk i rfl hi2 ?_
          conv => whnf
          refine optP_of (opsC_sub hi2 rfl) ?_
          conv => whnf
          refine Fork.dec (fun hk0 => ?_) (fun hk0 => ?_)
          · have hph := put_held (size := 4096) (s := S[i].2.1) (w := S[i].2.2.1) hF hH
            conv => whnf
            refine ⟨0, 4096, L, S[i].2.1, S[i].2.2.1, 3, rfl, ⟨_, _, rfl, rfl, rfl⟩, rfl, by decide, rfl, by decide, by decide, hF, hV, ?_⟩
            conv => whnf
            refine Fork.dec (fun he => ?_) (fun he => ?_)
            · conv => whnf
              refine Fork.dec (fun hT => ?_) (fun hT => ?_)
              · conv => whnf
                refine Fork.dec (fun q => absurd (hk0.symm.trans q) (by decide)) (fun _ => ?_)
                have hF' : Fine ((putF 4096 L S[i].2.1 S[i].2.2.1 3).1) := putF_fine (by decide) hF hV
                have hH' : Held ((putF 4096 L S[i].2.1 S[i].2.2.1 3).1) t (S[i].2.2.1) (true) := hph.1 he hT
                have hL1 : ((putF 4096 L S[i].2.1 S[i].2.2.1 3).1).length ≤ 100000 := Nat.le_trans hF'.2.2 (by decide)
                conv => whnf
                refine ⟨0, 4096, _, (putF 4096 L S[i].2.1 S[i].2.2.1 3).1, rfl, rfl, rfl, by decide, hL1, hF'.in64, ?_⟩
                conv => whnf
                refine LoopP.mk { k : Nat // 1 ≤ k } 1 (fun k => ri S t ((putF 4096 L S[i].2.1 S[i].2.2.1 3).1) (S[i].2.2.1) (true) i k.val) (fun k => ((putF 4096 L S[i].2.1 S[i].2.2.1 3).1).length - k.val) ⟨1, Nat.le_refl 1⟩ ?_ ?_
                · exact ri_cov (Nat.le_refl 0) rfl rfl rfl rfl rfl rfl rfl rfl ⟨_, rfl, chk_sub _ _⟩
                · intro ⟨k, hk⟩
                  conv => whnf
                  refine Fork.dec (fun q => ?_) (fun q => ?_)
                  · have hk2 : k < ((putF 4096 L S[i].2.1 S[i].2.2.1 3).1).length := by exact Int.ofNat_lt.1 q
                    have hk1 : k - 1 < ((putF 4096 L S[i].2.1 S[i].2.2.1 3).1).length := by omega
                    have hkw : IntKind.i64.wrap ((k : Int) - 1) = ((k - 1 : Nat) : Int) := (W64_of ⟨by omega, by omega⟩).trans (by omega)
                    have hk3 : IntKind.i64.wrap ((k : Int) + 1) = ((k + 1 : Nat) : Int) := W64_of ⟨by omega, by omega⟩
                    have hlt := hF'.1.lt (i := k - 1) (j := k) (by omega) hk2
                    rw [tAt_of hk2, tAt_of hk1] at hlt
                    conv => whnf
                    refine Idx.mk (k - 1) hkw hk1 ?_
                    conv => whnf
                    refine optP_of (smp_nth0 hk1 rfl) ?_
                    conv => whnf
                    refine Idx.mk k rfl hk2 ?_
                    conv => whnf
                    refine optP_of (smp_nth0 hk2 rfl) ?_
                    conv => whnf
                    refine Fork.dec (fun q2 => absurd q2 (Int.not_le.2 hlt)) (fun _ => ?_)
                    conv => whnf
                    exact ⟨⟨k + 1, Nat.le_add_left 1 k⟩, (show ((putF 4096 L S[i].2.1 S[i].2.2.1 3).1).length - (k + 1) < ((putF 4096 L S[i].2.1 S[i].2.2.1 3).1).length - k by omega), ri_cov (Nat.le_refl 0) rfl rfl rfl rfl rfl rfl rfl (congrArg (AV.si .i64) hk3) ⟨_, rfl, chk_sub _ _⟩⟩
                  · conv => whnf
                    exact ⟨⟨((i + 1, (putF 4096 L S[i].2.1 S[i].2.2.1 3).1), (S[i].2.2.1, true)), hi2, hF', hH'⟩, (show S.length - (i + 1) < S.length - i by omega), rs_cov (Nat.le_refl 0) rfl rfl rfl rfl rfl (congrArg (AV.si .i64) hi1) ⟨_, rfl, chk_sub _ _⟩⟩
              · conv => whnf
                refine Fork.dec (fun q => absurd (hk0.symm.trans q) (by decide)) (fun _ => ?_)
                have hF' : Fine ((putF 4096 L S[i].2.1 S[i].2.2.1 3).1) := putF_fine (by decide) hF hV
                have hH' : Held ((putF 4096 L S[i].2.1 S[i].2.2.1 3).1) t (v) (true) := hph.2 fun q => hT q.2
                have hL1 : ((putF 4096 L S[i].2.1 S[i].2.2.1 3).1).length ≤ 100000 := Nat.le_trans hF'.2.2 (by decide)
                conv => whnf
                refine ⟨0, 4096, _, (putF 4096 L S[i].2.1 S[i].2.2.1 3).1, rfl, rfl, rfl, by decide, hL1, hF'.in64, ?_⟩
                conv => whnf
                refine LoopP.mk { k : Nat // 1 ≤ k } 1 (fun k => ri S t ((putF 4096 L S[i].2.1 S[i].2.2.1 3).1) (v) (true) i k.val) (fun k => ((putF 4096 L S[i].2.1 S[i].2.2.1 3).1).length - k.val) ⟨1, Nat.le_refl 1⟩ ?_ ?_
                · exact ri_cov (Nat.le_refl 0) rfl rfl rfl rfl rfl rfl rfl rfl ⟨_, rfl, chk_sub _ _⟩
                · intro ⟨k, hk⟩
                  conv => whnf
                  refine Fork.dec (fun q => ?_) (fun q => ?_)
                  · have hk2 : k < ((putF 4096 L S[i].2.1 S[i].2.2.1 3).1).length := by exact Int.ofNat_lt.1 q
                    have hk1 : k - 1 < ((putF 4096 L S[i].2.1 S[i].2.2.1 3).1).length := by omega
                    have hkw : IntKind.i64.wrap ((k : Int) - 1) = ((k - 1 : Nat) : Int) := (W64_of ⟨by omega, by omega⟩).trans (by omega)
                    have hk3 : IntKind.i64.wrap ((k : Int) + 1) = ((k + 1 : Nat) : Int) := W64_of ⟨by omega, by omega⟩
                    have hlt := hF'.1.lt (i := k - 1) (j := k) (by omega) hk2
                    rw [tAt_of hk2, tAt_of hk1] at hlt
                    conv => whnf
                    refine Idx.mk (k - 1) hkw hk1 ?_
                    conv => whnf
                    refine optP_of (smp_nth0 hk1 rfl) ?_
                    conv => whnf
                    refine Idx.mk k rfl hk2 ?_
                    conv => whnf
                    refine optP_of (smp_nth0 hk2 rfl) ?_
                    conv => whnf
                    refine Fork.dec (fun q2 => absurd q2 (Int.not_le.2 hlt)) (fun _ => ?_)
                    conv => whnf
                    exact ⟨⟨k + 1, Nat.le_add_left 1 k⟩, (show ((putF 4096 L S[i].2.1 S[i].2.2.1 3).1).length - (k + 1) < ((putF 4096 L S[i].2.1 S[i].2.2.1 3).1).length - k by omega), ri_cov (Nat.le_refl 0) rfl rfl rfl rfl rfl rfl rfl (congrArg (AV.si .i64) hk3) ⟨_, rfl, chk_sub _ _⟩⟩
                  · conv => whnf
                    exact ⟨⟨((i + 1, (putF 4096 L S[i].2.1 S[i].2.2.1 3).1), (v, true)), hi2, hF', hH'⟩, (show S.length - (i + 1) < S.length - i by omega), rs_cov (Nat.le_refl 0) rfl rfl rfl rfl rfl (congrArg (AV.si .i64) hi1) ⟨_, rfl, chk_sub _ _⟩⟩
            · conv => whnf
              refine Fork.dec (fun q => absurd (hk0.symm.trans q) (by decide)) (fun _ => ?_)
              have hF' : Fine ((putF 4096 L S[i].2.1 S[i].2.2.1 3).1) := putF_fine (by decide) hF hV
              have hH' : Held ((putF 4096 L S[i].2.1 S[i].2.2.1 3).1) t (v) (true) := hph.2 fun q => he q.1
              have hL1 : ((putF 4096 L S[i].2.1 S[i].2.2.1 3).1).length ≤ 100000 := Nat.le_trans hF'.2.2 (by decide)
              conv => whnf
              refine ⟨0, 4096, _, (putF 4096 L S[i].2.1 S[i].2.2.1 3).1, rfl, rfl, rfl, by decide, hL1, hF'.in64, ?_⟩
              conv => whnf
              refine LoopP.mk { k : Nat // 1 ≤ k } 1 (fun k => ri S t ((putF 4096 L S[i].2.1 S[i].2.2.1 3).1) (v) (true) i k.val) (fun k => ((putF 4096 L S[i].2.1 S[i].2.2.1 3).1).length - k.val) ⟨1, Nat.le_refl 1⟩ ?_ ?_
              · exact ri_cov (Nat.le_refl 0) rfl rfl rfl rfl rfl rfl rfl rfl ⟨_, rfl, chk_sub _ _⟩
              · intro ⟨k, hk⟩
                conv => whnf
                refine Fork.dec (fun q => ?_) (fun q => ?_)
                · have hk2 : k < ((putF 4096 L S[i].2.1 S[i].2.2.1 3).1).length := by exact Int.ofNat_lt.1 q
                  have hk1 : k - 1 < ((putF 4096 L S[i].2.1 S[i].2.2.1 3).1).length := by omega
                  have hkw : IntKind.i64.wrap ((k : Int) - 1) = ((k - 1 : Nat) : Int) := (W64_of ⟨by omega, by omega⟩).trans (by omega)
                  have hk3 : IntKind.i64.wrap ((k : Int) + 1) = ((k + 1 : Nat) : Int) := W64_of ⟨by omega, by omega⟩
                  have hlt := hF'.1.lt (i := k - 1) (j := k) (by omega) hk2
                  rw [tAt_of hk2, tAt_of hk1] at hlt
                  conv => whnf
                  refine Idx.mk (k - 1) hkw hk1 ?_
                  conv => whnf
                  refine optP_of (smp_nth0 hk1 rfl) ?_
                  conv => whnf
                  refine Idx.mk k rfl hk2 ?_
                  conv => whnf
                  refine optP_of (smp_nth0 hk2 rfl) ?_
                  conv => whnf
                  refine Fork.dec (fun q2 => absurd q2 (Int.not_le.2 hlt)) (fun _ => ?_)
                  conv => whnf
                  exact ⟨⟨k + 1, Nat.le_add_left 1 k⟩, (show ((putF 4096 L S[i].2.1 S[i].2.2.1 3).1).length - (k + 1) < ((putF 4096 L S[i].2.1 S[i].2.2.1 3).1).length - k by omega), ri_cov (Nat.le_refl 0) rfl rfl rfl rfl rfl rfl rfl (congrArg (AV.si .i64) hk3) ⟨_, rfl, chk_sub _ _⟩⟩
                · conv => whnf
                  exact ⟨⟨((i + 1, (putF 4096 L S[i].2.1 S[i].2.2.1 3).1), (v, true)), hi2, hF', hH'⟩, (show S.length - (i + 1) < S.length - i by omega), rs_cov (Nat.le_refl 0) rfl rfl rfl rfl rfl (congrArg (AV.si .i64) hi1) ⟨_, rfl, chk_sub _ _⟩⟩
          · conv => whnf
            refine Fork.dec (fun hk1 => ?_) (fun hk1 => ?_)
            · have hdh := drop_held (a := S[i].2.1) (b := S[i].2.2.1) hH
              conv => whnf
              refine ⟨0, 4096, L, S[i].2.1, S[i].2.2.1, rfl, rfl, rfl, by decide, rfl, by decide, hF, ?_⟩
              conv => whnf
              refine Fork.sb (fun _ => ?_) (fun q => by cases q)
              conv => whnf
              refine Fork.dec (fun ha => ?_) (fun ha => ?_)
              · rw [decide_eq_true ha, Bool.true_or, Bool.and_self] at hdh
                have hF' : Fine (dropF L S[i].2.1 S[i].2.2.1) := dropF_fine hF _ _
                have hH' : Held (dropF L S[i].2.1 S[i].2.2.1) t (v) (true) := hdh
                have hL1 : (dropF L S[i].2.1 S[i].2.2.1).length ≤ 100000 := Nat.le_trans hF'.2.2 (by decide)
                conv => whnf
                refine ⟨0, 4096, _, dropF L S[i].2.1 S[i].2.2.1, rfl, rfl, rfl, by decide, hL1, hF'.in64, ?_⟩
                conv => whnf
                refine LoopP.mk { k : Nat // 1 ≤ k } 1 (fun k => ri S t (dropF L S[i].2.1 S[i].2.2.1) (v) (true) i k.val) (fun k => (dropF L S[i].2.1 S[i].2.2.1).length - k.val) ⟨1, Nat.le_refl 1⟩ ?_ ?_
                · exact ri_cov (Nat.le_refl 0) rfl rfl rfl rfl rfl rfl rfl rfl ⟨_, rfl, chk_sub _ _⟩
                · intro ⟨k, hk⟩
                  conv => whnf
                  refine Fork.dec (fun q => ?_) (fun q => ?_)
                  · have hk2 : k < (dropF L S[i].2.1 S[i].2.2.1).length := by exact Int.ofNat_lt.1 q
                    have hk1 : k - 1 < (dropF L S[i].2.1 S[i].2.2.1).length := by omega
                    have hkw : IntKind.i64.wrap ((k : Int) - 1) = ((k - 1 : Nat) : Int) := (W64_of ⟨by omega, by omega⟩).trans (by omega)
                    have hk3 : IntKind.i64.wrap ((k : Int) + 1) = ((k + 1 : Nat) : Int) := W64_of ⟨by omega, by omega⟩
                    have hlt := hF'.1.lt (i := k - 1) (j := k) (by omega) hk2
                    rw [tAt_of hk2, tAt_of hk1] at hlt
                    conv => whnf
                    refine Idx.mk (k - 1) hkw hk1 ?_
                    conv => whnf
                    refine optP_of (smp_nth0 hk1 rfl) ?_
                    conv => whnf
                    refine Idx.mk k rfl hk2 ?_
                    conv => whnf
                    refine optP_of (smp_nth0 hk2 rfl) ?_
                    conv => whnf
                    refine Fork.dec (fun q2 => absurd q2 (Int.not_le.2 hlt)) (fun _ => ?_)
                    conv => whnf
                    exact ⟨⟨k + 1, Nat.le_add_left 1 k⟩, (show (dropF L S[i].2.1 S[i].2.2.1).length - (k + 1) < (dropF L S[i].2.1 S[i].2.2.1).length - k by omega), ri_cov (Nat.le_refl 0) rfl rfl rfl rfl rfl rfl rfl (congrArg (AV.si .i64) hk3) ⟨_, rfl, chk_sub _ _⟩⟩
                  · conv => whnf
                    exact ⟨⟨((i + 1, dropF L S[i].2.1 S[i].2.2.1), (v, true)), hi2, hF', hH'⟩, (show S.length - (i + 1) < S.length - i by omega), rs_cov (Nat.le_refl 0) rfl rfl rfl rfl rfl (congrArg (AV.si .i64) hi1) ⟨_, rfl, chk_sub _ _⟩⟩
              · rw [decide_eq_false ha, Bool.false_or, Bool.true_and] at hdh
                have hF' : Fine (dropF L S[i].2.1 S[i].2.2.1) := dropF_fine hF _ _
                have hH' : Held (dropF L S[i].2.1 S[i].2.2.1) t (v) (decide (S[i].2.2.1 < t)) := hdh
                have hL1 : (dropF L S[i].2.1 S[i].2.2.1).length ≤ 100000 := Nat.le_trans hF'.2.2 (by decide)
                conv => whnf
                refine ⟨0, 4096, _, dropF L S[i].2.1 S[i].2.2.1, rfl, rfl, rfl, by decide, hL1, hF'.in64, ?_⟩
                conv => whnf
                refine LoopP.mk { k : Nat // 1 ≤ k } 1 (fun k => ri S t (dropF L S[i].2.1 S[i].2.2.1) (v) (decide (S[i].2.2.1 < t)) i k.val) (fun k => (dropF L S[i].2.1 S[i].2.2.1).length - k.val) ⟨1, Nat.le_refl 1⟩ ?_ ?_
                · exact ri_cov (Nat.le_refl 0) rfl rfl rfl rfl rfl rfl rfl rfl ⟨_, rfl, chk_sub _ _⟩
                · intro ⟨k, hk⟩
                  conv => whnf
                  refine Fork.dec (fun q => ?_) (fun q => ?_)
                  · have hk2 : k < (dropF L S[i].2.1 S[i].2.2.1).length := by exact Int.ofNat_lt.1 q
                    have hk1 : k - 1 < (dropF L S[i].2.1 S[i].2.2.1).length := by omega
                    have hkw : IntKind.i64.wrap ((k : Int) - 1) = ((k - 1 : Nat) : Int) := (W64_of ⟨by omega, by omega⟩).trans (by omega)
                    have hk3 : IntKind.i64.wrap ((k : Int) + 1) = ((k + 1 : Nat) : Int) := W64_of ⟨by omega, by omega⟩
                    have hlt := hF'.1.lt (i := k - 1) (j := k) (by omega) hk2
                    rw [tAt_of hk2, tAt_of hk1] at hlt
                    conv => whnf
                    refine Idx.mk (k - 1) hkw hk1 ?_
                    conv => whnf
                    refine optP_of (smp_nth0 hk1 rfl) ?_
                    conv => whnf
                    refine Idx.mk k rfl hk2 ?_
                    conv => whnf
                    refine optP_of (smp_nth0 hk2 rfl) ?_
                    conv => whnf
                    refine Fork.dec (fun q2 => absurd q2 (Int.not_le.2 hlt)) (fun _ => ?_)
                    conv => whnf
                    exact ⟨⟨k + 1, Nat.le_add_left 1 k⟩, (show (dropF L S[i].2.1 S[i].2.2.1).length - (k + 1) < (dropF L S[i].2.1 S[i].2.2.1).length - k by omega), ri_cov (Nat.le_refl 0) rfl rfl rfl rfl rfl rfl rfl (congrArg (AV.si .i64) hk3) ⟨_, rfl, chk_sub _ _⟩⟩
                  · conv => whnf
                    exact ⟨⟨((i + 1, dropF L S[i].2.1 S[i].2.2.1), (v, decide (S[i].2.2.1 < t))), hi2, hF', hH'⟩, (show S.length - (i + 1) < S.length - i by omega), rs_cov (Nat.le_refl 0) rfl rfl rfl rfl rfl (congrArg (AV.si .i64) hi1) ⟨_, rfl, chk_sub _ _⟩⟩
            · have hF' : Fine (L) := hF
              have hH' : Held (L) t (v) (true) := hH
              have hL1 : (L).length ≤ 100000 := Nat.le_trans hF'.2.2 (by decide)
              conv => whnf
              refine ⟨0, 4096, _, L, rfl, rfl, rfl, by decide, hL1, hF'.in64, ?_⟩
              conv => whnf
              refine LoopP.mk { k : Nat // 1 ≤ k } 1 (fun k => ri S t (L) (v) (true) i k.val) (fun k => (L).length - k.val) ⟨1, Nat.le_refl 1⟩ ?_ ?_
              · exact ri_cov (Nat.le_refl 0) rfl rfl rfl rfl rfl rfl rfl rfl ⟨_, rfl, chk_sub _ _⟩
              · intro ⟨k, hk⟩
                conv => whnf
                refine Fork.dec (fun q => ?_) (fun q => ?_)
                · have hk2 : k < (L).length := by exact Int.ofNat_lt.1 q
                  have hk1 : k - 1 < (L).length := by omega
                  have hkw : IntKind.i64.wrap ((k : Int) - 1) = ((k - 1 : Nat) : Int) := (W64_of ⟨by omega, by omega⟩).trans (by omega)
                  have hk3 : IntKind.i64.wrap ((k : Int) + 1) = ((k + 1 : Nat) : Int) := W64_of ⟨by omega, by omega⟩
                  have hlt := hF'.1.lt (i := k - 1) (j := k) (by omega) hk2
                  rw [tAt_of hk2, tAt_of hk1] at hlt
                  conv => whnf
                  refine Idx.mk (k - 1) hkw hk1 ?_
                  conv => whnf
                  refine optP_of (smp_nth0 hk1 rfl) ?_
                  conv => whnf
                  refine Idx.mk k rfl hk2 ?_
                  conv => whnf
                  refine optP_of (smp_nth0 hk2 rfl) ?_
                  conv => whnf
                  refine Fork.dec (fun q2 => absurd q2 (Int.not_le.2 hlt)) (fun _ => ?_)
                  conv => whnf
                  exact ⟨⟨k + 1, Nat.le_add_left 1 k⟩, (show (L).length - (k + 1) < (L).length - k by omega), ri_cov (Nat.le_refl 0) rfl rfl rfl rfl rfl rfl rfl (congrArg (AV.si .i64) hk3) ⟨_, rfl, chk_sub _ _⟩⟩
                · conv => whnf
                  exact ⟨⟨((i + 1, L), (v, true)), hi2, hF', hH'⟩, (show S.length - (i + 1) < S.length - i by omega), rs_cov (Nat.le_refl 0) rfl rfl rfl rfl rfl (congrArg (AV.si .i64) hi1) ⟨_, rfl, chk_sub _ _⟩⟩
        · have hg := get_held hF hH
          have hx : (decide ((getF L t).2 = 0) == true) = true := by simp [hg.1.2 rfl]
          conv => whnf
          refine ⟨0, 4096, L, t, rfl, rfl, by decide, rfl, by decide, hF, ?_⟩
          conv => whnf
          refine Fork.sb (fun _ => ?_) (fun q => absurd q (by rw [hx]; decide))
          conv => whnf
          refine Fork.nsb (fun q => by cases q) (fun _ => ?_)
          conv => whnf
          refine Fork.dec (fun _ => ?_) (fun q => absurd (hg.2 rfl) q)
          conv => whnf
          exact .inl rfl
      · have hg := get_held hF hH
        have hx : (decide ((getF L t).2 = 0) == true) = true := by simp [hg.1.2 rfl]
        conv => whnf
        refine ⟨0, 4096, L, t, rfl, rfl, by decide, rfl, by decide, hF, ?_⟩
        conv => whnf
        refine Fork.sb (fun _ => ?_) (fun q => absurd q (by rw [hx]; decide))
        conv => whnf
        refine Fork.nsb (fun q => by cases q) (fun _ => ?_)
        conv => whnf
        refine Fork.dec (fun _ => ?_) (fun q => absurd (hg.2 rfl) q)
        conv => whnf
        exact .inl rfl
    | false =>
      conv => whnf
      refine Fork.dec (fun h => ?_) (fun h => ?_)
      · have hi2 : i < S.length := by exact Int.ofNat_lt.1 h
        have hV : In64 S[i].2.2.1 := (hS _ (List.getElem_mem hi2)).2.2.1
        conv => whnf
        refine Fork.dec (fun h60 => ?_) (fun h60 => ?_)
        · have hi1 : IntKind.i64.wrap ((i : Int) + 1) = ((i + 1 : Nat) : Int) := W64_of ⟨by omega, by omega⟩
          conv => whnf
          refine Idx.mk i rfl hi2 ?_
          conv => whnf
          refine optP_of (opsC_sub hi2 rfl) ?_
          conv => whnf
          refine Fork.dec (fun hk0 => ?_) (fun hk0 => ?_)
          · have hph := put_held (size := 4096) (s := S[i].2.1) (w := S[i].2.2.1) hF hH
            conv => whnf
            refine ⟨0, 4096, L, S[i].2.1, S[i].2.2.1, 3, rfl, ⟨_, _, rfl, rfl, rfl⟩, rfl, by decide, rfl, by decide, by decide, hF, hV, ?_⟩
            conv => whnf
            refine Fork.dec (fun he => ?_) (fun he => ?_)
            · conv => whnf
              refine Fork.dec (fun hT => ?_) (fun hT => ?_)
              · conv => whnf
                refine Fork.dec (fun q => absurd (hk0.symm.trans q) (by decide)) (fun _ => ?_)
                have hF' : Fine ((putF 4096 L S[i].2.1 S[i].2.2.1 3).1) := putF_fine (by decide) hF hV
                have hH' : Held ((putF 4096 L S[i].2.1 S[i].2.2.1 3).1) t (S[i].2.2.1) (true) := hph.1 he hT
                have hL1 : ((putF 4096 L S[i].2.1 S[i].2.2.1 3).1).length ≤ 100000 := Nat.le_trans hF'.2.2 (by decide)
                conv => whnf
                refine ⟨0, 4096, _, (putF 4096 L S[i].2.1 S[i].2.2.1 3).1, rfl, rfl, rfl, by decide, hL1, hF'.in64, ?_⟩
                conv => whnf
                refine LoopP.mk { k : Nat // 1 ≤ k } 1 (fun k => ri S t ((putF 4096 L S[i].2.1 S[i].2.2.1 3).1) (S[i].2.2.1) (true) i k.val) (fun k => ((putF 4096 L S[i].2.1 S[i].2.2.1 3).1).length - k.val) ⟨1, Nat.le_refl 1⟩ ?_ ?_
                · exact ri_cov (Nat.le_refl 0) rfl rfl rfl rfl rfl rfl rfl rfl ⟨_, rfl, chk_sub _ _⟩
                · intro ⟨k, hk⟩
                  conv => whnf
                  refine Fork.dec (fun q => ?_) (fun q => ?_)
                  · have hk2 : k < ((putF 4096 L S[i].2.1 S[i].2.2.1 3).1).length := by exact Int.ofNat_lt.1 q
                    have hk1 : k - 1 < ((putF 4096 L S[i].2.1 S[i].2.2.1 3).1).length := by omega
                    have hkw : IntKind.i64.wrap ((k : Int) - 1) = ((k - 1 : Nat) : Int) := (W64_of ⟨by omega, by omega⟩).trans (by omega)
                    have hk3 : IntKind.i64.wrap ((k : Int) + 1) = ((k + 1 : Nat) : Int) := W64_of ⟨by omega, by omega⟩
                    have hlt := hF'.1.lt (i := k - 1) (j := k) (by omega) hk2
                    rw [tAt_of hk2, tAt_of hk1] at hlt
                    conv => whnf
                    refine Idx.mk (k - 1) hkw hk1 ?_
                    conv => whnf
                    refine optP_of (smp_nth0 hk1 rfl) ?_
                    conv => whnf
                    refine Idx.mk k rfl hk2 ?_
                    conv => whnf
                    refine optP_of (smp_nth0 hk2 rfl) ?_
                    conv => whnf
                    refine Fork.dec (fun q2 => absurd q2 (Int.not_le.2 hlt)) (fun _ => ?_)
                    conv => whnf
                    exact ⟨⟨k + 1, Nat.le_add_left 1 k⟩, (show ((putF 4096 L S[i].2.1 S[i].2.2.1 3).1).length - (k + 1) < ((putF 4096 L S[i].2.1 S[i].2.2.1 3).1).length - k by omega), ri_cov (Nat.le_refl 0) rfl rfl rfl rfl rfl rfl rfl (congrArg (AV.si .i64) hk3) ⟨_, rfl, chk_sub _ _⟩⟩
                  · conv => whnf
                    exact ⟨⟨((i + 1, (putF 4096 L S[i].2.1 S[i].2.2.1 3).1), (S[i].2.2.1, true)), hi2, hF', hH'⟩, (show S.length - (i + 1) < S.length - i by omega), rs_cov (Nat.le_refl 0) rfl rfl rfl rfl rfl (congrArg (AV.si .i64) hi1) ⟨_, rfl, chk_sub _ _⟩⟩
              · conv => whnf
                refine Fork.dec (fun q => absurd (hk0.symm.trans q) (by decide)) (fun _ => ?_)
                have hF' : Fine ((putF 4096 L S[i].2.1 S[i].2.2.1 3).1) := putF_fine (by decide) hF hV
                have hH' : Held ((putF 4096 L S[i].2.1 S[i].2.2.1 3).1) t (v) (false) := hph.2 fun q => hT q.2
                have hL1 : ((putF 4096 L S[i].2.1 S[i].2.2.1 3).1).length ≤ 100000 := Nat.le_trans hF'.2.2 (by decide)
                conv => whnf
                refine ⟨0, 4096, _, (putF 4096 L S[i].2.1 S[i].2.2.1 3).1, rfl, rfl, rfl, by decide, hL1, hF'.in64, ?_⟩
                conv => whnf
                refine LoopP.mk { k : Nat // 1 ≤ k } 1 (fun k => ri S t ((putF 4096 L S[i].2.1 S[i].2.2.1 3).1) (v) (false) i k.val) (fun k => ((putF 4096 L S[i].2.1 S[i].2.2.1 3).1).length - k.val) ⟨1, Nat.le_refl 1⟩ ?_ ?_
                · exact ri_cov (Nat.le_refl 0) rfl rfl rfl rfl rfl rfl rfl rfl ⟨_, rfl, chk_sub _ _⟩
                · intro ⟨k, hk⟩
                  conv => whnf
                  refine Fork.dec (fun q => ?_) (fun q => ?_)
                  · have hk2 : k < ((putF 4096 L S[i].2.1 S[i].2.2.1 3).1).length := by exact Int.ofNat_lt.1 q
                    have hk1 : k - 1 < ((putF 4096 L S[i].2.1 S[i].2.2.1 3).1).length := by omega
                    have hkw : IntKind.i64.wrap ((k : Int) - 1) = ((k - 1 : Nat) : Int) := (W64_of ⟨by omega, by omega⟩).trans (by omega)
                    have hk3 : IntKind.i64.wrap ((k : Int) + 1) = ((k + 1 : Nat) : Int) := W64_of ⟨by omega, by omega⟩
                    have hlt := hF'.1.lt (i := k - 1) (j := k) (by omega) hk2
                    rw [tAt_of hk2, tAt_of hk1] at hlt
                    conv => whnf
                    refine Idx.mk (k - 1) hkw hk1 ?_
                    conv => whnf
                    refine optP_of (smp_nth0 hk1 rfl) ?_
                    conv => whnf
                    refine Idx.mk k rfl hk2 ?_
                    conv => whnf
                    refine optP_of (smp_nth0 hk2 rfl) ?_
                    conv => whnf
                    refine Fork.dec (fun q2 => absurd q2 (Int.not_le.2 hlt)) (fun _ => ?_)
                    conv => whnf
                    exact ⟨⟨k + 1, Nat.le_add_left 1 k⟩, (show ((putF 4096 L S[i].2.1 S[i].2.2.1 3).1).length - (k + 1) < ((putF 4096 L S[i].2.1 S[i].2.2.1 3).1).length - k by omega), ri_cov (Nat.le_refl 0) rfl rfl rfl rfl rfl rfl rfl (congrArg (AV.si .i64) hk3) ⟨_, rfl, chk_sub _ _⟩⟩
                  · conv => whnf
                    exact ⟨⟨((i + 1, (putF 4096 L S[i].2.1 S[i].2.2.1 3).1), (v, false)), hi2, hF', hH'⟩, (show S.length - (i + 1) < S.length - i by omega), rs_cov (Nat.le_refl 0) rfl rfl rfl rfl rfl (congrArg (AV.si .i64) hi1) ⟨_, rfl, chk_sub _ _⟩⟩
            · conv => whnf
              refine Fork.dec (fun q => absurd (hk0.symm.trans q) (by decide)) (fun _ => ?_)
              have hF' : Fine ((putF 4096 L S[i].2.1 S[i].2.2.1 3).1) := putF_fine (by decide) hF hV
              have hH' : Held ((putF 4096 L S[i].2.1 S[i].2.2.1 3).1) t (v) (false) := hph.2 fun q => he q.1
              have hL1 : ((putF 4096 L S[i].2.1 S[i].2.2.1 3).1).length ≤ 100000 := Nat.le_trans hF'.2.2 (by decide)
              conv => whnf
              refine ⟨0, 4096, _, (putF 4096 L S[i].2.1 S[i].2.2.1 3).1, rfl, rfl, rfl, by decide, hL1, hF'.in64, ?_⟩
              conv => whnf
              refine LoopP.mk { k : Nat // 1 ≤ k } 1 (fun k => ri S t ((putF 4096 L S[i].2.1 S[i].2.2.1 3).1) (v) (false) i k.val) (fun k => ((putF 4096 L S[i].2.1 S[i].2.2.1 3).1).length - k.val) ⟨1, Nat.le_refl 1⟩ ?_ ?_
              · exact ri_cov (Nat.le_refl 0) rfl rfl rfl rfl rfl rfl rfl rfl ⟨_, rfl, chk_sub _ _⟩
              · intro ⟨k, hk⟩
                conv => whnf
                refine Fork.dec (fun q => ?_) (fun q => ?_)
                · have hk2 : k < ((putF 4096 L S[i].2.1 S[i].2.2.1 3).1).length := by exact Int.ofNat_lt.1 q
                  have hk1 : k - 1 < ((putF 4096 L S[i].2.1 S[i].2.2.1 3).1).length := by omega
                  have hkw : IntKind.i64.wrap ((k : Int) - 1) = ((k - 1 : Nat) : Int) := (W64_of ⟨by omega, by omega⟩).trans (by omega)
                  have hk3 : IntKind.i64.wrap ((k : Int) + 1) = ((k + 1 : Nat) : Int) := W64_of ⟨by omega, by omega⟩
                  have hlt := hF'.1.lt (i := k - 1) (j := k) (by omega) hk2
                  rw [tAt_of hk2, tAt_of hk1] at hlt
                  conv => whnf
                  refine Idx.mk (k - 1) hkw hk1 ?_
                  conv => whnf
                  refine optP_of (smp_nth0 hk1 rfl) ?_
                  conv => whnf
                  refine Idx.mk k rfl hk2 ?_
                  conv => whnf
                  refine optP_of (smp_nth0 hk2 rfl) ?_
                  conv => whnf
                  refine Fork.dec (fun q2 => absurd q2 (Int.not_le.2 hlt)) (fun _ => ?_)
                  conv => whnf
                  exact ⟨⟨k + 1, Nat.le_add_left 1 k⟩, (show ((putF 4096 L S[i].2.1 S[i].2.2.1 3).1).length - (k + 1) < ((putF 4096 L S[i].2.1 S[i].2.2.1 3).1).length - k by omega), ri_cov (Nat.le_refl 0) rfl rfl rfl rfl rfl rfl rfl (congrArg (AV.si .i64) hk3) ⟨_, rfl, chk_sub _ _⟩⟩
                · conv => whnf
                  exact ⟨⟨((i + 1, (putF 4096 L S[i].2.1 S[i].2.2.1 3).1), (v, false)), hi2, hF', hH'⟩, (show S.length - (i + 1) < S.length - i by omega), rs_cov (Nat.le_refl 0) rfl rfl rfl rfl rfl (congrArg (AV.si .i64) hi1) ⟨_, rfl, chk_sub _ _⟩⟩
          · conv => whnf
            refine Fork.dec (fun hk1 => ?_) (fun hk1 => ?_)
            · have hdh := drop_held (a := S[i].2.1) (b := S[i].2.2.1) hH
              conv => whnf
              refine ⟨0, 4096, L, S[i].2.1, S[i].2.2.1, rfl, rfl, rfl, by decide, rfl, by decide, hF, ?_⟩
              conv => whnf
              refine Fork.sb (fun q => by cases q) (fun _ => ?_)
              rw [Bool.false_and] at hdh
              have hF' : Fine (dropF L S[i].2.1 S[i].2.2.1) := dropF_fine hF _ _
              have hH' : Held (dropF L S[i].2.1 S[i].2.2.1) t (v) (false) := hdh
              have hL1 : (dropF L S[i].2.1 S[i].2.2.1).length ≤ 100000 := Nat.le_trans hF'.2.2 (by decide)
              conv => whnf
              refine ⟨0, 4096, _, dropF L S[i].2.1 S[i].2.2.1, rfl, rfl, rfl, by decide, hL1, hF'.in64, ?_⟩
              conv => whnf
              refine LoopP.mk { k : Nat // 1 ≤ k } 1 (fun k => ri S t (dropF L S[i].2.1 S[i].2.2.1) (v) (false) i k.val) (fun k => (dropF L S[i].2.1 S[i].2.2.1).length - k.val) ⟨1, Nat.le_refl 1⟩ ?_ ?_
              · exact ri_cov (Nat.le_refl 0) rfl rfl rfl rfl rfl rfl rfl rfl ⟨_, rfl, chk_sub _ _⟩
              · intro ⟨k, hk⟩
                conv => whnf
                refine Fork.dec (fun q => ?_) (fun q => ?_)
                · have hk2 : k < (dropF L S[i].2.1 S[i].2.2.1).length := by exact Int.ofNat_lt.1 q
                  have hk1 : k - 1 < (dropF L S[i].2.1 S[i].2.2.1).length := by omega
                  have hkw : IntKind.i64.wrap ((k : Int) - 1) = ((k - 1 : Nat) : Int) := (W64_of ⟨by omega, by omega⟩).trans (by omega)
                  have hk3 : IntKind.i64.wrap ((k : Int) + 1) = ((k + 1 : Nat) : Int) := W64_of ⟨by omega, by omega⟩
                  have hlt := hF'.1.lt (i := k - 1) (j := k) (by omega) hk2
                  rw [tAt_of hk2, tAt_of hk1] at hlt
                  conv => whnf
                  refine Idx.mk (k - 1) hkw hk1 ?_
                  conv => whnf
                  refine optP_of (smp_nth0 hk1 rfl) ?_
                  conv => whnf
                  refine Idx.mk k rfl hk2 ?_
                  conv => whnf
                  refine optP_of (smp_nth0 hk2 rfl) ?_
                  conv => whnf
                  refine Fork.dec (fun q2 => absurd q2 (Int.not_le.2 hlt)) (fun _ => ?_)
                  conv => whnf
                  exact ⟨⟨k + 1, Nat.le_add_left 1 k⟩, (show (dropF L S[i].2.1 S[i].2.2.1).length - (k + 1) < (dropF L S[i].2.1 S[i].2.2.1).length - k by omega), ri_cov (Nat.le_refl 0) rfl rfl rfl rfl rfl rfl rfl (congrArg (AV.si .i64) hk3) ⟨_, rfl, chk_sub _ _⟩⟩
                · conv => whnf
                  exact ⟨⟨((i + 1, dropF L S[i].2.1 S[i].2.2.1), (v, false)), hi2, hF', hH'⟩, (show S.length - (i + 1) < S.length - i by omega), rs_cov (Nat.le_refl 0) rfl rfl rfl rfl rfl (congrArg (AV.si .i64) hi1) ⟨_, rfl, chk_sub _ _⟩⟩
            · have hF' : Fine (L) := hF
              have hH' : Held (L) t (v) (false) := hH
              have hL1 : (L).length ≤ 100000 := Nat.le_trans hF'.2.2 (by decide)
              conv => whnf
              refine ⟨0, 4096, _, L, rfl, rfl, rfl, by decide, hL1, hF'.in64, ?_⟩
              conv => whnf
              refine LoopP.mk { k : Nat // 1 ≤ k } 1 (fun k => ri S t (L) (v) (false) i k.val) (fun k => (L).length - k.val) ⟨1, Nat.le_refl 1⟩ ?_ ?_
              · exact ri_cov (Nat.le_refl 0) rfl rfl rfl rfl rfl rfl rfl rfl ⟨_, rfl, chk_sub _ _⟩
              · intro ⟨k, hk⟩
                conv => whnf
                refine Fork.dec (fun q => ?_) (fun q => ?_)
                · have hk2 : k < (L).length := by exact Int.ofNat_lt.1 q
                  have hk1 : k - 1 < (L).length := by omega
                  have hkw : IntKind.i64.wrap ((k : Int) - 1) = ((k - 1 : Nat) : Int) := (W64_of ⟨by omega, by omega⟩).trans (by omega)
                  have hk3 : IntKind.i64.wrap ((k : Int) + 1) = ((k + 1 : Nat) : Int) := W64_of ⟨by omega, by omega⟩
                  have hlt := hF'.1.lt (i := k - 1) (j := k) (by omega) hk2
                  rw [tAt_of hk2, tAt_of hk1] at hlt
                  conv => whnf
                  refine Idx.mk (k - 1) hkw hk1 ?_
                  conv => whnf
                  refine optP_of (smp_nth0 hk1 rfl) ?_
                  conv => whnf
                  refine Idx.mk k rfl hk2 ?_
                  conv => whnf
                  refine optP_of (smp_nth0 hk2 rfl) ?_
                  conv => whnf
                  refine Fork.dec (fun q2 => absurd q2 (Int.not_le.2 hlt)) (fun _ => ?_)
                  conv => whnf
                  exact ⟨⟨k + 1, Nat.le_add_left 1 k⟩, (show (L).length - (k + 1) < (L).length - k by omega), ri_cov (Nat.le_refl 0) rfl rfl rfl rfl rfl rfl rfl (congrArg (AV.si .i64) hk3) ⟨_, rfl, chk_sub _ _⟩⟩
                · conv => whnf
                  exact ⟨⟨((i + 1, L), (v, false)), hi2, hF', hH'⟩, (show S.length - (i + 1) < S.length - i by omega), rs_cov (Nat.le_refl 0) rfl rfl rfl rfl rfl (congrArg (AV.si .i64) hi1) ⟨_, rfl, chk_sub _ _⟩⟩
        · have hg := get_held hF hH
          have hx : (decide ((getF L t).2 = 0) == false) = true := by rw [decide_eq_false (fun q => by have := hg.1.1 q; cases this)]; rfl
          conv => whnf
          refine ⟨0, 4096, L, t, rfl, rfl, by decide, rfl, by decide, hF, ?_⟩
          conv => whnf
          refine Fork.sb (fun _ => ?_) (fun q => absurd q (by rw [hx]; decide))
          conv => whnf
          refine Fork.nsb (fun _ => ?_) (fun q => by cases q)
          conv => whnf
          exact .inl rfl
      · have hg := get_held hF hH
        have hx : (decide ((getF L t).2 = 0) == false) = true := by rw [decide_eq_false (fun q => by have := hg.1.1 q; cases this)]; rfl
        conv => whnf
        refine ⟨0, 4096, L, t, rfl, rfl, by decide, rfl, by decide, hF, ?_⟩
        conv => whnf
        refine Fork.sb (fun _ => ?_) (fun q => absurd q (by rw [hx]; decide))
        conv => whnf
        refine Fork.nsb (fun _ => ?_) (fun q => by cases q)
        conv => whnf
        exact .inl rfl
end Go.Proofs.Ytpfflibkkjjlaaa
namespace Go.Proofs.Ytpfflibkkjjlaaa
open Go Go.RowKit Go.ChangeShapes Go.WideShapes
set_option maxRecDepth 20000
section
variable {H : Type} {enc : TypeId × Value → H} {P : Program} {W : World} {held : Bool}
def op4Of : List Value → Op4
  | [a, b, c, d] => (intOf a, intOf b, intOf c, intOf d)
  | _ => (0, 0, 0, 0)
theorem ops_vals {Tr : TypeId → Value → Prop} : ∀ {rows : List (List Value)}, (∀ r ∈ rows, Prims Tr [.int .i64, .int .i64, .int .i64, .int .i64] r) → OpsIn (rows.map op4Of) ∧ ∀ φ : Ph, VRs φ (opsC (rows.map op4Of)) rows.flatten
  | [], _ => ⟨(fun o h => by cases h), fun φ => .nil⟩
  | r :: rows, h => by
    obtain ⟨g1, g2⟩ := h r List.mem_cons_self
    obtain ⟨k1, k2⟩ := ops_vals (rows := rows) fun x hx => h x (List.mem_cons_of_mem _ hx)
    match r, g1, g2 with
    | [v, w, x, y], _, g2 =>
      obtain ⟨a, rfl, ha⟩ := g2 0 _ v rfl rfl
      obtain ⟨b, rfl, hb⟩ := g2 1 _ w rfl rfl
      obtain ⟨c, rfl, hc⟩ := g2 2 _ x rfl rfl
      obtain ⟨d, rfl, hd⟩ := g2 3 _ y rfl rfl
      refine ⟨fun o ho => ?_, fun φ => .cons (.si _ _) (.cons (.si _ _) (.cons (.si _ _) (.cons (.si _ _) (k2 φ))))⟩
      rcases List.mem_cons.1 ho with rfl | ho
      · exact ⟨.of ha, .of hb, .of hc, .of hd⟩
      · exact k1 o ho
/-- A script, frozen. -/
theorem arg_ops {t e : TypeId} {d : Nat} {v : Value} {D : DataW H} {ps : List MemPlace} (ht : P.underlying t = some (.slice e)) (hk : kdsT P d e = some [.int .i64, .int .i64, .int .i64, .int .i64]) (hc2 : P.cellsOf e = 4) (hcell : v.cells.toList = [v]) (hd : DataW.Trod enc P W 0 (fun _ => true) held t v D ps) :
    ∃ (S : List Op4) (z : Fz → Prop), OpsIn S ∧ Frozen W z ∧ (∀ χ : Ph, (∀ q, z q → χ.z q) → VR χ (.fr S.length 4 (opsC S)) v) ∧ (S = [] ∨ ∃ E F, D = .slice ((List.range S.length).map F) E) ∧ S.length ≤ maxLen := by
  obtain ⟨fuel, hf⟩ := hd
  rw [hcell] at hf
  obtain ⟨rows, h1, h2, h3, h4⟩ := open_cells ht hk rfl hc2 (by decide) hf
  obtain ⟨g2, g3⟩ := ops_vals fun r hr => (h1 r hr).1
  rcases h4 with ⟨rfl, a, C, rfl, hC⟩ | ⟨b, off, cap, cc, u, fz, rfl, hcap, hb, hsz, hcell⟩
  · exact ⟨[], fun _ => False, (fun x h => by cases h), .none, fun χ _ => .fre hC, .inl rfl, Nat.zero_le _⟩
  · have hst : (opsC (rows.map op4Of)).all stab = true := by
      rw [List.all_eq_true]
      intro y hy
      have := List.all_eq_true.1 (opsC_flat (rows.map op4Of)) y hy
      cases y <;> first | rfl | cases this
    obtain ⟨k1, k2⟩ := frz_row (m := rows.length) (k := 4) (L := opsC (rows.map op4Of)) (z := fun q => q = ⟨b, off, opsC (rows.map op4Of)⟩) hb hcap (by rw [opsC_length, List.length_map]) hsz hst rfl (g3 _) hcell
    exact ⟨rows.map op4Of, fun q => q = ⟨b, off, opsC (rows.map op4Of)⟩, g2, fun q hq => by subst hq; exact k1, fun χ hχ => by rw [List.length_map]; exact k2 χ hχ, by rw [List.length_map]; exact h2.imp (fun q => by rw [q]; rfl) id, by rw [List.length_map]; exact h3⟩
/-- Samples, frozen. -/
theorem arg_fsmp {t e : TypeId} {d : Nat} {v : Value} {D : DataW H} {ps : List MemPlace} (ht : P.underlying t = some (.slice e)) (hk : kdsT P d e = some [.int .i64, .int .i64]) (hc2 : P.cellsOf e = 2) (hcell : v.cells.toList = [v]) (hd : DataW.Trod enc P W 0 (fun _ => true) held t v D ps) :
    ∃ (L : Smp) (z : Fz → Prop), (∀ x ∈ L, In64 x.1 ∧ In64 x.2) ∧ Frozen W z ∧ (∀ χ : Ph, (∀ q, z q → χ.z q) → VR χ (.fr L.length 2 (smp L)) v) ∧ (L = [] ∨ ∃ E F, D = .slice ((List.range L.length).map F) E) ∧ L.length ≤ maxLen := by
  obtain ⟨fuel, hf⟩ := hd
  rw [hcell] at hf
  exact fr_samples ht hk hc2 hf
end
end Go.Proofs.Ytpfflibkkjjlaaa
namespace Go.Proofs.Ytpfflibkkjjlaaa
open Go Go.RowKit
theorem chunk_known_ran : isTrue (callq evQ 60 13 [] .nil 0 topq) = true := by kernel_rfl
end Go.Proofs.Ytpfflibkkjjlaaa
namespace Go.Proofs.Ytpfflibkkjjlaaa
open Go Go.RowKit
theorem n_known4 : NatP 13 (natQ trueN) := natTrue chunk_known_ran
end Go.Proofs.Ytpfflibkkjjlaaa
namespace Go.Proofs.Ytpfflibkkjjlaaa
open Go Go.RowKit
set_option maxRecDepth 20000
/-! ### rows of samples alike -/
theorem plan28 : eqPlan Try.prog 28 = some [(0, 0), (0, 1)] := by kernel_rfl
theorem ebin_agg2 {P : Program} {t : TypeId} {H : AH} {a b c d : Int} (hp : eqPlan P t = some [(0, 0), (0, 1)]) : ebin P .neq t (.agg [.int .i64 a, .int .i64 b]) (.agg [.int .i64 c, .int .i64 d]) H = some (.bool (!(decide (a = c) && (decide (b = d) && true)))) := by
  simp [ebin, hp, eplan, nth, qbool]
theorem same_is {a b : Bool} (h : a = b) : mkT (AV.bool a) = mkT (.bool b) := by rw [h]
def natSF (args : List AV) (H : AH) (n : Nat) (κ : PK) : Prop := match args with
  | [x, y] => ∃ V W, (SmpAt H x V ∨ x = .fr V.length 2 (smp V)) ∧ (SmpAt H y W ∨ y = .fr W.length 2 (smp W)) ∧ V.length ≤ 1000000 ∧ κ (.sb (decide (V = W))) H n
  | _ => False
noncomputable def sf0 (V : Smp) (W : Smp) (i : Nat) : AE × AH := (mkE [(0, .fr V.length 2 (smp V)), (1, .fr W.length 2 (smp W)), (5, .si .i64 (i))], mkH [])
theorem sf0_cov {V : Smp} {W : Smp} {i : Nat} {p n : Nat} {σ : AE} {H : AH} (hp : p ≤ 0) (e0 : getq (pa 0) σ = .fr V.length 2 (smp V)) (e1 : getq (pa 1) σ = .fr W.length 2 (smp W)) (e5 : mk (getq (pa 5) σ) = .si .i64 (i)) : Cov p σ H n ((sf0 V W i).1, (sf0 V W i).2, 0) := by
  refine Cov.ofR (fun b => b) (by omega) (fun b hb => rfl) ?_ ?_ ?_
  · intro x hx
    simp only [List.mem_cons, List.not_mem_nil, or_false] at hx
    rcases hx with rfl | rfl | rfl
    · exact SubV.frE e0
    · exact SubV.frE e1
    · exact .int e5
  · intro x hx
    cases hx
  · intro x hx y hy
    cases hx
noncomputable def GN : FuncId → EP := withD 14 [] evP
theorem GN_ok : TabP GN := withD_ok evP_ok (by kernel_rfl) (by kernel_rfl)
set_option maxHeartbeats 4000000 in
set_option maxRecDepth 100000 in
theorem sameF_run (V W : Smp) (hV : V.length ≤ 1000000) : callT GN 3 14 [.fr V.length 2 (smp V), .fr W.length 2 (smp W)] .nil 0 fun u _ _ => mkT u = mkT (.bool (decide (V = W))) := by
  conv => whnf
  refine Fork.ndec (fun h1 => ?_) (fun h1 => ?_)
  · have h2 : decide (V = W) = false := decide_eq_false fun e => h1 (by subst e; rfl)
    conv => whnf
    exact same_is h2.symm
  · have hl : V.length = W.length := Int.ofNat_inj.1 h1
    conv => whnf
    refine LoopP.mk { i : Nat // i ≤ V.length ∧ V.take i = W.take i } 0 (fun i => sf0 V W i.val) (fun i => V.length - i.val) ⟨0, Nat.zero_le _, rfl⟩ ?_ ?_
    · exact sf0_cov (i := 0) (Nat.le_refl 0) rfl rfl rfl
    · intro ⟨i, hi, he⟩
      conv => whnf
      refine Fork.dec (fun h3 => ?_) (fun h3 => ?_)
      · have h4 : i < V.length := Int.ofNat_lt.1 h3
        have h5 : i < W.length := hl ▸ h4
        have hlt : V.length - (i + 1) < V.length - i := by omega
        have hw : IntKind.i64.wrap ((i : Int) + 1) = ((i + 1 : Nat) : Int) := by rw [wrap_i64_of (by omega) (by omega)]; omega
        have hsn : V[i] = W[i] → V.take (i + 1) = W.take (i + 1) := fun e => by rw [List.take_succ_eq_append_getElem h4, List.take_succ_eq_append_getElem h5, he, e]
        have hne : ¬ V[i] = W[i] → decide (V = W) = false := fun q => decide_eq_false fun e => q (by subst e; rfl)
        conv => whnf
        refine Idx.mk i rfl h4 ?_
        conv => whnf
        refine optP_of (smp_sub h4 rfl) ?_
        conv => whnf
        refine Idx.mk i rfl h5 ?_
        conv => whnf
        refine optP_of (smp_sub h5 rfl) ?_
        conv => whnf
        refine optP_of (ebin_agg2 plan28) ?_
        conv => whnf
        refine Fork.nsb (fun h6 => ?_) (fun h6 => ?_)
        · conv => whnf
          exact same_is (hne (fun e => by rw [e] at h6; simp at h6)).symm
        · conv => whnf
          exact ⟨⟨i + 1, h4, hsn (by simp at h6; exact Prod.ext h6.1 h6.2)⟩, hlt, sf0_cov (Nat.le_refl 0) rfl rfl (congrArg (AV.si .i64) hw)⟩
      · have h4 : i = V.length := by have : ¬ (i : Int) < (V.length : Int) := h3; omega
        have h5 : decide (V = W) = true := decide_eq_true (by rw [h4, List.take_length, hl, List.take_length] at he; exact he)
        conv => whnf
        exact same_is h5.symm
/-- Two rows, as if they were frozen. -/
theorem SmpAt.frz2 {φ : Ph} {H : AH} {n : Nat} {h0 hp : Hp} (hr : HR φ H n h0 hp) {a b : AV} {L M : Smp} {v w : Value} (hS : SmpAt H a L ∨ a = .fr L.length 2 (smp L)) (hT : SmpAt H b M ∨ b = .fr M.length 2 (smp M)) (hv : VR φ a v) (hw : VR φ b w) :
    ∃ z : Fz → Prop, (Wf hp → HR ⟨fun _ => none, z, z⟩ .nil 0 hp hp) ∧ VR ⟨fun _ => none, z, z⟩ (.fr L.length 2 (smp L)) v ∧ VR ⟨fun _ => none, z, z⟩ (.fr M.length 2 (smp M)) w := by
  obtain ⟨z, h1, h2⟩ := SmpAt.frz hr hS hv
  obtain ⟨y, k1, k2⟩ := SmpAt.frz hr hT hw
  have st : ∀ L : Smp, stab (AV.fr L.length 2 (smp L)) = true := fun L => rfl
  refine ⟨fun q => z q ∨ y q, fun hwf => ?_, stab_VR (ψ := ⟨fun _ => none, fun q => z q ∨ y q, fun q => z q ∨ y q⟩) (fun _ h => Or.inl h) (st L) h2, stab_VR (ψ := ⟨fun _ => none, fun q => z q ∨ y q, fun q => z q ∨ y q⟩) (fun _ h => Or.inr h) (st M) k2⟩
  have g1 := h1 hwf
  have g2 := k1 hwf
  refine ⟨fun _ _ k => (by cases k), fun _ _ k => (by cases k), fun _ _ _ _ _ _ k => (by cases k), g1.base, g1.size, fun q hq => ⟨⟨?_, .inl hq⟩, fun _ _ _ k => (by cases k)⟩⟩
  rcases hq with hq | hq
  · exact FzR.mono (φ := ⟨fun _ => none, z, z⟩) (ψ := ⟨fun _ => none, fun q => z q ∨ y q, fun q => z q ∨ y q⟩) (fun _ h => Or.inl h) (g1.frz q hq).1.1
  · exact FzR.mono (φ := ⟨fun _ => none, y, y⟩) (ψ := ⟨fun _ => none, fun q => z q ∨ y q, fun q => z q ∨ y q⟩) (fun _ h => Or.inr h) (g2.frz q hq).1.1
theorem n_same : NatP 14 natSF := fun args H n κ hs φ h0' hp vs K hr hargs hk => by
  unfold natSF at hs
  split at hs
  · obtain ⟨x, y, rfl, e1, e2⟩ := vs2 hargs
    obtain ⟨V, W, hS, hT, hV, hs⟩ := hs
    obtain ⟨z, hz, hv, hw⟩ := SmpAt.frz2 hr hS hT e1 e2
    exact smallN GN_ok (v := .bool (decide (V = W))) rfl (sameF_run V W hV) hs hr hk (by kernel_rfl) hz (.cons hv (.cons hw .nil))
  · exact hs.elim
/-! ### room for seven -/
noncomputable def KHo : FuncId → EP := withN 13 (natQ trueN) (withN 14 natSF (withN 9 natPut (withN 12 natGet (withN 11 natAll evP))))
theorem KHo_ok (hK : NatP 13 (natQ trueN)) : TabP KHo := withN_ok (withN_ok (withN_ok (withN_ok (withN_ok evP_ok n_all) n_get) n_put) n_same) hK
noncomputable def ho (M : Smp) (sz : Nat) (L : Smp) (i : Nat) : AE × AH := (mkE [(1, .fr M.length 2 (smp M)), (5, .ptr 0 (0)), (7, .si .i64 (((i : Nat) : Int)))], mkH [(0, .cells (chk sz L) true)])
theorem ho_cov {M : Smp} {sz : Nat} {L : Smp} {i : Nat} {p n : Nat} {σ : AE} {H : AH} (hp : p ≤ 0) (e1 : getq (pa 1) σ = .fr M.length 2 (smp M)) (e5 : getq (pa 5) σ = .ptr 0 (0)) (e7 : mk (getq (pa 7) σ) = .si .i64 (((i : Nat) : Int))) (h0 : ∃ l, H.get 0 = some (.cells l true) ∧ SubL H 1 (fun b => b) l (chk sz L)) : Cov p σ H n ((ho M sz L i).1, (ho M sz L i).2, 1) := by
  refine Cov.ofR (fun b => b) (by omega) (fun b hb => rfl) ?_ ?_ ?_
  · intro x hx
    simp only [List.mem_cons, List.not_mem_nil, or_false] at hx
    rcases hx with rfl | rfl | rfl
    · exact SubV.frE e1
    · exact .ptr (by decide) e5
    · exact .int e7
  · intro x hx
    simp only [List.mem_cons, List.not_mem_nil, or_false] at hx
    subst hx
    exact ⟨by simp, .inl (h0.elim fun l h => ⟨_, h.1, SubO.st h.2⟩)⟩
  · intro x hx y hy
    simp only [List.mem_cons, List.not_mem_nil, or_false] at hx hy
    subst hx hy
    exact fun q => rfl
set_option maxHeartbeats 16000000 in
set_option maxRecDepth 100000 in
theorem w_chunkHolds (a : Int) (M : Smp) (ha : 0 ≤ a ∧ a ≤ 65535) (hM : ∀ x ∈ M, In64 x.1 ∧ In64 x.2) (hMl : M.length ≤ 8796093022208) : callT KHo 6 4 [.si .u16 a, .fr M.length 2 (smp M)] .nil 0 fun v _ _ => v = .bool true ∨ v = .sb true := by
  obtain ⟨sz, hszd⟩ : ∃ sz : Nat, sz = 128 + a.toNat % 3000 := ⟨_, rfl⟩
  have hsz1 : 128 ≤ sz := by omega
  have hsz2 : sz ≤ 4096 := by omega
  have hsz : 0 < sz := by omega
  have hse : IntKind.i64.wrap (128 + (IntKind.i64.wrap a).tmod 3000) = (sz : Int) := by
    rw [show IntKind.i64.wrap a = a from W64_of ⟨by omega, by omega⟩, Int.tmod_eq_emod_of_nonneg ha.1]
    refine (W64_of ⟨by omega, by omega⟩).trans ?_
    omega
  have h128 : ¬ IntKind.i64.wrap (128 + (IntKind.i64.wrap a).tmod 3000) < 128 := by rw [hse]; omega
  have h4096 : ¬ 4096 < IntKind.i64.wrap (128 + (IntKind.i64.wrap a).tmod 3000) := by rw [hse]; omega
  conv => whnf
  refine Fork.dec (fun q => absurd q h128) (fun _ => ?_)
  conv => whnf
  refine Fork.dec (fun q => absurd q h4096) (fun _ => ?_)
  conv => whnf
  refine LoopP.mk { x : Nat × Smp // x.1 ≤ M.length ∧ Fine x.2 ∧ (encB x.2).length ≤ 8 * sz } 1 (fun x => ho M sz x.val.2 x.val.1) (fun x => M.length - x.val.1) ⟨(0, []), Nat.zero_le _, .nil, Nat.zero_le _⟩ ?_ ?_
  · exact ho_cov (Nat.le_refl 0) rfl rfl rfl ⟨_, rfl, chk_new sz (x := .si .i64 (IntKind.i64.wrap (128 + (IntKind.i64.wrap a).tmod 3000))) (congrArg (AV.si .i64) hse)⟩
  · intro ⟨(i, L), hi, hF, hfit⟩
    dsimp only at hi hF hfit
    have hL1 : L.length ≤ 100000 := Nat.le_trans hF.2.2 (by decide)
    conv => whnf
    refine Fork.dec (fun h => ?_) (fun h => ?_)
    · have hi2 : i < M.length := by exact Int.ofNat_lt.1 h
      have hV : In64 M[i].2 := (hM _ (List.getElem_mem hi2)).2
      conv => whnf
      refine Fork.dec (fun h100 => ?_) (fun h100 => ?_)
      · have hi1 : IntKind.i64.wrap ((i : Int) + 1) = ((i + 1 : Nat) : Int) := W64_of ⟨by omega, by omega⟩
        obtain ⟨hl1, hl2, hl3, hl4, hl5, hl6⟩ := hold_law hF hsz1 hfit M[i].1 M[i].2
        have hF' : Fine (putF sz L M[i].1 M[i].2 1).1 := putF_fine hsz2 hF hV
        have hL1' : (putF sz L M[i].1 M[i].2 1).1.length ≤ 100000 := Nat.le_trans hF'.2.2 (by decide)
        have hL2' : (putF sz L M[i].1 M[i].2 1).1.length ≤ 1000000 := Nat.le_trans hF'.2.2 (by decide)
        have hl3' : (putF sz L M[i].1 M[i].2 1).2 = 0 → ((putF sz L M[i].1 M[i].2 1).1.length : Int) = IntKind.i64.wrap ((L.length : Int) + 1) := fun q => by
          rw [show IntKind.i64.wrap ((L.length : Int) + 1) = (L.length : Int) + 1 from W64_of ⟨by omega, by omega⟩, hl3 q]; rfl
        have hused : ¬ (sz : Int) < ((pack (encB (putF sz L M[i].1 M[i].2 1).1)).length : Int) := by rw [pack_length]; omega
        conv => whnf
        refine ⟨0, sz, _, L, rfl, rfl, rfl, hsz, hL1, hF.in64, ?_⟩
        conv => whnf
        refine Idx.mk i rfl hi2 ?_
        conv => whnf
        refine optP_of (smp_nth0 hi2 rfl) ?_
        conv => whnf
        refine ⟨0, sz, L, M[i].1, rfl, rfl, by decide, rfl, hsz, hF, ?_⟩
        conv => whnf
        refine Idx.mk i rfl hi2 ?_
        conv => whnf
        refine optP_of (smp_sub hi2 rfl) ?_
        conv => whnf
        refine ⟨0, sz, L, M[i].1, M[i].2, 1, rfl, ⟨_, _, rfl, rfl, rfl⟩, rfl, by decide, rfl, hsz, hsz2, hF, hV, ?_⟩
        conv => whnf
        refine Fork.dec (fun hf2 => ?_) (fun hf2 => ?_)
        · have hf0 : (putF sz L M[i].1 M[i].2 1).2 ≠ 0 := fun q => by rw [q] at hf2; cases hf2
          conv => whnf
          refine Fork.dec (fun q => absurd ⟨hf2, .inl (by omega)⟩ hl1) (fun _ => ?_)
          conv => whnf
          refine Fork.dec (fun q => absurd ⟨hf2, .inr q⟩ hl1) (fun _ => ?_)
          conv => whnf
          refine Fork.ndec (fun _ => ?_) (fun q => absurd q hf0)
          conv => whnf
          refine ⟨0, sz, _, (putF sz L M[i].1 M[i].2 1).1, rfl, rfl, rfl, hsz, hL1', hF'.in64, ?_⟩
          conv => whnf
          refine ⟨(putF sz L M[i].1 M[i].2 1).1, L, .inr rfl, .inr rfl, hL2', ?_⟩
          conv => whnf
          refine Fork.ndec (fun q => absurd (hl2 hf0) q) (fun _ => ?_)
          conv => whnf
          refine Fork.dec (fun q => absurd q hf0) (fun _ => ?_)
          conv => whnf
          refine Fork.dec (fun hg => ?_) (fun hg => ?_)
          · conv => whnf
            refine Idx.mk i rfl hi2 ?_
            conv => whnf
            refine optP_of (smp_nth0 hi2 rfl) ?_
            conv => whnf
            refine Fork.dec (fun h0 => ?_) (fun h0 => ?_)
            · conv => whnf
              refine Idx.mk i rfl hi2 ?_
              conv => whnf
              refine optP_of (smp_nth0 hi2 rfl) ?_
              conv => whnf
              have hx : (decide ((putF sz L M[i].1 M[i].2 1).2 = 8) == decide (M[i].1 < 1099511627776)) = true := by rw [beq_iff_eq, decide_eq_decide]; exact ⟨fun q => (hl4.1 q).2.2, fun q => hl4.2 ⟨hg, h0, q⟩⟩
              refine Fork.nsb (fun q => absurd q (by rw [hx]; decide)) (fun _ => ?_)
              conv => whnf
              refine Idx.mk i rfl hi2 ?_
              conv => whnf
              refine optP_of (smp_nth0 hi2 rfl) ?_
              conv => whnf
              refine Fork.dec (fun hT0 => ?_) (fun hT0 => ?_)
              · have hx : (decide ((putF sz L M[i].1 M[i].2 1).2 = 1) == true) = true := by rw [decide_eq_true (hl5.2 (.inl hT0))]; rfl
                refine Fork.nsb (fun q => absurd q (by rw [hx]; decide)) (fun _ => ?_)
                conv => whnf
                refine Fork.dec (fun q => absurd q hused) (fun _ => ?_)
                conv => whnf
                exact ⟨⟨(i + 1, (putF sz L M[i].1 M[i].2 1).1), hi2, hF', hl6⟩, (show M.length - (i + 1) < M.length - i by omega), ho_cov (Nat.le_refl 0) rfl rfl (congrArg (AV.si .i64) hi1) ⟨_, rfl, chk_sub _ _⟩⟩
              · conv => whnf
                refine Idx.mk i rfl hi2 ?_
                conv => whnf
                refine optP_of (smp_nth0 hi2 rfl) ?_
                conv => whnf
                have hx : (decide ((putF sz L M[i].1 M[i].2 1).2 = 1) == decide (1099511627776 ≤ M[i].1)) = true := by rw [beq_iff_eq, decide_eq_decide]; exact ⟨fun q => (hl5.1 q).resolve_left hT0, fun q => hl5.2 (.inr q)⟩
                refine Fork.nsb (fun q => absurd q (by rw [hx]; decide)) (fun _ => ?_)
                conv => whnf
                refine Fork.dec (fun q => absurd q hused) (fun _ => ?_)
                conv => whnf
                exact ⟨⟨(i + 1, (putF sz L M[i].1 M[i].2 1).1), hi2, hF', hl6⟩, (show M.length - (i + 1) < M.length - i by omega), ho_cov (Nat.le_refl 0) rfl rfl (congrArg (AV.si .i64) hi1) ⟨_, rfl, chk_sub _ _⟩⟩
            · conv => whnf
              have hx : (decide ((putF sz L M[i].1 M[i].2 1).2 = 8) == false) = true := by rw [decide_eq_false (fun q => h0 (hl4.1 q).2.1)]; rfl
              refine Fork.nsb (fun q => absurd q (by rw [hx]; decide)) (fun _ => ?_)
              conv => whnf
              refine Idx.mk i rfl hi2 ?_
              conv => whnf
              refine optP_of (smp_nth0 hi2 rfl) ?_
              conv => whnf
              refine Fork.dec (fun hT0 => ?_) (fun hT0 => ?_)
              · have hx : (decide ((putF sz L M[i].1 M[i].2 1).2 = 1) == true) = true := by rw [decide_eq_true (hl5.2 (.inl hT0))]; rfl
                refine Fork.nsb (fun q => absurd q (by rw [hx]; decide)) (fun _ => ?_)
                conv => whnf
                refine Fork.dec (fun q => absurd q hused) (fun _ => ?_)
                conv => whnf
                exact ⟨⟨(i + 1, (putF sz L M[i].1 M[i].2 1).1), hi2, hF', hl6⟩, (show M.length - (i + 1) < M.length - i by omega), ho_cov (Nat.le_refl 0) rfl rfl (congrArg (AV.si .i64) hi1) ⟨_, rfl, chk_sub _ _⟩⟩
              · conv => whnf
                refine Idx.mk i rfl hi2 ?_
                conv => whnf
                refine optP_of (smp_nth0 hi2 rfl) ?_
                conv => whnf
                have hx : (decide ((putF sz L M[i].1 M[i].2 1).2 = 1) == decide (1099511627776 ≤ M[i].1)) = true := by rw [beq_iff_eq, decide_eq_decide]; exact ⟨fun q => (hl5.1 q).resolve_left hT0, fun q => hl5.2 (.inr q)⟩
                refine Fork.nsb (fun q => absurd q (by rw [hx]; decide)) (fun _ => ?_)
                conv => whnf
                refine Fork.dec (fun q => absurd q hused) (fun _ => ?_)
                conv => whnf
                exact ⟨⟨(i + 1, (putF sz L M[i].1 M[i].2 1).1), hi2, hF', hl6⟩, (show M.length - (i + 1) < M.length - i by omega), ho_cov (Nat.le_refl 0) rfl rfl (congrArg (AV.si .i64) hi1) ⟨_, rfl, chk_sub _ _⟩⟩
          · conv => whnf
            have hx : (decide ((putF sz L M[i].1 M[i].2 1).2 = 8) == false) = true := by rw [decide_eq_false (fun q => hg (hl4.1 q).1)]; rfl
            refine Fork.nsb (fun q => absurd q (by rw [hx]; decide)) (fun _ => ?_)
            conv => whnf
            refine Idx.mk i rfl hi2 ?_
            conv => whnf
            refine optP_of (smp_nth0 hi2 rfl) ?_
            conv => whnf
            refine Fork.dec (fun hT0 => ?_) (fun hT0 => ?_)
            · have hx : (decide ((putF sz L M[i].1 M[i].2 1).2 = 1) == true) = true := by rw [decide_eq_true (hl5.2 (.inl hT0))]; rfl
              refine Fork.nsb (fun q => absurd q (by rw [hx]; decide)) (fun _ => ?_)
              conv => whnf
              refine Fork.dec (fun q => absurd q hused) (fun _ => ?_)
              conv => whnf
              exact ⟨⟨(i + 1, (putF sz L M[i].1 M[i].2 1).1), hi2, hF', hl6⟩, (show M.length - (i + 1) < M.length - i by omega), ho_cov (Nat.le_refl 0) rfl rfl (congrArg (AV.si .i64) hi1) ⟨_, rfl, chk_sub _ _⟩⟩
            · conv => whnf
              refine Idx.mk i rfl hi2 ?_
              conv => whnf
              refine optP_of (smp_nth0 hi2 rfl) ?_
              conv => whnf
              have hx : (decide ((putF sz L M[i].1 M[i].2 1).2 = 1) == decide (1099511627776 ≤ M[i].1)) = true := by rw [beq_iff_eq, decide_eq_decide]; exact ⟨fun q => (hl5.1 q).resolve_left hT0, fun q => hl5.2 (.inr q)⟩
              refine Fork.nsb (fun q => absurd q (by rw [hx]; decide)) (fun _ => ?_)
              conv => whnf
              refine Fork.dec (fun q => absurd q hused) (fun _ => ?_)
              conv => whnf
              exact ⟨⟨(i + 1, (putF sz L M[i].1 M[i].2 1).1), hi2, hF', hl6⟩, (show M.length - (i + 1) < M.length - i by omega), ho_cov (Nat.le_refl 0) rfl rfl (congrArg (AV.si .i64) hi1) ⟨_, rfl, chk_sub _ _⟩⟩
        · conv => whnf
          refine Fork.ndec (fun hf0 => ?_) (fun hf0 => ?_)
          · conv => whnf
            refine ⟨0, sz, _, (putF sz L M[i].1 M[i].2 1).1, rfl, rfl, rfl, hsz, hL1', hF'.in64, ?_⟩
            conv => whnf
            refine ⟨(putF sz L M[i].1 M[i].2 1).1, L, .inr rfl, .inr rfl, hL2', ?_⟩
            conv => whnf
            refine Fork.ndec (fun q => absurd (hl2 hf0) q) (fun _ => ?_)
            conv => whnf
            refine Fork.dec (fun q => absurd q hf0) (fun _ => ?_)
            conv => whnf
            refine Fork.dec (fun hg => ?_) (fun hg => ?_)
            · conv => whnf
              refine Idx.mk i rfl hi2 ?_
              conv => whnf
              refine optP_of (smp_nth0 hi2 rfl) ?_
              conv => whnf
              refine Fork.dec (fun h0 => ?_) (fun h0 => ?_)
              · conv => whnf
                refine Idx.mk i rfl hi2 ?_
                conv => whnf
                refine optP_of (smp_nth0 hi2 rfl) ?_
                conv => whnf
                have hx : (decide ((putF sz L M[i].1 M[i].2 1).2 = 8) == decide (M[i].1 < 1099511627776)) = true := by rw [beq_iff_eq, decide_eq_decide]; exact ⟨fun q => (hl4.1 q).2.2, fun q => hl4.2 ⟨hg, h0, q⟩⟩
                refine Fork.nsb (fun q => absurd q (by rw [hx]; decide)) (fun _ => ?_)
                conv => whnf
                refine Idx.mk i rfl hi2 ?_
                conv => whnf
                refine optP_of (smp_nth0 hi2 rfl) ?_
                conv => whnf
                refine Fork.dec (fun hT0 => ?_) (fun hT0 => ?_)
                · have hx : (decide ((putF sz L M[i].1 M[i].2 1).2 = 1) == true) = true := by rw [decide_eq_true (hl5.2 (.inl hT0))]; rfl
                  refine Fork.nsb (fun q => absurd q (by rw [hx]; decide)) (fun _ => ?_)
                  conv => whnf
                  refine Fork.dec (fun q => absurd q hused) (fun _ => ?_)
                  conv => whnf
                  exact ⟨⟨(i + 1, (putF sz L M[i].1 M[i].2 1).1), hi2, hF', hl6⟩, (show M.length - (i + 1) < M.length - i by omega), ho_cov (Nat.le_refl 0) rfl rfl (congrArg (AV.si .i64) hi1) ⟨_, rfl, chk_sub _ _⟩⟩
                · conv => whnf
                  refine Idx.mk i rfl hi2 ?_
                  conv => whnf
                  refine optP_of (smp_nth0 hi2 rfl) ?_
                  conv => whnf
                  have hx : (decide ((putF sz L M[i].1 M[i].2 1).2 = 1) == decide (1099511627776 ≤ M[i].1)) = true := by rw [beq_iff_eq, decide_eq_decide]; exact ⟨fun q => (hl5.1 q).resolve_left hT0, fun q => hl5.2 (.inr q)⟩
                  refine Fork.nsb (fun q => absurd q (by rw [hx]; decide)) (fun _ => ?_)
                  conv => whnf
                  refine Fork.dec (fun q => absurd q hused) (fun _ => ?_)
                  conv => whnf
                  exact ⟨⟨(i + 1, (putF sz L M[i].1 M[i].2 1).1), hi2, hF', hl6⟩, (show M.length - (i + 1) < M.length - i by omega), ho_cov (Nat.le_refl 0) rfl rfl (congrArg (AV.si .i64) hi1) ⟨_, rfl, chk_sub _ _⟩⟩
              · conv => whnf
                have hx : (decide ((putF sz L M[i].1 M[i].2 1).2 = 8) == false) = true := by rw [decide_eq_false (fun q => h0 (hl4.1 q).2.1)]; rfl
                refine Fork.nsb (fun q => absurd q (by rw [hx]; decide)) (fun _ => ?_)
                conv => whnf
                refine Idx.mk i rfl hi2 ?_
                conv => whnf
                refine optP_of (smp_nth0 hi2 rfl) ?_
                conv => whnf
                refine Fork.dec (fun hT0 => ?_) (fun hT0 => ?_)
                · have hx : (decide ((putF sz L M[i].1 M[i].2 1).2 = 1) == true) = true := by rw [decide_eq_true (hl5.2 (.inl hT0))]; rfl
                  refine Fork.nsb (fun q => absurd q (by rw [hx]; decide)) (fun _ => ?_)
                  conv => whnf
                  refine Fork.dec (fun q => absurd q hused) (fun _ => ?_)
                  conv => whnf
                  exact ⟨⟨(i + 1, (putF sz L M[i].1 M[i].2 1).1), hi2, hF', hl6⟩, (show M.length - (i + 1) < M.length - i by omega), ho_cov (Nat.le_refl 0) rfl rfl (congrArg (AV.si .i64) hi1) ⟨_, rfl, chk_sub _ _⟩⟩
                · conv => whnf
                  refine Idx.mk i rfl hi2 ?_
                  conv => whnf
                  refine optP_of (smp_nth0 hi2 rfl) ?_
                  conv => whnf
                  have hx : (decide ((putF sz L M[i].1 M[i].2 1).2 = 1) == decide (1099511627776 ≤ M[i].1)) = true := by rw [beq_iff_eq, decide_eq_decide]; exact ⟨fun q => (hl5.1 q).resolve_left hT0, fun q => hl5.2 (.inr q)⟩
                  refine Fork.nsb (fun q => absurd q (by rw [hx]; decide)) (fun _ => ?_)
                  conv => whnf
                  refine Fork.dec (fun q => absurd q hused) (fun _ => ?_)
                  conv => whnf
                  exact ⟨⟨(i + 1, (putF sz L M[i].1 M[i].2 1).1), hi2, hF', hl6⟩, (show M.length - (i + 1) < M.length - i by omega), ho_cov (Nat.le_refl 0) rfl rfl (congrArg (AV.si .i64) hi1) ⟨_, rfl, chk_sub _ _⟩⟩
            · conv => whnf
              have hx : (decide ((putF sz L M[i].1 M[i].2 1).2 = 8) == false) = true := by rw [decide_eq_false (fun q => hg (hl4.1 q).1)]; rfl
              refine Fork.nsb (fun q => absurd q (by rw [hx]; decide)) (fun _ => ?_)
              conv => whnf
              refine Idx.mk i rfl hi2 ?_
              conv => whnf
              refine optP_of (smp_nth0 hi2 rfl) ?_
              conv => whnf
              refine Fork.dec (fun hT0 => ?_) (fun hT0 => ?_)
              · have hx : (decide ((putF sz L M[i].1 M[i].2 1).2 = 1) == true) = true := by rw [decide_eq_true (hl5.2 (.inl hT0))]; rfl
                refine Fork.nsb (fun q => absurd q (by rw [hx]; decide)) (fun _ => ?_)
                conv => whnf
                refine Fork.dec (fun q => absurd q hused) (fun _ => ?_)
                conv => whnf
                exact ⟨⟨(i + 1, (putF sz L M[i].1 M[i].2 1).1), hi2, hF', hl6⟩, (show M.length - (i + 1) < M.length - i by omega), ho_cov (Nat.le_refl 0) rfl rfl (congrArg (AV.si .i64) hi1) ⟨_, rfl, chk_sub _ _⟩⟩
              · conv => whnf
                refine Idx.mk i rfl hi2 ?_
                conv => whnf
                refine optP_of (smp_nth0 hi2 rfl) ?_
                conv => whnf
                have hx : (decide ((putF sz L M[i].1 M[i].2 1).2 = 1) == decide (1099511627776 ≤ M[i].1)) = true := by rw [beq_iff_eq, decide_eq_decide]; exact ⟨fun q => (hl5.1 q).resolve_left hT0, fun q => hl5.2 (.inr q)⟩
                refine Fork.nsb (fun q => absurd q (by rw [hx]; decide)) (fun _ => ?_)
                conv => whnf
                refine Fork.dec (fun q => absurd q hused) (fun _ => ?_)
                conv => whnf
                exact ⟨⟨(i + 1, (putF sz L M[i].1 M[i].2 1).1), hi2, hF', hl6⟩, (show M.length - (i + 1) < M.length - i by omega), ho_cov (Nat.le_refl 0) rfl rfl (congrArg (AV.si .i64) hi1) ⟨_, rfl, chk_sub _ _⟩⟩
          · conv => whnf
            refine Fork.dec (fun _ => ?_) (fun q => absurd hf0 q)
            conv => whnf
            refine Fork.ndec (fun q => absurd (hl3' hf0) q) (fun _ => ?_)
            conv => whnf
            refine Fork.dec (fun hg => ?_) (fun hg => ?_)
            · conv => whnf
              refine Idx.mk i rfl hi2 ?_
              conv => whnf
              refine optP_of (smp_nth0 hi2 rfl) ?_
              conv => whnf
              refine Fork.dec (fun h0 => ?_) (fun h0 => ?_)
              · conv => whnf
                refine Idx.mk i rfl hi2 ?_
                conv => whnf
                refine optP_of (smp_nth0 hi2 rfl) ?_
                conv => whnf
                have hx : (decide ((putF sz L M[i].1 M[i].2 1).2 = 8) == decide (M[i].1 < 1099511627776)) = true := by rw [beq_iff_eq, decide_eq_decide]; exact ⟨fun q => (hl4.1 q).2.2, fun q => hl4.2 ⟨hg, h0, q⟩⟩
                refine Fork.nsb (fun q => absurd q (by rw [hx]; decide)) (fun _ => ?_)
                conv => whnf
                refine Idx.mk i rfl hi2 ?_
                conv => whnf
                refine optP_of (smp_nth0 hi2 rfl) ?_
                conv => whnf
                refine Fork.dec (fun hT0 => ?_) (fun hT0 => ?_)
                · have hx : (decide ((putF sz L M[i].1 M[i].2 1).2 = 1) == true) = true := by rw [decide_eq_true (hl5.2 (.inl hT0))]; rfl
                  refine Fork.nsb (fun q => absurd q (by rw [hx]; decide)) (fun _ => ?_)
                  conv => whnf
                  refine Fork.dec (fun q => absurd q hused) (fun _ => ?_)
                  conv => whnf
                  exact ⟨⟨(i + 1, (putF sz L M[i].1 M[i].2 1).1), hi2, hF', hl6⟩, (show M.length - (i + 1) < M.length - i by omega), ho_cov (Nat.le_refl 0) rfl rfl (congrArg (AV.si .i64) hi1) ⟨_, rfl, chk_sub _ _⟩⟩
                · conv => whnf
                  refine Idx.mk i rfl hi2 ?_
                  conv => whnf
                  refine optP_of (smp_nth0 hi2 rfl) ?_
                  conv => whnf
                  have hx : (decide ((putF sz L M[i].1 M[i].2 1).2 = 1) == decide (1099511627776 ≤ M[i].1)) = true := by rw [beq_iff_eq, decide_eq_decide]; exact ⟨fun q => (hl5.1 q).resolve_left hT0, fun q => hl5.2 (.inr q)⟩
                  refine Fork.nsb (fun q => absurd q (by rw [hx]; decide)) (fun _ => ?_)
                  conv => whnf
                  refine Fork.dec (fun q => absurd q hused) (fun _ => ?_)
                  conv => whnf
                  exact ⟨⟨(i + 1, (putF sz L M[i].1 M[i].2 1).1), hi2, hF', hl6⟩, (show M.length - (i + 1) < M.length - i by omega), ho_cov (Nat.le_refl 0) rfl rfl (congrArg (AV.si .i64) hi1) ⟨_, rfl, chk_sub _ _⟩⟩
              · conv => whnf
                have hx : (decide ((putF sz L M[i].1 M[i].2 1).2 = 8) == false) = true := by rw [decide_eq_false (fun q => h0 (hl4.1 q).2.1)]; rfl
                refine Fork.nsb (fun q => absurd q (by rw [hx]; decide)) (fun _ => ?_)
                conv => whnf
                refine Idx.mk i rfl hi2 ?_
                conv => whnf
                refine optP_of (smp_nth0 hi2 rfl) ?_
                conv => whnf
                refine Fork.dec (fun hT0 => ?_) (fun hT0 => ?_)
                · have hx : (decide ((putF sz L M[i].1 M[i].2 1).2 = 1) == true) = true := by rw [decide_eq_true (hl5.2 (.inl hT0))]; rfl
                  refine Fork.nsb (fun q => absurd q (by rw [hx]; decide)) (fun _ => ?_)
                  conv => whnf
                  refine Fork.dec (fun q => absurd q hused) (fun _ => ?_)
                  conv => whnf
                  exact ⟨⟨(i + 1, (putF sz L M[i].1 M[i].2 1).1), hi2, hF', hl6⟩, (show M.length - (i + 1) < M.length - i by omega), ho_cov (Nat.le_refl 0) rfl rfl (congrArg (AV.si .i64) hi1) ⟨_, rfl, chk_sub _ _⟩⟩
                · conv => whnf
                  refine Idx.mk i rfl hi2 ?_
                  conv => whnf
                  refine optP_of (smp_nth0 hi2 rfl) ?_
                  conv => whnf
                  have hx : (decide ((putF sz L M[i].1 M[i].2 1).2 = 1) == decide (1099511627776 ≤ M[i].1)) = true := by rw [beq_iff_eq, decide_eq_decide]; exact ⟨fun q => (hl5.1 q).resolve_left hT0, fun q => hl5.2 (.inr q)⟩
                  refine Fork.nsb (fun q => absurd q (by rw [hx]; decide)) (fun _ => ?_)
                  conv => whnf
                  refine Fork.dec (fun q => absurd q hused) (fun _ => ?_)
                  conv => whnf
                  exact ⟨⟨(i + 1, (putF sz L M[i].1 M[i].2 1).1), hi2, hF', hl6⟩, (show M.length - (i + 1) < M.length - i by omega), ho_cov (Nat.le_refl 0) rfl rfl (congrArg (AV.si .i64) hi1) ⟨_, rfl, chk_sub _ _⟩⟩
            · conv => whnf
              have hx : (decide ((putF sz L M[i].1 M[i].2 1).2 = 8) == false) = true := by rw [decide_eq_false (fun q => hg (hl4.1 q).1)]; rfl
              refine Fork.nsb (fun q => absurd q (by rw [hx]; decide)) (fun _ => ?_)
              conv => whnf
              refine Idx.mk i rfl hi2 ?_
              conv => whnf
              refine optP_of (smp_nth0 hi2 rfl) ?_
              conv => whnf
              refine Fork.dec (fun hT0 => ?_) (fun hT0 => ?_)
              · have hx : (decide ((putF sz L M[i].1 M[i].2 1).2 = 1) == true) = true := by rw [decide_eq_true (hl5.2 (.inl hT0))]; rfl
                refine Fork.nsb (fun q => absurd q (by rw [hx]; decide)) (fun _ => ?_)
                conv => whnf
                refine Fork.dec (fun q => absurd q hused) (fun _ => ?_)
                conv => whnf
                exact ⟨⟨(i + 1, (putF sz L M[i].1 M[i].2 1).1), hi2, hF', hl6⟩, (show M.length - (i + 1) < M.length - i by omega), ho_cov (Nat.le_refl 0) rfl rfl (congrArg (AV.si .i64) hi1) ⟨_, rfl, chk_sub _ _⟩⟩
              · conv => whnf
                refine Idx.mk i rfl hi2 ?_
                conv => whnf
                refine optP_of (smp_nth0 hi2 rfl) ?_
                conv => whnf
                have hx : (decide ((putF sz L M[i].1 M[i].2 1).2 = 1) == decide (1099511627776 ≤ M[i].1)) = true := by rw [beq_iff_eq, decide_eq_decide]; exact ⟨fun q => (hl5.1 q).resolve_left hT0, fun q => hl5.2 (.inr q)⟩
                refine Fork.nsb (fun q => absurd q (by rw [hx]; decide)) (fun _ => ?_)
                conv => whnf
                refine Fork.dec (fun q => absurd q hused) (fun _ => ?_)
                conv => whnf
                exact ⟨⟨(i + 1, (putF sz L M[i].1 M[i].2 1).1), hi2, hF', hl6⟩, (show M.length - (i + 1) < M.length - i by omega), ho_cov (Nat.le_refl 0) rfl rfl (congrArg (AV.si .i64) hi1) ⟨_, rfl, chk_sub _ _⟩⟩
      · conv => whnf
        exact .inl rfl
    · conv => whnf
      exact .inl rfl
end Go.Proofs.Ytpfflibkkjjlaaa
namespace Go.Proofs.Ytpfflibkkjjlaaa
open Go Go.RowKit
theorem u16_rng {z : Int} (h : (Lit.int .u16 z).wf = true) : 0 ≤ z ∧ z ≤ 65535 := by
  simp [Lit.wf, IntKind.min, IntKind.max, IntKind.signed, IntKind.bits] at h
  omega
end Go.Proofs.Ytpfflibkkjjlaaa
namespace Go.Proofs.Ytpfflibkkjjlaaa
open Go Go.RowKit
set_option maxRecDepth 20000
/-! ### rows of truths -/
def sbs (B : List Bool) : List AV := B.map AV.sb
theorem sbs_length (B : List Bool) : (sbs B).length = B.length := by simp [sbs]
theorem sbs_flat (B : List Bool) : (sbs B).all flat.flat1 = true := by
  induction B with
  | nil => rfl
  | cons x B ih => exact ih
theorem sbs_map (B : List Bool) : (sbs B).map mk = sbs B := by simp [sbs, mk]
theorem sbs_app (A B : List Bool) : sbs (A ++ B) = sbs A ++ sbs B := by simp [sbs]
theorem sbs_one (B : List Bool) : (sbs B).all one1 = true := by
  induction B with
  | nil => rfl
  | cons x B ih => exact ih
theorem sbs_whole (B : List Bool) {m : Nat} (h : B.length = m) : subL (sbs B) 0 (m * 1) = some (sbs B) := subL_all (by rw [sbs_length]; omega)
theorem tyBl : RTy 81 81 1 1 := ⟨_, _, _, rfl, rfl, (fun q h => by cases h), rfl, rfl, rfl, rfl, by decide, by decide⟩
theorem frG_sl {m k j b c kk : Nat} {l s : List AV} {z : Bool} {u : AV} {H' : AH} (h1 : hd u = .sl b 0 j c kk) (hj : j = m) (hc : j ≤ c) (hb : H'.get b = some (.cells l z)) (hl : l.map mk = s.map mk) (hs : s.length = m * k) : FrG m k s u H' := by
  subst hj
  exact .inr (.inr (.inr ⟨b, 0, c, kk, l, z, l, h1, hc, hb, subL_all (by have := congrArg List.length hl; simp only [List.length_map] at this; omega), hl⟩))
section
variable {φ ψ : Ph} {H : AH} {n : Nat} {h0 hp : Hp}
/-- A run that yields a row, of which not all is known: it is frozen. -/
theorem smallFrE {f : FuncId} {run : List AV → AH → Nat → PK → Prop} (hrun : NatP f run) {args0 : List AV} {H0 : AH} {n0 m k : Nat} {P : List AV → Prop} (hP : ∀ s, P s → s.all flat.flat1 = true ∧ s.length = m * k) (h : run args0 H0 n0 fun u H' _ => ∃ s, P s ∧ FrG m k s u H')
    {vs : Array Value} {κ : PK} {K : KH} (hk' : ∀ s, P s → κ (.fr m k s) H n) (hr : HR φ H n h0 hp) (hk : ThenP φ h0 κ K) (hic : isCall Try.prog f = true) {φ0 : Ph} (hr0 : Wf hp → HR φ0 H0 n0 hp hp) (hy : φ0.y = φ.z) (hargs : VRs φ0 args0 vs.toList) : CallF Try.prog f vs hp K := by
  have key : Wf hp → CallF Try.prog f vs hp K := fun hw => hrun args0 H0 n0 _ h φ0 hp hp vs K (hr0 hw) hargs fun ψ u H' n' w g hle hg hu ⟨s, hs, he⟩ => by
    obtain ⟨χ, h1, h2, h3⟩ := frozen_use hr hg (fun q hq => hy ▸ hle.y q hq) (hP s hs).1 (hP s hs).2 hu he
    exact hk χ _ H n w g h1 h2 h3 (hk' s hs)
  exact ⟨hic, fun w hi => (key hi.wf).2 w hi⟩
end
/-! ### a number in bits -/
def natRB (args : List AV) (H : AH) (n : Nat) (κ : PK) : Prop := match args with
  | [x, y] => ∃ (u : Int) (m : Nat), mk x = .si .u64 u ∧ mk y = .si .i64 (m : Int) ∧ m ≤ 1000 ∧ ∀ B : List Bool, B.length = m → κ (.fr m 1 (sbs B)) H n
  | _ => False
noncomputable def rb (u : Int) (m : Nat) (B : List Bool) : AE × AH := (mkE [(0, .si .u64 u), (1, .si .i64 (((m : Nat) : Int))), (5, .rw 0 0 B.length 1 0), (6, .si .i64 (((B.length : Nat) : Int)))], mkH [(0, .cells (sbs (B)) true)])
theorem rb_cov {u : Int} {m : Nat} {B : List Bool} {p n : Nat} {σ : AE} {H : AH} (j0 : Nat) (hp : p ≤ 0) (e0 : SubV H 1 (fun b => if b = 0 then j0 else b) (getq (pa 0) σ) (.si .u64 u)) (e1 : mk (getq (pa 1) σ) = .si .i64 (((m : Nat) : Int))) (e5 : SubV H 1 (fun b => if b = 0 then j0 else b) (getq (pa 5) σ) (.rw 0 0 B.length 1 0)) (e6 : mk (getq (pa 6) σ) = .si .i64 (((B.length : Nat) : Int))) (h0 : (∃ l, H.get j0 = some (.cells l true) ∧ l.map mk = sbs (B)) ∨ ((B) = [] ∧ n ≤ j0)) : Cov p σ H n ((rb u m B).1, (rb u m B).2, 1) := by
  refine Cov.ofR (fun b => if b = 0 then j0 else b) (by omega) (fun b hb => by repeat' rw [if_neg (by omega)]) ?_ ?_ ?_
  · intro x hx
    simp only [List.mem_cons, List.not_mem_nil, or_false] at hx
    rcases hx with rfl | rfl | rfl | rfl
    · exact e0
    · exact .int e1
    · exact e5
    · exact .int e6
  · intro x hx
    simp only [List.mem_cons, List.not_mem_nil, or_false] at hx
    subst hx
    exact ⟨by simp, h0.elim (fun ⟨l, h, g⟩ => .inl ⟨_, h, SubO.cells_mk (sbs_flat _) (by rw [g, sbs_map]) (fun q => q)⟩) (fun h => .inr ⟨by rw [h.1]; rfl, h.2⟩)⟩
  · intro x hx y hy
    simp only [List.mem_cons, List.not_mem_nil, or_false] at hx hy
    subst hx hy
    exact fun q => rfl
noncomputable def rbi (u : Int) (m : Nat) (B : List Bool) (k : Nat) (v : Int) : AE × AH := (mkE [(0, .si .u64 u), (1, .si .i64 (((m : Nat) : Int))), (5, .rw 0 0 B.length 1 0), (6, .si .i64 (((B.length : Nat) : Int))), (7, .si .u64 v), (8, .si .i64 (((k : Nat) : Int)))], mkH [(0, .cells (sbs (B)) true)])
theorem rbi_cov {u : Int} {m : Nat} {B : List Bool} {k : Nat} {v : Int} {p n : Nat} {σ : AE} {H : AH} (j0 : Nat) (hp : p ≤ 0) (e0 : SubV H 1 (fun b => if b = 0 then j0 else b) (getq (pa 0) σ) (.si .u64 u)) (e1 : mk (getq (pa 1) σ) = .si .i64 (((m : Nat) : Int))) (e5 : SubV H 1 (fun b => if b = 0 then j0 else b) (getq (pa 5) σ) (.rw 0 0 B.length 1 0)) (e6 : mk (getq (pa 6) σ) = .si .i64 (((B.length : Nat) : Int))) (e7 : SubV H 1 (fun b => if b = 0 then j0 else b) (getq (pa 7) σ) (.si .u64 v)) (e8 : mk (getq (pa 8) σ) = .si .i64 (((k : Nat) : Int))) (h0 : (∃ l, H.get j0 = some (.cells l true) ∧ l.map mk = sbs (B)) ∨ ((B) = [] ∧ n ≤ j0)) : Cov p σ H n ((rbi u m B k v).1, (rbi u m B k v).2, 1) := by
  refine Cov.ofR (fun b => if b = 0 then j0 else b) (by omega) (fun b hb => by repeat' rw [if_neg (by omega)]) ?_ ?_ ?_
  · intro x hx
    simp only [List.mem_cons, List.not_mem_nil, or_false] at hx
    rcases hx with rfl | rfl | rfl | rfl | rfl | rfl
    · exact e0
    · exact .int e1
    · exact e5
    · exact .int e6
    · exact e7
    · exact .int e8
  · intro x hx
    simp only [List.mem_cons, List.not_mem_nil, or_false] at hx
    subst hx
    exact ⟨by simp, h0.elim (fun ⟨l, h, g⟩ => .inl ⟨_, h, SubO.cells_mk (sbs_flat _) (by rw [g, sbs_map]) (fun q => q)⟩) (fun h => .inr ⟨by rw [h.1]; rfl, h.2⟩)⟩
  · intro x hx y hy
    simp only [List.mem_cons, List.not_mem_nil, or_false] at hx hy
    subst hx hy
    exact fun q => rfl
noncomputable def KRB : FuncId → EP := withD 56 [] evP
theorem KRB_ok : TabP KRB := withD_ok evP_ok (by kernel_rfl) (by kernel_rfl)
set_option maxHeartbeats 4000000 in
set_option maxRecDepth 100000 in
theorem rb_run (u : Int) (m : Nat) (hm : m ≤ 1000) : callT KRB 3 56 [.si .u64 u, .si .i64 (m : Int)] .nil 0 fun w H' _ => ∃ s, (∃ B : List Bool, s = sbs B ∧ B.length = m) ∧ FrG m 1 s w H' := by
  conv => whnf
  refine LoopP.mk { B : List Bool // B.length ≤ m } 1 (fun B => rb u m B.val) (fun B => m - B.val.length) ⟨[], Nat.zero_le _⟩ ?_ ?_
  · exact rb_cov (j0 := 0) (Nat.le_refl 0) (.int rfl) rfl (.nslRw rfl) rfl (.inr ⟨rfl, Nat.le_refl _⟩)
  · intro ⟨B, hB⟩
    have hrow := sbs_whole B rfl
    conv => whnf
    refine Fork.dec (fun h => ?_) (fun h => ?_)
    · have h2 : B.length < m := by exact Int.ofNat_lt.1 h
      have hbig : (B.length + 1) * 1 ≤ 140737488355328 := by omega
      have hi1 : IntKind.i64.wrap ((B.length : Int) + 1) = ((B.length + 1 : Nat) : Int) := W64_of ⟨by omega, by omega⟩
      have hmw : IntKind.i64.wrap ((m : Int) - 1) = (m : Int) - 1 := W64_of ⟨by omega, by omega⟩
      conv => whnf
      refine LoopP.mk { x : Nat × Int // x.1 ≤ m } 1 (fun x => rbi u m B x.val.1 x.val.2) (fun x => m - x.val.1) ⟨(B.length, u), hB⟩ ?_ ?_
      · exact rbi_cov (j0 := 0) (Nat.le_refl 0) (.int rfl) rfl (SubV.rw (by decide) rfl) rfl (.int rfl) rfl (.inl ⟨_, rfl, sbs_map _⟩)
      · intro ⟨(k, v), hk⟩
        dsimp only at hk
        conv => whnf
        refine Fork.dec (fun h3 => ?_) (fun h3 => ?_)
        · have h5 : (k : Int) < (m : Int) - 1 := by rw [hmw] at h3; exact h3
          have h4 : k + 1 ≤ m := by omega
          have hk1 : IntKind.i64.wrap ((k : Int) + 1) = ((k + 1 : Nat) : Int) := W64_of ⟨by omega, by omega⟩
          conv => whnf
          exact ⟨⟨(k + 1, IntKind.u64.wrap (v.tdiv 2)), h4⟩, (show m - (k + 1) < m - k by omega), rbi_cov (j0 := 0) (Nat.le_refl 0) (.int rfl) rfl (SubV.rw (by decide) rfl) rfl (.int rfl) (congrArg (AV.si .i64) hk1) (.inl ⟨_, rfl, sbs_map _⟩)⟩
        · have hlen : B.length + 1 = (B ++ [decide (v.tmod 2 = 1)]).length := by simp
          have hmap : (sbs B ++ [AV.sb (decide (v.tmod 2 = 1))]).map mk = sbs (B ++ [decide (v.tmod 2 = 1)]) := by rw [sbs_app, List.map_append, sbs_map]; rfl
          have hi2 : AV.si .i64 (IntKind.i64.wrap ((B.length : Int) + 1)) = .si .i64 (((B ++ [decide (v.tmod 2 = 1)]).length : Nat) : Int) := by rw [hi1, hlen]
          conv => whnf
          refine RApp.grow 1 1 _ _ _ _ _ _ tyBl (.old rfl) rfl rfl (.rw rfl hrow) hbig ?_
          conv => whnf
          exact ⟨⟨B ++ [decide (v.tmod 2 = 1)], by rw [← hlen]; exact h2⟩, (show m - (B ++ [decide (v.tmod 2 = 1)]).length < m - B.length by omega), rb_cov (j0 := 2) (Nat.le_refl 0) (.int rfl) rfl (SubV.rw (by decide) rfl (hn := hlen)) hi2 (.inl ⟨_, rfl, hmap⟩)⟩
    · have h2 : B.length = m := by have : ¬ B.length < m := fun q => h (Int.ofNat_lt.2 q); omega
      have hl : (sbs B).map mk = (sbs B).map mk := rfl
      have hs : (sbs B).length = m * 1 := by rw [sbs_length]; omega
      conv => whnf
      exact ⟨sbs B, ⟨B, rfl, h2⟩, frG_row rfl h2 rfl rfl hs⟩
theorem n_rb : NatP 56 natRB := fun args H n κ hs φ h0' hp vs K hr hargs hk => by
  unfold natRB at hs
  split at hs
  · obtain ⟨x, y, rfl, e1, e2⟩ := vs2 hargs
    obtain ⟨u, m, hx, hy, hm, hs⟩ := hs
    refine smallFrE (callT_nat KRB_ok 3 _) (P := fun s => ∃ B : List Bool, s = sbs B ∧ B.length = m) (fun s ⟨B, h1, h2⟩ => ?_) (rb_run u m hm) (fun s ⟨B, h1, h2⟩ => ?_) hr hk (by kernel_rfl) (φ0 := ⟨fun _ => none, φ.z, φ.z⟩) (fun hw => hr.withz (start_none hw) (fun _ _ h => by cases h) (fun _ h => h)) rfl
      (.cons (flat1_VR rfl (hx ▸ e1.mk)) (.cons (flat1_VR rfl (hy ▸ e2.mk)) .nil))
    · subst h1; exact ⟨sbs_flat _, by rw [sbs_length]; omega⟩
    · subst h1; exact hs B h2
  · exact hs.elim
/-! ### a number's code -/
theorem codeB_l0 {U : Nat} (h : U = 0) : (codeB U).length = 1 := by unfold codeB; rw [if_pos h]; rfl
theorem codeB_l1 {U : Nat} (h0 : ¬ U = 0) (h : U < 128) : (codeB U).length = 2 + 7 := by unfold codeB; rw [if_neg h0, if_pos h, List.length_append, bitsOf_length]; rfl
theorem codeB_l2 {U : Nat} (h0 : ¬ U = 0) (h1 : ¬ U < 128) (h : U < 4096) : (codeB U).length = 3 + 12 := by unfold codeB; rw [if_neg h0, if_neg h1, if_pos h, List.length_append, bitsOf_length]; rfl
theorem codeB_l3 {U : Nat} (h0 : ¬ U = 0) (h1 : ¬ U < 128) (h2 : ¬ U < 4096) (h : U < 16777216) : (codeB U).length = 4 + 24 := by unfold codeB; rw [if_neg h0, if_neg h1, if_neg h2, if_pos h, List.length_append, bitsOf_length]; rfl
theorem codeB_l4 {U : Nat} (h0 : ¬ U = 0) (h1 : ¬ U < 128) (h2 : ¬ U < 4096) (h3 : ¬ U < 16777216) : (codeB U).length = 4 + 64 := by unfold codeB; rw [if_neg h0, if_neg h1, if_neg h2, if_neg h3, List.length_append, bitsOf_length]; rfl
def natCd (args : List AV) (H : AH) (n : Nat) (κ : PK) : Prop := match args with
  | [x] => ∃ U : Nat, mk x = .si .u64 (U : Int) ∧ ∀ B : List Bool, B.length = (codeB U).length → κ (.fr (codeB U).length 1 (sbs B)) H n
  | _ => False
noncomputable def KCd : FuncId → EP := withN 56 natRB evP
theorem KCd_ok : TabP KCd := withN_ok evP_ok n_rb
/-- A head of truths, and more. -/
theorem cdLeaf {j U : Nat} {A B : List Bool} {l : List AV} {b : Nat} {z : Bool} {H' : AH} {w : AV} (hm : (codeB U).length = j) (h1 : w = .rw b 0 j 1 0) (hb : H'.get b = some (.cells l z)) (hl : l.map mk = sbs (A ++ B)) (hA : A.length + B.length = j) : ∃ s, (∃ B : List Bool, s = sbs B ∧ B.length = (codeB U).length) ∧ FrG (codeB U).length 1 s w H' :=
  ⟨sbs (A ++ B), ⟨A ++ B, rfl, by rw [List.length_append, hm, hA]⟩, frG_row h1 hm.symm hb (by rw [hl, sbs_map]) (by rw [sbs_length, List.length_append, hm, hA]; omega)⟩
set_option maxHeartbeats 4000000 in
set_option maxRecDepth 100000 in
theorem code_run (U : Nat) : callT KCd 3 57 [.si .u64 (U : Int)] .nil 0 fun w H' _ => ∃ s, (∃ B : List Bool, s = sbs B ∧ B.length = (codeB U).length) ∧ FrG (codeB U).length 1 s w H' := by
  conv => whnf
  refine Fork.dec (fun h0 => ?_) (fun h0 => ?_)
  · have hl := codeB_l0 (Int.ofNat_inj.1 h0)
    conv => whnf
    exact ⟨sbs [false], ⟨[false], rfl, hl.symm⟩, frG_sl rfl hl.symm (Nat.le_refl _) rfl rfl (by rw [hl]; rfl)⟩
  have h0 : ¬ U = 0 := fun q => h0 (Int.ofNat_inj.2 q)
  conv => whnf
  refine Fork.dec (fun h1 => ?_) (fun h1 => ?_)
  · have hl := codeB_l1 h0 (by omega)
    conv => whnf
    refine ⟨_, 7, rfl, rfl, by decide, fun B hB => ?_⟩
    have hnew : (sbs B).length = 7 * 1 := by rw [sbs_length, hB]
    have hmap : ([AV.bool true, .bool false] ++ sbs B).map mk = sbs ([true, false] ++ B) := by rw [sbs_app, List.map_append, sbs_map]; rfl
    have hA : [true, false].length + B.length = 2 + 7 := by rw [hB]; rfl
    conv => whnf
    refine RApp.grow 1 1 _ _ _ _ _ _ tyBl .fr hnew (sbs_one B) (.sl rfl rfl (Nat.le_refl _) (Nat.le_refl _)) (by decide) ?_
    conv => whnf
    exact cdLeaf (A := [true, false]) (B := B) hl rfl rfl hmap hA
  have h1 : ¬ U < 128 := by omega
  conv => whnf
  refine Fork.dec (fun h2 => ?_) (fun h2 => ?_)
  · have hl := codeB_l2 h0 h1 (by omega)
    conv => whnf
    refine ⟨_, 12, rfl, rfl, by decide, fun B hB => ?_⟩
    have hnew : (sbs B).length = 12 * 1 := by rw [sbs_length, hB]
    have hmap : ([AV.bool true, .bool true, .bool false] ++ sbs B).map mk = sbs ([true, true, false] ++ B) := by rw [sbs_app, List.map_append, sbs_map]; rfl
    have hA : [true, true, false].length + B.length = 3 + 12 := by rw [hB]; rfl
    conv => whnf
    refine RApp.grow 1 1 _ _ _ _ _ _ tyBl .fr hnew (sbs_one B) (.sl rfl rfl (Nat.le_refl _) (Nat.le_refl _)) (by decide) ?_
    conv => whnf
    exact cdLeaf (A := [true, true, false]) (B := B) hl rfl rfl hmap hA
  have h2 : ¬ U < 4096 := by omega
  conv => whnf
  refine Fork.dec (fun h3 => ?_) (fun h3 => ?_)
  · have hl := codeB_l3 h0 h1 h2 (by omega)
    conv => whnf
    refine ⟨_, 24, rfl, rfl, by decide, fun B hB => ?_⟩
    have hnew : (sbs B).length = 24 * 1 := by rw [sbs_length, hB]
    have hmap : ([AV.bool true, .bool true, .bool true, .bool false] ++ sbs B).map mk = sbs ([true, true, true, false] ++ B) := by rw [sbs_app, List.map_append, sbs_map]; rfl
    have hA : [true, true, true, false].length + B.length = 4 + 24 := by rw [hB]; rfl
    conv => whnf
    refine RApp.grow 1 1 _ _ _ _ _ _ tyBl .fr hnew (sbs_one B) (.sl rfl rfl (Nat.le_refl _) (Nat.le_refl _)) (by decide) ?_
    conv => whnf
    exact cdLeaf (A := [true, true, true, false]) (B := B) hl rfl rfl hmap hA
  have h3 : ¬ U < 16777216 := by omega
  have hl := codeB_l4 h0 h1 h2 h3
  conv => whnf
  refine ⟨_, 64, rfl, rfl, by decide, fun B hB => ?_⟩
  have hnew : (sbs B).length = 64 * 1 := by rw [sbs_length, hB]
  have hmap : ([AV.bool true, .bool true, .bool true, .bool true] ++ sbs B).map mk = sbs ([true, true, true, true] ++ B) := by rw [sbs_app, List.map_append, sbs_map]; rfl
  have hA : [true, true, true, true].length + B.length = 4 + 64 := by rw [hB]; rfl
  conv => whnf
  refine RApp.grow 1 1 _ _ _ _ _ _ tyBl .fr hnew (sbs_one B) (.sl rfl rfl (Nat.le_refl _) (Nat.le_refl _)) (by decide) ?_
  conv => whnf
  exact cdLeaf (A := [true, true, true, true]) (B := B) hl rfl rfl hmap hA
theorem n_code : NatP 57 natCd := fun args H n κ hs φ h0' hp vs K hr hargs hk => by
  unfold natCd at hs
  split at hs
  · obtain ⟨x, rfl, e1⟩ := vs1 hargs
    obtain ⟨U, hx, hs⟩ := hs
    refine smallFrE (callT_nat KCd_ok 3 _) (P := fun s => ∃ B : List Bool, s = sbs B ∧ B.length = (codeB U).length) (fun s ⟨B, h1, h2⟩ => ?_) (code_run U) (fun s ⟨B, h1, h2⟩ => ?_) hr hk (by kernel_rfl) (φ0 := ⟨fun _ => none, φ.z, φ.z⟩) (fun hw => hr.withz (start_none hw) (fun _ _ h => by cases h) (fun _ h => h)) rfl
      (.cons (flat1_VR rfl (hx ▸ e1.mk)) .nil)
    · subst h1; exact ⟨sbs_flat _, by rw [sbs_length]; omega⟩
    · subst h1; exact hs B h2
  · exact hs.elim
/-! ### a number that may be below 0 as one that is not -/
theorem zig_run (z : Int) (hz : In64 z) : callT evP 3 58 [.si .i64 z] .nil 0 fun u _ _ => mkT u = mkT (.si .u64 ((zigN z : Nat) : Int)) := by
  have e1 : 0 ≤ z → AV.si .u64 (IntKind.u64.wrap (2 * IntKind.u64.wrap z)) = .si .u64 ((zigN z : Nat) : Int) := fun h => by
    unfold In64 at hz; unfold zigN; rw [if_pos h, wrap_u64, wrap_u64]; congr 1; omega
  have e2 : ¬ 0 ≤ z → AV.si .u64 (IntKind.u64.wrap (IntKind.u64.wrap (2 * IntKind.u64.wrap (IntKind.i64.wrap (0 - IntKind.i64.wrap (z + 1)))) + 1)) = .si .u64 ((zigN z : Nat) : Int) := fun h => by
    have h1 : IntKind.i64.wrap (z + 1) = z + 1 := W64_of (by unfold In64 at *; omega)
    have h2 : IntKind.i64.wrap (0 - (z + 1)) = 0 - (z + 1) := W64_of (by unfold In64 at *; omega)
    unfold In64 at hz; unfold zigN; rw [if_neg h, h1, h2, wrap_u64, wrap_u64, wrap_u64]; congr 1; omega
  conv => whnf
  refine Fork.dec (fun h => ?_) (fun h => ?_)
  · have e := e1 h
    conv => whnf
    exact e
  · have e := e2 h
    conv => whnf
    exact e
def natZg (args : List AV) (H : AH) (n : Nat) (κ : PK) : Prop := match args with
  | [x] => ∃ z : Int, mk x = .si .i64 z ∧ In64 z ∧ κ (.si .u64 ((zigN z : Nat) : Int)) H n
  | _ => False
theorem n_zig : NatP 58 natZg := fun args H n κ hs φ h0' hp vs K hr hargs hk => by
  unfold natZg at hs
  split at hs
  · obtain ⟨x, rfl, e1⟩ := vs1 hargs
    obtain ⟨z, h1, h2, hs⟩ := hs
    exact pureN (v := .si .u64 ((zigN z : Nat) : Int)) evP_ok rfl rfl (zig_run z h2) hs hr (.cons (flat1_VR rfl (h1 ▸ e1.mk)) .nil) hk
  · exact hs.elim
/-! ### samples in bits -/
noncomputable def re (L : Smp) (B : List Bool) (i : Nat) : AE × AH := (mkE [(0, .fr L.length 2 (smp L)), (3, .rw 0 0 B.length 1 0), (4, .si .i64 (stepAt L i)), (5, .si .i64 (((i : Nat) : Int)))], mkH [(0, .cells (sbs (B)) true)])
theorem re_cov {L : Smp} {B : List Bool} {i : Nat} {p n : Nat} {σ : AE} {H : AH} (j0 : Nat) (hp : p ≤ 0) (e0 : getq (pa 0) σ = .fr L.length 2 (smp L)) (e3 : SubV H 1 (fun b => if b = 0 then j0 else b) (getq (pa 3) σ) (.rw 0 0 B.length 1 0)) (e4 : mk (getq (pa 4) σ) = .si .i64 (stepAt L i)) (e5 : mk (getq (pa 5) σ) = .si .i64 (((i : Nat) : Int))) (h0 : (∃ l, H.get j0 = some (.cells l true) ∧ l.map mk = sbs (B)) ∨ ((B) = [] ∧ n ≤ j0)) : Cov p σ H n ((re L B i).1, (re L B i).2, 1) := by
  refine Cov.ofR (fun b => if b = 0 then j0 else b) (by omega) (fun b hb => by repeat' rw [if_neg (by omega)]) ?_ ?_ ?_
  · intro x hx
    simp only [List.mem_cons, List.not_mem_nil, or_false] at hx
    rcases hx with rfl | rfl | rfl | rfl
    · exact SubV.frE e0
    · exact e3
    · exact .int e4
    · exact .int e5
  · intro x hx
    simp only [List.mem_cons, List.not_mem_nil, or_false] at hx
    subst hx
    exact ⟨by simp, h0.elim (fun ⟨l, h, g⟩ => .inl ⟨_, h, SubO.cells_mk (sbs_flat _) (by rw [g, sbs_map]) (fun q => q)⟩) (fun h => .inr ⟨by rw [h.1]; rfl, h.2⟩)⟩
  · intro x hx y hy
    simp only [List.mem_cons, List.not_mem_nil, or_false] at hx hy
    subst hx hy
    exact fun q => rfl
noncomputable def KRE : FuncId → EP := withD 46 [] (withN 56 natRB (withN 57 natCd (withN 58 natZg evP)))
theorem KRE_ok : TabP KRE := withD_ok (withN_ok (withN_ok (withN_ok evP_ok n_zig) n_code) n_rb) (by kernel_rfl) (by kernel_rfl)
set_option maxHeartbeats 4000000 in
set_option maxRecDepth 100000 in
theorem renc_run (L : Smp) (hL : L.length ≤ 100000) : callT KRE 3 46 [.fr L.length 2 (smp L)] .nil 0 fun w H' _ => ∃ s, (∃ B : List Bool, s = sbs B ∧ B.length = (encB L).length) ∧ FrG (encB L).length 1 s w H' := by
  conv => whnf
  refine LoopP.mk { x : Nat × List Bool // x.1 ≤ L.length ∧ x.2.length = (encTo L x.1).length } 1 (fun x => re L x.val.2 x.val.1) (fun x => L.length - x.val.1) ⟨(0, []), Nat.zero_le _, rfl⟩ ?_ ?_
  · exact re_cov (j0 := 0) (Nat.le_refl 0) rfl (.nslRw rfl) rfl rfl (.inr ⟨rfl, Nat.le_refl _⟩)
  · intro ⟨(i, B), hi, hB⟩
    dsimp only at hi hB
    have hrow := sbs_whole B rfl
    have hBl : B.length ≤ 13600000 := by rw [hB]; exact Nat.le_trans (encTo_len L i) (by omega)
    conv => whnf
    refine Fork.dec (fun h => ?_) (fun h => ?_)
    · have hi2 : i < L.length := by exact Int.ofNat_lt.1 h
      have ht : L[i].1 = tAt L i := (tAt_of hi2).symm
      have hv : L[i].2 = vAt L i := (vAt_of hi2).symm
      have hi1 : IntKind.i64.wrap ((i : Int) + 1) = ((i + 1 : Nat) : Int) := W64_of ⟨by omega, by omega⟩
      conv => whnf
      refine Fork.dec (fun h0 => ?_) (fun h0 => ?_)
      · have h0 : i = 0 := by exact Int.ofNat_inj.1 h0
        subst h0
        have hb1 : (B.length + 64) * 1 ≤ 140737488355328 := by omega
        have hb2 : (B.length + 64 + 64) * 1 ≤ 140737488355328 := by omega
        conv => whnf
        refine Idx.mk 0 rfl hi2 ?_
        conv => whnf
        refine optP_of (smp_nth0 hi2 rfl) ?_
        conv => whnf
        refine ⟨_, 64, rfl, rfl, by decide, fun C hC => ?_⟩
        have hnC : (sbs C).length = 64 * 1 := by rw [sbs_length, hC]
        conv => whnf
        refine RApp.grow 1 1 _ _ _ _ _ _ tyBl .fr hnC (sbs_one C) (.rw rfl hrow) hb1 ?_
        conv => whnf
        refine Idx.mk 0 rfl hi2 ?_
        conv => whnf
        refine optP_of (smp_nth1 hi2 rfl) ?_
        conv => whnf
        refine ⟨_, 64, rfl, rfl, by decide, fun D hD => ?_⟩
        have hnD : (sbs D).length = 64 * 1 := by rw [sbs_length, hD]
        have hrow2 : subL (sbs B ++ sbs C) 0 ((B.length + 64) * 1) = some (sbs B ++ sbs C) := by rw [← sbs_app]; exact sbs_whole (B ++ C) (by rw [List.length_append, hC])
        have hlen : B.length + 64 + 64 = (B ++ C ++ D).length := by rw [List.length_append, List.length_append, hC, hD]
        have hmap : (sbs B ++ sbs C ++ sbs D).map mk = sbs (B ++ C ++ D) := by rw [← sbs_app, ← sbs_app, sbs_map]
        have henc : (B ++ C ++ D).length = (encTo L (0 + 1)).length := by rw [← hlen, ← samp0, List.length_append, List.length_append, bitsOf_length, bitsOf_length, hB]
        conv => whnf
        refine RApp.grow 1 1 _ _ _ _ _ _ tyBl .fr hnD (sbs_one D) (.rw rfl hrow2) hb2 ?_
        conv => whnf
        exact ⟨⟨(0 + 1, B ++ C ++ D), hi2, henc⟩, (show L.length - (0 + 1) < L.length - 0 by omega), re_cov (j0 := 2) (Nat.le_refl 0) rfl (SubV.rw (by decide) rfl (hn := hlen)) rfl (congrArg (AV.si .i64) hi1) (.inl ⟨_, rfl, hmap⟩)⟩
      · have h0 : i ≠ 0 := fun q => h0 (by exact Int.ofNat_inj.2 q)
        have hp : i - 1 < L.length := by omega
        have hpw : IntKind.i64.wrap ((i : Int) - 1) = ((i - 1 : Nat) : Int) := (W64_of ⟨by omega, by omega⟩).trans (by omega)
        have ht1 : L[i - 1].1 = tAt L (i - 1) := (tAt_of hp).symm
        have hv1 : L[i - 1].2 = vAt L (i - 1) := (vAt_of hp).symm
        have hst : AV.si .i64 (IntKind.i64.wrap (L[i].1 - L[i - 1].1)) = .si .i64 (stepAt L (i + 1)) := by
          unfold stepAt; rw [if_neg (by omega), ht, ht1]; rfl
        have hu0 : AV.si .u64 ((zigN (IntKind.i64.wrap (IntKind.i64.wrap (L[i].1 - L[i - 1].1) - stepAt L i)) : Nat) : Int) = .si .u64 ((dT L i : Nat) : Int) := by unfold dT; rw [ht, ht1]
        have hu1 : AV.si .u64 ((zigN (IntKind.i64.wrap (L[i].2 - L[i - 1].2)) : Nat) : Int) = .si .u64 ((dV L i : Nat) : Int) := by unfold dV; rw [hv, hv1]
        have hcT := (codeB_len (dT L i)).1
        have hcV := (codeB_len (dV L i)).1
        have hb1 : (B.length + (codeB (dT L i)).length) * 1 ≤ 140737488355328 := by omega
        have hb2 : (B.length + (codeB (dT L i)).length + (codeB (dV L i)).length) * 1 ≤ 140737488355328 := by omega
        conv => whnf
        refine Idx.mk i rfl hi2 ?_
        conv => whnf
        refine optP_of (smp_nth0 hi2 rfl) ?_
        conv => whnf
        refine Idx.mk (i - 1) hpw hp ?_
        conv => whnf
        refine optP_of (smp_nth0 hp rfl) ?_
        conv => whnf
        refine ⟨_, rfl, W64_in _, ?_⟩
        conv => whnf
        refine ⟨dT L i, hu0, fun C hC => ?_⟩
        have hnC : (sbs C).length = (codeB (dT L i)).length * 1 := by rw [sbs_length, hC, Nat.mul_one]
        conv => whnf
        refine RApp.grow 1 1 _ _ _ _ _ _ tyBl .fr hnC (sbs_one C) (.rw rfl hrow) hb1 ?_
        conv => whnf
        refine Idx.mk i rfl hi2 ?_
        conv => whnf
        refine optP_of (smp_nth1 hi2 rfl) ?_
        conv => whnf
        refine Idx.mk (i - 1) hpw hp ?_
        conv => whnf
        refine optP_of (smp_nth1 hp rfl) ?_
        conv => whnf
        refine ⟨_, rfl, W64_in _, ?_⟩
        conv => whnf
        refine ⟨dV L i, hu1, fun D hD => ?_⟩
        have hnD : (sbs D).length = (codeB (dV L i)).length * 1 := by rw [sbs_length, hD, Nat.mul_one]
        have hrow2 : subL (sbs B ++ sbs C) 0 ((B.length + (codeB (dT L i)).length) * 1) = some (sbs B ++ sbs C) := by rw [← sbs_app]; exact sbs_whole (B ++ C) (by rw [List.length_append, hC])
        have hlen : B.length + (codeB (dT L i)).length + (codeB (dV L i)).length = (B ++ C ++ D).length := by rw [List.length_append, List.length_append, hC, hD]
        have hmap : (sbs B ++ sbs C ++ sbs D).map mk = sbs (B ++ C ++ D) := by rw [← sbs_app, ← sbs_app, sbs_map]
        have henc : (B ++ C ++ D).length = (encTo L (i + 1)).length := by rw [← hlen, ← sampS L h0, List.length_append, List.length_append, hB]
        conv => whnf
        refine RApp.grow 1 1 _ _ _ _ _ _ tyBl .fr hnD (sbs_one D) (.rw rfl hrow2) hb2 ?_
        conv => whnf
        exact ⟨⟨(i + 1, B ++ C ++ D), hi2, henc⟩, (show L.length - (i + 1) < L.length - i by omega), re_cov (j0 := 2) (Nat.le_refl 0) rfl (SubV.rw (by decide) rfl (hn := hlen)) hst (congrArg (AV.si .i64) hi1) (.inl ⟨_, rfl, hmap⟩)⟩
    · have hi3 : i = L.length := by have : ¬ i < L.length := fun q => h (Int.ofNat_lt.2 q); omega
      have hB2 : B.length = (encB L).length := by rw [hB, hi3]; rfl
      have hs : (sbs B).length = (encB L).length * 1 := by rw [sbs_length, hB2, Nat.mul_one]
      conv => whnf
      exact ⟨sbs B, ⟨B, rfl, hB2⟩, frG_row rfl hB2 rfl rfl hs⟩
def natRE (args : List AV) (H : AH) (n : Nat) (κ : PK) : Prop := match args with
  | [x] => ∃ L : Smp, x = .fr L.length 2 (smp L) ∧ L.length ≤ 100000 ∧ ∀ B : List Bool, B.length = (encB L).length → κ (.fr (encB L).length 1 (sbs B)) H n
  | _ => False
theorem n_renc : NatP 46 natRE := fun args H n κ hs φ h0' hp vs K hr hargs hk => by
  unfold natRE at hs
  split at hs
  · obtain ⟨x, rfl, e1⟩ := vs1 hargs
    obtain ⟨L, rfl, hL, hs⟩ := hs
    refine smallFrE (callT_nat KRE_ok 3 _) (P := fun s => ∃ B : List Bool, s = sbs B ∧ B.length = (encB L).length) (fun s ⟨B, h1, h2⟩ => ?_) (renc_run L hL) (fun s ⟨B, h1, h2⟩ => ?_) hr hk (by kernel_rfl) (φ0 := ⟨fun _ => none, φ.z, φ.z⟩) (fun hw => hr.withz (start_none hw) (fun _ _ h => by cases h) (fun _ h => h)) rfl
      (.cons (stab_VR (ψ := ⟨fun _ => none, φ.z, φ.z⟩) (fun _ h => h) rfl e1) .nil)
    · subst h1; exact ⟨sbs_flat _, by rw [sbs_length]; omega⟩
    · subst h1; exact hs B h2
  · exact hs.elim
noncomputable def KRt : FuncId → EP := withN 46 natRE evP
theorem KRt_ok : TabP KRt := withN_ok evP_ok n_renc
set_option maxHeartbeats 4000000 in
set_option maxRecDepth 100000 in
theorem rbits_run (L : Smp) (hL : L.length ≤ 100000) : callT KRt 3 35 [.fr L.length 2 (smp L)] .nil 0 fun u _ _ => mkT u = mkT (.si .i64 ((encB L).length : Int)) := by
  conv => whnf
  refine ⟨L, rfl, hL, fun B hB => ?_⟩
  conv => whnf
  rfl
/-- How many bits samples have. -/
def natRt (args : List AV) (H : AH) (n : Nat) (κ : PK) : Prop := match args with
  | [x] => ∃ L : Smp, (SmpAt H x L ∨ x = .fr L.length 2 (smp L)) ∧ L.length ≤ 100000 ∧ κ (.si .i64 ((encB L).length : Int)) H n
  | _ => False
theorem n_rbits : NatP 35 natRt := fun args H n κ hs φ h0' hp vs K hr hargs hk => by
  unfold natRt at hs
  split at hs
  · obtain ⟨x, rfl, e1⟩ := vs1 hargs
    obtain ⟨L, hS, hL, hs⟩ := hs
    obtain ⟨z, hz, hv⟩ := SmpAt.frz hr hS e1
    exact smallN KRt_ok (v := .si .i64 ((encB L).length : Int)) rfl (rbits_run L hL) hs hr hk (by kernel_rfl) hz (.cons hv .nil)
  · exact hs.elim
theorem singRt : SingG natRt := .pure fun args H n κ hs => by
  unfold natRt at *
  split at hs
  · obtain ⟨L, h1, h2, h3⟩ := hs
    exact ⟨_, h3, fun κ' h => ⟨L, h1, h2, h⟩⟩
  · exact hs.elim
end Go.Proofs.Ytpfflibkkjjlaaa
namespace Go.Proofs.Ytpfflibkkjjlaaa
open Go Go.RowKit
set_option maxRecDepth 20000
/-! ### what is yielded, told anew, rows being frozen -/
/-- A row of one's own is frozen: its block has no name any more. -/
theorem HR.frz1 {φ : Ph} {H : AH} {n : Nat} {h0 h : Hp} (hr : HR φ H n h0 h) {b m k x : Nat} {l s : List AV} {z : Bool} {v : Value} (hb : H.get b = some (.cells l z)) (hv : VR φ (.rw b 0 m k x) v) (hx : x ≠ 4) (hs : s.all flat.flat1 = true) (hsl : s.length = m * k) (hmk : l.map Go.Proofs.Ytpfflibkkjjlaaa.mk = s.map Go.Proofs.Ytpfflibkkjjlaaa.mk) :
    ∃ χ, PLe φ χ ∧ HR χ (H.set none depthH b) n h0 h ∧ VR χ (.fr m k s) v := by
  have hk := hr.kill depthH b
  have hll : l.length = m * k := by have := congrArg List.length hmk; simp only [List.length_map] at this; omega
  have hst : s.all stab = true := by
    rw [List.all_eq_true] at hs ⊢
    intro y hy
    have := hs y hy
    cases y <;> first | rfl | cases this
  rcases hv.rw_inv with ⟨h1, hem⟩ | ⟨p, a, C, hpb, rfl, h2, h3, h4, h5, _, _⟩
  · have hs0 : s = [] := List.eq_nil_of_length_eq_zero (by rw [hsl, h1, Nat.zero_mul])
    subst h1 hs0
    rw [hem.nil hx]
    exact ⟨φ, .refl φ, hk, .fre fun _ => rfl⟩
  · by_cases hm : m = 0
    · have hs0 : s = [] := List.eq_nil_of_length_eq_zero (by rw [hsl, hm, Nat.zero_mul])
      subst hm hs0
      exact ⟨φ, .refl φ, hk, .fre fun q => by cases q⟩
    · have ha := h2 hm
      subst ha
      obtain ⟨ob, hq0, hq1, cc, t, fz, rfl, o1, o2, o3, o4, o5⟩ := hr.of hb hpb
      refine ⟨φ.more fun q => q = ⟨p.B, p.s + 0, s⟩, φ.more_le _, hk.more fun q hq => ?_, ?_⟩
      · subst hq
        refine ⟨⟨⟨(hr.dom _ _ hpb).2, hst⟩, cc, t, fz, hq1, (show p.s + 0 + s.length ≤ cc.size by omega), CR.mk_flat o5 hmk hs⟩, hq0, fun b' o' p' e1 e2 e3 e4 => ?_⟩
        rcases PM.get_set depthH H b b' o' e1 with ⟨_, h⟩ | ⟨h6, h7⟩
        · cases h
        · exact h6 (hr.inj b' b o' _ p' p h7 hb e2 rfl e3 hpb e4)
      · have : VR (φ.more fun q => q = ⟨p.B, p.s + 0, s⟩) (.fr m k s) (.slice (some ⟨p.B, p.s + 0 + 0, none⟩) m C) := .fr (q := ⟨p.B, p.s + 0, s⟩) (o := 0) (.inr rfl) h4 (subL_all hsl)
        exact this
def FzTo (u : AV) (H : AH) (n : Nat) (v : AV) (H2 : AH) (n2 : Nat) : Prop := ∀ (φ : Ph) (h0 h : Hp) (w : Value), HR φ H n h0 h → VR φ u w → ∃ ψ, PLe φ ψ ∧ HR ψ H2 n2 h0 h ∧ VR ψ v w
def postZ (g : List AV → AH → Nat → PK → Prop) (args : List AV) (H : AH) (n : Nat) (κ : PK) : Prop := g args H n fun u H' n' => ∃ v H2 n2, FzTo u H' n' v H2 n2 ∧ κ v H2 n2
theorem NatP.postZ {f : FuncId} {g : List AV → AH → Nat → PK → Prop} (hg : NatP f g) : NatP f (postZ g) := fun args H n κ hs φ h0 h vs K hr ha hk => hg args H n _ hs φ h0 h vs K hr ha fun ψ u H' n' w g' hle hg' hu ⟨v, H2, n2, h1, h3⟩ => by
  obtain ⟨χ, k1, k2, k3⟩ := h1 ψ h0 g' w hg' hu
  exact hk χ v H2 n2 w g' (hle.trans k1) k2 k3 h3
theorem FzTo.of {u v : AV} {H H2 : AH} {n n2 : Nat} (h1 : VTo u v) (h2 : Recast H n H2 n2) : FzTo u H n v H2 n2 := fun φ h0 h w hr hu => ⟨φ, .refl φ, h2 φ h0 h hr, h1 φ w hu⟩
theorem FzTo.trans {u v w : AV} {H1 H2 H3 : AH} {n1 n2 n3 : Nat} (h : FzTo u H1 n1 v H2 n2) (k : FzTo v H2 n2 w H3 n3) : FzTo u H1 n1 w H3 n3 := fun φ h0 hp q hr hu => by
  obtain ⟨χ, a1, a2, a3⟩ := h φ h0 hp q hr hu
  obtain ⟨ψ, b1, b2, b3⟩ := k χ h0 hp q a2 a3
  exact ⟨ψ, a1.trans b1, b2, b3⟩
/-- The document's chunk. -/
def rch (sz : Nat) (L : Smp) : List AV := [.si .i64 (sz : Int), .fr L.length 2 (smp L)]
theorem VR.toFr {φ : Ph} {v : Value} (h : VR φ .nsl v) : VR φ (.fr 0 2 []) v := by
  rw [h.nsl_inv]; exact .fre fun _ => rfl
theorem SubV.nslFr {H : AH} {m : Nat} {r : Nat → Nat} : SubV H m r .nsl (.fr ([] : Smp).length 2 (smp [])) := fun φ ψ v _ _ hv => VR.toFr (φ := ψ) (by rw [hv.nsl_inv]; exact .nsl)
theorem rch_flat2 (sz : Nat) (L : Smp) : (rch sz L).all one1 = true := rfl
/-- The row of a chunk of the document's is frozen. -/
theorem FzTo.cell {u v : AV} {H : AH} {n c b m x sz : Nat} {a0 : AV} {l : List AV} {z : Bool} {M : Smp} (hu : VTo u v) (hc : H.get c = some (.cells [a0, .rw b 0 m 2 x] true)) (ha : mk a0 = .si .i64 (sz : Int)) (hb : H.get b = some (.cells l z)) (hbs : b + 1 < 2 ^ 40) (hcb : c ≠ b) (hm : m = M.length) (hl : l.map mk = smp M) (hx : x ≠ 4) :
    FzTo u H n v ((H.set none depthH b).set (some (.cells (rch sz M) true)) depthH c) n := fun φ h0 h w hr hw => by
  subst hm
  rcases hr.live c _ hc with ⟨_, hv⟩ | ⟨p, ob, h1, h2, h3, h4⟩
  · cases hv
  obtain ⟨cc, t, fz, rfl, o1, o2, o3, o4, o5⟩ := h4
  obtain ⟨v1, g1, g2⟩ := o5 1 _ rfl
  obtain ⟨χ, k1, k2, k3⟩ := hr.frz1 (s := smp M) hb g2 hx (smp_flat M) (smp_length M) (by rw [hl, smp_map])
  have hc2 : (H.set none depthH b).get c = some (.cells [a0, .rw b 0 M.length 2 x] true) := PM.get_set_ne _ _ _ _ hbs hcb hc
  refine ⟨χ, k1, k2.reobj hc2 rfl rfl (fun q => by cases q) fun p' ob' e1 e2 ⟨cc', t', fz', q1, q2, q3, q4, q5, q6⟩ => ⟨cc', t', fz', q1, q2, q3, q4, q5, fun i a' hi => ?_⟩, (hu φ w hw).smono k1.s⟩
  have : p' = p := by have := k1.b c p h1; rw [e1] at this; injection this
  subst this
  rw [h3] at e2; injection e2 with e2; rw [q1] at e2; injection e2 with e2; subst e2
  match i, hi with
  | 0, hi =>
    obtain ⟨v0, f1, f2⟩ := q6 0 a0 rfl
    injection hi with hi; subst hi
    exact ⟨v0, f1, by have := f2.mk; rw [ha] at this; exact this⟩
  | 1, hi =>
    injection hi with hi; subst hi
    exact ⟨v1, g1, k3⟩
/-- A chunk of the document's, told anew. -/
theorem Recast.rcell {H : AH} {n c sz : Nat} {a0 a1 : AV} {M : Smp} (hc : H.get c = some (.cells [a0, a1] true)) (ha : mk a0 = .si .i64 (sz : Int)) (h1 : ∀ (φ : Ph) v, VR φ a1 v → VR φ (.fr M.length 2 (smp M)) v) : Recast H n (H.set (some (.cells (rch sz M) true)) depthH c) n := fun φ h0 h hr => hr.recell hc rfl fun i a' hi => by
  match i, hi with
  | 0, hi =>
    injection hi with hi; subst hi
    exact ⟨a0, rfl, fun v hv => by have := hv.mk; rw [ha] at this; exact this⟩
  | 1, hi =>
    injection hi with hi; subst hi
    exact ⟨a1, rfl, fun v hv => h1 φ v hv⟩
/-! ### what two samples become -/
set_option maxHeartbeats 4000000 in
set_option maxRecDepth 100000 in
theorem rmerge_run (p a b : Int) (ha : In64 a) (hb : In64 b) : callT evP 4 59 [.si .i64 p, .si .i64 a, .si .i64 b] .nil 0 fun u _ _ => mkT u = mkT (.tup [.si .i64 (mergeF p a b).1, .si .i64 (mergeF p a b).2]) := by
  have key : ∀ {x y : Int}, mergeF p a b = (x, y) → mkT (.tup [.si .i64 x, .si .i64 y]) = mkT (.tup [.si .i64 (mergeF p a b).1, .si .i64 (mergeF p a b).2]) := fun e => by rw [e]
  conv => whnf
  refine Fork.dec (fun h1 => ?_) (fun h1 => ?_)
  · have e := key (x := 0) (y := 8) (by simp [mergeF, h1])
    conv => whnf
    exact e
  conv => whnf
  refine Fork.dec (fun h2 => ?_) (fun h2 => ?_)
  · have e := key (x := a) (y := 0) (by simp [mergeF, h2])
    conv => whnf
    exact e
  conv => whnf
  refine Fork.dec (fun h3 => ?_) (fun h3 => ?_)
  · have e := key (x := b) (y := 0) (by simp [mergeF, h3])
    conv => whnf
    exact e
  conv => whnf
  refine Fork.dec (fun h4 => ?_) (fun h4 => ?_)
  · have e := key (x := min a b) (y := 0) (by simp [mergeF, h4])
    conv => whnf
    exact e
  conv => whnf
  refine Fork.dec (fun h5 => ?_) (fun h5 => ?_)
  · have e := key (x := max a b) (y := 0) (by simp [mergeF, h5])
    conv => whnf
    exact e
  conv => whnf
  refine Fork.dec (fun h6 => ?_) (fun h6 => ?_)
  · have hw : W64 (a + b) = (a + b + 9223372036854775808) % 18446744073709551616 - 9223372036854775808 := w64_eq _
    have hm1 : 0 < b → IntKind.i64.wrap (9223372036854775807 - b) = 9223372036854775807 - b := fun q => W64_of (by unfold In64 at *; omega)
    have hm2 : b < 0 → IntKind.i64.wrap (-9223372036854775808 - b) = -9223372036854775808 - b := fun q => W64_of (by unfold In64 at *; omega)
    have e9 : ((0 ≤ b ∧ W64 (a + b) < a) ∨ (b < 0 ∧ a < W64 (a + b))) → _ := fun h => key (x := 0) (y := 9) (by simp [mergeF, h6, h])
    have e0 : ¬ ((0 ≤ b ∧ W64 (a + b) < a) ∨ (b < 0 ∧ a < W64 (a + b))) → _ := fun h => key (x := W64 (a + b)) (y := 0) (by unfold mergeF; rw [if_neg h1, if_neg h2, if_neg h3, if_neg h4, if_neg h5, if_pos h6, if_neg h])
    unfold In64 at ha hb
    conv => whnf
    refine Fork.dec (fun hb1 => ?_) (fun hb1 => ?_)
    · have hm1 := hm1 hb1
      conv => whnf
      refine Fork.dec (fun hn => ?_) (fun hn => ?_)
      · have e := e9 (.inl ⟨by omega, by rw [hm1] at hn; omega⟩)
        conv => whnf
        exact e
      · have e := e0 (fun q => by rw [hm1] at hn; omega)
        conv => whnf
        refine Fork.dec (fun q => absurd q (by omega)) (fun _ => ?_)
        conv => whnf
        exact e
    · conv => whnf
      refine Fork.dec (fun hb2 => ?_) (fun hb2 => ?_)
      · have hm2 := hm2 hb2
        conv => whnf
        refine Fork.dec (fun hn => ?_) (fun hn => ?_)
        · have e := e9 (.inr ⟨hb2, by rw [hm2] at hn; omega⟩)
          conv => whnf
          exact e
        · have e := e0 (fun q => by rw [hm2] at hn; omega)
          conv => whnf
          exact e
      · have e := e0 (fun q => by omega)
        conv => whnf
        exact e
  · have e := key (x := 0) (y := 1) (by simp [mergeF, h1, h2, h3, h4, h5, h6])
    conv => whnf
    exact e
def natRMe (args : List AV) (H : AH) (n : Nat) (κ : PK) : Prop := match args with
  | [x, y, z] => ∃ p a b : Int, mk x = .si .i64 p ∧ mk y = .si .i64 a ∧ mk z = .si .i64 b ∧ In64 a ∧ In64 b ∧ κ (.tup [.si .i64 (mergeF p a b).1, .si .i64 (mergeF p a b).2]) H n
  | _ => False
theorem n_rmerge : NatP 59 natRMe := fun args H n κ hs φ h0' hp vs K hr hargs hk => by
  unfold natRMe at hs
  split at hs
  · obtain ⟨x, y, z, rfl, e1, e2, e3⟩ := vs3 hargs
    obtain ⟨p, a, b, h1, h2, h3, h4, h5, hs⟩ := hs
    exact pureN (v := .tup [.si .i64 (mergeF p a b).1, .si .i64 (mergeF p a b).2]) evP_ok rfl rfl (rmerge_run p a b h4 h5) hs hr (.cons (flat1_VR rfl (h1 ▸ e1.mk)) (.cons (flat1_VR rfl (h2 ▸ e2.mk)) (.cons (flat1_VR rfl (h3 ▸ e3.mk)) .nil))) hk
  · exact hs.elim
/-! ### a sample put in -/
def RcQ (e : Int) (sz : Nat) (L : Smp) : PK := fun u H' _ => u = .si .i64 e ∧ PM.get H' 0 = some (.cells (rch sz L) true)
theorem VTo.si {u : AV} {e : Int} (hu : mk u = .si .i64 e) : VTo u (.si .i64 e) := fun φ w h => by rw [← hu]; exact h.mk
theorem rcLeaf {u : AV} {H' : AH} {n' sz b m x : Nat} {e : Int} {M : Smp} {a0 : AV} {l : List AV} {z : Bool} (hu : mk u = .si .i64 e) (hc : PM.get H' 0 = some (.cells [a0, .rw b 0 m 2 x] true)) (ha : mk a0 = .si .i64 (sz : Int)) (hb : PM.get H' b = some (.cells l z)) (hbs : b + 1 < 2 ^ 40) (hcb : 0 ≠ b) (hm : m = M.length) (hl : l.map mk = smp M) (hx : x ≠ 4) :
    ∃ v H2 n2, FzTo u H' n' v H2 n2 ∧ RcQ e sz M v H2 n2 := ⟨_, _, n', FzTo.cell (VTo.si hu) hc ha hb hbs hcb hm hl hx, rfl, PM.get_set0⟩
theorem rcSame {u : AV} {H' : AH} {n' sz : Nat} {e : Int} {M : Smp} (hu : mk u = .si .i64 e) (hc : PM.get H' 0 = some (.cells (rch sz M) true)) : ∃ v H2 n2, FzTo u H' n' v H2 n2 ∧ RcQ e sz M v H2 n2 := ⟨_, H', n', .of (VTo.si hu) (.refl _ _), rfl, hc⟩
noncomputable def rin (sz : Nat) (L : Smp) (t : Int) (v : Int) (q : Int) (i : Nat) : AE × AH := (mkE [(0, .fr L.length 2 (smp L)), (2, .si .i64 (q)), (4, .ptr 2 (0)), (8, .rw 3 0 (L.take i).length 2 0), (9, .si .i64 (((i : Nat) : Int)))], mkH [(0, .cells (rch sz L) true), (2, .cells ([.si .i64 t, .si .i64 v]) true), (3, .cells (smp ((L.take i))) true)])
theorem rin_cov {sz : Nat} {L : Smp} {t : Int} {v : Int} {q : Int} {i : Nat} {p n : Nat} {σ : AE} {H : AH} (j3 : Nat) (hj : j3 ≠ 0 ∧ j3 ≠ 2) (hp : p ≤ 2) (e0 : getq (pa 0) σ = .fr L.length 2 (smp L)) (e2 : mk (getq (pa 2) σ) = .si .i64 (q)) (e4 : getq (pa 4) σ = .ptr 2 (0)) (e8 : SubV H 4 (fun b => if b = 3 then j3 else b) (getq (pa 8) σ) (.rw 3 0 (L.take i).length 2 0)) (e9 : mk (getq (pa 9) σ) = .si .i64 (((i : Nat) : Int))) (h0 : ∃ l, H.get 0 = some (.cells l true) ∧ SubL H 4 (fun b => if b = 3 then j3 else b) l (rch sz L)) (h2 : ∃ l, H.get 2 = some (.cells l true) ∧ SubL H 4 (fun b => if b = 3 then j3 else b) l ([.si .i64 t, .si .i64 v])) (h3 : (∃ l, H.get j3 = some (.cells l true) ∧ l.map mk = smp ((L.take i))) ∨ (((L.take i)) = [] ∧ n ≤ j3)) : Cov p σ H n ((rin sz L t v q i).1, (rin sz L t v q i).2, 4) := by
  refine Cov.ofR (fun b => if b = 3 then j3 else b) (by omega) (fun b hb => by repeat' rw [if_neg (by omega)]) ?_ ?_ ?_
  · intro x hx
    simp only [List.mem_cons, List.not_mem_nil, or_false] at hx
    rcases hx with rfl | rfl | rfl | rfl | rfl
    · exact SubV.frE e0
    · exact .int e2
    · exact .ptr (by decide) e4
    · exact e8
    · exact .int e9
  · intro x hx
    simp only [List.mem_cons, List.not_mem_nil, or_false] at hx
    rcases hx with rfl | rfl | rfl
    · exact ⟨by simp, .inl (h0.elim fun l h => ⟨_, h.1, SubO.st h.2⟩)⟩
    · exact ⟨by simp, .inl (h2.elim fun l h => ⟨_, h.1, SubO.st h.2⟩)⟩
    · exact ⟨by simp, h3.elim (fun ⟨l, h, g⟩ => .inl ⟨_, h, SubO.cells_mk (smp_flat _) (by rw [g, smp_map]) (fun q => q)⟩) (fun h => .inr ⟨by rw [h.1]; rfl, h.2⟩)⟩
  · intro x hx y hy
    simp only [List.mem_cons, List.not_mem_nil, or_false] at hx hy
    rcases hx with rfl | rfl | rfl <;> rcases hy with rfl | rfl | rfl <;> simp <;> omega
def d_rput : DT := [(4, [(some 0, [7]), (none, [22]), (some 1, [0]), (some 2, [24]), (some 3, [25]), (some 4, [26]), (some 5, [27]), (some 0, [23, 28])])]
noncomputable def KRp : FuncId → EP := withD 36 d_rput (withD 47 [] (withS 35 natRt (withN 59 natRMe evP)))
theorem KRp_ok : TabP KRp := withD_ok (withD_ok (withS_ok (withN_ok evP_ok n_rmerge) n_rbits singRt) (by kernel_rfl) (by kernel_rfl)) (by kernel_rfl) (by kernel_rfl)
set_option maxHeartbeats 8000000 in
set_option maxRecDepth 100000 in
theorem rput_run (sz : Nat) (L : Smp) (t v q : Int) (hsz : 0 < sz) (hsz2 : sz ≤ 4096) (hF : Fine L) (hv : In64 v) : postZ (callT KRp 5 36) [.ptr 0 0, .agg [.si .i64 t, .si .i64 v], .si .i64 q] (mkH [(0, .cells (rch sz L) true)]) 1 (RcQ (putF sz L t v q).2 sz (putF sz L t v q).1) := by
  have same : ∀ {u : AV} {H' : AH} {n' : Nat} {e : Int}, putF sz L t v q = (L, e) → mk u = .si .i64 e → PM.get H' 0 = some (.cells (rch sz L) true) → ∃ v2 H2 n2, FzTo u H' n' v2 H2 n2 ∧ RcQ (putF sz L t v q).2 sz (putF sz L t v q).1 v2 H2 n2 := fun hj hu hb => by
    rw [hj]; exact rcSame hu hb
  have leaf : ∀ {u : AV} {H' : AH} {n' b m x : Nat} {e : Int} {M : Smp} {a0 : AV} {l : List AV} {z : Bool}, putF sz L t v q = (M, e) → mk u = .si .i64 e → PM.get H' 0 = some (.cells [a0, .rw b 0 m 2 x] true) → mk a0 = .si .i64 (sz : Int) → PM.get H' b = some (.cells l z) → b + 1 < 2 ^ 40 → 0 ≠ b → m = M.length → l.map mk = smp M → x ≠ 4 →
      ∃ v2 H2 n2, FzTo u H' n' v2 H2 n2 ∧ RcQ (putF sz L t v q).2 sz (putF sz L t v q).1 v2 H2 n2 := fun hj h1 h2 h3 h4 h45 h5 h6 h7 h8 => by
    rw [hj]; exact rcLeaf h1 h2 h3 h4 h45 h5 h6 h7 h8
  have hL := hF.2.2
  have hw8 : IntKind.i64.wrap (8 * (sz : Int)) = ((8 * sz : Nat) : Int) := W64_of ⟨by omega, by omega⟩
  have hst0 : ∀ {H : AH} {m : Nat} {r : Nat → Nat}, SubL H m r (rch sz L) (rch sz L) := .cons (.int rfl) (.cons (SubV.frE rfl) .nil)
  have hst2 : ∀ {H : AH} {m : Nat} {r : Nat → Nat}, SubL H m r [.si .i64 t, .si .i64 v] [.si .i64 t, .si .i64 v] := .cons (.int rfl) (.cons (.int rfl) .nil)
  have hone : ∀ k : Nat, ((smp L).drop (k * 2)).all one1 = true := fun k => by
    rw [smp_drop, List.all_eq_true]
    intro y hy
    have := List.all_eq_true.1 (smp_flat (L.drop k)) y hy
    cases y <;> first | rfl | cases this
  have hdl : ∀ k : Nat, ((smp L).drop (k * 2)).length = (L.length - k) * 2 := fun k => by rw [List.length_drop, smp_length]; omega
  show callT KRp 5 36 _ _ _ _
  conv => whnf
  refine Fork.dec (fun ht0 => ?_) (fun ht0 => ?_)
  · have e : putF sz L t v q = (L, 1) := by unfold putF; rw [if_pos (.inl ht0)]
    conv => whnf
    exact same e rfl rfl
  conv => whnf
  refine Fork.dec (fun ht1 => ?_) (fun ht1 => ?_)
  · have e : putF sz L t v q = (L, 1) := by unfold putF; rw [if_pos (.inr ht1)]
    conv => whnf
    exact same e rfl rfl
  have htr : ¬ (t < 0 ∨ 1099511627776 ≤ t) := fun z => z.elim ht0 ht1
  conv => whnf
  refine LoopP.mk { i : Nat // i ≤ plc L t } 4 (fun i => rin sz L t v q i.val) (fun i => L.length - i.val) ⟨0, Nat.zero_le _⟩ ?_ ?_
  · exact rin_cov (j3 := 3) (by decide) (Nat.le_refl 2) rfl rfl rfl (.nslRw rfl) rfl ⟨_, rfl, hst0⟩ ⟨_, rfl, hst2⟩ (.inr ⟨rfl, Nat.le_refl _⟩)
  · intro ⟨i, hi⟩
    have hpl := plc_le L t
    have hil : i ≤ L.length := Nat.le_trans hi hpl
    have htl : (L.take i).length = i := by rw [List.length_take]; omega
    have hrow : subL (smp (L.take i)) 0 ((L.take i).length * 2) = some (smp (L.take i)) := smp_whole _
    have hbig : ((L.take i).length + 1) * 16 ≤ 140737488355328 := by omega
    have hi1 : IntKind.i64.wrap ((i : Int) + 1) = ((i + 1 : Nat) : Int) := W64_of ⟨by omega, by omega⟩
    have hrow2 : ∀ w : Int, subL (smp (L.take i) ++ [AV.si .i64 t, .si .i64 w]) 0 (((L.take i).length + 1) * 2) = some (smp (L.take i) ++ [AV.si .i64 t, .si .i64 w]) := fun w => subL_all (by rw [List.length_append, smp_length]; simp; omega)
    have hmapO : ∀ (w : Int) (k : Nat), ((smp (L.take i) ++ [AV.si .i64 t, .si .i64 w]) ++ (smp L).drop (k * 2)).map mk = smp (L.take i ++ (t, w) :: L.drop k) := fun w k => by
      rw [smp_drop, show L.take i ++ (t, w) :: L.drop k = (L.take i ++ [(t, w)]) ++ L.drop k by simp, smp_app, smp_app, List.map_append, List.map_append, smp_map, smp_map]; rfl
    have hlenO : ∀ (w : Int) (k : Nat), (L.take i).length + 1 + (L.length - k) = (L.take i ++ (t, w) :: L.drop k).length := fun w k => by rw [List.length_append, List.length_cons, List.length_drop]; omega
    have hsubO : ∀ (w : Int) (k : Nat), subL ((smp (L.take i) ++ [AV.si .i64 t, .si .i64 w]) ++ (smp L).drop (k * 2)) 0 ((L.take i ++ (t, w) :: L.drop k).length * 2) = some ((smp (L.take i) ++ [AV.si .i64 t, .si .i64 w]) ++ (smp L).drop (k * 2)) := fun w k => subL_all (by have := congrArg List.length (hmapO w k); rw [List.length_map, smp_length] at this; exact this)
    have hOl : ∀ (w : Int) (k : Nat), (L.take i ++ (t, w) :: L.drop k).length ≤ 100000 := fun w k => by rw [← hlenO]; omega
    have hbig2 : ∀ k : Nat, ((L.take i).length + 1 + (L.length - k)) * 16 ≤ 140737488355328 := fun k => by omega
    have hbd0 : ebnd (some (AV.int .i64 ((i : Nat) : Int))) 0 = some i := rfl
    have hbd1 : ebnd (some (AV.int .i64 (IntKind.i64.wrap ((i : Int) + 1)))) 0 = some (i + 1) := by rw [hi1]; rfl
    have hno : i = plc L t → (i < L.length → ¬ tAt L i = t) → putF sz L t v q = layF sz L (L.take i ++ (t, v) :: L.drop i) := fun e hn => by
      unfold putF
      rw [if_neg htr, if_neg (by unfold has; rw [← e]; simp; exact hn)]
      unfold insF; rw [← e]
    have hyes : i = plc L t → i < L.length → tAt L i = t → has L t = true := fun e h1 h2 => by unfold has; rw [← e]; simp [h1, h2]
    conv => whnf
    refine Fork.dec (fun h => ?_) (fun h => ?_)
    · have hi2 : i < L.length := by exact Int.ofNat_lt.1 h
      have hti : tAt L i = L[i].1 := tAt_of hi2
      conv => whnf
      refine Idx.mk i rfl hi2 ?_
      conv => whnf
      refine optP_of (smp_nth0 hi2 rfl) ?_
      conv => whnf
      refine Fork.dec (fun h2 => ?_) (fun h2 => ?_)
      · have hlt : i + 1 ≤ plc L t := by
          rcases Nat.lt_or_ge i (plc L t) with z | z
          · exact z
          · have e : i = plc L t := by omega
            have := plc_at (L := L) (t := t) (by omega)
            rw [← e, hti] at this; omega
        have hsn : L.take (i + 1) = L.take i ++ [L[i]] := List.take_succ_eq_append_getElem hi2
        have hl2 : (L.take i).length + 1 = (L.take (i + 1)).length := by rw [hsn, List.length_append]; rfl
        have hm2 : (smp (L.take i) ++ [AV.si .i64 L[i].1, AV.si .i64 L[i].2]).map mk = smp (L.take (i + 1)) := by rw [hsn, ← smp_snoc, smp_map]
        conv => whnf
        refine Idx.mk i rfl hi2 ?_
        conv => whnf
        refine optP_of (smp_sub hi2 rfl) ?_
        conv => whnf
        refine RApp.grow 2 16 _ _ _ _ _ _ tyS (.old rfl) rfl rfl (.rw rfl hrow) hbig ?_
        conv => whnf
        exact ⟨⟨i + 1, hlt⟩, (show L.length - (i + 1) < L.length - i by omega), rin_cov (j3 := 5) (by decide) (Nat.le_refl 2) rfl rfl rfl (SubV.rw (by decide) rfl (hn := hl2)) (congrArg (AV.si .i64) hi1) ⟨_, rfl, hst0⟩ ⟨_, rfl, hst2⟩ (.inl ⟨_, rfl, hm2⟩)⟩
      · have hpe : i = plc L t := by
          rcases Nat.lt_or_ge i (plc L t) with z | z
          · have := plc_lt z; rw [hti] at this; exact absurd this h2
          · omega
        conv => whnf
        refine Fork.dec (fun _ => ?_) (fun z => absurd h z)
        conv => whnf
        refine Idx.mk i rfl hi2 ?_
        conv => whnf
        refine optP_of (smp_nth0 hi2 rfl) ?_
        conv => whnf
        refine Fork.dec (fun he => ?_) (fun he => ?_)
        · have hh := hyes hpe hi2 (hti.trans he)
          have hvp : vAt L (plc L t) = L[i].2 := by rw [← hpe]; exact vAt_of hi2
          have hsf : setF L t (mergeF q L[i].2 v).1 = L.take i ++ (t, (mergeF q L[i].2 v).1) :: L.drop (i + 1) := by unfold setF; rw [← hpe, List.set_eq_take_append_cons_drop, if_pos hi2]
          have h64 := (hF.in64 _ (List.getElem_mem hi2)).2
          conv => whnf
          refine Idx.mk i rfl hi2 ?_
          conv => whnf
          refine optP_of (smp_nth1 hi2 rfl) ?_
          conv => whnf
          refine ⟨q, L[i].2, v, rfl, rfl, rfl, h64, hv, ?_⟩
          conv => whnf
          refine Fork.ndec (fun hne => ?_) (fun hne => ?_)
          · have e : putF sz L t v q = (L, (mergeF q L[i].2 v).2) := by unfold putF; rw [if_neg htr, if_pos hh, hvp, if_pos hne]
            have hne2 : ¬ (mergeF q L[i].2 v).2 = 0 := hne
            conv => whnf
            refine Fork.ndec (fun _ => ?_) (fun z => absurd z hne2)
            conv => whnf
            exact same e rfl rfl
          · have hput : putF sz L t v q = layF sz L (L.take i ++ (t, (mergeF q L[i].2 v).1) :: L.drop (i + 1)) := by unfold putF; rw [if_neg htr, if_pos hh, hvp, if_neg (fun z => z hne), hsf]
            have hfu : ¬ (encB (L.take i ++ (t, (mergeF q L[i].2 v).1) :: L.drop (i + 1))).length ≤ 8 * sz → putF sz L t v q = (L, 2) := fun z => by rw [hput]; unfold layF; rw [if_neg z]
            have hok : (encB (L.take i ++ (t, (mergeF q L[i].2 v).1) :: L.drop (i + 1))).length ≤ 8 * sz → putF sz L t v q = ((L.take i ++ (t, (mergeF q L[i].2 v).1) :: L.drop (i + 1)), 0) := fun z => by rw [hput]; unfold layF; rw [if_pos z]
            conv => whnf
            refine RApp.grow 2 16 _ _ _ _ _ _ tyS (.old rfl) rfl rfl (.rw rfl hrow) hbig ?_
            conv => whnf
            refine RSl.mk (i + 1) _ hbd1 rfl (.inl rfl) hi2 (Nat.le_refl _) ?_
            conv => whnf
            refine RApp.grow 2 16 _ _ _ _ _ _ tyS .fr (hdl (i + 1)) (hone (i + 1)) (.rw rfl (hrow2 (mergeF q L[i].2 v).1)) (hbig2 (i + 1)) ?_
            conv => whnf
            refine ⟨(L.take i ++ (t, (mergeF q L[i].2 v).1) :: L.drop (i + 1)), .inl (.inr (.inl (.inl ⟨_, 0, 0, _, _, ⟨congrArg (fun k => AV.rw _ 0 k 2 0) (hlenO (mergeF q L[i].2 v).1 (i + 1)), by decide⟩, .inr ⟨_, rfl⟩, hsubO (mergeF q L[i].2 v).1 (i + 1), hmapO (mergeF q L[i].2 v).1 (i + 1)⟩))), hOl (mergeF q L[i].2 v).1 (i + 1), ?_⟩
            conv => whnf
            refine Fork.dec (fun h3 => ?_) (fun h3 => ?_)
            · have e := hfu (by rw [hw8] at h3; omega)
              conv => whnf
              exact same e rfl rfl
            · have e := hok (by rw [hw8] at h3; omega)
              conv => whnf
              exact leaf e rfl rfl rfl rfl (by decide) (by decide) (hlenO (mergeF q L[i].2 v).1 (i + 1)) (hmapO (mergeF q L[i].2 v).1 (i + 1)) (by decide)
        · have hput := hno hpe (fun _ => by rw [hti]; exact he)
          have hfu : ¬ (encB (L.take i ++ (t, v) :: L.drop i)).length ≤ 8 * sz → putF sz L t v q = (L, 2) := fun z => by rw [hput]; unfold layF; rw [if_neg z]
          have hok : (encB (L.take i ++ (t, v) :: L.drop i)).length ≤ 8 * sz → putF sz L t v q = ((L.take i ++ (t, v) :: L.drop i), 0) := fun z => by rw [hput]; unfold layF; rw [if_pos z]
          conv => whnf
          refine RApp.grow 2 16 _ _ _ _ _ _ tyS (.old rfl) rfl rfl (.rw rfl hrow) hbig ?_
          conv => whnf
          refine RSl.mk i _ hbd0 rfl (.inl rfl) hil (Nat.le_refl _) ?_
          conv => whnf
          refine RApp.grow 2 16 _ _ _ _ _ _ tyS .fr (hdl i) (hone i) (.rw rfl (hrow2 v)) (hbig2 i) ?_
          conv => whnf
          refine ⟨(L.take i ++ (t, v) :: L.drop i), .inl (.inr (.inl (.inl ⟨_, 0, 0, _, _, ⟨congrArg (fun k => AV.rw _ 0 k 2 0) (hlenO v i), by decide⟩, .inr ⟨_, rfl⟩, hsubO v i, hmapO v i⟩))), hOl v i, ?_⟩
          conv => whnf
          refine Fork.dec (fun h3 => ?_) (fun h3 => ?_)
          · have e := hfu (by rw [hw8] at h3; omega)
            conv => whnf
            exact same e rfl rfl
          · have e := hok (by rw [hw8] at h3; omega)
            conv => whnf
            exact leaf e rfl rfl rfl rfl (by decide) (by decide) (hlenO v i) (hmapO v i) (by decide)
    · have hpe : i = plc L t := by have : ¬ i < L.length := fun z => h (Int.ofNat_lt.2 z); omega
      have hput := hno hpe (fun z => absurd (Int.ofNat_lt.2 z) h)
      conv => whnf
      refine Fork.dec (fun z => absurd z h) (fun _ => ?_)
      have hfu : ¬ (encB (L.take i ++ (t, v) :: L.drop i)).length ≤ 8 * sz → putF sz L t v q = (L, 2) := fun z => by rw [hput]; unfold layF; rw [if_neg z]
      have hok : (encB (L.take i ++ (t, v) :: L.drop i)).length ≤ 8 * sz → putF sz L t v q = ((L.take i ++ (t, v) :: L.drop i), 0) := fun z => by rw [hput]; unfold layF; rw [if_pos z]
      conv => whnf
      refine RApp.grow 2 16 _ _ _ _ _ _ tyS (.old rfl) rfl rfl (.rw rfl hrow) hbig ?_
      conv => whnf
      refine RSl.mk i _ hbd0 rfl (.inl rfl) hil (Nat.le_refl _) ?_
      conv => whnf
      refine RApp.grow 2 16 _ _ _ _ _ _ tyS .fr (hdl i) (hone i) (.rw rfl (hrow2 v)) (hbig2 i) ?_
      conv => whnf
      refine ⟨(L.take i ++ (t, v) :: L.drop i), .inl (.inr (.inl (.inl ⟨_, 0, 0, _, _, ⟨congrArg (fun k => AV.rw _ 0 k 2 0) (hlenO v i), by decide⟩, .inr ⟨_, rfl⟩, hsubO v i, hmapO v i⟩))), hOl v i, ?_⟩
      conv => whnf
      refine Fork.dec (fun h3 => ?_) (fun h3 => ?_)
      · have e := hfu (by rw [hw8] at h3; omega)
        conv => whnf
        exact same e rfl rfl
      · have e := hok (by rw [hw8] at h3; omega)
        conv => whnf
        exact leaf e rfl rfl rfl rfl (by decide) (by decide) (hlenO v i) (hmapO v i) (by decide)
/-- A sample put into the document's chunk. -/
def natRPut (args : List AV) (H : AH) (n : Nat) (κ : PK) : Prop := match args with
  | [x, y, z] => ∃ (c sz : Nat) (L : Smp) (t v q : Int), x = .ptr c 0 ∧ PairAt y t v ∧ mk z = .si .i64 q ∧ c < n ∧ H.get c = some (.cells (rch sz L) true) ∧ 0 < sz ∧ sz ≤ 4096 ∧ Fine L ∧ In64 v ∧
      κ (.si .i64 (putF sz L t v q).2) (H.set (some (.cells (rch sz (putF sz L t v q).1) true)) depthH c) n
  | _ => False
theorem n_rput : NatP 36 natRPut := fun args H n κ hs φ h0' hp vs K hr hargs hk => by
  unfold natRPut at hs
  split at hs
  · obtain ⟨x, y, z, rfl, e1, e2, e3⟩ := vs3 hargs
    obtain ⟨c, sz, L, t, v, q, rfl, hy, hz, hcn, hc, hsz, hsz2, hF, hv, hs⟩ := hs
    refine framed (S := [c]) (O := [.cells (rch sz L) true]) (args0 := [.ptr 0 0, .agg [.si .i64 t, .si .i64 v], .si .i64 q]) (NatP.postZ (callT_nat KRp_ok 5 _)) (by kernel_rfl) hr
      (hands1 hcn hc (.inr rfl)) (.cons e1 (.cons (hy.open e2 _) (.cons (flat1_VR rfl (hz ▸ e3.mk)) .nil))) hk (rput_run sz L t v q hsz hsz2 hF hv) fun u H' n' ⟨g1, g2⟩ => ?_
    subst g1
    refine ⟨1, putH [c] n H [(0, some (.cells (rch sz (putF sz L t v q).1) true))], Nat.le_refl _, After.put (Nat.le_refl _) rfl (fun x hx o ho => ?_), rfl, hs⟩
    simp only [List.mem_cons, List.not_mem_nil, or_false] at hx
    subst hx
    injection ho with ho; subst ho; exact ⟨g2, rfl, rfl⟩
  · exact hs.elim
end Go.Proofs.Ytpfflibkkjjlaaa
