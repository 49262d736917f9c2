/- Texts of our own, joined: the engine, the machine that runs code, and what is known of the functions. -/
import Derived.Test.YtpfflibkkjjlaaaJi
set_option linter.unusedSimpArgs false
set_option linter.unusedVariables false
namespace Go.Proofs.Ytpfflibkkjjlaaa
open Go Go.RowKit
set_option maxRecDepth 20000
/-! ### rows of samples alike -/
theorem plan28 : eqPlan Try.prog 28 = some [(0, 0), (0, 1)] := by kernel_rfl
theorem ebin_agg2 {P : Program} {t : TypeId} {H : AH} {a b c d : Int} (hp : eqPlan P t = some [(0, 0), (0, 1)]) : ebin P .neq t (.agg [.int .i64 a, .int .i64 b]) (.agg [.int .i64 c, .int .i64 d]) H = some (.bool (!(decide (a = c) && (decide (b = d) && true)))) := by
  simp [ebin, hp, eplan, nth, qbool]
theorem same_is {a b : Bool} (h : a = b) : mkT (AV.bool a) = mkT (.bool b) := by rw [h]
def natSF (args : List AV) (H : AH) (n : Nat) (κ : PK) : Prop := match args with
  | [x, y] => ∃ V W, (SmpAt H x V ∨ x = .fr V.length 2 (smp V)) ∧ (SmpAt H y W ∨ y = .fr W.length 2 (smp W)) ∧ V.length ≤ 1000000 ∧ κ (.sb (decide (V = W))) H n
  | _ => False
noncomputable def sf0 (V : Smp) (W : Smp) (i : Nat) : AE × AH := (mkE [(0, .fr V.length 2 (smp V)), (1, .fr W.length 2 (smp W)), (5, .si .i64 (i))], mkH [])
theorem sf0_cov {V : Smp} {W : Smp} {i : Nat} {p n : Nat} {σ : AE} {H : AH} (hp : p ≤ 0) (e0 : getq (pa 0) σ = .fr V.length 2 (smp V)) (e1 : getq (pa 1) σ = .fr W.length 2 (smp W)) (e5 : mk (getq (pa 5) σ) = .si .i64 (i)) : Cov p σ H n ((sf0 V W i).1, (sf0 V W i).2, 0) := by
  refine Cov.ofR (fun b => b) (by omega) (fun b hb => rfl) ?_ ?_ ?_
  · intro x hx
    simp only [List.mem_cons, List.not_mem_nil, or_false] at hx
    rcases hx with rfl | rfl | rfl
    · exact SubV.frE e0
    · exact SubV.frE e1
    · exact .int e5
  · intro x hx
    cases hx
  · intro x hx y hy
    cases hx
noncomputable def GN : FuncId → EP := withD 14 [] evP
theorem GN_ok : TabP GN := withD_ok evP_ok (by kernel_rfl) (by kernel_rfl)
set_option maxHeartbeats 4000000 in
set_option maxRecDepth 100000 in
theorem sameF_run (V W : Smp) (hV : V.length ≤ 1000000) : callT GN 3 14 [.fr V.length 2 (smp V), .fr W.length 2 (smp W)] .nil 0 fun u _ _ => mkT u = mkT (.bool (decide (V = W))) := by
  conv => whnf
  refine Fork.ndec (fun h1 => ?_) (fun h1 => ?_)
  · have h2 : decide (V = W) = false := decide_eq_false fun e => h1 (by subst e; rfl)
    conv => whnf
    exact same_is h2.symm
  · have hl : V.length = W.length := Int.ofNat_inj.1 h1
    conv => whnf
    refine LoopP.mk { i : Nat // i ≤ V.length ∧ V.take i = W.take i } 0 (fun i => sf0 V W i.val) (fun i => V.length - i.val) ⟨0, Nat.zero_le _, rfl⟩ ?_ ?_
    · exact sf0_cov (i := 0) (Nat.le_refl 0) rfl rfl rfl
    · intro ⟨i, hi, he⟩
      conv => whnf
      refine Fork.dec (fun h3 => ?_) (fun h3 => ?_)
      · have h4 : i < V.length := Int.ofNat_lt.1 h3
        have h5 : i < W.length := hl ▸ h4
        have hlt : V.length - (i + 1) < V.length - i := by omega
        have hw : IntKind.i64.wrap ((i : Int) + 1) = ((i + 1 : Nat) : Int) := by rw [wrap_i64_of (by omega) (by omega)]; omega
        have hsn : V[i] = W[i] → V.take (i + 1) = W.take (i + 1) := fun e => by rw [List.take_succ_eq_append_getElem h4, List.take_succ_eq_append_getElem h5, he, e]
        have hne : ¬ V[i] = W[i] → decide (V = W) = false := fun q => decide_eq_false fun e => q (by subst e; rfl)
        conv => whnf
        refine Idx.mk i rfl h4 ?_
        conv => whnf
        refine optP_of (smp_sub h4 rfl) ?_
        conv => whnf
        refine Idx.mk i rfl h5 ?_
        conv => whnf
        refine optP_of (smp_sub h5 rfl) ?_
        conv => whnf
        refine optP_of (ebin_agg2 plan28) ?_
        conv => whnf
        refine Fork.nsb (fun h6 => ?_) (fun h6 => ?_)
        · conv => whnf
          exact same_is (hne (fun e => by rw [e] at h6; simp at h6)).symm
        · conv => whnf
          exact ⟨⟨i + 1, h4, hsn (by simp at h6; exact Prod.ext h6.1 h6.2)⟩, hlt, sf0_cov (Nat.le_refl 0) rfl rfl (congrArg (AV.si .i64) hw)⟩
      · have h4 : i = V.length := by have : ¬ (i : Int) < (V.length : Int) := h3; omega
        have h5 : decide (V = W) = true := decide_eq_true (by rw [h4, List.take_length, hl, List.take_length] at he; exact he)
        conv => whnf
        exact same_is h5.symm
/-- Two rows, as if they were frozen. -/
theorem SmpAt.frz2 {φ : Ph} {H : AH} {n : Nat} {h0 hp : Hp} (hr : HR φ H n h0 hp) {a b : AV} {L M : Smp} {v w : Value} (hS : SmpAt H a L ∨ a = .fr L.length 2 (smp L)) (hT : SmpAt H b M ∨ b = .fr M.length 2 (smp M)) (hv : VR φ a v) (hw : VR φ b w) :
    ∃ z : Fz → Prop, (Wf hp → HR ⟨fun _ => none, z, z⟩ .nil 0 hp hp) ∧ VR ⟨fun _ => none, z, z⟩ (.fr L.length 2 (smp L)) v ∧ VR ⟨fun _ => none, z, z⟩ (.fr M.length 2 (smp M)) w := by
  obtain ⟨z, h1, h2⟩ := SmpAt.frz hr hS hv
  obtain ⟨y, k1, k2⟩ := SmpAt.frz hr hT hw
  have st : ∀ L : Smp, stab (AV.fr L.length 2 (smp L)) = true := fun L => rfl
  refine ⟨fun q => z q ∨ y q, fun hwf => ?_, stab_VR (ψ := ⟨fun _ => none, fun q => z q ∨ y q, fun q => z q ∨ y q⟩) (fun _ h => Or.inl h) (st L) h2, stab_VR (ψ := ⟨fun _ => none, fun q => z q ∨ y q, fun q => z q ∨ y q⟩) (fun _ h => Or.inr h) (st M) k2⟩
  have g1 := h1 hwf
  have g2 := k1 hwf
  refine ⟨fun _ _ k => (by cases k), fun _ _ k => (by cases k), fun _ _ _ _ _ _ k => (by cases k), g1.base, g1.size, fun q hq => ⟨⟨?_, .inl hq⟩, fun _ _ _ k => (by cases k)⟩⟩
  rcases hq with hq | hq
  · exact FzR.mono (φ := ⟨fun _ => none, z, z⟩) (ψ := ⟨fun _ => none, fun q => z q ∨ y q, fun q => z q ∨ y q⟩) (fun _ h => Or.inl h) (g1.frz q hq).1.1
  · exact FzR.mono (φ := ⟨fun _ => none, y, y⟩) (ψ := ⟨fun _ => none, fun q => z q ∨ y q, fun q => z q ∨ y q⟩) (fun _ h => Or.inr h) (g2.frz q hq).1.1
theorem n_same : NatP 14 natSF := fun args H n κ hs φ h0' hp vs K hr hargs hk => by
  unfold natSF at hs
  split at hs
  · obtain ⟨x, y, rfl, e1, e2⟩ := vs2 hargs
    obtain ⟨V, W, hS, hT, hV, hs⟩ := hs
    obtain ⟨z, hz, hv, hw⟩ := SmpAt.frz2 hr hS hT e1 e2
    exact smallN GN_ok (v := .bool (decide (V = W))) rfl (sameF_run V W hV) hs hr hk (by kernel_rfl) hz (.cons hv (.cons hw .nil))
  · exact hs.elim
/-! ### room for seven -/
noncomputable def KHo : FuncId → EP := withN 13 (natQ trueN) (withN 14 natSF (withN 9 natPut (withN 12 natGet (withN 11 natAll evP))))
theorem KHo_ok (hK : NatP 13 (natQ trueN)) : TabP KHo := withN_ok (withN_ok (withN_ok (withN_ok (withN_ok evP_ok n_all) n_get) n_put) n_same) hK
noncomputable def ho (M : Smp) (sz : Nat) (L : Smp) (i : Nat) : AE × AH := (mkE [(1, .fr M.length 2 (smp M)), (5, .ptr 0 (0)), (7, .si .i64 (((i : Nat) : Int)))], mkH [(0, .cells (chk sz L) true)])
theorem ho_cov {M : Smp} {sz : Nat} {L : Smp} {i : Nat} {p n : Nat} {σ : AE} {H : AH} (hp : p ≤ 0) (e1 : getq (pa 1) σ = .fr M.length 2 (smp M)) (e5 : getq (pa 5) σ = .ptr 0 (0)) (e7 : mk (getq (pa 7) σ) = .si .i64 (((i : Nat) : Int))) (h0 : ∃ l, H.get 0 = some (.cells l true) ∧ SubL H 1 (fun b => b) l (chk sz L)) : Cov p σ H n ((ho M sz L i).1, (ho M sz L i).2, 1) := by
  refine Cov.ofR (fun b => b) (by omega) (fun b hb => rfl) ?_ ?_ ?_
  · intro x hx
    simp only [List.mem_cons, List.not_mem_nil, or_false] at hx
    rcases hx with rfl | rfl | rfl
    · exact SubV.frE e1
    · exact .ptr (by decide) e5
    · exact .int e7
  · intro x hx
    simp only [List.mem_cons, List.not_mem_nil, or_false] at hx
    subst hx
    exact ⟨by simp, .inl (h0.elim fun l h => ⟨_, h.1, SubO.st h.2⟩)⟩
  · intro x hx y hy
    simp only [List.mem_cons, List.not_mem_nil, or_false] at hx hy
    subst hx hy
    exact fun q => rfl
set_option maxHeartbeats 16000000 in
set_option maxRecDepth 100000 in
theorem w_chunkHolds (a : Int) (M : Smp) (ha : 0 ≤ a ∧ a ≤ 65535) (hM : ∀ x ∈ M, In64 x.1 ∧ In64 x.2) (hMl : M.length ≤ 8796093022208) : callT KHo 6 4 [.si .u16 a, .fr M.length 2 (smp M)] .nil 0 fun v _ _ => v = .bool true ∨ v = .sb true := by
  obtain ⟨sz, hszd⟩ : ∃ sz : Nat, sz = 128 + a.toNat % 3000 := ⟨_, rfl⟩
  have hsz1 : 128 ≤ sz := by omega
  have hsz2 : sz ≤ 4096 := by omega
  have hsz : 0 < sz := by omega
  have hse : IntKind.i64.wrap (128 + (IntKind.i64.wrap a).tmod 3000) = (sz : Int) := by
    rw [show IntKind.i64.wrap a = a from W64_of ⟨by omega, by omega⟩, Int.tmod_eq_emod_of_nonneg ha.1]
    refine (W64_of ⟨by omega, by omega⟩).trans ?_
    omega
  have h128 : ¬ IntKind.i64.wrap (128 + (IntKind.i64.wrap a).tmod 3000) < 128 := by rw [hse]; omega
  have h4096 : ¬ 4096 < IntKind.i64.wrap (128 + (IntKind.i64.wrap a).tmod 3000) := by rw [hse]; omega
  conv => whnf
  refine Fork.dec (fun q => absurd q h128) (fun _ => ?_)
  conv => whnf
  refine Fork.dec (fun q => absurd q h4096) (fun _ => ?_)
  conv => whnf
  refine LoopP.mk { x : Nat × Smp // x.1 ≤ M.length ∧ Fine x.2 ∧ (encB x.2).length ≤ 8 * sz } 1 (fun x => ho M sz x.val.2 x.val.1) (fun x => M.length - x.val.1) ⟨(0, []), Nat.zero_le _, .nil, Nat.zero_le _⟩ ?_ ?_
  · exact ho_cov (Nat.le_refl 0) rfl rfl rfl ⟨_, rfl, chk_new sz (x := .si .i64 (IntKind.i64.wrap (128 + (IntKind.i64.wrap a).tmod 3000))) (congrArg (AV.si .i64) hse)⟩
  · intro ⟨(i, L), hi, hF, hfit⟩
    dsimp only at hi hF hfit
    have hL1 : L.length ≤ 100000 := Nat.le_trans hF.2.2 (by decide)
    conv => whnf
    refine Fork.dec (fun h => ?_) (fun h => ?_)
    · have hi2 : i < M.length := by exact Int.ofNat_lt.1 h
      have hV : In64 M[i].2 := (hM _ (List.getElem_mem hi2)).2
      conv => whnf
      refine Fork.dec (fun h100 => ?_) (fun h100 => ?_)
      · have hi1 : IntKind.i64.wrap ((i : Int) + 1) = ((i + 1 : Nat) : Int) := W64_of ⟨by omega, by omega⟩
        obtain ⟨hl1, hl2, hl3, hl4, hl5, hl6⟩ := hold_law hF hsz1 hfit M[i].1 M[i].2
        have hF' : Fine (putF sz L M[i].1 M[i].2 1).1 := putF_fine hsz2 hF hV
        have hL1' : (putF sz L M[i].1 M[i].2 1).1.length ≤ 100000 := Nat.le_trans hF'.2.2 (by decide)
        have hL2' : (putF sz L M[i].1 M[i].2 1).1.length ≤ 1000000 := Nat.le_trans hF'.2.2 (by decide)
        have hl3' : (putF sz L M[i].1 M[i].2 1).2 = 0 → ((putF sz L M[i].1 M[i].2 1).1.length : Int) = IntKind.i64.wrap ((L.length : Int) + 1) := fun q => by
          rw [show IntKind.i64.wrap ((L.length : Int) + 1) = (L.length : Int) + 1 from W64_of ⟨by omega, by omega⟩, hl3 q]; rfl
        have hused : ¬ (sz : Int) < ((pack (encB (putF sz L M[i].1 M[i].2 1).1)).length : Int) := by rw [pack_length]; omega
        conv => whnf
        refine ⟨0, sz, _, L, rfl, rfl, rfl, hsz, hL1, hF.in64, ?_⟩
        conv => whnf
        refine Idx.mk i rfl hi2 ?_
        conv => whnf
        refine optP_of (smp_nth0 hi2 rfl) ?_
        conv => whnf
        refine ⟨0, sz, L, M[i].1, rfl, rfl, by decide, rfl, hsz, hF, ?_⟩
        conv => whnf
        refine Idx.mk i rfl hi2 ?_
        conv => whnf
        refine optP_of (smp_sub hi2 rfl) ?_
        conv => whnf
        refine ⟨0, sz, L, M[i].1, M[i].2, 1, rfl, ⟨_, _, rfl, rfl, rfl⟩, rfl, by decide, rfl, hsz, hsz2, hF, hV, ?_⟩
        conv => whnf
        refine Fork.dec (fun hf2 => ?_) (fun hf2 => ?_)
        · have hf0 : (putF sz L M[i].1 M[i].2 1).2 ≠ 0 := fun q => by rw [q] at hf2; cases hf2
          conv => whnf
          refine Fork.dec (fun q => absurd ⟨hf2, .inl (by omega)⟩ hl1) (fun _ => ?_)
          conv => whnf
          refine Fork.dec (fun q => absurd ⟨hf2, .inr q⟩ hl1) (fun _ => ?_)
          conv => whnf
          refine Fork.ndec (fun _ => ?_) (fun q => absurd q hf0)
          conv => whnf
          refine ⟨0, sz, _, (putF sz L M[i].1 M[i].2 1).1, rfl, rfl, rfl, hsz, hL1', hF'.in64, ?_⟩
          conv => whnf
          refine ⟨(putF sz L M[i].1 M[i].2 1).1, L, .inr rfl, .inr rfl, hL2', ?_⟩
          conv => whnf
          refine Fork.ndec (fun q => absurd (hl2 hf0) q) (fun _ => ?_)
          conv => whnf
          refine Fork.dec (fun q => absurd q hf0) (fun _ => ?_)
          conv => whnf
          refine Fork.dec (fun hg => ?_) (fun hg => ?_)
          · conv => whnf
            refine Idx.mk i rfl hi2 ?_
            conv => whnf
            refine optP_of (smp_nth0 hi2 rfl) ?_
            conv => whnf
            refine Fork.dec (fun h0 => ?_) (fun h0 => ?_)
            · conv => whnf
              refine Idx.mk i rfl hi2 ?_
              conv => whnf
              refine optP_of (smp_nth0 hi2 rfl) ?_
              conv => whnf
              have hx : (decide ((putF sz L M[i].1 M[i].2 1).2 = 8) == decide (M[i].1 < 1099511627776)) = true := by rw [beq_iff_eq, decide_eq_decide]; exact ⟨fun q => (hl4.1 q).2.2, fun q => hl4.2 ⟨hg, h0, q⟩⟩
              refine Fork.nsb (fun q => absurd q (by rw [hx]; decide)) (fun _ => ?_)
              conv => whnf
              refine Idx.mk i rfl hi2 ?_
              conv => whnf
              refine optP_of (smp_nth0 hi2 rfl) ?_
              conv => whnf
              refine Fork.dec (fun hT0 => ?_) (fun hT0 => ?_)
              · have hx : (decide ((putF sz L M[i].1 M[i].2 1).2 = 1) == true) = true := by rw [decide_eq_true (hl5.2 (.inl hT0))]; rfl
                refine Fork.nsb (fun q => absurd q (by rw [hx]; decide)) (fun _ => ?_)
                conv => whnf
                refine Fork.dec (fun q => absurd q hused) (fun _ => ?_)
                conv => whnf
                exact ⟨⟨(i + 1, (putF sz L M[i].1 M[i].2 1).1), hi2, hF', hl6⟩, (show M.length - (i + 1) < M.length - i by omega), ho_cov (Nat.le_refl 0) rfl rfl (congrArg (AV.si .i64) hi1) ⟨_, rfl, chk_sub _ _⟩⟩
              · conv => whnf
                refine Idx.mk i rfl hi2 ?_
                conv => whnf
                refine optP_of (smp_nth0 hi2 rfl) ?_
                conv => whnf
                have hx : (decide ((putF sz L M[i].1 M[i].2 1).2 = 1) == decide (1099511627776 ≤ M[i].1)) = true := by rw [beq_iff_eq, decide_eq_decide]; exact ⟨fun q => (hl5.1 q).resolve_left hT0, fun q => hl5.2 (.inr q)⟩
                refine Fork.nsb (fun q => absurd q (by rw [hx]; decide)) (fun _ => ?_)
                conv => whnf
                refine Fork.dec (fun q => absurd q hused) (fun _ => ?_)
                conv => whnf
                exact ⟨⟨(i + 1, (putF sz L M[i].1 M[i].2 1).1), hi2, hF', hl6⟩, (show M.length - (i + 1) < M.length - i by omega), ho_cov (Nat.le_refl 0) rfl rfl (congrArg (AV.si .i64) hi1) ⟨_, rfl, chk_sub _ _⟩⟩
            · conv => whnf
              have hx : (decide ((putF sz L M[i].1 M[i].2 1).2 = 8) == false) = true := by rw [decide_eq_false (fun q => h0 (hl4.1 q).2.1)]; rfl
              refine Fork.nsb (fun q => absurd q (by rw [hx]; decide)) (fun _ => ?_)
              conv => whnf
              refine Idx.mk i rfl hi2 ?_
              conv => whnf
              refine optP_of (smp_nth0 hi2 rfl) ?_
              conv => whnf
              refine Fork.dec (fun hT0 => ?_) (fun hT0 => ?_)
              · have hx : (decide ((putF sz L M[i].1 M[i].2 1).2 = 1) == true) = true := by rw [decide_eq_true (hl5.2 (.inl hT0))]; rfl
                refine Fork.nsb (fun q => absurd q (by rw [hx]; decide)) (fun _ => ?_)
                conv => whnf
                refine Fork.dec (fun q => absurd q hused) (fun _ => ?_)
                conv => whnf
                exact ⟨⟨(i + 1, (putF sz L M[i].1 M[i].2 1).1), hi2, hF', hl6⟩, (show M.length - (i + 1) < M.length - i by omega), ho_cov (Nat.le_refl 0) rfl rfl (congrArg (AV.si .i64) hi1) ⟨_, rfl, chk_sub _ _⟩⟩
              · conv => whnf
                refine Idx.mk i rfl hi2 ?_
                conv => whnf
                refine optP_of (smp_nth0 hi2 rfl) ?_
                conv => whnf
                have hx : (decide ((putF sz L M[i].1 M[i].2 1).2 = 1) == decide (1099511627776 ≤ M[i].1)) = true := by rw [beq_iff_eq, decide_eq_decide]; exact ⟨fun q => (hl5.1 q).resolve_left hT0, fun q => hl5.2 (.inr q)⟩
                refine Fork.nsb (fun q => absurd q (by rw [hx]; decide)) (fun _ => ?_)
                conv => whnf
                refine Fork.dec (fun q => absurd q hused) (fun _ => ?_)
                conv => whnf
                exact ⟨⟨(i + 1, (putF sz L M[i].1 M[i].2 1).1), hi2, hF', hl6⟩, (show M.length - (i + 1) < M.length - i by omega), ho_cov (Nat.le_refl 0) rfl rfl (congrArg (AV.si .i64) hi1) ⟨_, rfl, chk_sub _ _⟩⟩
          · conv => whnf
            have hx : (decide ((putF sz L M[i].1 M[i].2 1).2 = 8) == false) = true := by rw [decide_eq_false (fun q => hg (hl4.1 q).1)]; rfl
            refine Fork.nsb (fun q => absurd q (by rw [hx]; decide)) (fun _ => ?_)
            conv => whnf
            refine Idx.mk i rfl hi2 ?_
            conv => whnf
            refine optP_of (smp_nth0 hi2 rfl) ?_
            conv => whnf
            refine Fork.dec (fun hT0 => ?_) (fun hT0 => ?_)
            · have hx : (decide ((putF sz L M[i].1 M[i].2 1).2 = 1) == true) = true := by rw [decide_eq_true (hl5.2 (.inl hT0))]; rfl
              refine Fork.nsb (fun q => absurd q (by rw [hx]; decide)) (fun _ => ?_)
              conv => whnf
              refine Fork.dec (fun q => absurd q hused) (fun _ => ?_)
              conv => whnf
              exact ⟨⟨(i + 1, (putF sz L M[i].1 M[i].2 1).1), hi2, hF', hl6⟩, (show M.length - (i + 1) < M.length - i by omega), ho_cov (Nat.le_refl 0) rfl rfl (congrArg (AV.si .i64) hi1) ⟨_, rfl, chk_sub _ _⟩⟩
            · conv => whnf
              refine Idx.mk i rfl hi2 ?_
              conv => whnf
              refine optP_of (smp_nth0 hi2 rfl) ?_
              conv => whnf
              have hx : (decide ((putF sz L M[i].1 M[i].2 1).2 = 1) == decide (1099511627776 ≤ M[i].1)) = true := by rw [beq_iff_eq, decide_eq_decide]; exact ⟨fun q => (hl5.1 q).resolve_left hT0, fun q => hl5.2 (.inr q)⟩
              refine Fork.nsb (fun q => absurd q (by rw [hx]; decide)) (fun _ => ?_)
              conv => whnf
              refine Fork.dec (fun q => absurd q hused) (fun _ => ?_)
              conv => whnf
              exact ⟨⟨(i + 1, (putF sz L M[i].1 M[i].2 1).1), hi2, hF', hl6⟩, (show M.length - (i + 1) < M.length - i by omega), ho_cov (Nat.le_refl 0) rfl rfl (congrArg (AV.si .i64) hi1) ⟨_, rfl, chk_sub _ _⟩⟩
        · conv => whnf
          refine Fork.ndec (fun hf0 => ?_) (fun hf0 => ?_)
          · conv => whnf
            refine ⟨0, sz, _, (putF sz L M[i].1 M[i].2 1).1, rfl, rfl, rfl, hsz, hL1', hF'.in64, ?_⟩
            conv => whnf
            refine ⟨(putF sz L M[i].1 M[i].2 1).1, L, .inr rfl, .inr rfl, hL2', ?_⟩
            conv => whnf
            refine Fork.ndec (fun q => absurd (hl2 hf0) q) (fun _ => ?_)
            conv => whnf
            refine Fork.dec (fun q => absurd q hf0) (fun _ => ?_)
            conv => whnf
            refine Fork.dec (fun hg => ?_) (fun hg => ?_)
            · conv => whnf
              refine Idx.mk i rfl hi2 ?_
              conv => whnf
              refine optP_of (smp_nth0 hi2 rfl) ?_
              conv => whnf
              refine Fork.dec (fun h0 => ?_) (fun h0 => ?_)
              · conv => whnf
                refine Idx.mk i rfl hi2 ?_
                conv => whnf
                refine optP_of (smp_nth0 hi2 rfl) ?_
                conv => whnf
                have hx : (decide ((putF sz L M[i].1 M[i].2 1).2 = 8) == decide (M[i].1 < 1099511627776)) = true := by rw [beq_iff_eq, decide_eq_decide]; exact ⟨fun q => (hl4.1 q).2.2, fun q => hl4.2 ⟨hg, h0, q⟩⟩
                refine Fork.nsb (fun q => absurd q (by rw [hx]; decide)) (fun _ => ?_)
                conv => whnf
                refine Idx.mk i rfl hi2 ?_
                conv => whnf
                refine optP_of (smp_nth0 hi2 rfl) ?_
                conv => whnf
                refine Fork.dec (fun hT0 => ?_) (fun hT0 => ?_)
                · have hx : (decide ((putF sz L M[i].1 M[i].2 1).2 = 1) == true) = true := by rw [decide_eq_true (hl5.2 (.inl hT0))]; rfl
                  refine Fork.nsb (fun q => absurd q (by rw [hx]; decide)) (fun _ => ?_)
                  conv => whnf
                  refine Fork.dec (fun q => absurd q hused) (fun _ => ?_)
                  conv => whnf
                  exact ⟨⟨(i + 1, (putF sz L M[i].1 M[i].2 1).1), hi2, hF', hl6⟩, (show M.length - (i + 1) < M.length - i by omega), ho_cov (Nat.le_refl 0) rfl rfl (congrArg (AV.si .i64) hi1) ⟨_, rfl, chk_sub _ _⟩⟩
                · conv => whnf
                  refine Idx.mk i rfl hi2 ?_
                  conv => whnf
                  refine optP_of (smp_nth0 hi2 rfl) ?_
                  conv => whnf
                  have hx : (decide ((putF sz L M[i].1 M[i].2 1).2 = 1) == decide (1099511627776 ≤ M[i].1)) = true := by rw [beq_iff_eq, decide_eq_decide]; exact ⟨fun q => (hl5.1 q).resolve_left hT0, fun q => hl5.2 (.inr q)⟩
                  refine Fork.nsb (fun q => absurd q (by rw [hx]; decide)) (fun _ => ?_)
                  conv => whnf
                  refine Fork.dec (fun q => absurd q hused) (fun _ => ?_)
                  conv => whnf
                  exact ⟨⟨(i + 1, (putF sz L M[i].1 M[i].2 1).1), hi2, hF', hl6⟩, (show M.length - (i + 1) < M.length - i by omega), ho_cov (Nat.le_refl 0) rfl rfl (congrArg (AV.si .i64) hi1) ⟨_, rfl, chk_sub _ _⟩⟩
              · conv => whnf
                have hx : (decide ((putF sz L M[i].1 M[i].2 1).2 = 8) == false) = true := by rw [decide_eq_false (fun q => h0 (hl4.1 q).2.1)]; rfl
                refine Fork.nsb (fun q => absurd q (by rw [hx]; decide)) (fun _ => ?_)
                conv => whnf
                refine Idx.mk i rfl hi2 ?_
                conv => whnf
                refine optP_of (smp_nth0 hi2 rfl) ?_
                conv => whnf
                refine Fork.dec (fun hT0 => ?_) (fun hT0 => ?_)
                · have hx : (decide ((putF sz L M[i].1 M[i].2 1).2 = 1) == true) = true := by rw [decide_eq_true (hl5.2 (.inl hT0))]; rfl
                  refine Fork.nsb (fun q => absurd q (by rw [hx]; decide)) (fun _ => ?_)
                  conv => whnf
                  refine Fork.dec (fun q => absurd q hused) (fun _ => ?_)
                  conv => whnf
                  exact ⟨⟨(i + 1, (putF sz L M[i].1 M[i].2 1).1), hi2, hF', hl6⟩, (show M.length - (i + 1) < M.length - i by omega), ho_cov (Nat.le_refl 0) rfl rfl (congrArg (AV.si .i64) hi1) ⟨_, rfl, chk_sub _ _⟩⟩
                · conv => whnf
                  refine Idx.mk i rfl hi2 ?_
                  conv => whnf
                  refine optP_of (smp_nth0 hi2 rfl) ?_
                  conv => whnf
                  have hx : (decide ((putF sz L M[i].1 M[i].2 1).2 = 1) == decide (1099511627776 ≤ M[i].1)) = true := by rw [beq_iff_eq, decide_eq_decide]; exact ⟨fun q => (hl5.1 q).resolve_left hT0, fun q => hl5.2 (.inr q)⟩
                  refine Fork.nsb (fun q => absurd q (by rw [hx]; decide)) (fun _ => ?_)
                  conv => whnf
                  refine Fork.dec (fun q => absurd q hused) (fun _ => ?_)
                  conv => whnf
                  exact ⟨⟨(i + 1, (putF sz L M[i].1 M[i].2 1).1), hi2, hF', hl6⟩, (show M.length - (i + 1) < M.length - i by omega), ho_cov (Nat.le_refl 0) rfl rfl (congrArg (AV.si .i64) hi1) ⟨_, rfl, chk_sub _ _⟩⟩
            · conv => whnf
              have hx : (decide ((putF sz L M[i].1 M[i].2 1).2 = 8) == false) = true := by rw [decide_eq_false (fun q => hg (hl4.1 q).1)]; rfl
              refine Fork.nsb (fun q => absurd q (by rw [hx]; decide)) (fun _ => ?_)
              conv => whnf
              refine Idx.mk i rfl hi2 ?_
              conv => whnf
              refine optP_of (smp_nth0 hi2 rfl) ?_
              conv => whnf
              refine Fork.dec (fun hT0 => ?_) (fun hT0 => ?_)
              · have hx : (decide ((putF sz L M[i].1 M[i].2 1).2 = 1) == true) = true := by rw [decide_eq_true (hl5.2 (.inl hT0))]; rfl
                refine Fork.nsb (fun q => absurd q (by rw [hx]; decide)) (fun _ => ?_)
                conv => whnf
                refine Fork.dec (fun q => absurd q hused) (fun _ => ?_)
                conv => whnf
                exact ⟨⟨(i + 1, (putF sz L M[i].1 M[i].2 1).1), hi2, hF', hl6⟩, (show M.length - (i + 1) < M.length - i by omega), ho_cov (Nat.le_refl 0) rfl rfl (congrArg (AV.si .i64) hi1) ⟨_, rfl, chk_sub _ _⟩⟩
              · conv => whnf
                refine Idx.mk i rfl hi2 ?_
                conv => whnf
                refine optP_of (smp_nth0 hi2 rfl) ?_
                conv => whnf
                have hx : (decide ((putF sz L M[i].1 M[i].2 1).2 = 1) == decide (1099511627776 ≤ M[i].1)) = true := by rw [beq_iff_eq, decide_eq_decide]; exact ⟨fun q => (hl5.1 q).resolve_left hT0, fun q => hl5.2 (.inr q)⟩
                refine Fork.nsb (fun q => absurd q (by rw [hx]; decide)) (fun _ => ?_)
                conv => whnf
                refine Fork.dec (fun q => absurd q hused) (fun _ => ?_)
                conv => whnf
                exact ⟨⟨(i + 1, (putF sz L M[i].1 M[i].2 1).1), hi2, hF', hl6⟩, (show M.length - (i + 1) < M.length - i by omega), ho_cov (Nat.le_refl 0) rfl rfl (congrArg (AV.si .i64) hi1) ⟨_, rfl, chk_sub _ _⟩⟩
          · conv => whnf
            refine Fork.dec (fun _ => ?_) (fun q => absurd hf0 q)
            conv => whnf
            refine Fork.ndec (fun q => absurd (hl3' hf0) q) (fun _ => ?_)
            conv => whnf
            refine Fork.dec (fun hg => ?_) (fun hg => ?_)
            · conv => whnf
              refine Idx.mk i rfl hi2 ?_
              conv => whnf
              refine optP_of (smp_nth0 hi2 rfl) ?_
              conv => whnf
              refine Fork.dec (fun h0 => ?_) (fun h0 => ?_)
              · conv => whnf
                refine Idx.mk i rfl hi2 ?_
                conv => whnf
                refine optP_of (smp_nth0 hi2 rfl) ?_
                conv => whnf
                have hx : (decide ((putF sz L M[i].1 M[i].2 1).2 = 8) == decide (M[i].1 < 1099511627776)) = true := by rw [beq_iff_eq, decide_eq_decide]; exact ⟨fun q => (hl4.1 q).2.2, fun q => hl4.2 ⟨hg, h0, q⟩⟩
                refine Fork.nsb (fun q => absurd q (by rw [hx]; decide)) (fun _ => ?_)
                conv => whnf
                refine Idx.mk i rfl hi2 ?_
                conv => whnf
                refine optP_of (smp_nth0 hi2 rfl) ?_
                conv => whnf
                refine Fork.dec (fun hT0 => ?_) (fun hT0 => ?_)
                · have hx : (decide ((putF sz L M[i].1 M[i].2 1).2 = 1) == true) = true := by rw [decide_eq_true (hl5.2 (.inl hT0))]; rfl
                  refine Fork.nsb (fun q => absurd q (by rw [hx]; decide)) (fun _ => ?_)
                  conv => whnf
                  refine Fork.dec (fun q => absurd q hused) (fun _ => ?_)
                  conv => whnf
                  exact ⟨⟨(i + 1, (putF sz L M[i].1 M[i].2 1).1), hi2, hF', hl6⟩, (show M.length - (i + 1) < M.length - i by omega), ho_cov (Nat.le_refl 0) rfl rfl (congrArg (AV.si .i64) hi1) ⟨_, rfl, chk_sub _ _⟩⟩
                · conv => whnf
                  refine Idx.mk i rfl hi2 ?_
                  conv => whnf
                  refine optP_of (smp_nth0 hi2 rfl) ?_
                  conv => whnf
                  have hx : (decide ((putF sz L M[i].1 M[i].2 1).2 = 1) == decide (1099511627776 ≤ M[i].1)) = true := by rw [beq_iff_eq, decide_eq_decide]; exact ⟨fun q => (hl5.1 q).resolve_left hT0, fun q => hl5.2 (.inr q)⟩
                  refine Fork.nsb (fun q => absurd q (by rw [hx]; decide)) (fun _ => ?_)
                  conv => whnf
                  refine Fork.dec (fun q => absurd q hused) (fun _ => ?_)
                  conv => whnf
                  exact ⟨⟨(i + 1, (putF sz L M[i].1 M[i].2 1).1), hi2, hF', hl6⟩, (show M.length - (i + 1) < M.length - i by omega), ho_cov (Nat.le_refl 0) rfl rfl (congrArg (AV.si .i64) hi1) ⟨_, rfl, chk_sub _ _⟩⟩
              · conv => whnf
                have hx : (decide ((putF sz L M[i].1 M[i].2 1).2 = 8) == false) = true := by rw [decide_eq_false (fun q => h0 (hl4.1 q).2.1)]; rfl
                refine Fork.nsb (fun q => absurd q (by rw [hx]; decide)) (fun _ => ?_)
                conv => whnf
                refine Idx.mk i rfl hi2 ?_
                conv => whnf
                refine optP_of (smp_nth0 hi2 rfl) ?_
                conv => whnf
                refine Fork.dec (fun hT0 => ?_) (fun hT0 => ?_)
                · have hx : (decide ((putF sz L M[i].1 M[i].2 1).2 = 1) == true) = true := by rw [decide_eq_true (hl5.2 (.inl hT0))]; rfl
                  refine Fork.nsb (fun q => absurd q (by rw [hx]; decide)) (fun _ => ?_)
                  conv => whnf
                  refine Fork.dec (fun q => absurd q hused) (fun _ => ?_)
                  conv => whnf
                  exact ⟨⟨(i + 1, (putF sz L M[i].1 M[i].2 1).1), hi2, hF', hl6⟩, (show M.length - (i + 1) < M.length - i by omega), ho_cov (Nat.le_refl 0) rfl rfl (congrArg (AV.si .i64) hi1) ⟨_, rfl, chk_sub _ _⟩⟩
                · conv => whnf
                  refine Idx.mk i rfl hi2 ?_
                  conv => whnf
                  refine optP_of (smp_nth0 hi2 rfl) ?_
                  conv => whnf
                  have hx : (decide ((putF sz L M[i].1 M[i].2 1).2 = 1) == decide (1099511627776 ≤ M[i].1)) = true := by rw [beq_iff_eq, decide_eq_decide]; exact ⟨fun q => (hl5.1 q).resolve_left hT0, fun q => hl5.2 (.inr q)⟩
                  refine Fork.nsb (fun q => absurd q (by rw [hx]; decide)) (fun _ => ?_)
                  conv => whnf
                  refine Fork.dec (fun q => absurd q hused) (fun _ => ?_)
                  conv => whnf
                  exact ⟨⟨(i + 1, (putF sz L M[i].1 M[i].2 1).1), hi2, hF', hl6⟩, (show M.length - (i + 1) < M.length - i by omega), ho_cov (Nat.le_refl 0) rfl rfl (congrArg (AV.si .i64) hi1) ⟨_, rfl, chk_sub _ _⟩⟩
            · conv => whnf
              have hx : (decide ((putF sz L M[i].1 M[i].2 1).2 = 8) == false) = true := by rw [decide_eq_false (fun q => hg (hl4.1 q).1)]; rfl
              refine Fork.nsb (fun q => absurd q (by rw [hx]; decide)) (fun _ => ?_)
              conv => whnf
              refine Idx.mk i rfl hi2 ?_
              conv => whnf
              refine optP_of (smp_nth0 hi2 rfl) ?_
              conv => whnf
              refine Fork.dec (fun hT0 => ?_) (fun hT0 => ?_)
              · have hx : (decide ((putF sz L M[i].1 M[i].2 1).2 = 1) == true) = true := by rw [decide_eq_true (hl5.2 (.inl hT0))]; rfl
                refine Fork.nsb (fun q => absurd q (by rw [hx]; decide)) (fun _ => ?_)
                conv => whnf
                refine Fork.dec (fun q => absurd q hused) (fun _ => ?_)
                conv => whnf
                exact ⟨⟨(i + 1, (putF sz L M[i].1 M[i].2 1).1), hi2, hF', hl6⟩, (show M.length - (i + 1) < M.length - i by omega), ho_cov (Nat.le_refl 0) rfl rfl (congrArg (AV.si .i64) hi1) ⟨_, rfl, chk_sub _ _⟩⟩
              · conv => whnf
                refine Idx.mk i rfl hi2 ?_
                conv => whnf
                refine optP_of (smp_nth0 hi2 rfl) ?_
                conv => whnf
                have hx : (decide ((putF sz L M[i].1 M[i].2 1).2 = 1) == decide (1099511627776 ≤ M[i].1)) = true := by rw [beq_iff_eq, decide_eq_decide]; exact ⟨fun q => (hl5.1 q).resolve_left hT0, fun q => hl5.2 (.inr q)⟩
                refine Fork.nsb (fun q => absurd q (by rw [hx]; decide)) (fun _ => ?_)
                conv => whnf
                refine Fork.dec (fun q => absurd q hused) (fun _ => ?_)
                conv => whnf
                exact ⟨⟨(i + 1, (putF sz L M[i].1 M[i].2 1).1), hi2, hF', hl6⟩, (show M.length - (i + 1) < M.length - i by omega), ho_cov (Nat.le_refl 0) rfl rfl (congrArg (AV.si .i64) hi1) ⟨_, rfl, chk_sub _ _⟩⟩
      · conv => whnf
        exact .inl rfl
    · conv => whnf
      exact .inl rfl
end Go.Proofs.Ytpfflibkkjjlaaa
namespace Go.Proofs.Ytpfflibkkjjlaaa
open Go Go.RowKit
theorem u16_rng {z : Int} (h : (Lit.int .u16 z).wf = true) : 0 ≤ z ∧ z ≤ 65535 := by
  simp [Lit.wf, IntKind.min, IntKind.max, IntKind.signed, IntKind.bits] at h
  omega
end Go.Proofs.Ytpfflibkkjjlaaa
