/- Texts of our own, joined: the engine, the machine that runs code, and what is known of the functions. -/
import Derived.Test.YtpfflibkkjjlaaaJi
set_option linter.unusedSimpArgs false
set_option linter.unusedVariables false
namespace Go.Proofs.Ytpfflibkkjjlaaa
open Go Go.RowKit
set_option maxRecDepth 20000
/-! ### rows of samples alike -/
theorem plan28 : eqPlan Try.prog 28 = some [(0, 0), (0, 1)] := by kernel_rfl
theorem ebin_agg2 {P : Program} {t : TypeId} {H : AH} {a b c d : Int} (hp : eqPlan P t = some [(0, 0), (0, 1)]) : ebin P .neq t (.agg [.int .i64 a, .int .i64 b]) (.agg [.int .i64 c, .int .i64 d]) H = some (.bool (!(decide (a = c) && (decide (b = d) && true)))) := by
  simp [ebin, hp, eplan, nth, qbool]
theorem same_is {a b : Bool} (h : a = b) : mkT (AV.bool a) = mkT (.bool b) := by rw [h]
def natSF (args : List AV) (H : AH) (n : Nat) (κ : PK) : Prop := match args with
  | [x, y] => ∃ V W, (SmpAt H x V ∨ x = .fr V.length 2 (smp V)) ∧ (SmpAt H y W ∨ y = .fr W.length 2 (smp W)) ∧ V.length ≤ 1000000 ∧ κ (.sb (decide (V = W))) H n
  | _ => False
noncomputable def sf0 (V : Smp) (W : Smp) (i : Nat) : AE × AH := (mkE [(0, .fr V.length 2 (smp V)), (1, .fr W.length 2 (smp W)), (5, .si .i64 (i))], mkH [])
theorem sf0_cov {V : Smp} {W : Smp} {i : Nat} {p n : Nat} {σ : AE} {H : AH} (hp : p ≤ 0) (e0 : getq (pa 0) σ = .fr V.length 2 (smp V)) (e1 : getq (pa 1) σ = .fr W.length 2 (smp W)) (e5 : mk (getq (pa 5) σ) = .si .i64 (i)) : Cov p σ H n ((sf0 V W i).1, (sf0 V W i).2, 0) := by
  refine Cov.ofR (fun b => b) (by omega) (fun b hb => rfl) ?_ ?_ ?_
  · intro x hx
    simp only [List.mem_cons, List.not_mem_nil, or_false] at hx
    rcases hx with rfl | rfl | rfl
    · exact SubV.frE e0
    · exact SubV.frE e1
    · exact .int e5
  · intro x hx
    cases hx
  · intro x hx y hy
    cases hx
noncomputable def GN : FuncId → EP := withD 14 [] evP
theorem GN_ok : TabP GN := withD_ok evP_ok (by kernel_rfl) (by kernel_rfl)
set_option maxHeartbeats 4000000 in
set_option maxRecDepth 100000 in
theorem sameF_run (V W : Smp) (hV : V.length ≤ 1000000) : callT GN 3 14 [.fr V.length 2 (smp V), .fr W.length 2 (smp W)] .nil 0 fun u _ _ => mkT u = mkT (.bool (decide (V = W))) := by
  conv => whnf
  refine Fork.ndec (fun h1 => ?_) (fun h1 => ?_)
  · have h2 : decide (V = W) = false := decide_eq_false fun e => h1 (by subst e; rfl)
    conv => whnf
    exact same_is h2.symm
  · have hl : V.length = W.length := Int.ofNat_inj.1 h1
    conv => whnf
    refine LoopP.mk { i : Nat // i ≤ V.length ∧ V.take i = W.take i } 0 (fun i => sf0 V W i.val) (fun i => V.length - i.val) ⟨0, Nat.zero_le _, rfl⟩ ?_ ?_
    · exact sf0_cov (i := 0) (Nat.le_refl 0) rfl rfl rfl
    · intro ⟨i, hi, he⟩
      conv => whnf
      refine Fork.dec (fun h3 => ?_) (fun h3 => ?_)
      · have h4 : i < V.length := Int.ofNat_lt.1 h3
        have h5 : i < W.length := hl ▸ h4
        have hlt : V.length - (i + 1) < V.length - i := by omega
        have hw : IntKind.i64.wrap ((i : Int) + 1) = ((i + 1 : Nat) : Int) := by rw [wrap_i64_of (by omega) (by omega)]; omega
        have hsn : V[i] = W[i] → V.take (i + 1) = W.take (i + 1) := fun e => by rw [List.take_succ_eq_append_getElem h4, List.take_succ_eq_append_getElem h5, he, e]
        have hne : ¬ V[i] = W[i] → decide (V = W) = false := fun q => decide_eq_false fun e => q (by subst e; rfl)
        conv => whnf
        refine Idx.mk i rfl h4 ?_
        conv => whnf
        refine optP_of (smp_sub h4 rfl) ?_
        conv => whnf
        refine Idx.mk i rfl h5 ?_
        conv => whnf
        refine optP_of (smp_sub h5 rfl) ?_
        conv => whnf
        refine optP_of (ebin_agg2 plan28) ?_
        conv => whnf
        refine Fork.nsb (fun h6 => ?_) (fun h6 => ?_)
        · conv => whnf
          exact same_is (hne (fun e => by rw [e] at h6; simp at h6)).symm
        · conv => whnf
          exact ⟨⟨i + 1, h4, hsn (by simp at h6; exact Prod.ext h6.1 h6.2)⟩, hlt, sf0_cov (Nat.le_refl 0) rfl rfl (congrArg (AV.si .i64) hw)⟩
      · have h4 : i = V.length := by have : ¬ (i : Int) < (V.length : Int) := h3; omega
        have h5 : decide (V = W) = true := decide_eq_true (by rw [h4, List.take_length, hl, List.take_length] at he; exact he)
        conv => whnf
        exact same_is h5.symm
/-- Two rows, as if they were frozen. -/
theorem SmpAt.frz2 {φ : Ph} {H : AH} {n : Nat} {h0 hp : Hp} (hr : HR φ H n h0 hp) {a b : AV} {L M : Smp} {v w : Value} (hS : SmpAt H a L ∨ a = .fr L.length 2 (smp L)) (hT : SmpAt H b M ∨ b = .fr M.length 2 (smp M)) (hv : VR φ a v) (hw : VR φ b w) :
    ∃ z : Fz → Prop, (Wf hp → HR ⟨fun _ => none, z, z⟩ .nil 0 hp hp) ∧ VR ⟨fun _ => none, z, z⟩ (.fr L.length 2 (smp L)) v ∧ VR ⟨fun _ => none, z, z⟩ (.fr M.length 2 (smp M)) w := by
  obtain ⟨z, h1, h2⟩ := SmpAt.frz hr hS hv
  obtain ⟨y, k1, k2⟩ := SmpAt.frz hr hT hw
  have st : ∀ L : Smp, stab (AV.fr L.length 2 (smp L)) = true := fun L => rfl
  refine ⟨fun q => z q ∨ y q, fun hwf => ?_, stab_VR (ψ := ⟨fun _ => none, fun q => z q ∨ y q, fun q => z q ∨ y q⟩) (fun _ h => Or.inl h) (st L) h2, stab_VR (ψ := ⟨fun _ => none, fun q => z q ∨ y q, fun q => z q ∨ y q⟩) (fun _ h => Or.inr h) (st M) k2⟩
  have g1 := h1 hwf
  have g2 := k1 hwf
  refine ⟨fun _ _ k => (by cases k), fun _ _ k => (by cases k), fun _ _ _ _ _ _ k => (by cases k), g1.base, g1.size, fun q hq => ⟨⟨?_, .inl hq⟩, fun _ _ _ k => (by cases k)⟩⟩
  rcases hq with hq | hq
  · exact FzR.mono (φ := ⟨fun _ => none, z, z⟩) (ψ := ⟨fun _ => none, fun q => z q ∨ y q, fun q => z q ∨ y q⟩) (fun _ h => Or.inl h) (g1.frz q hq).1.1
  · exact FzR.mono (φ := ⟨fun _ => none, y, y⟩) (ψ := ⟨fun _ => none, fun q => z q ∨ y q, fun q => z q ∨ y q⟩) (fun _ h => Or.inr h) (g2.frz q hq).1.1
theorem n_same : NatP 14 natSF := fun args H n κ hs φ h0' hp vs K hr hargs hk => by
  unfold natSF at hs
  split at hs
  · obtain ⟨x, y, rfl, e1, e2⟩ := vs2 hargs
    obtain ⟨V, W, hS, hT, hV, hs⟩ := hs
    obtain ⟨z, hz, hv, hw⟩ := SmpAt.frz2 hr hS hT e1 e2
    exact smallN GN_ok (v := .bool (decide (V = W))) rfl (sameF_run V W hV) hs hr hk (by kernel_rfl) hz (.cons hv (.cons hw .nil))
  · exact hs.elim
/-! ### room for seven -/
noncomputable def KHo : FuncId → EP := withN 13 (natQ trueN) (withN 14 natSF (withN 9 natPut (withN 12 natGet (withN 11 natAll evP))))
theorem KHo_ok (hK : NatP 13 (natQ trueN)) : TabP KHo := withN_ok (withN_ok (withN_ok (withN_ok (withN_ok evP_ok n_all) n_get) n_put) n_same) hK
noncomputable def ho (M : Smp) (sz : Nat) (L : Smp) (i : Nat) : AE × AH := (mkE [(1, .fr M.length 2 (smp M)), (5, .ptr 0 (0)), (7, .si .i64 (((i : Nat) : Int)))], mkH [(0, .cells (chk sz L) true)])
theorem ho_cov {M : Smp} {sz : Nat} {L : Smp} {i : Nat} {p n : Nat} {σ : AE} {H : AH} (hp : p ≤ 0) (e1 : getq (pa 1) σ = .fr M.length 2 (smp M)) (e5 : getq (pa 5) σ = .ptr 0 (0)) (e7 : mk (getq (pa 7) σ) = .si .i64 (((i : Nat) : Int))) (h0 : ∃ l, H.get 0 = some (.cells l true) ∧ SubL H 1 (fun b => b) l (chk sz L)) : Cov p σ H n ((ho M sz L i).1, (ho M sz L i).2, 1) := by
  refine Cov.ofR (fun b => b) (by omega) (fun b hb => rfl) ?_ ?_ ?_
  · intro x hx
    simp only [List.mem_cons, List.not_mem_nil, or_false] at hx
    rcases hx with rfl | rfl | rfl
    · exact SubV.frE e1
    · exact .ptr (by decide) e5
    · exact .int e7
  · intro x hx
    simp only [List.mem_cons, List.not_mem_nil, or_false] at hx
    subst hx
    exact ⟨by simp, .inl (h0.elim fun l h => ⟨_, h.1, SubO.st h.2⟩)⟩
  · intro x hx y hy
    simp only [List.mem_cons, List.not_mem_nil, or_false] at hx hy
    subst hx hy
    exact fun q => rfl
set_option maxHeartbeats 16000000 in
set_option maxRecDepth 100000 in
theorem w_chunkHolds (a : Int) (M : Smp) (ha : 0 ≤ a ∧ a ≤ 65535) (hM : ∀ x ∈ M, In64 x.1 ∧ In64 x.2) (hMl : M.length ≤ 8796093022208) : callT KHo 6 4 [.si .u16 a, .fr M.length 2 (smp M)] .nil 0 fun v _ _ => v = .bool true ∨ v = .sb true := by
  obtain ⟨sz, hszd⟩ : ∃ sz : Nat, sz = 128 + a.toNat % 3000 := ⟨_, rfl⟩
  have hsz1 : 128 ≤ sz := by omega
  have hsz2 : sz ≤ 4096 := by omega
  have hsz : 0 < sz := by omega
  have hse : IntKind.i64.wrap (128 + (IntKind.i64.wrap a).tmod 3000) = (sz : Int) := by
    rw [show IntKind.i64.wrap a = a from W64_of ⟨by omega, by omega⟩, Int.tmod_eq_emod_of_nonneg ha.1]
    refine (W64_of ⟨by omega, by omega⟩).trans ?_
    omega
  have h128 : ¬ IntKind.i64.wrap (128 + (IntKind.i64.wrap a).tmod 3000) < 128 := by rw [hse]; omega
  have h4096 : ¬ 4096 < IntKind.i64.wrap (128 + (IntKind.i64.wrap a).tmod 3000) := by rw [hse]; omega
  conv => whnf
  refine Fork.dec (fun q => absurd q h128) (fun _ => ?_)
  conv => whnf
  refine Fork.dec (fun q => absurd q h4096) (fun _ => ?_)
  conv => whnf
  refine LoopP.mk { x : Nat × Smp // x.1 ≤ M.length ∧ Fine x.2 ∧ (encB x.2).length ≤ 8 * sz } 1 (fun x => ho M sz x.val.2 x.val.1) (fun x => M.length - x.val.1) ⟨(0, []), Nat.zero_le _, .nil, Nat.zero_le _⟩ ?_ ?_
  · exact ho_cov (Nat.le_refl 0) rfl rfl rfl ⟨_, rfl, chk_new sz (x := .si .i64 (IntKind.i64.wrap (128 + (IntKind.i64.wrap a).tmod 3000))) (congrArg (AV.si .i64) hse)⟩
  · intro ⟨(i, L), hi, hF, hfit⟩
    dsimp only at hi hF hfit
    have hL1 : L.length ≤ 100000 := Nat.le_trans hF.2.2 (by decide)
    conv => whnf
    refine Fork.dec (fun h => ?_) (fun h => ?_)
    · have hi2 : i < M.length := by exact Int.ofNat_lt.1 h
      have hV : In64 M[i].2 := (hM _ (List.getElem_mem hi2)).2
      conv => whnf
      refine Fork.dec (fun h100 => ?_) (fun h100 => ?_)
      · have hi1 : IntKind.i64.wrap ((i : Int) + 1) = ((i + 1 : Nat) : Int) := W64_of ⟨by omega, by omega⟩
        obtain ⟨hl1, hl2, hl3, hl4, hl5, hl6⟩ := hold_law hF hsz1 hfit M[i].1 M[i].2
        have hF' : Fine (putF sz L M[i].1 M[i].2 1).1 := putF_fine hsz2 hF hV
        have hL1' : (putF sz L M[i].1 M[i].2 1).1.length ≤ 100000 := Nat.le_trans hF'.2.2 (by decide)
        have hL2' : (putF sz L M[i].1 M[i].2 1).1.length ≤ 1000000 := Nat.le_trans hF'.2.2 (by decide)
        have hl3' : (putF sz L M[i].1 M[i].2 1).2 = 0 → ((putF sz L M[i].1 M[i].2 1).1.length : Int) = IntKind.i64.wrap ((L.length : Int) + 1) := fun q => by
          rw [show IntKind.i64.wrap ((L.length : Int) + 1) = (L.length : Int) + 1 from W64_of ⟨by omega, by omega⟩, hl3 q]; rfl
        have hused : ¬ (sz : Int) < ((pack (encB (putF sz L M[i].1 M[i].2 1).1)).length : Int) := by rw [pack_length]; omega
        conv => whnf
        refine ⟨0, sz, _, L, rfl, rfl, rfl, hsz, hL1, hF.in64, ?_⟩
        conv => whnf
        refine Idx.mk i rfl hi2 ?_
        conv => whnf
        refine optP_of (smp_nth0 hi2 rfl) ?_
        conv => whnf
        refine ⟨0, sz, L, M[i].1, rfl, rfl, by decide, rfl, hsz, hF, ?_⟩
        conv => whnf
        refine Idx.mk i rfl hi2 ?_
        conv => whnf
        refine optP_of (smp_sub hi2 rfl) ?_
        conv => whnf
        refine ⟨0, sz, L, M[i].1, M[i].2, 1, rfl, ⟨_, _, rfl, rfl, rfl⟩, rfl, by decide, rfl, hsz, hsz2, hF, hV, ?_⟩
        conv => whnf
        refine Fork.dec (fun hf2 => ?_) (fun hf2 => ?_)
        · have hf0 : (putF sz L M[i].1 M[i].2 1).2 ≠ 0 := fun q => by rw [q] at hf2; cases hf2
          conv => whnf
          refine Fork.dec (fun q => absurd ⟨hf2, .inl (by omega)⟩ hl1) (fun _ => ?_)
          conv => whnf
          refine Fork.dec (fun q => absurd ⟨hf2, .inr q⟩ hl1) (fun _ => ?_)
          conv => whnf
          refine Fork.ndec (fun _ => ?_) (fun q => absurd q hf0)
          conv => whnf
          refine ⟨0, sz, _, (putF sz L M[i].1 M[i].2 1).1, rfl, rfl, rfl, hsz, hL1', hF'.in64, ?_⟩
          conv => whnf
          refine ⟨(putF sz L M[i].1 M[i].2 1).1, L, .inr rfl, .inr rfl, hL2', ?_⟩
          conv => whnf
          refine Fork.ndec (fun q => absurd (hl2 hf0) q) (fun _ => ?_)
          conv => whnf
          refine Fork.dec (fun q => absurd q hf0) (fun _ => ?_)
          conv => whnf
          refine Fork.dec (fun hg => ?_) (fun hg => ?_)
          · conv => whnf
            refine Idx.mk i rfl hi2 ?_
            conv => whnf
            refine optP_of (smp_nth0 hi2 rfl) ?_
            conv => whnf
            refine Fork.dec (fun h0 => ?_) (fun h0 => ?_)
            · conv => whnf
              refine Idx.mk i rfl hi2 ?_
              conv => whnf
              refine optP_of (smp_nth0 hi2 rfl) ?_
              conv => whnf
              have hx : (decide ((putF sz L M[i].1 M[i].2 1).2 = 8) == decide (M[i].1 < 1099511627776)) = true := by rw [beq_iff_eq, decide_eq_decide]; exact ⟨fun q => (hl4.1 q).2.2, fun q => hl4.2 ⟨hg, h0, q⟩⟩
              refine Fork.nsb (fun q => absurd q (by rw [hx]; decide)) (fun _ => ?_)
              conv => whnf
              refine Idx.mk i rfl hi2 ?_
              conv => whnf
              refine optP_of (smp_nth0 hi2 rfl) ?_
              conv => whnf
              refine Fork.dec (fun hT0 => ?_) (fun hT0 => ?_)
              · have hx : (decide ((putF sz L M[i].1 M[i].2 1).2 = 1) == true) = true := by rw [decide_eq_true (hl5.2 (.inl hT0))]; rfl
                refine Fork.nsb (fun q => absurd q (by rw [hx]; decide)) (fun _ => ?_)
                conv => whnf
                refine Fork.dec (fun q => absurd q hused) (fun _ => ?_)
                conv => whnf
                exact ⟨⟨(i + 1, (putF sz L M[i].1 M[i].2 1).1), hi2, hF', hl6⟩, (show M.length - (i + 1) < M.length - i by omega), ho_cov (Nat.le_refl 0) rfl rfl (congrArg (AV.si .i64) hi1) ⟨_, rfl, chk_sub _ _⟩⟩
              · conv => whnf
                refine Idx.mk i rfl hi2 ?_
                conv => whnf
                refine optP_of (smp_nth0 hi2 rfl) ?_
                conv => whnf
                have hx : (decide ((putF sz L M[i].1 M[i].2 1).2 = 1) == decide (1099511627776 ≤ M[i].1)) = true := by rw [beq_iff_eq, decide_eq_decide]; exact ⟨fun q => (hl5.1 q).resolve_left hT0, fun q => hl5.2 (.inr q)⟩
                refine Fork.nsb (fun q => absurd q (by rw [hx]; decide)) (fun _ => ?_)
                conv => whnf
                refine Fork.dec (fun q => absurd q hused) (fun _ => ?_)
                conv => whnf
                exact ⟨⟨(i + 1, (putF sz L M[i].1 M[i].2 1).1), hi2, hF', hl6⟩, (show M.length - (i + 1) < M.length - i by omega), ho_cov (Nat.le_refl 0) rfl rfl (congrArg (AV.si .i64) hi1) ⟨_, rfl, chk_sub _ _⟩⟩
            · conv => whnf
              have hx : (decide ((putF sz L M[i].1 M[i].2 1).2 = 8) == false) = true := by rw [decide_eq_false (fun q => h0 (hl4.1 q).2.1)]; rfl
              refine Fork.nsb (fun q => absurd q (by rw [hx]; decide)) (fun _ => ?_)
              conv => whnf
              refine Idx.mk i rfl hi2 ?_
              conv => whnf
              refine optP_of (smp_nth0 hi2 rfl) ?_
              conv => whnf
              refine Fork.dec (fun hT0 => ?_) (fun hT0 => ?_)
              · have hx : (decide ((putF sz L M[i].1 M[i].2 1).2 = 1) == true) = true := by rw [decide_eq_true (hl5.2 (.inl hT0))]; rfl
                refine Fork.nsb (fun q => absurd q (by rw [hx]; decide)) (fun _ => ?_)
                conv => whnf
                refine Fork.dec (fun q => absurd q hused) (fun _ => ?_)
                conv => whnf
                exact ⟨⟨(i + 1, (putF sz L M[i].1 M[i].2 1).1), hi2, hF', hl6⟩, (show M.length - (i + 1) < M.length - i by omega), ho_cov (Nat.le_refl 0) rfl rfl (congrArg (AV.si .i64) hi1) ⟨_, rfl, chk_sub _ _⟩⟩
              · conv => whnf
                refine Idx.mk i rfl hi2 ?_
                conv => whnf
                refine optP_of (smp_nth0 hi2 rfl) ?_
                conv => whnf
                have hx : (decide ((putF sz L M[i].1 M[i].2 1).2 = 1) == decide (1099511627776 ≤ M[i].1)) = true := by rw [beq_iff_eq, decide_eq_decide]; exact ⟨fun q => (hl5.1 q).resolve_left hT0, fun q => hl5.2 (.inr q)⟩
                refine Fork.nsb (fun q => absurd q (by rw [hx]; decide)) (fun _ => ?_)
                conv => whnf
                refine Fork.dec (fun q => absurd q hused) (fun _ => ?_)
                conv => whnf
                exact ⟨⟨(i + 1, (putF sz L M[i].1 M[i].2 1).1), hi2, hF', hl6⟩, (show M.length - (i + 1) < M.length - i by omega), ho_cov (Nat.le_refl 0) rfl rfl (congrArg (AV.si .i64) hi1) ⟨_, rfl, chk_sub _ _⟩⟩
          · conv => whnf
            have hx : (decide ((putF sz L M[i].1 M[i].2 1).2 = 8) == false) = true := by rw [decide_eq_false (fun q => hg (hl4.1 q).1)]; rfl
            refine Fork.nsb (fun q => absurd q (by rw [hx]; decide)) (fun _ => ?_)
            conv => whnf
            refine Idx.mk i rfl hi2 ?_
            conv => whnf
            refine optP_of (smp_nth0 hi2 rfl) ?_
            conv => whnf
            refine Fork.dec (fun hT0 => ?_) (fun hT0 => ?_)
            · have hx : (decide ((putF sz L M[i].1 M[i].2 1).2 = 1) == true) = true := by rw [decide_eq_true (hl5.2 (.inl hT0))]; rfl
              refine Fork.nsb (fun q => absurd q (by rw [hx]; decide)) (fun _ => ?_)
              conv => whnf
              refine Fork.dec (fun q => absurd q hused) (fun _ => ?_)
              conv => whnf
              exact ⟨⟨(i + 1, (putF sz L M[i].1 M[i].2 1).1), hi2, hF', hl6⟩, (show M.length - (i + 1) < M.length - i by omega), ho_cov (Nat.le_refl 0) rfl rfl (congrArg (AV.si .i64) hi1) ⟨_, rfl, chk_sub _ _⟩⟩
            · conv => whnf
              refine Idx.mk i rfl hi2 ?_
              conv => whnf
              refine optP_of (smp_nth0 hi2 rfl) ?_
              conv => whnf
              have hx : (decide ((putF sz L M[i].1 M[i].2 1).2 = 1) == decide (1099511627776 ≤ M[i].1)) = true := by rw [beq_iff_eq, decide_eq_decide]; exact ⟨fun q => (hl5.1 q).resolve_left hT0, fun q => hl5.2 (.inr q)⟩
              refine Fork.nsb (fun q => absurd q (by rw [hx]; decide)) (fun _ => ?_)
              conv => whnf
              refine Fork.dec (fun q => absurd q hused) (fun _ => ?_)
              conv => whnf
              exact ⟨⟨(i + 1, (putF sz L M[i].1 M[i].2 1).1), hi2, hF', hl6⟩, (show M.length - (i + 1) < M.length - i by omega), ho_cov (Nat.le_refl 0) rfl rfl (congrArg (AV.si .i64) hi1) ⟨_, rfl, chk_sub _ _⟩⟩
        · conv => whnf
          refine Fork.ndec (fun hf0 => ?_) (fun hf0 => ?_)
          · conv => whnf
            refine ⟨0, sz, _, (putF sz L M[i].1 M[i].2 1).1, rfl, rfl, rfl, hsz, hL1', hF'.in64, ?_⟩
            conv => whnf
            refine ⟨(putF sz L M[i].1 M[i].2 1).1, L, .inr rfl, .inr rfl, hL2', ?_⟩
            conv => whnf
            refine Fork.ndec (fun q => absurd (hl2 hf0) q) (fun _ => ?_)
            conv => whnf
            refine Fork.dec (fun q => absurd q hf0) (fun _ => ?_)
            conv => whnf
            refine Fork.dec (fun hg => ?_) (fun hg => ?_)
            · conv => whnf
              refine Idx.mk i rfl hi2 ?_
              conv => whnf
              refine optP_of (smp_nth0 hi2 rfl) ?_
              conv => whnf
              refine Fork.dec (fun h0 => ?_) (fun h0 => ?_)
              · conv => whnf
                refine Idx.mk i rfl hi2 ?_
                conv => whnf
                refine optP_of (smp_nth0 hi2 rfl) ?_
                conv => whnf
                have hx : (decide ((putF sz L M[i].1 M[i].2 1).2 = 8) == decide (M[i].1 < 1099511627776)) = true := by rw [beq_iff_eq, decide_eq_decide]; exact ⟨fun q => (hl4.1 q).2.2, fun q => hl4.2 ⟨hg, h0, q⟩⟩
                refine Fork.nsb (fun q => absurd q (by rw [hx]; decide)) (fun _ => ?_)
                conv => whnf
                refine Idx.mk i rfl hi2 ?_
                conv => whnf
                refine optP_of (smp_nth0 hi2 rfl) ?_
                conv => whnf
                refine Fork.dec (fun hT0 => ?_) (fun hT0 => ?_)
                · have hx : (decide ((putF sz L M[i].1 M[i].2 1).2 = 1) == true) = true := by rw [decide_eq_true (hl5.2 (.inl hT0))]; rfl
                  refine Fork.nsb (fun q => absurd q (by rw [hx]; decide)) (fun _ => ?_)
                  conv => whnf
                  refine Fork.dec (fun q => absurd q hused) (fun _ => ?_)
                  conv => whnf
                  exact ⟨⟨(i + 1, (putF sz L M[i].1 M[i].2 1).1), hi2, hF', hl6⟩, (show M.length - (i + 1) < M.length - i by omega), ho_cov (Nat.le_refl 0) rfl rfl (congrArg (AV.si .i64) hi1) ⟨_, rfl, chk_sub _ _⟩⟩
                · conv => whnf
                  refine Idx.mk i rfl hi2 ?_
                  conv => whnf
                  refine optP_of (smp_nth0 hi2 rfl) ?_
                  conv => whnf
                  have hx : (decide ((putF sz L M[i].1 M[i].2 1).2 = 1) == decide (1099511627776 ≤ M[i].1)) = true := by rw [beq_iff_eq, decide_eq_decide]; exact ⟨fun q => (hl5.1 q).resolve_left hT0, fun q => hl5.2 (.inr q)⟩
                  refine Fork.nsb (fun q => absurd q (by rw [hx]; decide)) (fun _ => ?_)
                  conv => whnf
                  refine Fork.dec (fun q => absurd q hused) (fun _ => ?_)
                  conv => whnf
                  exact ⟨⟨(i + 1, (putF sz L M[i].1 M[i].2 1).1), hi2, hF', hl6⟩, (show M.length - (i + 1) < M.length - i by omega), ho_cov (Nat.le_refl 0) rfl rfl (congrArg (AV.si .i64) hi1) ⟨_, rfl, chk_sub _ _⟩⟩
              · conv => whnf
                have hx : (decide ((putF sz L M[i].1 M[i].2 1).2 = 8) == false) = true := by rw [decide_eq_false (fun q => h0 (hl4.1 q).2.1)]; rfl
                refine Fork.nsb (fun q => absurd q (by rw [hx]; decide)) (fun _ => ?_)
                conv => whnf
                refine Idx.mk i rfl hi2 ?_
                conv => whnf
                refine optP_of (smp_nth0 hi2 rfl) ?_
                conv => whnf
                refine Fork.dec (fun hT0 => ?_) (fun hT0 => ?_)
                · have hx : (decide ((putF sz L M[i].1 M[i].2 1).2 = 1) == true) = true := by rw [decide_eq_true (hl5.2 (.inl hT0))]; rfl
                  refine Fork.nsb (fun q => absurd q (by rw [hx]; decide)) (fun _ => ?_)
                  conv => whnf
                  refine Fork.dec (fun q => absurd q hused) (fun _ => ?_)
                  conv => whnf
                  exact ⟨⟨(i + 1, (putF sz L M[i].1 M[i].2 1).1), hi2, hF', hl6⟩, (show M.length - (i + 1) < M.length - i by omega), ho_cov (Nat.le_refl 0) rfl rfl (congrArg (AV.si .i64) hi1) ⟨_, rfl, chk_sub _ _⟩⟩
                · conv => whnf
                  refine Idx.mk i rfl hi2 ?_
                  conv => whnf
                  refine optP_of (smp_nth0 hi2 rfl) ?_
                  conv => whnf
                  have hx : (decide ((putF sz L M[i].1 M[i].2 1).2 = 1) == decide (1099511627776 ≤ M[i].1)) = true := by rw [beq_iff_eq, decide_eq_decide]; exact ⟨fun q => (hl5.1 q).resolve_left hT0, fun q => hl5.2 (.inr q)⟩
                  refine Fork.nsb (fun q => absurd q (by rw [hx]; decide)) (fun _ => ?_)
                  conv => whnf
                  refine Fork.dec (fun q => absurd q hused) (fun _ => ?_)
                  conv => whnf
                  exact ⟨⟨(i + 1, (putF sz L M[i].1 M[i].2 1).1), hi2, hF', hl6⟩, (show M.length - (i + 1) < M.length - i by omega), ho_cov (Nat.le_refl 0) rfl rfl (congrArg (AV.si .i64) hi1) ⟨_, rfl, chk_sub _ _⟩⟩
            · conv => whnf
              have hx : (decide ((putF sz L M[i].1 M[i].2 1).2 = 8) == false) = true := by rw [decide_eq_false (fun q => hg (hl4.1 q).1)]; rfl
              refine Fork.nsb (fun q => absurd q (by rw [hx]; decide)) (fun _ => ?_)
              conv => whnf
              refine Idx.mk i rfl hi2 ?_
              conv => whnf
              refine optP_of (smp_nth0 hi2 rfl) ?_
              conv => whnf
              refine Fork.dec (fun hT0 => ?_) (fun hT0 => ?_)
              · have hx : (decide ((putF sz L M[i].1 M[i].2 1).2 = 1) == true) = true := by rw [decide_eq_true (hl5.2 (.inl hT0))]; rfl
                refine Fork.nsb (fun q => absurd q (by rw [hx]; decide)) (fun _ => ?_)
                conv => whnf
                refine Fork.dec (fun q => absurd q hused) (fun _ => ?_)
                conv => whnf
                exact ⟨⟨(i + 1, (putF sz L M[i].1 M[i].2 1).1), hi2, hF', hl6⟩, (show M.length - (i + 1) < M.length - i by omega), ho_cov (Nat.le_refl 0) rfl rfl (congrArg (AV.si .i64) hi1) ⟨_, rfl, chk_sub _ _⟩⟩
              · conv => whnf
                refine Idx.mk i rfl hi2 ?_
                conv => whnf
                refine optP_of (smp_nth0 hi2 rfl) ?_
                conv => whnf
                have hx : (decide ((putF sz L M[i].1 M[i].2 1).2 = 1) == decide (1099511627776 ≤ M[i].1)) = true := by rw [beq_iff_eq, decide_eq_decide]; exact ⟨fun q => (hl5.1 q).resolve_left hT0, fun q => hl5.2 (.inr q)⟩
                refine Fork.nsb (fun q => absurd q (by rw [hx]; decide)) (fun _ => ?_)
                conv => whnf
                refine Fork.dec (fun q => absurd q hused) (fun _ => ?_)
                conv => whnf
                exact ⟨⟨(i + 1, (putF sz L M[i].1 M[i].2 1).1), hi2, hF', hl6⟩, (show M.length - (i + 1) < M.length - i by omega), ho_cov (Nat.le_refl 0) rfl rfl (congrArg (AV.si .i64) hi1) ⟨_, rfl, chk_sub _ _⟩⟩
          · conv => whnf
            refine Fork.dec (fun _ => ?_) (fun q => absurd hf0 q)
            conv => whnf
            refine Fork.ndec (fun q => absurd (hl3' hf0) q) (fun _ => ?_)
            conv => whnf
            refine Fork.dec (fun hg => ?_) (fun hg => ?_)
            · conv => whnf
              refine Idx.mk i rfl hi2 ?_
              conv => whnf
              refine optP_of (smp_nth0 hi2 rfl) ?_
              conv => whnf
              refine Fork.dec (fun h0 => ?_) (fun h0 => ?_)
              · conv => whnf
                refine Idx.mk i rfl hi2 ?_
                conv => whnf
                refine optP_of (smp_nth0 hi2 rfl) ?_
                conv => whnf
                have hx : (decide ((putF sz L M[i].1 M[i].2 1).2 = 8) == decide (M[i].1 < 1099511627776)) = true := by rw [beq_iff_eq, decide_eq_decide]; exact ⟨fun q => (hl4.1 q).2.2, fun q => hl4.2 ⟨hg, h0, q⟩⟩
                refine Fork.nsb (fun q => absurd q (by rw [hx]; decide)) (fun _ => ?_)
                conv => whnf
                refine Idx.mk i rfl hi2 ?_
                conv => whnf
                refine optP_of (smp_nth0 hi2 rfl) ?_
                conv => whnf
                refine Fork.dec (fun hT0 => ?_) (fun hT0 => ?_)
                · have hx : (decide ((putF sz L M[i].1 M[i].2 1).2 = 1) == true) = true := by rw [decide_eq_true (hl5.2 (.inl hT0))]; rfl
                  refine Fork.nsb (fun q => absurd q (by rw [hx]; decide)) (fun _ => ?_)
                  conv => whnf
                  refine Fork.dec (fun q => absurd q hused) (fun _ => ?_)
                  conv => whnf
                  exact ⟨⟨(i + 1, (putF sz L M[i].1 M[i].2 1).1), hi2, hF', hl6⟩, (show M.length - (i + 1) < M.length - i by omega), ho_cov (Nat.le_refl 0) rfl rfl (congrArg (AV.si .i64) hi1) ⟨_, rfl, chk_sub _ _⟩⟩
                · conv => whnf
                  refine Idx.mk i rfl hi2 ?_
                  conv => whnf
                  refine optP_of (smp_nth0 hi2 rfl) ?_
                  conv => whnf
                  have hx : (decide ((putF sz L M[i].1 M[i].2 1).2 = 1) == decide (1099511627776 ≤ M[i].1)) = true := by rw [beq_iff_eq, decide_eq_decide]; exact ⟨fun q => (hl5.1 q).resolve_left hT0, fun q => hl5.2 (.inr q)⟩
                  refine Fork.nsb (fun q => absurd q (by rw [hx]; decide)) (fun _ => ?_)
                  conv => whnf
                  refine Fork.dec (fun q => absurd q hused) (fun _ => ?_)
                  conv => whnf
                  exact ⟨⟨(i + 1, (putF sz L M[i].1 M[i].2 1).1), hi2, hF', hl6⟩, (show M.length - (i + 1) < M.length - i by omega), ho_cov (Nat.le_refl 0) rfl rfl (congrArg (AV.si .i64) hi1) ⟨_, rfl, chk_sub _ _⟩⟩
              · conv => whnf
                have hx : (decide ((putF sz L M[i].1 M[i].2 1).2 = 8) == false) = true := by rw [decide_eq_false (fun q => h0 (hl4.1 q).2.1)]; rfl
                refine Fork.nsb (fun q => absurd q (by rw [hx]; decide)) (fun _ => ?_)
                conv => whnf
                refine Idx.mk i rfl hi2 ?_
                conv => whnf
                refine optP_of (smp_nth0 hi2 rfl) ?_
                conv => whnf
                refine Fork.dec (fun hT0 => ?_) (fun hT0 => ?_)
                · have hx : (decide ((putF sz L M[i].1 M[i].2 1).2 = 1) == true) = true := by rw [decide_eq_true (hl5.2 (.inl hT0))]; rfl
                  refine Fork.nsb (fun q => absurd q (by rw [hx]; decide)) (fun _ => ?_)
                  conv => whnf
                  refine Fork.dec (fun q => absurd q hused) (fun _ => ?_)
                  conv => whnf
                  exact ⟨⟨(i + 1, (putF sz L M[i].1 M[i].2 1).1), hi2, hF', hl6⟩, (show M.length - (i + 1) < M.length - i by omega), ho_cov (Nat.le_refl 0) rfl rfl (congrArg (AV.si .i64) hi1) ⟨_, rfl, chk_sub _ _⟩⟩
                · conv => whnf
                  refine Idx.mk i rfl hi2 ?_
                  conv => whnf
                  refine optP_of (smp_nth0 hi2 rfl) ?_
                  conv => whnf
                  have hx : (decide ((putF sz L M[i].1 M[i].2 1).2 = 1) == decide (1099511627776 ≤ M[i].1)) = true := by rw [beq_iff_eq, decide_eq_decide]; exact ⟨fun q => (hl5.1 q).resolve_left hT0, fun q => hl5.2 (.inr q)⟩
                  refine Fork.nsb (fun q => absurd q (by rw [hx]; decide)) (fun _ => ?_)
                  conv => whnf
                  refine Fork.dec (fun q => absurd q hused) (fun _ => ?_)
                  conv => whnf
                  exact ⟨⟨(i + 1, (putF sz L M[i].1 M[i].2 1).1), hi2, hF', hl6⟩, (show M.length - (i + 1) < M.length - i by omega), ho_cov (Nat.le_refl 0) rfl rfl (congrArg (AV.si .i64) hi1) ⟨_, rfl, chk_sub _ _⟩⟩
            · conv => whnf
              have hx : (decide ((putF sz L M[i].1 M[i].2 1).2 = 8) == false) = true := by rw [decide_eq_false (fun q => hg (hl4.1 q).1)]; rfl
              refine Fork.nsb (fun q => absurd q (by rw [hx]; decide)) (fun _ => ?_)
              conv => whnf
              refine Idx.mk i rfl hi2 ?_
              conv => whnf
              refine optP_of (smp_nth0 hi2 rfl) ?_
              conv => whnf
              refine Fork.dec (fun hT0 => ?_) (fun hT0 => ?_)
              · have hx : (decide ((putF sz L M[i].1 M[i].2 1).2 = 1) == true) = true := by rw [decide_eq_true (hl5.2 (.inl hT0))]; rfl
                refine Fork.nsb (fun q => absurd q (by rw [hx]; decide)) (fun _ => ?_)
                conv => whnf
                refine Fork.dec (fun q => absurd q hused) (fun _ => ?_)
                conv => whnf
                exact ⟨⟨(i + 1, (putF sz L M[i].1 M[i].2 1).1), hi2, hF', hl6⟩, (show M.length - (i + 1) < M.length - i by omega), ho_cov (Nat.le_refl 0) rfl rfl (congrArg (AV.si .i64) hi1) ⟨_, rfl, chk_sub _ _⟩⟩
              · conv => whnf
                refine Idx.mk i rfl hi2 ?_
                conv => whnf
                refine optP_of (smp_nth0 hi2 rfl) ?_
                conv => whnf
                have hx : (decide ((putF sz L M[i].1 M[i].2 1).2 = 1) == decide (1099511627776 ≤ M[i].1)) = true := by rw [beq_iff_eq, decide_eq_decide]; exact ⟨fun q => (hl5.1 q).resolve_left hT0, fun q => hl5.2 (.inr q)⟩
                refine Fork.nsb (fun q => absurd q (by rw [hx]; decide)) (fun _ => ?_)
                conv => whnf
                refine Fork.dec (fun q => absurd q hused) (fun _ => ?_)
                conv => whnf
                exact ⟨⟨(i + 1, (putF sz L M[i].1 M[i].2 1).1), hi2, hF', hl6⟩, (show M.length - (i + 1) < M.length - i by omega), ho_cov (Nat.le_refl 0) rfl rfl (congrArg (AV.si .i64) hi1) ⟨_, rfl, chk_sub _ _⟩⟩
      · conv => whnf
        exact .inl rfl
    · conv => whnf
      exact .inl rfl
end Go.Proofs.Ytpfflibkkjjlaaa
namespace Go.Proofs.Ytpfflibkkjjlaaa
open Go Go.RowKit
theorem u16_rng {z : Int} (h : (Lit.int .u16 z).wf = true) : 0 ≤ z ∧ z ≤ 65535 := by
  simp [Lit.wf, IntKind.min, IntKind.max, IntKind.signed, IntKind.bits] at h
  omega
end Go.Proofs.Ytpfflibkkjjlaaa
namespace Go.Proofs.Ytpfflibkkjjlaaa
open Go Go.RowKit
set_option maxRecDepth 20000
/-! ### all samples, frozen or as a row of one's own -/
set_option maxHeartbeats 4000000 in
set_option maxRecDepth 100000 in
theorem all_runR (size : Nat) (L : Smp) (hs : 0 < size) (hL : L.length ≤ 100000) (h64 : ∀ x ∈ L, In64 x.1 ∧ In64 x.2) : callT KAl 3 11 [.ptr 0 0] (mkH [(0, .ro (chk size L))]) 1 fun u H' _ => NewRowG L u H' := by
  conv => whnf
  refine Fork.ndec (fun h => absurd (show (0 : Int) < (size : Int) by omega) h) (fun _ => ?_)
  conv => whnf
  refine ⟨L, rfl, rfl, rfl, hL, h64, ⟨rfl, by decide⟩, ?_⟩
  conv => whnf
  exact NewRowG.rw rfl rfl (smp_whole L) (smp_map L)
def natAllR (args : List AV) (H : AH) (n : Nat) (κ : PK) : Prop := match args with
  | [x] => ∃ (b size : Nat) (l : List AV) (L : Smp), x = .ptr b 0 ∧ H.get b = some (.cells l true) ∧ l.map mk = chk size L ∧ 0 < size ∧ L.length ≤ 100000 ∧ (∀ x ∈ L, In64 x.1 ∧ In64 x.2) ∧ RowPW (fun r => r) L H n κ
  | _ => False
theorem n_allR : NatP 11 natAllR := fun args H n κ hs φ h0' hp vs K hr hargs hk => by
  unfold natAllR at hs
  split at hs
  · obtain ⟨x, rfl, e1⟩ := vs1 hargs
    obtain ⟨b, size, l, L, rfl, hb, hl, hsz, hL, h64, hs⟩ := hs
    obtain ⟨p, hpb, rfl⟩ := e1.ptr_inv
    have hl4 : l.length = 4 := by have := congrArg List.length hl; simpa [chk] using this
    have hro := RoAt.of (s := chk size L) hr (.inr ⟨_, hb⟩) hpb (subL_all (n := 4) hl4) (by rw [hl, chk_map]) (chk_flat size L)
    exact smallNew1 KAl_ok (fun _ _ h => h) (all_runR size L hsz hL h64) hs hr hk (by kernel_rfl) (φ0 := ph1 ⟨p.B, p.s + 0, 4⟩) (fun hw => HR.ro1 hw hro) (.cons (.ptr (p := ⟨p.B, p.s + 0, 4⟩) (o := 0) rfl) .nil)
  · exact hs.elim
def natAllB (args : List AV) (H : AH) (n : Nat) (κ : PK) : Prop := natAll args H n κ ∨ natAllR args H n κ
theorem n_allB : NatP 11 natAllB := fun args H n κ hs => hs.elim (n_all args H n κ) (n_allR args H n κ)
/-! ### two chunks as one -/
theorem get_set_10 {α : Type} {v : Option α} {t : PM α} : (PM.set v depthH t 1).get 0 = t.get 0 := by cases t <;> rfl
theorem get_set_01 {α : Type} {v : Option α} {t : PM α} : (PM.set v depthH t 0).get 1 = t.get 1 := by cases t <;> rfl
theorem get_set_11 {α : Type} {v : α} {t : PM α} : (PM.set (some v) depthH t 1).get 1 = some v := by
  cases t with
  | nil => rfl
  | node l u r => cases l <;> rfl
def ChQ2 (e : Int) (s1 s2 : Nat) (L M : Smp) : PK := fun u H' _ => u = .si .i64 e ∧ PM.get H' 0 = some (.cells (chk s1 L) true) ∧ PM.get H' 1 = some (.cells (chk s2 M) true)
theorem chLeaf2 {u : AV} {H' : AH} {n' s1 s2 : Nat} {e : Int} {L M : Smp} {l m : List AV} (hu : mk u = .si .i64 e) (hb : PM.get H' 0 = some (.cells l true)) (hl : l.map mk = chk s1 L) (hc : PM.get H' 1 = some (.cells m true)) (hm : m.map mk = chk s2 M) :
    ∃ v H2 n2, VTo u v ∧ Recast H' n' H2 n2 ∧ ChQ2 e s1 s2 L M v H2 n2 :=
  ⟨.si .i64 e, (H'.set (some (.cells (chk s2 M) true)) depthH 1).set (some (.cells (chk s1 L) true)) depthH 0, n', fun φ w h => by rw [← hu]; exact h.mk, (Recast.remk (l' := chk s2 M) hc rfl hm).trans (Recast.remk (l' := chk s1 L) (get_set_10.trans hb) rfl hl), rfl, PM.get_set0, get_set_01.trans get_set_11⟩
noncomputable def KJo : FuncId → EP := withN 11 natAllB (withN 41 natEnc evP)
theorem KJo_ok : TabP KJo := withN_ok (withN_ok evP_ok n_enc) n_allB
set_option maxHeartbeats 8000000 in
set_option maxRecDepth 100000 in
theorem join_run (s1 s2 : Nat) (L M : Smp) (h1 : 0 < s1) (h1' : s1 ≤ 4096) (h2 : 0 < s2) (hF : Fine L) (hG : Fine M) : post (callT KJo 5 19) [.ptr 0 0, .ptr 1 0] (mkH [(0, .cells (chk s1 L) true), (1, .cells (chk s2 M) true)]) 2 (ChQ2 (joinF s1 L M).2 s1 s2 (joinF s1 L M).1.1 (joinF s1 L M).1.2) := by
  have leaf : ∀ {u : AV} {H' : AH} {n' : Nat} {e : Int} {A B : Smp} {l m : List AV}, joinF s1 L M = ((A, B), e) → mk u = .si .i64 e → PM.get H' 0 = some (.cells l true) → l.map mk = chk s1 A → PM.get H' 1 = some (.cells m true) → m.map mk = chk s2 B → ∃ v2 H2 n2, VTo u v2 ∧ Recast H' n' H2 n2 ∧ ChQ2 (joinF s1 L M).2 s1 s2 (joinF s1 L M).1.1 (joinF s1 L M).1.2 v2 H2 n2 := fun hj hu hb hl hc hm => by
    rw [hj]; exact chLeaf2 hu hb hl hc hm
  have hz1 : (0 : Int) < (s1 : Int) := by omega
  have hz2 : (0 : Int) < (s2 : Int) := by omega
  have hLl := hF.2.2
  have hMl := hG.2.2
  have hL1 : L.length ≤ 100000 := by omega
  have hM1 : M.length ≤ 100000 := by omega
  have hw8 : IntKind.i64.wrap (8 * (s1 : Int)) = ((8 * s1 : Nat) : Int) := W64_of ⟨by omega, by omega⟩
  have hrowL : subL (smp L) 0 (L.length * 2) = some (smp L) := smp_whole L
  have hone : (smp M).all one1 = true := by
    rw [List.all_eq_true]
    intro y hy
    have := List.all_eq_true.1 (smp_flat M) y hy
    cases y <;> first | rfl | cases this
  have hbig : (L.length + M.length) * 16 ≤ 140737488355328 := by omega
  have hLM : (L ++ M).length = L.length + M.length := List.length_append
  have hsubLM : subL (smp L ++ smp M) 0 ((L ++ M).length * 2) = some (smp (L ++ M)) := by rw [← smp_app]; exact smp_whole _
  have hLM1 : (L ++ M).length ≤ 100000 := by omega
  have h64 : ∀ x ∈ L ++ M, In64 x.1 ∧ In64 x.2 := fun x hx => (List.mem_append.1 hx).elim (hF.in64 x) (hG.in64 x)
  have hn0 : ∀ x ∈ ([] : Smp), In64 x.1 ∧ In64 x.2 := fun x hx => by cases hx
  have hlq : [AV.si .i64 (s1 : Int), .ss (pack (encB (L ++ M))), .si .i64 ((encB (L ++ M)).length : Int), .si .i64 ((L.length + M.length : Nat) : Int)].map mk = chk s1 (L ++ M) := by unfold chk; rw [hLM]; rfl
  show callT KJo 5 19 _ _ _ _
  conv => whnf
  refine Fork.ndec (fun h => absurd hz1 h) (fun _ => ?_)
  conv => whnf
  refine Fork.ndec (fun h => absurd hz2 h) (fun _ => ?_)
  conv => whnf
  refine .inl ⟨0, s1, _, L, rfl, rfl, rfl, h1, hL1, hF.in64, ?_⟩
  conv => whnf
  refine Fork.dec (fun hl0 => ?_) (fun hl0 => ?_)
  · have hLn : L = [] := List.eq_nil_of_length_eq_zero (Int.ofNat_inj.1 hl0)
    conv => whnf
    refine .inl ⟨1, s2, _, M, rfl, rfl, rfl, h2, hM1, hG.in64, ?_⟩
    conv => whnf
    refine Fork.dec (fun hm0 => ?_) (fun hm0 => ?_)
    · have hj0 : joinF s1 L M = if (encB (L ++ M)).length ≤ 8 * s1 then ((L ++ M, []), 0) else ((L, M), 2) := by unfold joinF; rw [if_neg (by simp [meetF, hLn])]
      conv => whnf
      refine .inr ⟨0, s1, _, L, rfl, rfl, rfl, h1, hL1, hF.in64, ⟨rfl, by decide⟩, ?_⟩
      conv => whnf
      refine .inl ⟨1, s2, _, M, rfl, rfl, rfl, h2, hM1, hG.in64, ?_⟩
      conv => whnf
      refine RApp.grow 2 16 _ _ _ _ _ _ tyS .fr (smp_length M) hone (.rw rfl hrowL) hbig ?_
      conv => whnf
      refine ⟨L ++ M, .inr (.inl (.inl ⟨_, 0, 0, _, _, ⟨congrArg (fun k => AV.rw _ 0 k 2 0) hLM.symm, by decide⟩, .inr ⟨_, rfl⟩, hsubLM, smp_map _⟩)), hLM1, h64, ?_⟩
      conv => whnf
      refine Fork.dec (fun h3 => ?_) (fun h3 => ?_)
      · have e : joinF s1 L M = ((L, M), 2) := by rw [hj0, if_neg (by rw [hw8] at h3; omega)]
        conv => whnf
        exact leaf e rfl rfl rfl rfl rfl
      · have e : joinF s1 L M = ((L ++ M, []), 0) := by rw [hj0, if_pos (by rw [hw8] at h3; omega)]
        conv => whnf
        refine ⟨[], .inl ⟨rfl, rfl⟩, by decide, hn0, ?_⟩
        conv => whnf
        exact leaf e rfl rfl hlq rfl rfl
    · have hmp : 0 < M.length := Nat.pos_of_ne_zero fun q => hm0 (by exact Int.ofNat_inj.2 q)
      conv => whnf
      refine Idx.mk 0 rfl hmp ?_
      conv => whnf
      refine optP_of (smp_sub hmp rfl) ?_
      have hj0 : joinF s1 L M = if (encB (L ++ M)).length ≤ 8 * s1 then ((L ++ M, []), 0) else ((L, M), 2) := by unfold joinF; rw [if_neg (by simp [meetF, hLn])]
      conv => whnf
      refine .inr ⟨0, s1, _, L, rfl, rfl, rfl, h1, hL1, hF.in64, ⟨rfl, by decide⟩, ?_⟩
      conv => whnf
      refine .inl ⟨1, s2, _, M, rfl, rfl, rfl, h2, hM1, hG.in64, ?_⟩
      conv => whnf
      refine RApp.grow 2 16 _ _ _ _ _ _ tyS .fr (smp_length M) hone (.rw rfl hrowL) hbig ?_
      conv => whnf
      refine ⟨L ++ M, .inr (.inl (.inl ⟨_, 0, 0, _, _, ⟨congrArg (fun k => AV.rw _ 0 k 2 0) hLM.symm, by decide⟩, .inr ⟨_, rfl⟩, hsubLM, smp_map _⟩)), hLM1, h64, ?_⟩
      conv => whnf
      refine Fork.dec (fun h3 => ?_) (fun h3 => ?_)
      · have e : joinF s1 L M = ((L, M), 2) := by rw [hj0, if_neg (by rw [hw8] at h3; omega)]
        conv => whnf
        exact leaf e rfl rfl rfl rfl rfl
      · have e : joinF s1 L M = ((L ++ M, []), 0) := by rw [hj0, if_pos (by rw [hw8] at h3; omega)]
        conv => whnf
        refine ⟨[], .inl ⟨rfl, rfl⟩, by decide, hn0, ?_⟩
        conv => whnf
        exact leaf e rfl rfl hlq rfl rfl
  · have hl1 : 0 < L.length := Nat.pos_of_ne_zero fun q => hl0 (by exact Int.ofNat_inj.2 q)
    have hlp : L.length - 1 < L.length := by omega
    have hlw : IntKind.i64.wrap ((L.length : Int) - 1) = ((L.length - 1 : Nat) : Int) := (W64_of ⟨by omega, by omega⟩).trans (by omega)
    conv => whnf
    refine Idx.mk (L.length - 1) hlw hlp ?_
    conv => whnf
    refine optP_of (smp_sub hlp rfl) ?_
    conv => whnf
    refine .inl ⟨1, s2, _, M, rfl, rfl, rfl, h2, hM1, hG.in64, ?_⟩
    conv => whnf
    refine Fork.dec (fun hm0 => ?_) (fun hm0 => ?_)
    · have hMn : M = [] := List.eq_nil_of_length_eq_zero (Int.ofNat_inj.1 hm0)
      have hj0 : joinF s1 L M = if (encB (L ++ M)).length ≤ 8 * s1 then ((L ++ M, []), 0) else ((L, M), 2) := by unfold joinF; rw [if_neg (by simp [meetF, hMn])]
      conv => whnf
      refine .inr ⟨0, s1, _, L, rfl, rfl, rfl, h1, hL1, hF.in64, ⟨rfl, by decide⟩, ?_⟩
      conv => whnf
      refine .inl ⟨1, s2, _, M, rfl, rfl, rfl, h2, hM1, hG.in64, ?_⟩
      conv => whnf
      refine RApp.grow 2 16 _ _ _ _ _ _ tyS .fr (smp_length M) hone (.rw rfl hrowL) hbig ?_
      conv => whnf
      refine ⟨L ++ M, .inr (.inl (.inl ⟨_, 0, 0, _, _, ⟨congrArg (fun k => AV.rw _ 0 k 2 0) hLM.symm, by decide⟩, .inr ⟨_, rfl⟩, hsubLM, smp_map _⟩)), hLM1, h64, ?_⟩
      conv => whnf
      refine Fork.dec (fun h3 => ?_) (fun h3 => ?_)
      · have e : joinF s1 L M = ((L, M), 2) := by rw [hj0, if_neg (by rw [hw8] at h3; omega)]
        conv => whnf
        exact leaf e rfl rfl rfl rfl rfl
      · have e : joinF s1 L M = ((L ++ M, []), 0) := by rw [hj0, if_pos (by rw [hw8] at h3; omega)]
        conv => whnf
        refine ⟨[], .inl ⟨rfl, rfl⟩, by decide, hn0, ?_⟩
        conv => whnf
        exact leaf e rfl rfl hlq rfl rfl
    · have hmp : 0 < M.length := Nat.pos_of_ne_zero fun q => hm0 (by exact Int.ofNat_inj.2 q)
      conv => whnf
      refine Idx.mk 0 rfl hmp ?_
      conv => whnf
      refine optP_of (smp_sub hmp rfl) ?_
      have hd : decide (M[0].1 ≤ L[L.length - 1].1) = meetF L M := by
        unfold meetF lastT
        have a1 : decide (L ≠ []) = true := by rw [decide_eq_true_eq]; intro q; rw [q] at hl1; cases hl1
        have a2 : decide (M ≠ []) = true := by rw [decide_eq_true_eq]; intro q; rw [q] at hmp; cases hmp
        rw [tAt_of hmp, tAt_of hlp, a1, a2]; rfl
      conv => whnf
      refine Fork.dec (fun hmt => ?_) (fun hmt => ?_)
      · have e : joinF s1 L M = ((L, M), 1) := by unfold joinF; rw [if_pos (hd ▸ decide_eq_true hmt)]
        conv => whnf
        exact leaf e rfl rfl rfl rfl rfl
      · have hnm : ¬ meetF L M = true := by rw [← hd, decide_eq_true_eq]; exact hmt
        have hj0 : joinF s1 L M = if (encB (L ++ M)).length ≤ 8 * s1 then ((L ++ M, []), 0) else ((L, M), 2) := by unfold joinF; rw [if_neg hnm]
        conv => whnf
        refine .inr ⟨0, s1, _, L, rfl, rfl, rfl, h1, hL1, hF.in64, ⟨rfl, by decide⟩, ?_⟩
        conv => whnf
        refine .inl ⟨1, s2, _, M, rfl, rfl, rfl, h2, hM1, hG.in64, ?_⟩
        conv => whnf
        refine RApp.grow 2 16 _ _ _ _ _ _ tyS .fr (smp_length M) hone (.rw rfl hrowL) hbig ?_
        conv => whnf
        refine ⟨L ++ M, .inr (.inl (.inl ⟨_, 0, 0, _, _, ⟨congrArg (fun k => AV.rw _ 0 k 2 0) hLM.symm, by decide⟩, .inr ⟨_, rfl⟩, hsubLM, smp_map _⟩)), hLM1, h64, ?_⟩
        conv => whnf
        refine Fork.dec (fun h3 => ?_) (fun h3 => ?_)
        · have e : joinF s1 L M = ((L, M), 2) := by rw [hj0, if_neg (by rw [hw8] at h3; omega)]
          conv => whnf
          exact leaf e rfl rfl rfl rfl rfl
        · have e : joinF s1 L M = ((L ++ M, []), 0) := by rw [hj0, if_pos (by rw [hw8] at h3; omega)]
          conv => whnf
          refine ⟨[], .inl ⟨rfl, rfl⟩, by decide, hn0, ?_⟩
          conv => whnf
          exact leaf e rfl rfl hlq rfl rfl
/-- Two chunks as one. -/
def natJoin (args : List AV) (H : AH) (n : Nat) (κ : PK) : Prop := match args with
  | [x, y] => ∃ (b c s1 s2 : Nat) (L M : Smp), x = .ptr b 0 ∧ y = .ptr c 0 ∧ b ≠ c ∧ b < n ∧ c < n ∧ H.get b = some (.cells (chk s1 L) true) ∧ H.get c = some (.cells (chk s2 M) true) ∧ 0 < s1 ∧ s1 ≤ 4096 ∧ 0 < s2 ∧ Fine L ∧ Fine M ∧
      κ (.si .i64 (joinF s1 L M).2) ((H.set (some (.cells (chk s2 (joinF s1 L M).1.2) true)) depthH c).set (some (.cells (chk s1 (joinF s1 L M).1.1) true)) depthH b) n
  | _ => False
theorem n_join : NatP 19 natJoin := fun args H n κ hs φ h0' hp vs K hr hargs hk => by
  unfold natJoin at hs
  split at hs
  · obtain ⟨x, y, rfl, e1, e2⟩ := vs2 hargs
    obtain ⟨b, c, s1, s2, L, M, rfl, rfl, hbc, hbn, hcn, hb, hc, h1, h1', h2, hF, hG, hs⟩ := hs
    refine framed (S := [b, c]) (O := [.cells (chk s1 L) true, .cells (chk s2 M) true]) (args0 := [.ptr 0 0, .ptr 1 0]) (NatP.post (callT_nat KJo_ok 5 _)) (by kernel_rfl) hr
      (hands2 hbc hbn hcn hb hc (.inr rfl) (.inr rfl)) (.cons e1 (.cons e2 .nil)) hk (join_run s1 s2 L M h1 h1' h2 hF hG) fun u H' n' ⟨g1, g2, g3⟩ => ?_
    subst g1
    refine ⟨2, putH [b, c] n H [(0, some (.cells (chk s1 (joinF s1 L M).1.1) true)), (1, some (.cells (chk s2 (joinF s1 L M).1.2) true))], Nat.le_refl _, After.put (Nat.le_refl _) rfl (fun x hx o ho => ?_), rfl, hs⟩
    simp only [List.mem_cons, List.not_mem_nil, or_false] at hx
    rcases hx with rfl | rfl
    · injection ho with ho; subst ho; exact ⟨g2, rfl, rfl⟩
    · injection ho with ho; subst ho; exact ⟨g3, rfl, rfl⟩
  · exact hs.elim
/-! ### a chunk that is built -/
noncomputable def bl (S : List Op4) (sz : Nat) (L : Smp) (i : Nat) : AE × AH := (mkE [(0, .ptr 0 (0)), (1, .fr S.length 4 (opsC S)), (4, .si .i64 (((i : Nat) : Int)))], mkH [(0, .cells (chk sz L) true)])
theorem bl_cov {S : List Op4} {sz : Nat} {L : Smp} {i : Nat} {p n : Nat} {σ : AE} {H : AH} (hp : p ≤ 1) (e0 : getq (pa 0) σ = .ptr 0 (0)) (e1 : getq (pa 1) σ = .fr S.length 4 (opsC S)) (e4 : mk (getq (pa 4) σ) = .si .i64 (((i : Nat) : Int))) (h0 : ∃ l, H.get 0 = some (.cells l true) ∧ SubL H 1 (fun b => b) l (chk sz L)) : Cov p σ H n ((bl S sz L i).1, (bl S sz L i).2, 1) := by
  refine Cov.ofR (fun b => b) (by omega) (fun b hb => rfl) ?_ ?_ ?_
  · intro x hx
    simp only [List.mem_cons, List.not_mem_nil, or_false] at hx
    rcases hx with rfl | rfl | rfl
    · exact .ptr (by decide) e0
    · exact SubV.frE e1
    · exact .int e4
  · intro x hx
    simp only [List.mem_cons, List.not_mem_nil, or_false] at hx
    subst hx
    exact ⟨by simp, .inl (h0.elim fun l h => ⟨_, h.1, SubO.st h.2⟩)⟩
  · intro x hx y hy
    simp only [List.mem_cons, List.not_mem_nil, or_false] at hx hy
    subst hx hy
    exact fun q => rfl
noncomputable def KBl : FuncId → EP := withD 18 [] (withN 9 natPut (withN 10 natDrop evP))
theorem KBl_ok : TabP KBl := withD_ok (withN_ok (withN_ok evP_ok n_drop) n_put) (by kernel_rfl) (by kernel_rfl)
def BlQ (sz : Nat) : PK := fun u H' _ => u = .tup [] ∧ ∃ M, Fine M ∧ PM.get H' 0 = some (.cells (chk sz M) true)
theorem blLeaf {u : AV} {H' : AH} {n' sz : Nat} {L : Smp} (hu : u = .tup []) (hF : Fine L) (hb : PM.get H' 0 = some (.cells (chk sz L) true)) : ∃ v H2 n2, VTo u v ∧ Recast H' n' H2 n2 ∧ BlQ sz v H2 n2 := ⟨u, H', n', .refl _, .refl _ _, hu, L, hF, hb⟩
set_option maxHeartbeats 8000000 in
set_option maxRecDepth 100000 in
theorem build_run (sz : Nat) (L0 : Smp) (S : List Op4) (hsz : 0 < sz) (hsz2 : sz ≤ 4096) (hF0 : Fine L0) (hS : OpsIn S) : callT KBl 5 18 [.ptr 0 0, .fr S.length 4 (opsC S)] (mkH [(0, .cells (chk sz L0) true)]) 1 (BlQ sz) := by
  conv => whnf
  refine LoopP.mk { x : Nat × Smp // x.1 ≤ S.length ∧ Fine x.2 } 1 (fun x => bl S sz x.val.2 x.val.1) (fun x => S.length - x.val.1) ⟨(0, L0), Nat.zero_le _, hF0⟩ ?_ ?_
  · exact bl_cov (Nat.le_refl 1) rfl rfl rfl ⟨_, rfl, chk_sub _ _⟩
  · intro ⟨(i, L), hi, hF⟩
    dsimp only at hi hF
    conv => whnf
    refine Fork.dec (fun h => ?_) (fun h => ?_)
    · have hi2 : i < S.length := by exact Int.ofNat_lt.1 h
      have hV : In64 S[i].2.2.1 := (hS _ (List.getElem_mem hi2)).2.2.1
      conv => whnf
      refine Fork.dec (fun h100 => ?_) (fun h100 => ?_)
      · have h100' : (i : Int) < 100 := h100
        have hi1 : IntKind.i64.wrap ((i : Int) + 1) = ((i + 1 : Nat) : Int) := W64_of ⟨by omega, by omega⟩
        have n0 : nth (opsC S) (i * 4 + 0) = some (.si .i64 S[i].1) := opsC_nth (j := 0) hi2 rfl (by decide)
        have n1 : nth (opsC S) (i * 4 + 1) = some (.si .i64 S[i].2.1) := opsC_nth (j := 1) hi2 rfl (by decide)
        have n2 : nth (opsC S) (i * 4 + 2) = some (.si .i64 S[i].2.2.1) := opsC_nth (j := 2) hi2 rfl (by decide)
        have n3 : nth (opsC S) (i * 4 + 3) = some (.si .i64 S[i].2.2.2) := opsC_nth (j := 3) hi2 rfl (by decide)
        have s12 : subL (opsC S) (i * 4 + 1) 2 = some [.si .i64 S[i].2.1, .si .i64 S[i].2.2.1] := by
          unfold subL
          rw [Nat.ble_eq_true_of_le (by rw [opsC_length]; omega), ← List.drop_drop, opsC_at hi2]; rfl
        conv => whnf
        refine Idx.mk i rfl hi2 ?_
        conv => whnf
        refine optP_of n0 ?_
        conv => whnf
        refine Fork.dec (fun hk0 => ?_) (fun hk0 => ?_)
        · conv => whnf
          refine Idx.mk i rfl hi2 ?_
          conv => whnf
          refine optP_of s12 ?_
          conv => whnf
          refine Idx.mk i rfl hi2 ?_
          conv => whnf
          refine optP_of n3 ?_
          conv => whnf
          refine ⟨0, sz, L, S[i].2.1, S[i].2.2.1, S[i].2.2.2, rfl, ⟨_, _, rfl, rfl, rfl⟩, rfl, by decide, rfl, hsz, hsz2, hF, hV, ?_⟩
          conv => whnf
          refine Idx.mk i rfl hi2 ?_
          conv => whnf
          refine optP_of n0 ?_
          conv => whnf
          refine Fork.dec (fun q => absurd (hk0.symm.trans q) (by decide)) (fun _ => ?_)
          conv => whnf
          exact ⟨⟨(i + 1, (putF sz L S[i].2.1 S[i].2.2.1 S[i].2.2.2).1), hi2, putF_fine hsz2 hF hV⟩, (show S.length - (i + 1) < S.length - i by omega), bl_cov (Nat.le_refl 1) rfl rfl (congrArg (AV.si .i64) hi1) ⟨_, rfl, chk_sub _ _⟩⟩
        · conv => whnf
          refine Idx.mk i rfl hi2 ?_
          conv => whnf
          refine optP_of n0 ?_
          conv => whnf
          refine Fork.dec (fun hk1 => ?_) (fun hk1 => ?_)
          · conv => whnf
            refine Idx.mk i rfl hi2 ?_
            conv => whnf
            refine optP_of n1 ?_
            conv => whnf
            refine Idx.mk i rfl hi2 ?_
            conv => whnf
            refine optP_of n2 ?_
            conv => whnf
            refine ⟨0, sz, L, S[i].2.1, S[i].2.2.1, rfl, rfl, rfl, by decide, rfl, hsz, hF, ?_⟩
            conv => whnf
            exact ⟨⟨(i + 1, dropF L S[i].2.1 S[i].2.2.1), hi2, dropF_fine hF _ _⟩, (show S.length - (i + 1) < S.length - i by omega), bl_cov (Nat.le_refl 1) rfl rfl (congrArg (AV.si .i64) hi1) ⟨_, rfl, chk_sub _ _⟩⟩
          · conv => whnf
            exact ⟨⟨(i + 1, L), hi2, hF⟩, (show S.length - (i + 1) < S.length - i by omega), bl_cov (Nat.le_refl 1) rfl rfl (congrArg (AV.si .i64) hi1) ⟨_, rfl, chk_sub _ _⟩⟩
      · conv => whnf
        exact ⟨rfl, L, hF, rfl⟩
    · conv => whnf
      exact ⟨rfl, L, hF, rfl⟩
def natBuild (args : List AV) (H : AH) (n : Nat) (κ : PK) : Prop := match args with
  | [x, y] => ∃ (b sz : Nat) (L : Smp) (S : List Op4), x = .ptr b 0 ∧ y = .fr S.length 4 (opsC S) ∧ b < n ∧ H.get b = some (.cells (chk sz L) true) ∧ 0 < sz ∧ sz ≤ 4096 ∧ Fine L ∧ OpsIn S ∧ ∀ M, Fine M → κ (.tup []) (H.set (some (.cells (chk sz M) true)) depthH b) n
  | _ => False
theorem n_build : NatP 18 natBuild := fun args H n κ hs φ h0' hp vs K hr hargs hk => by
  unfold natBuild at hs
  split at hs
  · obtain ⟨x, y, rfl, e1, e2⟩ := vs2 hargs
    obtain ⟨b, sz, L, S, rfl, rfl, hbn, hb, hsz, hsz2, hF, hS, hs⟩ := hs
    have hren : ren (nmOf [b] n) (.fr S.length 4 (opsC S)) = .fr S.length 4 (opsC S) := rfl
    refine framed (S := [b]) (O := [.cells (chk sz L) true]) (args0 := [.ptr 0 0, .fr S.length 4 (opsC S)]) (callT_nat KBl_ok 5 _) (by kernel_rfl) hr
      (hands1 hbn hb (.inr rfl)) (.cons e1 (.cons e2 .nil)) hk (build_run sz L S hsz hsz2 hF hS) fun u H' n' ⟨g1, M, g2, g3⟩ => ?_
    subst g1
    refine ⟨1, putH [b] n H [(0, some (.cells (chk sz M) true))], Nat.le_refl _, After.put (Nat.le_refl _) rfl (fun x hx o ho => ?_), rfl, hs M g2⟩
    simp only [List.mem_cons, List.not_mem_nil, or_false] at hx
    subst hx
    injection ho with ho; subst ho; exact ⟨g3, rfl, rfl⟩
  · exact hs.elim
def pre (g : List AV → AH → Nat → PK → Prop) (args : List AV) (H : AH) (n : Nat) (κ : PK) : Prop := ∃ H2 n2, Recast H n H2 n2 ∧ g args H2 n2 κ
theorem NatP.pre {f : FuncId} {g : List AV → AH → Nat → PK → Prop} (hg : NatP f g) : NatP f (pre g) := fun args H n κ ⟨H2, n2, h1, h2⟩ φ h0 h vs K hr ha hk => hg args H2 n2 κ h2 φ h0 h vs K (h1 φ h0 h hr) ha hk
end Go.Proofs.Ytpfflibkkjjlaaa
namespace Go.Proofs.Ytpfflibkkjjlaaa
open Go Go.RowKit
set_option maxRecDepth 20000
/-! ### the law -/
noncomputable def KJl : FuncId → EP := withD 5 [] (withN 13 (natQ trueN) (withN 18 (pre natBuild) (withN 14 natSF (withN 19 natJoin (withN 11 natAll evP)))))
theorem KJl_ok (hK : NatP 13 (natQ trueN)) : TabP KJl := withD_ok (withN_ok (withN_ok (withN_ok (withN_ok (withN_ok evP_ok n_all) n_join) n_same) n_build.pre) hK) (by kernel_rfl) (by kernel_rfl)
theorem chk200 : [AV.int .i64 200, .str [], .int .i64 0, .int .i64 0].map mk = (chk 200 []).map mk := by rw [chk_map]; unfold chk; rw [encB_nil, pack_nil]; rfl
set_option maxHeartbeats 16000000 in
set_option maxRecDepth 100000 in
theorem w_chunkJoins (S T : List Op4) (hS : OpsIn S) (hSl : S.length ≤ 8796093022208) (hT : OpsIn T) (hTl : T.length ≤ 8796093022208) : callT KJl 6 5 [.fr S.length 4 (opsC S), .fr T.length 4 (opsC T)] .nil 0 fun v _ _ => v = .bool true ∨ v = .sb true := by
  conv => whnf
  refine ⟨_, _, Recast.remk (b := 0) (l' := chk 200 []) rfl rfl chk200, 0, 200, [], S, rfl, rfl, by decide, rfl, by decide, by decide, .nil, hS, fun X hX => ?_⟩
  conv => whnf
  refine ⟨_, _, Recast.remk (b := 1) (l' := chk 200 []) rfl rfl chk200, 1, 200, [], T, rfl, rfl, by decide, rfl, by decide, by decide, .nil, hT, fun Y hY => ?_⟩
  have hX1 : X.length ≤ 100000 := Nat.le_trans hX.2.2 (by decide)
  have hY1 : Y.length ≤ 100000 := Nat.le_trans hY.2.2 (by decide)
  conv => whnf
  refine ⟨0, 200, _, X, rfl, rfl, rfl, by decide, hX1, hX.in64, ?_⟩
  conv => whnf
  refine ⟨1, 200, _, Y, rfl, rfl, rfl, by decide, hY1, hY.in64, ?_⟩
  conv => whnf
  refine ⟨0, 1, 200, 200, X, Y, rfl, rfl, by decide, by decide, by decide, rfl, rfl, by decide, by decide, by decide, hX, hY, ?_⟩
  have hjf := join_fine (size := 200) (by decide) hX hY
  have hJ1 : (joinF 200 X Y).1.1.length ≤ 100000 := Nat.le_trans hjf.1.2.2 (by decide)
  have hJ2 : (joinF 200 X Y).1.1.length ≤ 1000000 := Nat.le_trans hjf.1.2.2 (by decide)
  have hK1 : (joinF 200 X Y).1.2.length ≤ 100000 := Nat.le_trans hjf.2.2.2 (by decide)
  have hK2 : (joinF 200 X Y).1.2.length ≤ 1000000 := Nat.le_trans hjf.2.2.2 (by decide)
  have hone : ∀ M : Smp, (smp M).all one1 = true := fun M => by
    rw [List.all_eq_true]
    intro y hy
    have := List.all_eq_true.1 (smp_flat M) y hy
    cases y <;> first | rfl | cases this
  have hbX : (0 + X.length) * 16 ≤ 140737488355328 := by omega
  have hbXY : (0 + X.length + Y.length) * 16 ≤ 140737488355328 := by omega
  have hrX : subL ([] ++ smp X) 0 ((0 + X.length) * 2) = some (smp X) := by rw [Nat.zero_add]; exact smp_whole X
  have hXYl : 0 + X.length + Y.length = (X ++ Y).length := by rw [List.length_append, Nat.zero_add]
  have hsubXY : subL (smp X ++ smp Y) 0 ((X ++ Y).length * 2) = some (smp (X ++ Y)) := by rw [← smp_app]; exact smp_whole _
  have ok0 : (joinF 200 X Y).2 = 0 → meetF X Y = false ∧ (joinF 200 X Y).1.1 = X ++ Y ∧ (joinF 200 X Y).1.2 = [] ∧ ((pack (encB (joinF 200 X Y).1.1)).length : Int) ≤ 200 := fun q => by
    unfold joinF at q ⊢
    cases hm : meetF X Y with
    | true => rw [hm, if_pos rfl] at q; cases q
    | false =>
      rw [hm, if_neg (by decide)] at q
      rw [if_neg (by decide)]
      split at q
      · rename_i q2; rw [if_pos q2]; refine ⟨rfl, rfl, rfl, ?_⟩; show ((pack (encB (X ++ Y))).length : Int) ≤ 200; rw [pack_length]; omega
      · cases q
  have no0 : ¬ (joinF 200 X Y).2 = 0 → (joinF 200 X Y).1.1 = X ∧ (joinF 200 X Y).1.2 = Y ∧ ((joinF 200 X Y).2 = 1 ↔ meetF X Y = true) := fun q => by
    unfold joinF at q ⊢
    cases hm : meetF X Y with
    | true => rw [if_pos rfl]; exact ⟨rfl, rfl, by simp⟩
    | false =>
      rw [hm, if_neg (by decide)] at q
      rw [if_neg (by decide)]
      split at q
      · exact absurd rfl q
      · rename_i q2; rw [if_neg q2]; exact ⟨rfl, rfl, by simp⟩
  conv => whnf
  refine Fork.dec (fun hl0 => ?_) (fun hl0 => ?_)
  · have hXn : X = [] := List.eq_nil_of_length_eq_zero (Int.ofNat_inj.1 hl0)
    have hm : meetF X Y = false := by simp [meetF, hXn]
    conv => whnf
    refine Fork.dec (fun he => ?_) (fun he => ?_)
    · have hnm := (ok0 he).1
      have hj1 := (ok0 he).2.1
      have hj2 := (ok0 he).2.2.1
      have hu := (ok0 he).2.2.2
      conv => whnf
      refine ⟨0, 200, _, (joinF 200 X Y).1.1, rfl, rfl, rfl, by decide, hJ1, hjf.1.in64, ?_⟩
      conv => whnf
      refine RApp.grow 2 16 _ _ _ _ _ _ tyS .fr (smp_length X) (hone X) (.sl rfl rfl (Nat.le_refl _) (Nat.le_refl _)) hbX ?_
      conv => whnf
      refine RApp.grow 2 16 _ _ _ _ _ _ tyS .fr (smp_length Y) (hone Y) (.rw rfl hrX) hbXY ?_
      conv => whnf
      refine ⟨(joinF 200 X Y).1.1, X ++ Y, .inr rfl, .inl (.inr (.inl (.inl ⟨_, 0, 0, _, _, ⟨congrArg (fun k => AV.rw _ 0 k 2 0) hXYl, by decide⟩, .inr ⟨_, rfl⟩, hsubXY, smp_map _⟩))), hJ2, ?_⟩
      conv => whnf
      refine Fork.dec (fun _ => ?_) (fun q => absurd hj1 q)
      conv => whnf
      refine Fork.dec (fun _ => ?_) (fun q => absurd (by rw [hj2]; rfl) q)
      conv => whnf
      refine Fork.dec (fun _ => ?_) (fun q => absurd hu q)
      conv => whnf
      exact .inl rfl
    · have hx1 := (no0 he).1
      have hy1 := (no0 he).2.1
      have he1 := (no0 he).2.2
      conv => whnf
      have hx : (decide ((joinF 200 X Y).2 = 1) == !true) = true := by rw [decide_eq_false (fun q => by have := he1.1 q; rw [hm] at this; cases this)]; rfl
      refine Fork.sb (fun _ => ?_) (fun q => absurd q (by rw [hx]; decide))
      conv => whnf
      refine ⟨0, 200, _, (joinF 200 X Y).1.1, rfl, rfl, rfl, by decide, hJ1, hjf.1.in64, ?_⟩
      conv => whnf
      refine ⟨(joinF 200 X Y).1.1, X, .inr rfl, .inr rfl, hJ2, ?_⟩
      conv => whnf
      refine Fork.dec (fun _ => ?_) (fun q => absurd hx1 q)
      conv => whnf
      refine ⟨1, 200, _, (joinF 200 X Y).1.2, rfl, rfl, rfl, by decide, hK1, hjf.2.in64, ?_⟩
      conv => whnf
      refine ⟨(joinF 200 X Y).1.2, Y, .inr rfl, .inr rfl, hK2, ?_⟩
      conv => whnf
      refine Fork.dec (fun _ => ?_) (fun q => absurd hy1 q)
      conv => whnf
      exact .inl rfl
  · conv => whnf
    refine Fork.dec (fun hm0 => ?_) (fun hm0 => ?_)
    · have hYn : Y = [] := List.eq_nil_of_length_eq_zero (Int.ofNat_inj.1 hm0)
      have hm : meetF X Y = false := by simp [meetF, hYn]
      conv => whnf
      refine Fork.dec (fun he => ?_) (fun he => ?_)
      · have hnm := (ok0 he).1
        have hj1 := (ok0 he).2.1
        have hj2 := (ok0 he).2.2.1
        have hu := (ok0 he).2.2.2
        conv => whnf
        refine ⟨0, 200, _, (joinF 200 X Y).1.1, rfl, rfl, rfl, by decide, hJ1, hjf.1.in64, ?_⟩
        conv => whnf
        refine RApp.grow 2 16 _ _ _ _ _ _ tyS .fr (smp_length X) (hone X) (.sl rfl rfl (Nat.le_refl _) (Nat.le_refl _)) hbX ?_
        conv => whnf
        refine RApp.grow 2 16 _ _ _ _ _ _ tyS .fr (smp_length Y) (hone Y) (.rw rfl hrX) hbXY ?_
        conv => whnf
        refine ⟨(joinF 200 X Y).1.1, X ++ Y, .inr rfl, .inl (.inr (.inl (.inl ⟨_, 0, 0, _, _, ⟨congrArg (fun k => AV.rw _ 0 k 2 0) hXYl, by decide⟩, .inr ⟨_, rfl⟩, hsubXY, smp_map _⟩))), hJ2, ?_⟩
        conv => whnf
        refine Fork.dec (fun _ => ?_) (fun q => absurd hj1 q)
        conv => whnf
        refine Fork.dec (fun _ => ?_) (fun q => absurd (by rw [hj2]; rfl) q)
        conv => whnf
        refine Fork.dec (fun _ => ?_) (fun q => absurd hu q)
        conv => whnf
        exact .inl rfl
      · have hx1 := (no0 he).1
        have hy1 := (no0 he).2.1
        have he1 := (no0 he).2.2
        conv => whnf
        have hx : (decide ((joinF 200 X Y).2 = 1) == !true) = true := by rw [decide_eq_false (fun q => by have := he1.1 q; rw [hm] at this; cases this)]; rfl
        refine Fork.sb (fun _ => ?_) (fun q => absurd q (by rw [hx]; decide))
        conv => whnf
        refine ⟨0, 200, _, (joinF 200 X Y).1.1, rfl, rfl, rfl, by decide, hJ1, hjf.1.in64, ?_⟩
        conv => whnf
        refine ⟨(joinF 200 X Y).1.1, X, .inr rfl, .inr rfl, hJ2, ?_⟩
        conv => whnf
        refine Fork.dec (fun _ => ?_) (fun q => absurd hx1 q)
        conv => whnf
        refine ⟨1, 200, _, (joinF 200 X Y).1.2, rfl, rfl, rfl, by decide, hK1, hjf.2.in64, ?_⟩
        conv => whnf
        refine ⟨(joinF 200 X Y).1.2, Y, .inr rfl, .inr rfl, hK2, ?_⟩
        conv => whnf
        refine Fork.dec (fun _ => ?_) (fun q => absurd hy1 q)
        conv => whnf
        exact .inl rfl
    · have hx1 : 0 < X.length := Nat.pos_of_ne_zero fun q => hl0 (by exact Int.ofNat_inj.2 q)
      have hy1 : 0 < Y.length := Nat.pos_of_ne_zero fun q => hm0 (by exact Int.ofNat_inj.2 q)
      have hxp : X.length - 1 < X.length := by omega
      have hxw : IntKind.i64.wrap ((X.length : Int) - 1) = ((X.length - 1 : Nat) : Int) := (W64_of ⟨by omega, by omega⟩).trans (by omega)
      have hris : X[X.length - 1].1 < Y[0].1 ↔ meetF X Y = false := by
        unfold meetF lastT
        have a1 : decide (X ≠ []) = true := by rw [decide_eq_true_eq]; intro q; rw [q] at hx1; cases hx1
        have a2 : decide (Y ≠ []) = true := by rw [decide_eq_true_eq]; intro q; rw [q] at hy1; cases hy1
        rw [tAt_of hy1, tAt_of hxp, a1, a2, Bool.true_and, Bool.true_and, decide_eq_false_iff_not]; omega
      conv => whnf
      refine Idx.mk (X.length - 1) hxw hxp ?_
      conv => whnf
      refine optP_of (smp_nth0 hxp rfl) ?_
      conv => whnf
      refine Idx.mk 0 rfl hy1 ?_
      conv => whnf
      refine optP_of (smp_nth0 hy1 rfl) ?_
      conv => whnf
      refine Fork.dec (fun he => ?_) (fun he => ?_)
      · conv => whnf
        refine Fork.dec (fun hr => ?_) (fun hr => absurd (ok0 he).1 (fun q => hr (hris.2 q)))
        have hnm := (ok0 he).1
        have hj1 := (ok0 he).2.1
        have hj2 := (ok0 he).2.2.1
        have hu := (ok0 he).2.2.2
        conv => whnf
        refine ⟨0, 200, _, (joinF 200 X Y).1.1, rfl, rfl, rfl, by decide, hJ1, hjf.1.in64, ?_⟩
        conv => whnf
        refine RApp.grow 2 16 _ _ _ _ _ _ tyS .fr (smp_length X) (hone X) (.sl rfl rfl (Nat.le_refl _) (Nat.le_refl _)) hbX ?_
        conv => whnf
        refine RApp.grow 2 16 _ _ _ _ _ _ tyS .fr (smp_length Y) (hone Y) (.rw rfl hrX) hbXY ?_
        conv => whnf
        refine ⟨(joinF 200 X Y).1.1, X ++ Y, .inr rfl, .inl (.inr (.inl (.inl ⟨_, 0, 0, _, _, ⟨congrArg (fun k => AV.rw _ 0 k 2 0) hXYl, by decide⟩, .inr ⟨_, rfl⟩, hsubXY, smp_map _⟩))), hJ2, ?_⟩
        conv => whnf
        refine Fork.dec (fun _ => ?_) (fun q => absurd hj1 q)
        conv => whnf
        refine Fork.dec (fun _ => ?_) (fun q => absurd (by rw [hj2]; rfl) q)
        conv => whnf
        refine Fork.dec (fun _ => ?_) (fun q => absurd hu q)
        conv => whnf
        exact .inl rfl
      · have hx1 := (no0 he).1
        have hy1 := (no0 he).2.1
        have he1 := (no0 he).2.2
        conv => whnf
        have hx : (decide ((joinF 200 X Y).2 = 1) == !(decide (X[X.length - 1].1 < Y[0].1))) = true := by rw [beq_iff_eq, ← decide_not, decide_eq_decide, hris, he1]; simp
        refine Fork.sb (fun _ => ?_) (fun q => absurd q (by rw [hx]; decide))
        conv => whnf
        refine ⟨0, 200, _, (joinF 200 X Y).1.1, rfl, rfl, rfl, by decide, hJ1, hjf.1.in64, ?_⟩
        conv => whnf
        refine ⟨(joinF 200 X Y).1.1, X, .inr rfl, .inr rfl, hJ2, ?_⟩
        conv => whnf
        refine Fork.dec (fun _ => ?_) (fun q => absurd hx1 q)
        conv => whnf
        refine ⟨1, 200, _, (joinF 200 X Y).1.2, rfl, rfl, rfl, by decide, hK1, hjf.2.in64, ?_⟩
        conv => whnf
        refine ⟨(joinF 200 X Y).1.2, Y, .inr rfl, .inr rfl, hK2, ?_⟩
        conv => whnf
        refine Fork.dec (fun _ => ?_) (fun q => absurd hy1 q)
        conv => whnf
        exact .inl rfl
end Go.Proofs.Ytpfflibkkjjlaaa
namespace Go.Proofs.Ytpfflibkkjjlaaa
end Go.Proofs.Ytpfflibkkjjlaaa
