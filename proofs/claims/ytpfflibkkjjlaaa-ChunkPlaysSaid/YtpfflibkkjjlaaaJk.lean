/- Texts of our own, joined: the engine, the machine that runs code, and what is known of the functions. -/
import Derived.Test.YtpfflibkkjjlaaaJj
set_option linter.unusedSimpArgs false
set_option linter.unusedVariables false
namespace Go.Proofs.Ytpfflibkkjjlaaa
open Go Go.RowKit
set_option maxRecDepth 20000
/-! ### all samples, frozen or as a row of one's own -/
set_option maxHeartbeats 4000000 in
set_option maxRecDepth 100000 in
theorem all_runR (size : Nat) (L : Smp) (hs : 0 < size) (hL : L.length ≤ 100000) (h64 : ∀ x ∈ L, In64 x.1 ∧ In64 x.2) : callT KAl 3 11 [.ptr 0 0] (mkH [(0, .ro (chk size L))]) 1 fun u H' _ => NewRowG L u H' := by
  conv => whnf
  refine Fork.ndec (fun h => absurd (show (0 : Int) < (size : Int) by omega) h) (fun _ => ?_)
  conv => whnf
  refine ⟨L, rfl, rfl, rfl, hL, h64, ⟨rfl, by decide⟩, ?_⟩
  conv => whnf
  exact NewRowG.rw rfl rfl (smp_whole L) (smp_map L)
def natAllR (args : List AV) (H : AH) (n : Nat) (κ : PK) : Prop := match args with
  | [x] => ∃ (b size : Nat) (l : List AV) (L : Smp), x = .ptr b 0 ∧ H.get b = some (.cells l true) ∧ l.map mk = chk size L ∧ 0 < size ∧ L.length ≤ 100000 ∧ (∀ x ∈ L, In64 x.1 ∧ In64 x.2) ∧ RowPW (fun r => r) L H n κ
  | _ => False
theorem n_allR : NatP 11 natAllR := fun args H n κ hs φ h0' hp vs K hr hargs hk => by
  unfold natAllR at hs
  split at hs
  · obtain ⟨x, rfl, e1⟩ := vs1 hargs
    obtain ⟨b, size, l, L, rfl, hb, hl, hsz, hL, h64, hs⟩ := hs
    obtain ⟨p, hpb, rfl⟩ := e1.ptr_inv
    have hl4 : l.length = 4 := by have := congrArg List.length hl; simpa [chk] using this
    have hro := RoAt.of (s := chk size L) hr (.inr ⟨_, hb⟩) hpb (subL_all (n := 4) hl4) (by rw [hl, chk_map]) (chk_flat size L)
    exact smallNew1 KAl_ok (fun _ _ h => h) (all_runR size L hsz hL h64) hs hr hk (by kernel_rfl) (φ0 := ph1 ⟨p.B, p.s + 0, 4⟩) (fun hw => HR.ro1 hw hro) (.cons (.ptr (p := ⟨p.B, p.s + 0, 4⟩) (o := 0) rfl) .nil)
  · exact hs.elim
def natAllB (args : List AV) (H : AH) (n : Nat) (κ : PK) : Prop := natAll args H n κ ∨ natAllR args H n κ
theorem n_allB : NatP 11 natAllB := fun args H n κ hs => hs.elim (n_all args H n κ) (n_allR args H n κ)
/-! ### two chunks as one -/
theorem get_set_10 {α : Type} {v : Option α} {t : PM α} : (PM.set v depthH t 1).get 0 = t.get 0 := by cases t <;> rfl
theorem get_set_01 {α : Type} {v : Option α} {t : PM α} : (PM.set v depthH t 0).get 1 = t.get 1 := by cases t <;> rfl
theorem get_set_11 {α : Type} {v : α} {t : PM α} : (PM.set (some v) depthH t 1).get 1 = some v := by
  cases t with
  | nil => rfl
  | node l u r => cases l <;> rfl
def ChQ2 (e : Int) (s1 s2 : Nat) (L M : Smp) : PK := fun u H' _ => u = .si .i64 e ∧ PM.get H' 0 = some (.cells (chk s1 L) true) ∧ PM.get H' 1 = some (.cells (chk s2 M) true)
theorem chLeaf2 {u : AV} {H' : AH} {n' s1 s2 : Nat} {e : Int} {L M : Smp} {l m : List AV} (hu : mk u = .si .i64 e) (hb : PM.get H' 0 = some (.cells l true)) (hl : l.map mk = chk s1 L) (hc : PM.get H' 1 = some (.cells m true)) (hm : m.map mk = chk s2 M) :
    ∃ v H2 n2, VTo u v ∧ Recast H' n' H2 n2 ∧ ChQ2 e s1 s2 L M v H2 n2 :=
  ⟨.si .i64 e, (H'.set (some (.cells (chk s2 M) true)) depthH 1).set (some (.cells (chk s1 L) true)) depthH 0, n', fun φ w h => by rw [← hu]; exact h.mk, (Recast.remk (l' := chk s2 M) hc rfl hm).trans (Recast.remk (l' := chk s1 L) (get_set_10.trans hb) rfl hl), rfl, PM.get_set0, get_set_01.trans get_set_11⟩
noncomputable def KJo : FuncId → EP := withN 11 natAllB (withN 41 natEnc evP)
theorem KJo_ok : TabP KJo := withN_ok (withN_ok evP_ok n_enc) n_allB
set_option maxHeartbeats 8000000 in
set_option maxRecDepth 100000 in
theorem join_run (s1 s2 : Nat) (L M : Smp) (h1 : 0 < s1) (h1' : s1 ≤ 4096) (h2 : 0 < s2) (hF : Fine L) (hG : Fine M) : post (callT KJo 5 19) [.ptr 0 0, .ptr 1 0] (mkH [(0, .cells (chk s1 L) true), (1, .cells (chk s2 M) true)]) 2 (ChQ2 (joinF s1 L M).2 s1 s2 (joinF s1 L M).1.1 (joinF s1 L M).1.2) := by
  have leaf : ∀ {u : AV} {H' : AH} {n' : Nat} {e : Int} {A B : Smp} {l m : List AV}, joinF s1 L M = ((A, B), e) → mk u = .si .i64 e → PM.get H' 0 = some (.cells l true) → l.map mk = chk s1 A → PM.get H' 1 = some (.cells m true) → m.map mk = chk s2 B → ∃ v2 H2 n2, VTo u v2 ∧ Recast H' n' H2 n2 ∧ ChQ2 (joinF s1 L M).2 s1 s2 (joinF s1 L M).1.1 (joinF s1 L M).1.2 v2 H2 n2 := fun hj hu hb hl hc hm => by
    rw [hj]; exact chLeaf2 hu hb hl hc hm
  have hz1 : (0 : Int) < (s1 : Int) := by omega
  have hz2 : (0 : Int) < (s2 : Int) := by omega
  have hLl := hF.2.2
  have hMl := hG.2.2
  have hL1 : L.length ≤ 100000 := by omega
  have hM1 : M.length ≤ 100000 := by omega
  have hw8 : IntKind.i64.wrap (8 * (s1 : Int)) = ((8 * s1 : Nat) : Int) := W64_of ⟨by omega, by omega⟩
  have hrowL : subL (smp L) 0 (L.length * 2) = some (smp L) := smp_whole L
  have hone : (smp M).all one1 = true := by
    rw [List.all_eq_true]
    intro y hy
    have := List.all_eq_true.1 (smp_flat M) y hy
    cases y <;> first | rfl | cases this
  have hbig : (L.length + M.length) * 16 ≤ 140737488355328 := by omega
  have hLM : (L ++ M).length = L.length + M.length := List.length_append
  have hsubLM : subL (smp L ++ smp M) 0 ((L ++ M).length * 2) = some (smp (L ++ M)) := by rw [← smp_app]; exact smp_whole _
  have hLM1 : (L ++ M).length ≤ 100000 := by omega
  have h64 : ∀ x ∈ L ++ M, In64 x.1 ∧ In64 x.2 := fun x hx => (List.mem_append.1 hx).elim (hF.in64 x) (hG.in64 x)
  have hn0 : ∀ x ∈ ([] : Smp), In64 x.1 ∧ In64 x.2 := fun x hx => by cases hx
  have hlq : [AV.si .i64 (s1 : Int), .ss (pack (encB (L ++ M))), .si .i64 ((encB (L ++ M)).length : Int), .si .i64 ((L.length + M.length : Nat) : Int)].map mk = chk s1 (L ++ M) := by unfold chk; rw [hLM]; rfl
  show callT KJo 5 19 _ _ _ _
  conv => whnf
  refine Fork.ndec (fun h => absurd hz1 h) (fun _ => ?_)
  conv => whnf
  refine Fork.ndec (fun h => absurd hz2 h) (fun _ => ?_)
  conv => whnf
  refine .inl ⟨0, s1, _, L, rfl, rfl, rfl, h1, hL1, hF.in64, ?_⟩
  conv => whnf
  refine Fork.dec (fun hl0 => ?_) (fun hl0 => ?_)
  · have hLn : L = [] := List.eq_nil_of_length_eq_zero (Int.ofNat_inj.1 hl0)
    conv => whnf
    refine .inl ⟨1, s2, _, M, rfl, rfl, rfl, h2, hM1, hG.in64, ?_⟩
    conv => whnf
    refine Fork.dec (fun hm0 => ?_) (fun hm0 => ?_)
    · have hj0 : joinF s1 L M = if (encB (L ++ M)).length ≤ 8 * s1 then ((L ++ M, []), 0) else ((L, M), 2) := by unfold joinF; rw [if_neg (by simp [meetF, hLn])]
      conv => whnf
      refine .inr ⟨0, s1, _, L, rfl, rfl, rfl, h1, hL1, hF.in64, ⟨rfl, by decide⟩, ?_⟩
      conv => whnf
      refine .inl ⟨1, s2, _, M, rfl, rfl, rfl, h2, hM1, hG.in64, ?_⟩
      conv => whnf
      refine RApp.grow 2 16 _ _ _ _ _ _ tyS .fr (smp_length M) hone (.rw rfl hrowL) hbig ?_
      conv => whnf
      refine ⟨L ++ M, .inr (.inl (.inl ⟨_, 0, 0, _, _, ⟨congrArg (fun k => AV.rw _ 0 k 2 0) hLM.symm, by decide⟩, .inr ⟨_, rfl⟩, hsubLM, smp_map _⟩)), hLM1, h64, ?_⟩
      conv => whnf
      refine Fork.dec (fun h3 => ?_) (fun h3 => ?_)
      · have e : joinF s1 L M = ((L, M), 2) := by rw [hj0, if_neg (by rw [hw8] at h3; omega)]
        conv => whnf
        exact leaf e rfl rfl rfl rfl rfl
      · have e : joinF s1 L M = ((L ++ M, []), 0) := by rw [hj0, if_pos (by rw [hw8] at h3; omega)]
        conv => whnf
        refine ⟨[], .inl ⟨rfl, rfl⟩, by decide, hn0, ?_⟩
        conv => whnf
        exact leaf e rfl rfl hlq rfl rfl
    · have hmp : 0 < M.length := Nat.pos_of_ne_zero fun q => hm0 (by exact Int.ofNat_inj.2 q)
      conv => whnf
      refine Idx.mk 0 rfl hmp ?_
      conv => whnf
      refine optP_of (smp_sub hmp rfl) ?_
      have hj0 : joinF s1 L M = if (encB (L ++ M)).length ≤ 8 * s1 then ((L ++ M, []), 0) else ((L, M), 2) := by unfold joinF; rw [if_neg (by simp [meetF, hLn])]
      conv => whnf
      refine .inr ⟨0, s1, _, L, rfl, rfl, rfl, h1, hL1, hF.in64, ⟨rfl, by decide⟩, ?_⟩
      conv => whnf
      refine .inl ⟨1, s2, _, M, rfl, rfl, rfl, h2, hM1, hG.in64, ?_⟩
      conv => whnf
      refine RApp.grow 2 16 _ _ _ _ _ _ tyS .fr (smp_length M) hone (.rw rfl hrowL) hbig ?_
      conv => whnf
      refine ⟨L ++ M, .inr (.inl (.inl ⟨_, 0, 0, _, _, ⟨congrArg (fun k => AV.rw _ 0 k 2 0) hLM.symm, by decide⟩, .inr ⟨_, rfl⟩, hsubLM, smp_map _⟩)), hLM1, h64, ?_⟩
      conv => whnf
      refine Fork.dec (fun h3 => ?_) (fun h3 => ?_)
      · have e : joinF s1 L M = ((L, M), 2) := by rw [hj0, if_neg (by rw [hw8] at h3; omega)]
        conv => whnf
        exact leaf e rfl rfl rfl rfl rfl
      · have e : joinF s1 L M = ((L ++ M, []), 0) := by rw [hj0, if_pos (by rw [hw8] at h3; omega)]
        conv => whnf
        refine ⟨[], .inl ⟨rfl, rfl⟩, by decide, hn0, ?_⟩
        conv => whnf
        exact leaf e rfl rfl hlq rfl rfl
  · have hl1 : 0 < L.length := Nat.pos_of_ne_zero fun q => hl0 (by exact Int.ofNat_inj.2 q)
    have hlp : L.length - 1 < L.length := by omega
    have hlw : IntKind.i64.wrap ((L.length : Int) - 1) = ((L.length - 1 : Nat) : Int) := (W64_of ⟨by omega, by omega⟩).trans (by omega)
    conv => whnf
    refine Idx.mk (L.length - 1) hlw hlp ?_
    conv => whnf
    refine optP_of (smp_sub hlp rfl) ?_
    conv => whnf
    refine .inl ⟨1, s2, _, M, rfl, rfl, rfl, h2, hM1, hG.in64, ?_⟩
    conv => whnf
    refine Fork.dec (fun hm0 => ?_) (fun hm0 => ?_)
    · have hMn : M = [] := List.eq_nil_of_length_eq_zero (Int.ofNat_inj.1 hm0)
      have hj0 : joinF s1 L M = if (encB (L ++ M)).length ≤ 8 * s1 then ((L ++ M, []), 0) else ((L, M), 2) := by unfold joinF; rw [if_neg (by simp [meetF, hMn])]
      conv => whnf
      refine .inr ⟨0, s1, _, L, rfl, rfl, rfl, h1, hL1, hF.in64, ⟨rfl, by decide⟩, ?_⟩
      conv => whnf
      refine .inl ⟨1, s2, _, M, rfl, rfl, rfl, h2, hM1, hG.in64, ?_⟩
      conv => whnf
      refine RApp.grow 2 16 _ _ _ _ _ _ tyS .fr (smp_length M) hone (.rw rfl hrowL) hbig ?_
      conv => whnf
      refine ⟨L ++ M, .inr (.inl (.inl ⟨_, 0, 0, _, _, ⟨congrArg (fun k => AV.rw _ 0 k 2 0) hLM.symm, by decide⟩, .inr ⟨_, rfl⟩, hsubLM, smp_map _⟩)), hLM1, h64, ?_⟩
      conv => whnf
      refine Fork.dec (fun h3 => ?_) (fun h3 => ?_)
      · have e : joinF s1 L M = ((L, M), 2) := by rw [hj0, if_neg (by rw [hw8] at h3; omega)]
        conv => whnf
        exact leaf e rfl rfl rfl rfl rfl
      · have e : joinF s1 L M = ((L ++ M, []), 0) := by rw [hj0, if_pos (by rw [hw8] at h3; omega)]
        conv => whnf
        refine ⟨[], .inl ⟨rfl, rfl⟩, by decide, hn0, ?_⟩
        conv => whnf
        exact leaf e rfl rfl hlq rfl rfl
    · have hmp : 0 < M.length := Nat.pos_of_ne_zero fun q => hm0 (by exact Int.ofNat_inj.2 q)
      conv => whnf
      refine Idx.mk 0 rfl hmp ?_
      conv => whnf
      refine optP_of (smp_sub hmp rfl) ?_
      have hd : decide (M[0].1 ≤ L[L.length - 1].1) = meetF L M := by
        unfold meetF lastT
        have a1 : decide (L ≠ []) = true := by rw [decide_eq_true_eq]; intro q; rw [q] at hl1; cases hl1
        have a2 : decide (M ≠ []) = true := by rw [decide_eq_true_eq]; intro q; rw [q] at hmp; cases hmp
        rw [tAt_of hmp, tAt_of hlp, a1, a2]; rfl
      conv => whnf
      refine Fork.dec (fun hmt => ?_) (fun hmt => ?_)
      · have e : joinF s1 L M = ((L, M), 1) := by unfold joinF; rw [if_pos (hd ▸ decide_eq_true hmt)]
        conv => whnf
        exact leaf e rfl rfl rfl rfl rfl
      · have hnm : ¬ meetF L M = true := by rw [← hd, decide_eq_true_eq]; exact hmt
        have hj0 : joinF s1 L M = if (encB (L ++ M)).length ≤ 8 * s1 then ((L ++ M, []), 0) else ((L, M), 2) := by unfold joinF; rw [if_neg hnm]
        conv => whnf
        refine .inr ⟨0, s1, _, L, rfl, rfl, rfl, h1, hL1, hF.in64, ⟨rfl, by decide⟩, ?_⟩
        conv => whnf
        refine .inl ⟨1, s2, _, M, rfl, rfl, rfl, h2, hM1, hG.in64, ?_⟩
        conv => whnf
        refine RApp.grow 2 16 _ _ _ _ _ _ tyS .fr (smp_length M) hone (.rw rfl hrowL) hbig ?_
        conv => whnf
        refine ⟨L ++ M, .inr (.inl (.inl ⟨_, 0, 0, _, _, ⟨congrArg (fun k => AV.rw _ 0 k 2 0) hLM.symm, by decide⟩, .inr ⟨_, rfl⟩, hsubLM, smp_map _⟩)), hLM1, h64, ?_⟩
        conv => whnf
        refine Fork.dec (fun h3 => ?_) (fun h3 => ?_)
        · have e : joinF s1 L M = ((L, M), 2) := by rw [hj0, if_neg (by rw [hw8] at h3; omega)]
          conv => whnf
          exact leaf e rfl rfl rfl rfl rfl
        · have e : joinF s1 L M = ((L ++ M, []), 0) := by rw [hj0, if_pos (by rw [hw8] at h3; omega)]
          conv => whnf
          refine ⟨[], .inl ⟨rfl, rfl⟩, by decide, hn0, ?_⟩
          conv => whnf
          exact leaf e rfl rfl hlq rfl rfl
/-- Two chunks as one. -/
def natJoin (args : List AV) (H : AH) (n : Nat) (κ : PK) : Prop := match args with
  | [x, y] => ∃ (b c s1 s2 : Nat) (L M : Smp), x = .ptr b 0 ∧ y = .ptr c 0 ∧ b ≠ c ∧ b < n ∧ c < n ∧ H.get b = some (.cells (chk s1 L) true) ∧ H.get c = some (.cells (chk s2 M) true) ∧ 0 < s1 ∧ s1 ≤ 4096 ∧ 0 < s2 ∧ Fine L ∧ Fine M ∧
      κ (.si .i64 (joinF s1 L M).2) ((H.set (some (.cells (chk s2 (joinF s1 L M).1.2) true)) depthH c).set (some (.cells (chk s1 (joinF s1 L M).1.1) true)) depthH b) n
  | _ => False
theorem n_join : NatP 19 natJoin := fun args H n κ hs φ h0' hp vs K hr hargs hk => by
  unfold natJoin at hs
  split at hs
  · obtain ⟨x, y, rfl, e1, e2⟩ := vs2 hargs
    obtain ⟨b, c, s1, s2, L, M, rfl, rfl, hbc, hbn, hcn, hb, hc, h1, h1', h2, hF, hG, hs⟩ := hs
    refine framed (S := [b, c]) (O := [.cells (chk s1 L) true, .cells (chk s2 M) true]) (args0 := [.ptr 0 0, .ptr 1 0]) (NatP.post (callT_nat KJo_ok 5 _)) (by kernel_rfl) hr
      (hands2 hbc hbn hcn hb hc (.inr rfl) (.inr rfl)) (.cons e1 (.cons e2 .nil)) hk (join_run s1 s2 L M h1 h1' h2 hF hG) fun u H' n' ⟨g1, g2, g3⟩ => ?_
    subst g1
    refine ⟨2, putH [b, c] n H [(0, some (.cells (chk s1 (joinF s1 L M).1.1) true)), (1, some (.cells (chk s2 (joinF s1 L M).1.2) true))], Nat.le_refl _, After.put (Nat.le_refl _) rfl (fun x hx o ho => ?_), rfl, hs⟩
    simp only [List.mem_cons, List.not_mem_nil, or_false] at hx
    rcases hx with rfl | rfl
    · injection ho with ho; subst ho; exact ⟨g2, rfl, rfl⟩
    · injection ho with ho; subst ho; exact ⟨g3, rfl, rfl⟩
  · exact hs.elim
/-! ### a chunk that is built -/
noncomputable def bl (S : List Op4) (sz : Nat) (L : Smp) (i : Nat) : AE × AH := (mkE [(0, .ptr 0 (0)), (1, .fr S.length 4 (opsC S)), (4, .si .i64 (((i : Nat) : Int)))], mkH [(0, .cells (chk sz L) true)])
theorem bl_cov {S : List Op4} {sz : Nat} {L : Smp} {i : Nat} {p n : Nat} {σ : AE} {H : AH} (hp : p ≤ 1) (e0 : getq (pa 0) σ = .ptr 0 (0)) (e1 : getq (pa 1) σ = .fr S.length 4 (opsC S)) (e4 : mk (getq (pa 4) σ) = .si .i64 (((i : Nat) : Int))) (h0 : ∃ l, H.get 0 = some (.cells l true) ∧ SubL H 1 (fun b => b) l (chk sz L)) : Cov p σ H n ((bl S sz L i).1, (bl S sz L i).2, 1) := by
  refine Cov.ofR (fun b => b) (by omega) (fun b hb => rfl) ?_ ?_ ?_
  · intro x hx
    simp only [List.mem_cons, List.not_mem_nil, or_false] at hx
    rcases hx with rfl | rfl | rfl
    · exact .ptr (by decide) e0
    · exact SubV.frE e1
    · exact .int e4
  · intro x hx
    simp only [List.mem_cons, List.not_mem_nil, or_false] at hx
    subst hx
    exact ⟨by simp, .inl (h0.elim fun l h => ⟨_, h.1, SubO.st h.2⟩)⟩
  · intro x hx y hy
    simp only [List.mem_cons, List.not_mem_nil, or_false] at hx hy
    subst hx hy
    exact fun q => rfl
noncomputable def KBl : FuncId → EP := withD 18 [] (withN 9 natPut (withN 10 natDrop evP))
theorem KBl_ok : TabP KBl := withD_ok (withN_ok (withN_ok evP_ok n_drop) n_put) (by kernel_rfl) (by kernel_rfl)
def BlQ (sz : Nat) : PK := fun u H' _ => u = .tup [] ∧ ∃ M, Fine M ∧ PM.get H' 0 = some (.cells (chk sz M) true)
theorem blLeaf {u : AV} {H' : AH} {n' sz : Nat} {L : Smp} (hu : u = .tup []) (hF : Fine L) (hb : PM.get H' 0 = some (.cells (chk sz L) true)) : ∃ v H2 n2, VTo u v ∧ Recast H' n' H2 n2 ∧ BlQ sz v H2 n2 := ⟨u, H', n', .refl _, .refl _ _, hu, L, hF, hb⟩
set_option maxHeartbeats 8000000 in
set_option maxRecDepth 100000 in
theorem build_run (sz : Nat) (L0 : Smp) (S : List Op4) (hsz : 0 < sz) (hsz2 : sz ≤ 4096) (hF0 : Fine L0) (hS : OpsIn S) : callT KBl 5 18 [.ptr 0 0, .fr S.length 4 (opsC S)] (mkH [(0, .cells (chk sz L0) true)]) 1 (BlQ sz) := by
  conv => whnf
  refine LoopP.mk { x : Nat × Smp // x.1 ≤ S.length ∧ Fine x.2 } 1 (fun x => bl S sz x.val.2 x.val.1) (fun x => S.length - x.val.1) ⟨(0, L0), Nat.zero_le _, hF0⟩ ?_ ?_
  · exact bl_cov (Nat.le_refl 1) rfl rfl rfl ⟨_, rfl, chk_sub _ _⟩
  · intro ⟨(i, L), hi, hF⟩
    dsimp only at hi hF
    conv => whnf
    refine Fork.dec (fun h => ?_) (fun h => ?_)
    · have hi2 : i < S.length := by exact Int.ofNat_lt.1 h
      have hV : In64 S[i].2.2.1 := (hS _ (List.getElem_mem hi2)).2.2.1
      conv => whnf
      refine Fork.dec (fun h100 => ?_) (fun h100 => ?_)
      · have h100' : (i : Int) < 100 := h100
        have hi1 : IntKind.i64.wrap ((i : Int) + 1) = ((i + 1 : Nat) : Int) := W64_of ⟨by omega, by omega⟩
        have n0 : nth (opsC S) (i * 4 + 0) = some (.si .i64 S[i].1) := opsC_nth (j := 0) hi2 rfl (by decide)
        have n1 : nth (opsC S) (i * 4 + 1) = some (.si .i64 S[i].2.1) := opsC_nth (j := 1) hi2 rfl (by decide)
        have n2 : nth (opsC S) (i * 4 + 2) = some (.si .i64 S[i].2.2.1) := opsC_nth (j := 2) hi2 rfl (by decide)
        have n3 : nth (opsC S) (i * 4 + 3) = some (.si .i64 S[i].2.2.2) := opsC_nth (j := 3) hi2 rfl (by decide)
        have s12 : subL (opsC S) (i * 4 + 1) 2 = some [.si .i64 S[i].2.1, .si .i64 S[i].2.2.1] := by
          unfold subL
          rw [Nat.ble_eq_true_of_le (by rw [opsC_length]; omega), ← List.drop_drop, opsC_at hi2]; rfl
        conv => whnf
        refine Idx.mk i rfl hi2 ?_
        conv => whnf
        refine optP_of n0 ?_
        conv => whnf
        refine Fork.dec (fun hk0 => ?_) (fun hk0 => ?_)
        · conv => whnf
          refine Idx.mk i rfl hi2 ?_
          conv => whnf
          refine optP_of s12 ?_
          conv => whnf
          refine Idx.mk i rfl hi2 ?_
          conv => whnf
          refine optP_of n3 ?_
          conv => whnf
          refine ⟨0, sz, L, S[i].2.1, S[i].2.2.1, S[i].2.2.2, rfl, ⟨_, _, rfl, rfl, rfl⟩, rfl, by decide, rfl, hsz, hsz2, hF, hV, ?_⟩
          conv => whnf
          refine Idx.mk i rfl hi2 ?_
          conv => whnf
          refine optP_of n0 ?_
          conv => whnf
          refine Fork.dec (fun q => absurd (hk0.symm.trans q) (by decide)) (fun _ => ?_)
          conv => whnf
          exact ⟨⟨(i + 1, (putF sz L S[i].2.1 S[i].2.2.1 S[i].2.2.2).1), hi2, putF_fine hsz2 hF hV⟩, (show S.length - (i + 1) < S.length - i by omega), bl_cov (Nat.le_refl 1) rfl rfl (congrArg (AV.si .i64) hi1) ⟨_, rfl, chk_sub _ _⟩⟩
        · conv => whnf
          refine Idx.mk i rfl hi2 ?_
          conv => whnf
          refine optP_of n0 ?_
          conv => whnf
          refine Fork.dec (fun hk1 => ?_) (fun hk1 => ?_)
          · conv => whnf
            refine Idx.mk i rfl hi2 ?_
            conv => whnf
            refine optP_of n1 ?_
            conv => whnf
            refine Idx.mk i rfl hi2 ?_
            conv => whnf
            refine optP_of n2 ?_
            conv => whnf
            refine ⟨0, sz, L, S[i].2.1, S[i].2.2.1, rfl, rfl, rfl, by decide, rfl, hsz, hF, ?_⟩
            conv => whnf
            exact ⟨⟨(i + 1, dropF L S[i].2.1 S[i].2.2.1), hi2, dropF_fine hF _ _⟩, (show S.length - (i + 1) < S.length - i by omega), bl_cov (Nat.le_refl 1) rfl rfl (congrArg (AV.si .i64) hi1) ⟨_, rfl, chk_sub _ _⟩⟩
          · conv => whnf
            exact ⟨⟨(i + 1, L), hi2, hF⟩, (show S.length - (i + 1) < S.length - i by omega), bl_cov (Nat.le_refl 1) rfl rfl (congrArg (AV.si .i64) hi1) ⟨_, rfl, chk_sub _ _⟩⟩
      · conv => whnf
        exact ⟨rfl, L, hF, rfl⟩
    · conv => whnf
      exact ⟨rfl, L, hF, rfl⟩
def natBuild (args : List AV) (H : AH) (n : Nat) (κ : PK) : Prop := match args with
  | [x, y] => ∃ (b sz : Nat) (L : Smp) (S : List Op4), x = .ptr b 0 ∧ y = .fr S.length 4 (opsC S) ∧ b < n ∧ H.get b = some (.cells (chk sz L) true) ∧ 0 < sz ∧ sz ≤ 4096 ∧ Fine L ∧ OpsIn S ∧ ∀ M, Fine M → κ (.tup []) (H.set (some (.cells (chk sz M) true)) depthH b) n
  | _ => False
theorem n_build : NatP 18 natBuild := fun args H n κ hs φ h0' hp vs K hr hargs hk => by
  unfold natBuild at hs
  split at hs
  · obtain ⟨x, y, rfl, e1, e2⟩ := vs2 hargs
    obtain ⟨b, sz, L, S, rfl, rfl, hbn, hb, hsz, hsz2, hF, hS, hs⟩ := hs
    have hren : ren (nmOf [b] n) (.fr S.length 4 (opsC S)) = .fr S.length 4 (opsC S) := rfl
    refine framed (S := [b]) (O := [.cells (chk sz L) true]) (args0 := [.ptr 0 0, .fr S.length 4 (opsC S)]) (callT_nat KBl_ok 5 _) (by kernel_rfl) hr
      (hands1 hbn hb (.inr rfl)) (.cons e1 (.cons e2 .nil)) hk (build_run sz L S hsz hsz2 hF hS) fun u H' n' ⟨g1, M, g2, g3⟩ => ?_
    subst g1
    refine ⟨1, putH [b] n H [(0, some (.cells (chk sz M) true))], Nat.le_refl _, After.put (Nat.le_refl _) rfl (fun x hx o ho => ?_), rfl, hs M g2⟩
    simp only [List.mem_cons, List.not_mem_nil, or_false] at hx
    subst hx
    injection ho with ho; subst ho; exact ⟨g3, rfl, rfl⟩
  · exact hs.elim
def pre (g : List AV → AH → Nat → PK → Prop) (args : List AV) (H : AH) (n : Nat) (κ : PK) : Prop := ∃ H2 n2, Recast H n H2 n2 ∧ g args H2 n2 κ
theorem NatP.pre {f : FuncId} {g : List AV → AH → Nat → PK → Prop} (hg : NatP f g) : NatP f (pre g) := fun args H n κ ⟨H2, n2, h1, h2⟩ φ h0 h vs K hr ha hk => hg args H2 n2 κ h2 φ h0 h vs K (h1 φ h0 h hr) ha hk
end Go.Proofs.Ytpfflibkkjjlaaa
namespace Go.Proofs.Ytpfflibkkjjlaaa
open Go Go.RowKit
set_option maxRecDepth 20000
theorem rflLeaf {u v : AV} {H' : AH} {n' sz : Nat} {L : Smp} (hu : mkT u = v) (hb : PM.get H' 0 = some (.cells (rch sz L) true)) : ∃ v2 H2 n2, VTo u v2 ∧ Recast H' n' H2 n2 ∧ (v2 = v ∧ PM.get H2 0 = some (.cells (rch sz L) true)) := ⟨v, H', n', fun φ w h => hu ▸ h.mkT, .refl _ _, rfl, hb⟩
/-! ### how many bytes -/
noncomputable def KRu : FuncId → EP := withN 35 natRt evP
theorem KRu_ok : TabP KRu := withN_ok evP_ok n_rbits
def FlQ (v : AV) (sz : Nat) (L : Smp) : PK := fun u H' _ => u = v ∧ PM.get H' 0 = some (.cells (rch sz L) true)
set_option maxHeartbeats 4000000 in
set_option maxRecDepth 100000 in
theorem rused_run (sz : Nat) (L : Smp) (hF : Fine L) : post (callT KRu 3 40) [.ptr 0 0] (mkH [(0, .cells (rch sz L) true)]) 1 (FlQ (.si .i64 ((pack (encB L)).length : Int)) sz L) := by
  have hL := hF.2.2
  have hL1 : L.length ≤ 100000 := by omega
  have hlen := encB_len L
  have h1 : IntKind.i64.wrap (((encB L).length : Int) + 7) = (((encB L).length + 7 : Nat) : Int) := W64_of ⟨by omega, by omega⟩
  have h2 : IntKind.i64.wrap ((IntKind.i64.wrap (((encB L).length : Int) + 7)).tdiv 8) = ((pack (encB L)).length : Int) := by
    rw [h1, pack_length]; exact div_eq _ (by omega)
  have h3 : mkT (AV.si .i64 (IntKind.i64.wrap ((IntKind.i64.wrap (((encB L).length : Int) + 7)).tdiv 8))) = .si .i64 ((pack (encB L)).length : Int) := congrArg (AV.si .i64) h2
  show callT KRu 3 40 _ _ _ _
  conv => whnf
  refine ⟨L, .inr rfl, hL1, ?_⟩
  conv => whnf
  exact rflLeaf h3 rfl
def natRu (args : List AV) (H : AH) (n : Nat) (κ : PK) : Prop := match args with
  | [x] => ∃ (c sz : Nat) (L : Smp), x = .ptr c 0 ∧ c < n ∧ H.get c = some (.cells (rch sz L) true) ∧ Fine L ∧ κ (.si .i64 ((pack (encB L)).length : Int)) H n
  | _ => False
theorem rsame {c n : Nat} {H H' : AH} {sz : Nat} {L : Smp} (hc : H.get c = some (.cells (rch sz L) true)) (h2 : PM.get H' 0 = some (.cells (rch sz L) true)) : After [c] n ([c] : List Nat).length H H' H := After.same fun i s o h3 h4 _ => by
  cases i with
  | zero =>
    injection h3 with h3; subst h3
    rw [hc] at h4; injection h4 with h4; subst h4
    exact ⟨_, h2, rfl, rfl, rfl⟩
  | succ i => simp at h3
theorem n_rused : NatP 40 natRu := fun args H n κ hs φ h0' hp vs K hr hargs hk => by
  unfold natRu at hs
  split at hs
  · obtain ⟨x, rfl, e1⟩ := vs1 hargs
    obtain ⟨c, sz, L, rfl, hcn, hc, hF, hs⟩ := hs
    refine framed (S := [c]) (O := [.cells (rch sz L) true]) (args0 := [.ptr 0 0]) (NatP.post (callT_nat KRu_ok 3 _)) (by kernel_rfl) hr
      (hands1 hcn hc (.inr rfl)) (.cons e1 .nil) hk (rused_run sz L hF) fun u H' n' ⟨h1, h2⟩ => ?_
    subst h1
    exact ⟨1, H, Nat.le_refl _, rsame hc h2, rfl, hs⟩
  · exact hs.elim
theorem singRu : SingG natRu := .pure fun args H n κ hs => by
  unfold natRu at *
  split at hs
  · obtain ⟨c, sz, L, h1, h2, h3, h4, h5⟩ := hs
    exact ⟨_, h5, fun κ' h => ⟨c, sz, L, h1, h2, h3, h4, h⟩⟩
  · exact hs.elim
/-! ### samples taken out -/
noncomputable def rdr (sz : Nat) (L : Smp) (a : Int) (b : Int) (i : Nat) : AE × AH := (mkE [(0, .fr L.length 2 (smp L)), (1, .si .i64 (a)), (2, .si .i64 (b)), (7, .rw 1 0 (dropF (L.take i) a b).length 2 0), (8, .si .i64 (((i : Nat) : Int)))], mkH [(0, .cells (rch sz L) true), (1, .cells (smp ((dropF (L.take i) a b))) true)])
theorem rdr_cov {sz : Nat} {L : Smp} {a : Int} {b : Int} {i : Nat} {p n : Nat} {σ : AE} {H : AH} (j1 : Nat) (hj : j1 ≠ 0) (hp : p ≤ 1) (e0 : getq (pa 0) σ = .fr L.length 2 (smp L)) (e1 : mk (getq (pa 1) σ) = .si .i64 (a)) (e2 : mk (getq (pa 2) σ) = .si .i64 (b)) (e7 : SubV H 2 (fun b => if b = 1 then j1 else b) (getq (pa 7) σ) (.rw 1 0 (dropF (L.take i) a b).length 2 0)) (e8 : mk (getq (pa 8) σ) = .si .i64 (((i : Nat) : Int))) (h0 : ∃ l, H.get 0 = some (.cells l true) ∧ SubL H 2 (fun b => if b = 1 then j1 else b) l (rch sz L)) (h1 : (∃ l, H.get j1 = some (.cells l true) ∧ l.map mk = smp ((dropF (L.take i) a b))) ∨ (((dropF (L.take i) a b)) = [] ∧ n ≤ j1)) : Cov p σ H n ((rdr sz L a b i).1, (rdr sz L a b i).2, 2) := by
  refine Cov.ofR (fun b => if b = 1 then j1 else b) (by omega) (fun b hb => by repeat' rw [if_neg (by omega)]) ?_ ?_ ?_
  · intro x hx
    simp only [List.mem_cons, List.not_mem_nil, or_false] at hx
    rcases hx with rfl | rfl | rfl | rfl | rfl
    · exact SubV.frE e0
    · exact .int e1
    · exact .int e2
    · exact e7
    · exact .int e8
  · intro x hx
    simp only [List.mem_cons, List.not_mem_nil, or_false] at hx
    rcases hx with rfl | rfl
    · exact ⟨by simp, .inl (h0.elim fun l h => ⟨_, h.1, SubO.st h.2⟩)⟩
    · exact ⟨by simp, h1.elim (fun ⟨l, h, g⟩ => .inl ⟨_, h, SubO.cells_mk (smp_flat _) (by rw [g, smp_map]) (fun q => q)⟩) (fun h => .inr ⟨by rw [h.1]; rfl, h.2⟩)⟩
  · intro x hx y hy
    simp only [List.mem_cons, List.not_mem_nil, or_false] at hx hy
    rcases hx with rfl | rfl <;> rcases hy with rfl | rfl <;> simp <;> omega
noncomputable def KRd : FuncId → EP := withD 37 [] (withD 48 [] evP)
theorem KRd_ok : TabP KRd := withD_ok (withD_ok evP_ok (by kernel_rfl) (by kernel_rfl)) (by kernel_rfl) (by kernel_rfl)
set_option maxHeartbeats 4000000 in
set_option maxRecDepth 100000 in
theorem rdrop_run (sz : Nat) (L : Smp) (a b : Int) (hF : Fine L) : postZ (callT KRd 5 37) [.ptr 0 0, .si .i64 a, .si .i64 b] (mkH [(0, .cells (rch sz L) true)]) 1 (RcQ ((L.length : Int) - ((dropF L a b).length : Int)) sz (dropF L a b)) := by
  have hL := hF.2.2
  have hst : ∀ {H : AH} {m : Nat} {r : Nat → Nat}, SubL H m r (rch sz L) (rch sz L) := .cons (.int rfl) (.cons (SubV.frE rfl) .nil)
  show callT KRd 5 37 _ _ _ _
  conv => whnf
  refine LoopP.mk { i : Nat // i ≤ L.length } 2 (fun i => rdr sz L a b i.val) (fun i => L.length - i.val) ⟨0, Nat.zero_le _⟩ ?_ ?_
  · exact rdr_cov (j1 := 1) (by decide) (Nat.le_refl 1) rfl rfl rfl (.nslRw rfl) rfl ⟨_, rfl, hst⟩ (.inr ⟨rfl, Nat.le_refl _⟩)
  · intro ⟨i, hi⟩
    have hml : (dropF (L.take i) a b).length ≤ 20000 := Nat.le_trans (dropF_len _ _ _) (by rw [List.length_take]; omega)
    have hrow : subL (smp (dropF (L.take i) a b)) 0 ((dropF (L.take i) a b).length * 2) = some (smp (dropF (L.take i) a b)) := smp_whole _
    conv => whnf
    refine Fork.dec (fun h => ?_) (fun h => ?_)
    · have hi2 : i < L.length := by exact Int.ofNat_lt.1 h
      have hi1 : IntKind.i64.wrap ((i : Int) + 1) = (((i + 1 : Nat)) : Int) := W64_of ⟨by omega, by omega⟩
      have hbig : ((dropF (L.take i) a b).length + 1) * 16 ≤ 140737488355328 := by omega
      have hlt : L.length - (i + 1) < L.length - i := by omega
      have hsn := dropF_snoc L a b hi2
      have hy : (decide (L[i].1 < a) || decide (b < L[i].1)) = true → dropF (L.take (i + 1)) a b = dropF (L.take i) a b ++ [L[i]] := fun q => by rw [hsn, if_pos q]
      have hn : ¬ (decide (L[i].1 < a) || decide (b < L[i].1)) = true → dropF (L.take (i + 1)) a b = dropF (L.take i) a b := fun q => by rw [hsn, if_neg q, List.append_nil]
      have hyl : (decide (L[i].1 < a) || decide (b < L[i].1)) = true → (dropF (L.take i) a b).length + 1 = (dropF (L.take (i + 1)) a b).length := fun q => by rw [hy q]; simp
      have hys : (decide (L[i].1 < a) || decide (b < L[i].1)) = true → (smp (dropF (L.take i) a b) ++ [AV.si .i64 L[i].1, AV.si .i64 L[i].2]).map mk = smp (dropF (L.take (i + 1)) a b) := fun q => by rw [hy q, ← smp_snoc, smp_map]
      have hns : ¬ (decide (L[i].1 < a) || decide (b < L[i].1)) = true → (smp (dropF (L.take i) a b)).map mk = smp (dropF (L.take (i + 1)) a b) := fun q => by rw [hn q, smp_map]
      have hnl : ¬ (decide (L[i].1 < a) || decide (b < L[i].1)) = true → (dropF (L.take i) a b).length = (dropF (L.take (i + 1)) a b).length := fun q => by rw [hn q]
      conv => whnf
      refine Idx.mk i rfl hi2 ?_
      conv => whnf
      refine optP_of (smp_nth0 hi2 rfl) ?_
      conv => whnf
      refine Fork.dec (fun h1 => ?_) (fun h1 => ?_)
      · have q : (decide (L[i].1 < a) || decide (b < L[i].1)) = true := by simp [h1]
        conv => whnf
        refine Idx.mk i rfl hi2 ?_
        conv => whnf
        refine optP_of (smp_sub hi2 rfl) ?_
        conv => whnf
        refine RApp.grow 2 16 _ _ _ _ _ _ tyS (.old rfl) rfl rfl (.rw rfl hrow) hbig ?_
        conv => whnf
        exact ⟨⟨i + 1, hi2⟩, hlt, rdr_cov (j1 := 3) (by decide) (Nat.le_refl 1) rfl rfl rfl (SubV.rw (by decide) rfl (hn := hyl q)) (congrArg (AV.si .i64) hi1) ⟨_, rfl, hst⟩ (.inl ⟨_, rfl, hys q⟩)⟩
      · conv => whnf
        refine Idx.mk i rfl hi2 ?_
        conv => whnf
        refine optP_of (smp_nth0 hi2 rfl) ?_
        conv => whnf
        refine Fork.dec (fun h2 => ?_) (fun h2 => ?_)
        · have q : (decide (L[i].1 < a) || decide (b < L[i].1)) = true := by simp [h2]
          conv => whnf
          refine Idx.mk i rfl hi2 ?_
          conv => whnf
          refine optP_of (smp_sub hi2 rfl) ?_
          conv => whnf
          refine RApp.grow 2 16 _ _ _ _ _ _ tyS (.old rfl) rfl rfl (.rw rfl hrow) hbig ?_
          conv => whnf
          exact ⟨⟨i + 1, hi2⟩, hlt, rdr_cov (j1 := 3) (by decide) (Nat.le_refl 1) rfl rfl rfl (SubV.rw (by decide) rfl (hn := hyl q)) (congrArg (AV.si .i64) hi1) ⟨_, rfl, hst⟩ (.inl ⟨_, rfl, hys q⟩)⟩
        · have q : ¬ (decide (L[i].1 < a) || decide (b < L[i].1)) = true := by simp [h1, h2]
          conv => whnf
          exact ⟨⟨i + 1, hi2⟩, hlt, rdr_cov (j1 := 1) (by decide) (Nat.le_refl 1) rfl rfl rfl (SubV.rw (by decide) rfl (hn := hnl q)) (congrArg (AV.si .i64) hi1) ⟨_, rfl, hst⟩ (.inl ⟨_, rfl, hns q⟩)⟩
    · have hi3 : i = L.length := by have : ¬ i < L.length := fun q => h (Int.ofNat_lt.2 q); omega
      have htk : L.take i = L := by rw [hi3, List.take_length]
      have hw : AV.si .i64 (IntKind.i64.wrap ((L.length : Int) - ((dropF (L.take i) a b).length : Int))) = .si .i64 ((L.length : Int) - ((dropF L a b).length : Int)) := by
        rw [htk] at hml ⊢
        exact congrArg (AV.si .i64) (W64_of ⟨by omega, by omega⟩)
      have hq : (smp (dropF (L.take i) a b)).map mk = smp (dropF L a b) := by rw [htk, smp_map]
      have hq2 : (dropF (L.take i) a b).length = (dropF L a b).length := by rw [htk]
      conv => whnf
      exact rcLeaf hw rfl rfl rfl (by decide) (by decide) hq2 hq (by decide)
def natRDrop (args : List AV) (H : AH) (n : Nat) (κ : PK) : Prop := match args with
  | [x, y, z] => ∃ (c sz : Nat) (L : Smp) (a b : Int), x = .ptr c 0 ∧ mk y = .si .i64 a ∧ mk z = .si .i64 b ∧ c < n ∧ H.get c = some (.cells (rch sz L) true) ∧ Fine L ∧
      κ (.si .i64 ((L.length : Int) - ((dropF L a b).length : Int))) (H.set (some (.cells (rch sz (dropF L a b)) true)) depthH c) n
  | _ => False
theorem n_rdrop : NatP 37 natRDrop := fun args H n κ hs φ h0' hp vs K hr hargs hk => by
  unfold natRDrop at hs
  split at hs
  · obtain ⟨x, y, z, rfl, e1, e2, e3⟩ := vs3 hargs
    obtain ⟨c, sz, L, a, b, rfl, hy, hz, hcn, hc, hF, hs⟩ := hs
    refine framed (S := [c]) (O := [.cells (rch sz L) true]) (args0 := [.ptr 0 0, .si .i64 a, .si .i64 b]) (NatP.postZ (callT_nat KRd_ok 5 _)) (by kernel_rfl) hr
      (hands1 hcn hc (.inr rfl)) (.cons e1 (.cons (flat1_VR rfl (hy ▸ e2.mk)) (.cons (flat1_VR rfl (hz ▸ e3.mk)) .nil))) hk (rdrop_run sz L a b hF) fun u H' n' ⟨g1, g2⟩ => ?_
    subst g1
    refine ⟨1, putH [c] n H [(0, some (.cells (rch sz (dropF L a b)) true))], Nat.le_refl _, After.put (Nat.le_refl _) rfl (fun x hx o ho => ?_), rfl, hs⟩
    simp only [List.mem_cons, List.not_mem_nil, or_false] at hx
    subst hx
    injection ho with ho; subst ho; exact ⟨g2, rfl, rfl⟩
  · exact hs.elim
/-! ### a time's value -/
theorem plc_hit {L : Smp} (hu : Up L) {t : Int} {i : Nat} (hi : i < L.length) (ht : tAt L i = t) : plc L t = i := by
  rcases Nat.lt_trichotomy (plc L t) i with h | h | h
  · have h1 := plc_at (L := L) (t := t) (by omega)
    have h2 := hu.lt h hi
    omega
  · exact h
  · have := plc_lt h; omega
noncomputable def rgf (sz : Nat) (L : Smp) (t : Int) (i : Nat) : AE × AH := (mkE [(0, .ptr 0 (0)), (1, .si .i64 (t)), (6, .si .i64 (((i : Nat) : Int)))], mkH [(0, .cells (rch sz L) true)])
theorem rgf_cov {sz : Nat} {L : Smp} {t : Int} {i : Nat} {p n : Nat} {σ : AE} {H : AH} (hp : p ≤ 1) (e0 : getq (pa 0) σ = .ptr 0 (0)) (e1 : mk (getq (pa 1) σ) = .si .i64 (t)) (e6 : mk (getq (pa 6) σ) = .si .i64 (((i : Nat) : Int))) (h0 : ∃ l, H.get 0 = some (.cells l true) ∧ SubL H 1 (fun b => b) l (rch sz L)) : Cov p σ H n ((rgf sz L t i).1, (rgf sz L t i).2, 1) := by
  refine Cov.ofR (fun b => b) (by omega) (fun b hb => rfl) ?_ ?_ ?_
  · intro x hx
    simp only [List.mem_cons, List.not_mem_nil, or_false] at hx
    rcases hx with rfl | rfl | rfl
    · exact .ptr (by decide) e0
    · exact .int e1
    · exact .int e6
  · intro x hx
    simp only [List.mem_cons, List.not_mem_nil, or_false] at hx
    subst hx
    exact ⟨by simp, .inl (h0.elim fun l h => ⟨_, h.1, SubO.st h.2⟩)⟩
  · intro x hx y hy
    simp only [List.mem_cons, List.not_mem_nil, or_false] at hx hy
    subst hx hy
    exact fun q => rfl
noncomputable def KRg : FuncId → EP := withD 39 [] evP
theorem KRg_ok : TabP KRg := withD_ok evP_ok (by kernel_rfl) (by kernel_rfl)
set_option maxHeartbeats 4000000 in
set_option maxRecDepth 100000 in
theorem rget4_run (sz : Nat) (L : Smp) (t : Int) (hF : Fine L) : post (callT KRg 3 39) [.ptr 0 0, .si .i64 t] (mkH [(0, .cells (rch sz L) true)]) 1 (FlQ (.tup [.si .i64 (getF L t).1, .si .i64 (getF L t).2]) sz L) := by
  have hL := hF.2.2
  have hst : ∀ {H : AH} {m : Nat} {r : Nat → Nat}, SubL H m r (rch sz L) (rch sz L) := .cons (.int rfl) (.cons (SubV.frE rfl) .nil)
  show callT KRg 3 39 _ _ _ _
  conv => whnf
  refine LoopP.mk { i : Nat // i ≤ L.length ∧ ∀ j, j < i → tAt L j ≠ t } 1 (fun i => rgf sz L t i.val) (fun i => L.length - i.val) ⟨0, Nat.zero_le _, fun j hj => by omega⟩ ?_ ?_
  · exact rgf_cov (Nat.le_refl 1) rfl rfl rfl ⟨_, rfl, hst⟩
  · intro ⟨i, hi, hn⟩
    conv => whnf
    refine Fork.dec (fun h => ?_) (fun h => ?_)
    · have hi2 : i < L.length := by exact Int.ofNat_lt.1 h
      have hti : tAt L i = L[i].1 := tAt_of hi2
      have hi1 : IntKind.i64.wrap ((i : Int) + 1) = (((i + 1 : Nat)) : Int) := W64_of ⟨by omega, by omega⟩
      conv => whnf
      refine Idx.mk i rfl hi2 ?_
      conv => whnf
      refine optP_of (smp_nth0 hi2 rfl) ?_
      conv => whnf
      refine Fork.dec (fun he => ?_) (fun he => ?_)
      · have hp := plc_hit hF.1 hi2 (hti.trans he)
        have hh : has L t = true := by unfold has; rw [hp]; simp [hi2, hti, he]
        have e : mkT (AV.tup [.si .i64 L[i].2, .si .i64 0]) = .tup [.si .i64 (getF L t).1, .si .i64 (getF L t).2] := by unfold getF; rw [if_pos hh, hp, vAt_of hi2]; rfl
        conv => whnf
        refine Idx.mk i rfl hi2 ?_
        conv => whnf
        refine optP_of (smp_nth1 hi2 rfl) ?_
        conv => whnf
        exact rflLeaf e rfl
      · have hn2 : ∀ j, j < i + 1 → tAt L j ≠ t := fun j hj => by
          rcases Nat.lt_or_ge j i with q | q
          · exact hn j q
          · rw [show j = i by omega, hti]; exact he
        conv => whnf
        exact ⟨⟨i + 1, hi2, hn2⟩, (show L.length - (i + 1) < L.length - i by omega), rgf_cov (Nat.le_refl 1) rfl rfl (congrArg (AV.si .i64) hi1) ⟨_, rfl, hst⟩⟩
    · have hi3 : i = L.length := by have : ¬ i < L.length := fun q => h (Int.ofNat_lt.2 q); omega
      have hh : ¬ has L t = true := fun q => by
        unfold has at q
        have := of_decide_eq_true q
        exact hn _ (by omega) this.2
      have e : mkT (AV.tup [.si .i64 0, .si .i64 5]) = .tup [.si .i64 (getF L t).1, .si .i64 (getF L t).2] := by unfold getF; rw [if_neg hh]; rfl
      conv => whnf
      exact rflLeaf e rfl
def natRGet4 (args : List AV) (H : AH) (n : Nat) (κ : PK) : Prop := match args with
  | [x, y] => ∃ (c sz : Nat) (L : Smp) (t : Int), x = .ptr c 0 ∧ mk y = .si .i64 t ∧ c < n ∧ H.get c = some (.cells (rch sz L) true) ∧ Fine L ∧ κ (.tup [.si .i64 (getF L t).1, .si .i64 (getF L t).2]) H n
  | _ => False
theorem n_rget4 : NatP 39 natRGet4 := fun args H n κ hs φ h0' hp vs K hr hargs hk => by
  unfold natRGet4 at hs
  split at hs
  · obtain ⟨x, y, rfl, e1, e2⟩ := vs2 hargs
    obtain ⟨c, sz, L, t, rfl, hy, hcn, hc, hF, hs⟩ := hs
    refine framed (S := [c]) (O := [.cells (rch sz L) true]) (args0 := [.ptr 0 0, .si .i64 t]) (NatP.post (callT_nat KRg_ok 3 _)) (by kernel_rfl) hr
      (hands1 hcn hc (.inr rfl)) (.cons e1 (.cons (flat1_VR rfl (hy ▸ e2.mk)) .nil)) hk (rget4_run sz L t hF) fun u H' n' ⟨h1, h2⟩ => ?_
    subst h1
    exact ⟨1, H, Nat.le_refl _, rsame hc h2, rfl, hs⟩
  · exact hs.elim
/-! ### two of one -/
def cutC (L : Smp) (k : Nat) : Bool := decide (k < L.length - 1) && decide (2 * (encB (L.take k)).length < (encB L).length)
def splG (L : Smp) : Nat → Nat → Nat
  | 0, k => k
  | f + 1, k => if cutC L k then splG L f (k + 1) else k
def splK (L : Smp) : Nat := splG L (L.length - 1) 1
theorem splG_go {L : Smp} {k : Nat} (h : cutC L k = true) : splG L (L.length - k) k = splG L (L.length - (k + 1)) (k + 1) := by
  have h1 : k < L.length - 1 := by unfold cutC at h; simp at h; exact h.1
  rw [show L.length - k = (L.length - (k + 1)) + 1 by omega]
  show (if cutC L k = true then _ else _) = _
  rw [if_pos h]
theorem splG_stop {L : Smp} {f k : Nat} (h : cutC L k = false) : splG L f k = k := by cases f <;> simp [splG, h]
theorem take_fr (L : Smp) {k : Nat} (h : k ≤ L.length) : AV.fr k 2 ((smp L).take (k * 2)) = .fr (L.take k).length 2 (smp (L.take k)) := by rw [smp_take, List.length_take, Nat.min_eq_left h]
theorem drop_fr (L : Smp) (k : Nat) : AV.fr (L.length - k) 2 ((smp L).drop (k * 2)) = .fr (L.drop k).length 2 (smp (L.drop k)) := by rw [smp_drop, List.length_drop]
def RsQ (sz : Nat) (L : Smp) (k : Nat) : PK := fun u H' _ => u = .tup [.ptr 1 0, .int .i64 0] ∧ PM.get H' 0 = some (.cells (rch sz (L.take k)) true) ∧ PM.get H' 1 = some (.cells (rch sz (L.drop k)) true)
noncomputable def rsp (sz : Nat) (L : Smp) (k : Nat) : AE × AH := (mkE [(0, .ptr 0 (0)), (4, .si .i64 (((k : Nat) : Int)))], mkH [(0, .cells (rch sz L) true)])
theorem rsp_cov {sz : Nat} {L : Smp} {k : Nat} {p n : Nat} {σ : AE} {H : AH} (hp : p ≤ 1) (e0 : getq (pa 0) σ = .ptr 0 (0)) (e4 : mk (getq (pa 4) σ) = .si .i64 (((k : Nat) : Int))) (h0 : ∃ l, H.get 0 = some (.cells l true) ∧ SubL H 1 (fun b => b) l (rch sz L)) : Cov p σ H n ((rsp sz L k).1, (rsp sz L k).2, 1) := by
  refine Cov.ofR (fun b => b) (by omega) (fun b hb => rfl) ?_ ?_ ?_
  · intro x hx
    simp only [List.mem_cons, List.not_mem_nil, or_false] at hx
    rcases hx with rfl | rfl
    · exact .ptr (by decide) e0
    · exact .int e4
  · intro x hx
    simp only [List.mem_cons, List.not_mem_nil, or_false] at hx
    subst hx
    exact ⟨by simp, .inl (h0.elim fun l h => ⟨_, h.1, SubO.st h.2⟩)⟩
  · intro x hx y hy
    simp only [List.mem_cons, List.not_mem_nil, or_false] at hx hy
    subst hx hy
    exact fun q => rfl
def d_rsplit : DT := [(4, [(some 0, [4]), (some 0, [0]), (some 0, [13]), (some 0, [14]), (some 0, [15]), (some 0, [16]), (some 0, [17]), (some 0, [12, 18]), (some 0, [19]), (some 0, [0, 20]), (some 0, [21, 20]), (some 0, [22, 20]), (some 0, [23, 20]), (some 0, [4, 20]), (some 0, [24, 25, 20]), (none, [26, 20]), (some 0, [27, 20]), (some 2, [0, 20]), (some 3, [29, 20]), (some 4, [30, 20]), (some 5, [31, 20]), (none, [32, 20]), (some 0, [28, 33, 20]), (some 0, [20, 34])])]
noncomputable def KRs : FuncId → EP := withD 22 d_rsplit (withS 35 natRt evP)
theorem KRs_ok : TabP KRs := withD_ok (withS_ok evP_ok n_rbits singRt) (by kernel_rfl) (by kernel_rfl)
set_option maxHeartbeats 4000000 in
set_option maxRecDepth 100000 in
theorem rsplit_run0 (sz : Nat) (L : Smp) (h2 : L.length < 2) : post (callT KRs 4 22) [.ptr 0 0] (mkH [(0, .cells (rch sz L) true)]) 1 (fun u H' _ => u = .tup [.nil, .int .i64 5] ∧ PM.get H' 0 = some (.cells (rch sz L) true)) := by
  show callT KRs 4 22 _ _ _ _
  conv => whnf
  refine Fork.dec (fun _ => ?_) (fun q => absurd (show (L.length : Int) < 2 by omega) q)
  conv => whnf
  exact ⟨_, _, _, .refl _, .refl _ _, rfl, rfl⟩
set_option maxHeartbeats 8000000 in
set_option maxRecDepth 100000 in
theorem rsplit_run1 (sz : Nat) (L : Smp) (hF : Fine L) (h2 : 2 ≤ L.length) : postZ (callT KRs 4 22) [.ptr 0 0] (mkH [(0, .cells (rch sz L) true)]) 1 (RsQ sz L (splK L)) := by
  have hL := hF.2.2
  have hL1 : L.length ≤ 100000 := by omega
  have hlen := encB_len L
  have hst : ∀ {H : AH} {m : Nat} {r : Nat → Nat}, SubL H m r (rch sz L) (rch sz L) := .cons (.int rfl) (.cons (SubV.frE rfl) .nil)
  have leaf : ∀ {H' : AH} {n' k b m : Nat} {a0 c0 c1 : AV} {l : List AV} {z : Bool}, k = splK L → PM.get H' 0 = some (.cells [c0, c1] true) → mk c0 = .si .i64 (sz : Int) → c1 = .fr (L.take k).length 2 (smp (L.take k)) → PM.get H' 1 = some (.cells [a0, .rw b 0 m 2 0] true) → mk a0 = .si .i64 (sz : Int) → PM.get H' b = some (.cells l z) → b + 1 < 2 ^ 40 → 1 < b → m = (L.drop k).length → l.map mk = smp (L.drop k) →
      ∃ v2 H2 n2, FzTo (.tup [.ptr 1 0, .int .i64 0]) H' n' v2 H2 n2 ∧ RsQ sz L (splK L) v2 H2 n2 := fun hk g1 g2 g3 g4 g5 g6 g7 g8 g9 g10 => by
    rw [← hk]
    refine ⟨_, _, _, (FzTo.of (.refl _) (Recast.rcell (sz := sz) (M := L.take _) g1 g2 (fun φ v h => g3 ▸ h))).trans (FzTo.cell (c := 1) (.refl _) ((PM.get_set_ne _ _ _ _ (by decide) (by decide) g4)) g5 (PM.get_set_ne _ _ _ _ (by decide) (by omega) g6) g7 (by omega) g9 g10 (by decide)), rfl, ?_, get_set_11⟩
    exact PM.get_set_ne _ _ _ _ (by decide) (by decide) (PM.get_set_ne _ _ _ _ g7 (by omega) PM.get_set0)
  have hone : ∀ k : Nat, ((smp L).drop (k * 2)).all one1 = true := fun k => by
    rw [smp_drop, List.all_eq_true]
    intro y hy
    have := List.all_eq_true.1 (smp_flat (L.drop k)) y hy
    cases y <;> first | rfl | cases this
  have hdl : ∀ k : Nat, ((smp L).drop (k * 2)).length = (L.length - k) * 2 := fun k => by rw [List.length_drop, smp_length]; omega
  have hlw : IntKind.i64.wrap ((L.length : Int) - 1) = ((L.length - 1 : Nat) : Int) := (W64_of ⟨by omega, by omega⟩).trans (by omega)
  show callT KRs 4 22 _ _ _ _
  conv => whnf
  refine Fork.dec (fun q => absurd q (by omega)) (fun _ => ?_)
  conv => whnf
  refine LoopP.mk { k : Nat // 1 ≤ k ∧ k ≤ L.length - 1 ∧ splG L (L.length - k) k = splK L } 1 (fun k => rsp sz L k.val) (fun k => L.length - k.val) ⟨1, Nat.le_refl _, by omega, rfl⟩ ?_ ?_
  · exact rsp_cov (Nat.le_refl 1) rfl rfl ⟨_, rfl, hst⟩
  · intro ⟨k, hk1, hk2, hk3⟩
    have hkl : k ≤ L.length := by omega
    have hFt := hF.sub (List.take_sublist k L)
    have hit : (L.take k).length ≤ 100000 := by rw [List.length_take]; omega
    have hlt := encB_len (L.take k)
    have hlt2 : (encB (L.take k)).length ≤ 13600000 := by omega
    have hk : IntKind.i64.wrap ((k : Int) + 1) = ((k + 1 : Nat) : Int) := W64_of ⟨by omega, by omega⟩
    have h2w : IntKind.i64.wrap (2 * ((encB (L.take k)).length : Int)) = ((2 * (encB (L.take k)).length : Nat) : Int) := (W64_of ⟨by omega, by omega⟩).trans (by omega)
    have hnew : 0 + (L.length - k) = (L.drop k).length := by rw [List.length_drop, Nat.zero_add]
    have hbig : (0 + (L.length - k)) * 16 ≤ 140737488355328 := by omega
    have hmap : ([] ++ (smp L).drop (k * 2)).map mk = smp (L.drop k) := by rw [List.nil_append, smp_drop, smp_map]
    conv => whnf
    refine Fork.dec (fun h => ?_) (fun h => ?_)
    · have hc1 : k < L.length - 1 := by rw [hlw] at h; exact Int.ofNat_lt.1 h
      conv => whnf
      refine RSl.mk 0 k rfl rfl (.inl rfl) (Nat.zero_le _) hkl ?_
      conv => whnf
      refine ⟨L.take k, .inr (take_fr L hkl), hit, ?_⟩
      conv => whnf
      refine ⟨L, .inr rfl, hL1, ?_⟩
      conv => whnf
      refine Fork.dec (fun h3 => ?_) (fun h3 => ?_)
      · have hcut : cutC L k = true := by rw [h2w] at h3; unfold cutC; rw [decide_eq_true hc1, Bool.true_and]; exact decide_eq_true (Int.ofNat_lt.1 h3)
        conv => whnf
        exact ⟨⟨k + 1, by omega, by omega, (splG_go hcut).symm.trans hk3⟩, (show L.length - (k + 1) < L.length - k by omega), rsp_cov (Nat.le_refl 1) rfl (congrArg (AV.si .i64) hk) ⟨_, rfl, hst⟩⟩
      · have hsk : k = splK L := by rw [← hk3, splG_stop (by rw [h2w] at h3; unfold cutC; rw [decide_eq_true hc1, Bool.true_and]; exact decide_eq_false (fun q => h3 (Int.ofNat_lt.2 q)))]
        conv => whnf
        refine RSl.mk k _ rfl rfl (.inl rfl) hkl (Nat.le_refl _) ?_
        conv => whnf
        refine RApp.grow 2 16 _ _ _ _ _ _ tyS .fr (hdl k) (hone k) .nsl hbig ?_
        conv => whnf
        refine RSl.mk 0 k rfl rfl (.inl rfl) (Nat.zero_le _) hkl ?_
        conv => whnf
        exact leaf hsk rfl rfl (take_fr L hkl) rfl rfl rfl (by decide) (by decide) hnew hmap
    · have hsk : k = splK L := by rw [← hk3, splG_stop (by rw [hlw] at h; unfold cutC; rw [decide_eq_false (fun q => h (Int.ofNat_lt.2 q))]; rfl)]
      conv => whnf
      refine RSl.mk k _ rfl rfl (.inl rfl) hkl (Nat.le_refl _) ?_
      conv => whnf
      refine RApp.grow 2 16 _ _ _ _ _ _ tyS .fr (hdl k) (hone k) .nsl hbig ?_
      conv => whnf
      refine RSl.mk 0 k rfl rfl (.inl rfl) (Nat.zero_le _) hkl ?_
      conv => whnf
      exact leaf hsk rfl rfl (take_fr L hkl) rfl rfl rfl (by decide) (by decide) hnew hmap
def natRSplit (args : List AV) (H : AH) (n : Nat) (κ : PK) : Prop := match args with
  | [x] => ∃ (c sz : Nat) (L : Smp), x = .ptr c 0 ∧ c < n ∧ H.get c = some (.cells (rch sz L) true) ∧ Fine L ∧ (L.length < 2 → κ (.tup [.nil, .int .i64 5]) H n) ∧
      (2 ≤ L.length → κ (.tup [.ptr n 0, .int .i64 0]) ((H.set (some (.cells (rch sz (L.drop (splK L))) true)) depthH n).set (some (.cells (rch sz (L.take (splK L))) true)) depthH c) (n + 1))
  | _ => False
theorem n_rsplit : NatP 22 natRSplit := fun args H n κ hs φ h0' hp vs K hr hargs hk => by
  unfold natRSplit at hs
  split at hs
  · obtain ⟨x, rfl, e1⟩ := vs1 hargs
    obtain ⟨c, sz, L, rfl, hcn, hc, hF, ha, hb⟩ := hs
    rcases Nat.lt_or_ge L.length 2 with h2 | h2
    · refine framed (S := [c]) (O := [.cells (rch sz L) true]) (args0 := [.ptr 0 0]) (NatP.post (callT_nat KRs_ok 4 _)) (by kernel_rfl) hr
        (hands1 hcn hc (.inr rfl)) (.cons e1 .nil) hk (rsplit_run0 sz L h2) fun u H' n' ⟨g1, g2⟩ => ?_
      subst g1
      exact ⟨1, H, Nat.le_refl _, rsame hc g2, rfl, ha h2⟩
    · refine framed (S := [c]) (O := [.cells (rch sz L) true]) (args0 := [.ptr 0 0]) (NatP.postZ (callT_nat KRs_ok 4 _)) (by kernel_rfl) hr
        (hands1 hcn hc (.inr rfl)) (.cons e1 .nil) hk (rsplit_run1 sz L hF h2) fun u H' n' ⟨g1, g2, g3⟩ => ?_
      subst g1
      refine ⟨2, putH [c] n H [(0, some (.cells (rch sz (L.take (splK L))) true)), (1, some (.cells (rch sz (L.drop (splK L))) true))], Nat.le_succ 1, After.put (Nat.le_succ 1) rfl (fun x hx o ho => ?_), rfl, hb h2⟩
      simp only [List.mem_cons, List.not_mem_nil, or_false] at hx
      rcases hx with rfl | rfl
      · injection ho with ho; subst ho; exact ⟨g2, rfl, rfl⟩
      · injection ho with ho; subst ho; exact ⟨g3, rfl, rfl⟩
  · exact hs.elim
end Go.Proofs.Ytpfflibkkjjlaaa
namespace Go.Proofs.Ytpfflibkkjjlaaa
open Go Go.RowKit
set_option maxRecDepth 20000
/-! ### one of two -/
def RcQ2 (e : Int) (s1 s2 : Nat) (L M : Smp) : PK := fun u H' _ => u = .si .i64 e ∧ PM.get H' 0 = some (.cells (rch s1 L) true) ∧ PM.get H' 1 = some (.cells (rch s2 M) true)
def d_rjoin : DT := [(5, [(some 0, [5]), (none, [55]), (some 1, [0]), (some 2, [57]), (some 3, [58]), (some 4, [59]), (some 5, [60]), (some 0, [56, 61])])]
noncomputable def KRj : FuncId → EP := withD 38 d_rjoin (withS 35 natRt evP)
theorem KRj_ok : TabP KRj := withD_ok (withS_ok evP_ok n_rbits singRt) (by kernel_rfl) (by kernel_rfl)
set_option maxHeartbeats 8000000 in
set_option maxRecDepth 100000 in
theorem rjoin_run (s1 s2 : Nat) (L M : Smp) (h1 : 0 < s1) (h1' : s1 ≤ 4096) (hF : Fine L) (hG : Fine M) : postZ (callT KRj 4 38) [.ptr 0 0, .ptr 1 0] (mkH [(0, .cells (rch s1 L) true), (1, .cells (rch s2 M) true)]) 2 (RcQ2 (joinF s1 L M).2 s1 s2 (joinF s1 L M).1.1 (joinF s1 L M).1.2) := by
  have same : ∀ {u : AV} {H' : AH} {n' : Nat} {e : Int}, joinF s1 L M = ((L, M), e) → mk u = .si .i64 e → PM.get H' 0 = some (.cells (rch s1 L) true) → PM.get H' 1 = some (.cells (rch s2 M) true) → ∃ v2 H2 n2, FzTo u H' n' v2 H2 n2 ∧ RcQ2 (joinF s1 L M).2 s1 s2 (joinF s1 L M).1.1 (joinF s1 L M).1.2 v2 H2 n2 := fun hj hu g1 g2 => by
    rw [hj]; exact ⟨_, _, _, .of (VTo.si hu) (.refl _ _), rfl, g1, g2⟩
  have leaf : ∀ {u : AV} {H' : AH} {n' b m : Nat} {A : Smp} {a0 c0 : AV} {l : List AV} {z : Bool}, joinF s1 L M = ((A, []), 0) → mk u = .si .i64 0 → PM.get H' 0 = some (.cells [a0, .rw b 0 m 2 0] true) → mk a0 = .si .i64 (s1 : Int) → PM.get H' b = some (.cells l z) → b + 1 < 2 ^ 40 → 1 < b → m = A.length → l.map mk = smp A → PM.get H' 1 = some (.cells [c0, .nsl] true) → mk c0 = .si .i64 (s2 : Int) →
      ∃ v2 H2 n2, FzTo u H' n' v2 H2 n2 ∧ RcQ2 (joinF s1 L M).2 s1 s2 (joinF s1 L M).1.1 (joinF s1 L M).1.2 v2 H2 n2 := fun hj hu g1 g2 g3 g4 g5 g6 g7 g8 g9 => by
    rw [hj]
    refine ⟨_, _, _, (FzTo.of (.refl _) (Recast.rcell (sz := s2) (M := []) g8 g9 (fun φ v h => h.toFr))).trans (FzTo.cell (c := 0) (VTo.si hu) (PM.get_set_ne _ _ _ _ (by decide) (by decide) g1) g2 (PM.get_set_ne _ _ _ _ (by decide) (by omega) g3) g4 (by omega) g6 g7 (by decide)), rfl, PM.get_set0, ?_⟩
    exact PM.get_set_ne _ _ _ _ (by decide) (by decide) (PM.get_set_ne _ _ _ _ g4 (by omega) get_set_11)
  have hLl := hF.2.2
  have hMl := hG.2.2
  have hone : ∀ X : Smp, (smp X).all one1 = true := fun X => by
    rw [List.all_eq_true]
    intro y hy
    have := List.all_eq_true.1 (smp_flat X) y hy
    cases y <;> first | rfl | cases this
  have hw8 : IntKind.i64.wrap (8 * (s1 : Int)) = ((8 * s1 : Nat) : Int) := W64_of ⟨by omega, by omega⟩
  have hb1 : (0 + L.length) * 16 ≤ 140737488355328 := by omega
  have hb2 : (0 + L.length + M.length) * 16 ≤ 140737488355328 := by omega
  have hrL : subL ([] ++ smp L) 0 ((0 + L.length) * 2) = some (smp L) := by rw [Nat.zero_add]; exact smp_whole L
  have hlen : 0 + L.length + M.length = (L ++ M).length := by rw [List.length_append, Nat.zero_add]
  have hsub : subL (smp L ++ smp M) 0 ((L ++ M).length * 2) = some (smp (L ++ M)) := by rw [← smp_app]; exact smp_whole _
  have hmap : (smp L ++ smp M).map mk = smp (L ++ M) := by rw [← smp_app, smp_map]
  have hl1 : (L ++ M).length ≤ 100000 := by rw [List.length_append]; omega
  show callT KRj 4 38 _ _ _ _
  conv => whnf
  refine Fork.dec (fun hl0 => ?_) (fun hl0 => ?_)
  · conv => whnf
    refine Fork.dec (fun hm0 => ?_) (fun hm0 => ?_)
    · have hl1' : 0 < L.length := by exact Int.ofNat_lt.1 hl0
      have hm1' : 0 < M.length := by exact Int.ofNat_lt.1 hm0
      have hlp : L.length - 1 < L.length := by omega
      have hlw : IntKind.i64.wrap ((L.length : Int) - 1) = ((L.length - 1 : Nat) : Int) := (W64_of ⟨by omega, by omega⟩).trans (by omega)
      have hd : decide (M[0].1 ≤ L[L.length - 1].1) = meetF L M := by
        unfold meetF lastT
        have a1 : decide (L ≠ []) = true := by rw [decide_eq_true_eq]; intro q; rw [q] at hl1'; cases hl1'
        have a2 : decide (M ≠ []) = true := by rw [decide_eq_true_eq]; intro q; rw [q] at hm1'; cases hm1'
        rw [tAt_of hm1', tAt_of hlp, a1, a2]; rfl
      conv => whnf
      refine Idx.mk 0 rfl hm1' ?_
      conv => whnf
      refine optP_of (smp_nth0 hm1' rfl) ?_
      conv => whnf
      refine Idx.mk (L.length - 1) hlw hlp ?_
      conv => whnf
      refine optP_of (smp_nth0 hlp rfl) ?_
      conv => whnf
      refine Fork.dec (fun hmt => ?_) (fun hmt => ?_)
      · have e : joinF s1 L M = ((L, M), 1) := by unfold joinF; rw [if_pos (hd ▸ decide_eq_true hmt)]
        conv => whnf
        exact same e rfl rfl rfl
      · have hnm : ¬ meetF L M = true := by rw [← hd, decide_eq_true_eq]; exact hmt
        have hj0 : joinF s1 L M = if (encB (L ++ M)).length ≤ 8 * s1 then ((L ++ M, []), 0) else ((L, M), 2) := by unfold joinF; rw [if_neg hnm]
        conv => whnf
        refine RApp.grow 2 16 _ _ _ _ _ _ tyS .fr (smp_length L) (hone L) (.sl rfl rfl (Nat.le_refl _) (Nat.le_refl _)) hb1 ?_
        conv => whnf
        refine RApp.grow 2 16 _ _ _ _ _ _ tyS .fr (smp_length M) (hone M) (.rw rfl hrL) hb2 ?_
        conv => whnf
        refine ⟨L ++ M, .inl (.inr (.inl (.inl ⟨_, 0, 0, _, _, ⟨congrArg (fun k => AV.rw _ 0 k 2 0) hlen, by decide⟩, .inr ⟨_, rfl⟩, hsub, smp_map _⟩))), hl1, ?_⟩
        conv => whnf
        refine Fork.dec (fun h3 => ?_) (fun h3 => ?_)
        · have e : joinF s1 L M = ((L, M), 2) := by rw [hj0, if_neg (by rw [hw8] at h3; omega)]
          conv => whnf
          exact same e rfl rfl rfl
        · have e : joinF s1 L M = ((L ++ M, []), 0) := by rw [hj0, if_pos (by rw [hw8] at h3; omega)]
          conv => whnf
          exact leaf e rfl rfl rfl rfl (by decide) (by decide) hlen hmap rfl rfl
    · have hMn : M = [] := List.eq_nil_of_length_eq_zero (by have : ¬ (0 < M.length) := fun q => hm0 (by exact Int.ofNat_lt.2 q); omega)
      have hnm : ¬ meetF L M = true := by simp [meetF, hMn]
      have hj0 : joinF s1 L M = if (encB (L ++ M)).length ≤ 8 * s1 then ((L ++ M, []), 0) else ((L, M), 2) := by unfold joinF; rw [if_neg hnm]
      conv => whnf
      refine RApp.grow 2 16 _ _ _ _ _ _ tyS .fr (smp_length L) (hone L) (.sl rfl rfl (Nat.le_refl _) (Nat.le_refl _)) hb1 ?_
      conv => whnf
      refine RApp.grow 2 16 _ _ _ _ _ _ tyS .fr (smp_length M) (hone M) (.rw rfl hrL) hb2 ?_
      conv => whnf
      refine ⟨L ++ M, .inl (.inr (.inl (.inl ⟨_, 0, 0, _, _, ⟨congrArg (fun k => AV.rw _ 0 k 2 0) hlen, by decide⟩, .inr ⟨_, rfl⟩, hsub, smp_map _⟩))), hl1, ?_⟩
      conv => whnf
      refine Fork.dec (fun h3 => ?_) (fun h3 => ?_)
      · have e : joinF s1 L M = ((L, M), 2) := by rw [hj0, if_neg (by rw [hw8] at h3; omega)]
        conv => whnf
        exact same e rfl rfl rfl
      · have e : joinF s1 L M = ((L ++ M, []), 0) := by rw [hj0, if_pos (by rw [hw8] at h3; omega)]
        conv => whnf
        exact leaf e rfl rfl rfl rfl (by decide) (by decide) hlen hmap rfl rfl
  · have hLn : L = [] := List.eq_nil_of_length_eq_zero (by have : ¬ (0 < L.length) := fun q => hl0 (by exact Int.ofNat_lt.2 q); omega)
    have hnm : ¬ meetF L M = true := by simp [meetF, hLn]
    have hj0 : joinF s1 L M = if (encB (L ++ M)).length ≤ 8 * s1 then ((L ++ M, []), 0) else ((L, M), 2) := by unfold joinF; rw [if_neg hnm]
    conv => whnf
    refine RApp.grow 2 16 _ _ _ _ _ _ tyS .fr (smp_length L) (hone L) (.sl rfl rfl (Nat.le_refl _) (Nat.le_refl _)) hb1 ?_
    conv => whnf
    refine RApp.grow 2 16 _ _ _ _ _ _ tyS .fr (smp_length M) (hone M) (.rw rfl hrL) hb2 ?_
    conv => whnf
    refine ⟨L ++ M, .inl (.inr (.inl (.inl ⟨_, 0, 0, _, _, ⟨congrArg (fun k => AV.rw _ 0 k 2 0) hlen, by decide⟩, .inr ⟨_, rfl⟩, hsub, smp_map _⟩))), hl1, ?_⟩
    conv => whnf
    refine Fork.dec (fun h3 => ?_) (fun h3 => ?_)
    · have e : joinF s1 L M = ((L, M), 2) := by rw [hj0, if_neg (by rw [hw8] at h3; omega)]
      conv => whnf
      exact same e rfl rfl rfl
    · have e : joinF s1 L M = ((L ++ M, []), 0) := by rw [hj0, if_pos (by rw [hw8] at h3; omega)]
      conv => whnf
      exact leaf e rfl rfl rfl rfl (by decide) (by decide) hlen hmap rfl rfl
def natRJoin (args : List AV) (H : AH) (n : Nat) (κ : PK) : Prop := match args with
  | [x, y] => ∃ (b c s1 s2 : Nat) (L M : Smp), x = .ptr b 0 ∧ y = .ptr c 0 ∧ b ≠ c ∧ b < n ∧ c < n ∧ H.get b = some (.cells (rch s1 L) true) ∧ H.get c = some (.cells (rch s2 M) true) ∧ 0 < s1 ∧ s1 ≤ 4096 ∧ Fine L ∧ Fine M ∧
      κ (.si .i64 (joinF s1 L M).2) ((H.set (some (.cells (rch s2 (joinF s1 L M).1.2) true)) depthH c).set (some (.cells (rch s1 (joinF s1 L M).1.1) true)) depthH b) n
  | _ => False
theorem n_rjoin : NatP 38 natRJoin := fun args H n κ hs φ h0' hp vs K hr hargs hk => by
  unfold natRJoin at hs
  split at hs
  · obtain ⟨x, y, rfl, e1, e2⟩ := vs2 hargs
    obtain ⟨b, c, s1, s2, L, M, rfl, rfl, hbc, hbn, hcn, hb, hc, h1, h1', hF, hG, hs⟩ := hs
    refine framed (S := [b, c]) (O := [.cells (rch s1 L) true, .cells (rch s2 M) true]) (args0 := [.ptr 0 0, .ptr 1 0]) (NatP.postZ (callT_nat KRj_ok 4 _)) (by kernel_rfl) hr
      (hands2 hbc hbn hcn hb hc (.inr rfl) (.inr rfl)) (.cons e1 (.cons e2 .nil)) hk (rjoin_run s1 s2 L M h1 h1' hF hG) fun u H' n' ⟨g1, g2, g3⟩ => ?_
    subst g1
    refine ⟨2, putH [b, c] n H [(0, some (.cells (rch s1 (joinF s1 L M).1.1) true)), (1, some (.cells (rch s2 (joinF s1 L M).1.2) true))], Nat.le_refl _, After.put (Nat.le_refl _) rfl (fun x hx o ho => ?_), rfl, hs⟩
    simp only [List.mem_cons, List.not_mem_nil, or_false] at hx
    rcases hx with rfl | rfl
    · injection ho with ho; subst ho; exact ⟨g2, rfl, rfl⟩
    · injection ho with ho; subst ho; exact ⟨g3, rfl, rfl⟩
  · exact hs.elim
/-! ### what a chunk tells of itself -/
def natCk (f : Nat → Smp → AV) (args : List AV) (H : AH) (n : Nat) (κ : PK) : Prop := match args with
  | [x] => ∃ (b size : Nat) (l : List AV) (L : Smp), x = .ptr b 0 ∧ H.get b = some (.cells l true) ∧ l.map mk = chk size L ∧ κ (f size L) H n
  | _ => False
theorem singCk (f : Nat → Smp → AV) : SingG (natCk f) := .pure fun args H n κ hs => by
  unfold natCk at *
  split at hs
  · obtain ⟨b, size, l, L, h1, h2, h3, h4⟩ := hs
    exact ⟨_, h4, fun κ' h => ⟨b, size, l, L, h1, h2, h3, h⟩⟩
  · exact hs.elim
theorem natCk_of {f : FuncId} {g : Nat → Smp → AV} (hic : isCall Try.prog f = true) (hg : ∀ size L, flat.flat1 (g size L) = true) (hrun : ∀ size L, callT evP 3 f [.ptr 0 0] (mkH [(0, .ro (chk size L))]) 1 fun u _ _ => mkT u = mkT (g size L)) (hm : ∀ size L, mkT (g size L) = g size L) : NatP f (natCk g) := fun args H n κ hs φ h0' hp vs K hr hargs hk => by
  unfold natCk at hs
  split at hs
  · obtain ⟨x, rfl, e1⟩ := vs1 hargs
    obtain ⟨b, size, l, L, rfl, hb, hl, hs⟩ := hs
    obtain ⟨p, hpb, rfl⟩ := e1.ptr_inv
    have hl4 : l.length = 4 := by have := congrArg List.length hl; simpa [chk] using this
    have hro := RoAt.of (s := chk size L) hr (.inr ⟨_, hb⟩) hpb (subL_all (n := 4) hl4) (by rw [hl, chk_map]) (chk_flat size L)
    exact smallN evP_ok (v := g size L) (flat_of1 (hg size L)) (hrun size L) (by rw [hm]; exact hs) hr hk hic (φ0 := ph1 ⟨p.B, p.s + 0, 4⟩) (fun hw => HR.ro1 hw hro) (.cons (.ptr (p := ⟨p.B, p.s + 0, 4⟩) (o := 0) rfl) .nil)
  · exact hs.elim
def lenC (_ : Nat) (L : Smp) : AV := .si .i64 (L.length : Int)
def usedC (_ : Nat) (L : Smp) : AV := .si .i64 ((pack (encB L)).length : Int)
def sizeC (size : Nat) (_ : Smp) : AV := .si .i64 (size : Int)
theorem n_len : NatP 15 (natCk lenC) := natCk_of (by kernel_rfl) (fun _ _ => rfl) (fun size L => by
  conv => whnf
  rfl) fun _ _ => rfl
theorem n_used : NatP 16 (natCk usedC) := natCk_of (by kernel_rfl) (fun _ _ => rfl) (fun size L => by
  conv => whnf
  rfl) fun _ _ => rfl
theorem n_size : NatP 17 (natCk sizeC) := natCk_of (by kernel_rfl) (fun _ _ => rfl) (fun size L => by
  conv => whnf
  rfl) fun _ _ => rfl
theorem singSF : SingG natSF := .pure fun args H n κ hs => by
  unfold natSF at *
  split at hs
  · obtain ⟨V, W, h1, h2, h3, h4⟩ := hs
    exact ⟨_, h4, fun κ' h => ⟨V, W, h1, h2, h3, h⟩⟩
  · exact hs.elim
end Go.Proofs.Ytpfflibkkjjlaaa
namespace Go.Proofs.Ytpfflibkkjjlaaa
open Go Go.RowKit
set_option maxRecDepth 20000
/-! ### how many bits samples have -/
noncomputable def KDb : FuncId → EP := withN 41 natEnc evP
theorem KDb_ok : TabP KDb := withN_ok evP_ok n_enc
set_option maxHeartbeats 4000000 in
set_option maxRecDepth 100000 in
theorem dbits_run (L : Smp) (hL : L.length ≤ 100000) (h64 : ∀ x ∈ L, In64 x.1 ∧ In64 x.2) (h0 : L.length ≠ 0) : callT KDb 3 34 [.fr L.length 2 (smp L)] .nil 0 fun u _ _ => mkT u = mkT (.si .i64 ((encB L).length : Int)) := by
  conv => whnf
  refine ⟨L, .inr (.inl (.inr ⟨_, rfl, smp_map _, h0⟩)), hL, h64, ?_⟩
  conv => whnf
  rfl
def natDb (args : List AV) (H : AH) (n : Nat) (κ : PK) : Prop := match args with
  | [x] => ∃ L : Smp, x = .fr L.length 2 (smp L) ∧ L.length ≤ 100000 ∧ (∀ x ∈ L, In64 x.1 ∧ In64 x.2) ∧ L.length ≠ 0 ∧ κ (.si .i64 ((encB L).length : Int)) H n
  | _ => False
theorem n_dbits : NatP 34 natDb := fun args H n κ hs φ h0' hp vs K hr hargs hk => by
  unfold natDb at hs
  split at hs
  · obtain ⟨x, rfl, e1⟩ := vs1 hargs
    obtain ⟨L, rfl, hL, h64, h0, hs⟩ := hs
    exact smallN KDb_ok (v := .si .i64 ((encB L).length : Int)) rfl (dbits_run L hL h64 h0) hs hr hk (by kernel_rfl) (φ0 := ⟨fun _ => none, φ.z, φ.z⟩) (fun hw => hr.withz (start_none hw) (fun _ _ h => by cases h) (fun _ h => h)) (.cons (stab_VR (ψ := ⟨fun _ => none, φ.z, φ.z⟩) (fun _ h => h) rfl e1) .nil)
  · exact hs.elim
theorem singDb : SingG natDb := .pure fun args H n κ hs => by
  unfold natDb at *
  split at hs
  · obtain ⟨L, h1, h2, h3, h4, h5⟩ := hs
    exact ⟨_, h5, fun κ' h => ⟨L, h1, h2, h3, h4, h⟩⟩
  · exact hs.elim
/-! ### two of one -/
def SpQ (sz : Nat) (L : Smp) (k : Nat) : PK := fun u H' _ => u = .tup [.ptr 1 0, .int .i64 0] ∧ PM.get H' 0 = some (.cells (chk sz (L.take k)) true) ∧ PM.get H' 1 = some (.cells (chk sz (L.drop k)) true)
noncomputable def spt (sz : Nat) (L : Smp) (k : Nat) : AE × AH := (mkE [(0, .ptr 0 (0)), (4, .fr L.length 2 (smp L)), (5, .si .i64 (((k : Nat) : Int)))], mkH [(0, .cells (chk sz L) true)])
theorem spt_cov {sz : Nat} {L : Smp} {k : Nat} {p n : Nat} {σ : AE} {H : AH} (hp : p ≤ 1) (e0 : getq (pa 0) σ = .ptr 0 (0)) (e4 : getq (pa 4) σ = .fr L.length 2 (smp L)) (e5 : mk (getq (pa 5) σ) = .si .i64 (((k : Nat) : Int))) (h0 : ∃ l, H.get 0 = some (.cells l true) ∧ SubL H 1 (fun b => b) l (chk sz L)) : Cov p σ H n ((spt sz L k).1, (spt sz L k).2, 1) := by
  refine Cov.ofR (fun b => b) (by omega) (fun b hb => rfl) ?_ ?_ ?_
  · intro x hx
    simp only [List.mem_cons, List.not_mem_nil, or_false] at hx
    rcases hx with rfl | rfl | rfl
    · exact .ptr (by decide) e0
    · exact SubV.frE e4
    · exact .int e5
  · intro x hx
    simp only [List.mem_cons, List.not_mem_nil, or_false] at hx
    subst hx
    exact ⟨by simp, .inl (h0.elim fun l h => ⟨_, h.1, SubO.st h.2⟩)⟩
  · intro x hx y hy
    simp only [List.mem_cons, List.not_mem_nil, or_false] at hx hy
    subst hx hy
    exact fun q => rfl
def d_split : DT := [(7, [(some 0, [5]), (some 0, [4]), (some 0, [20]), (some 0, [21]), (some 0, [19, 22]), (some 0, [23]), (some 0, [4, 24]), (some 0, [5, 24]), (some 0, [25, 26, 24]), (none, [27, 24]), (some 0, [28, 24]), (some 2, [0, 24]), (some 3, [30, 24]), (some 4, [31, 24]), (some 5, [32, 24]), (some 0, [29, 33, 24]), (some 0, [24, 34])])]
noncomputable def KSp : FuncId → EP := withD 21 d_split (withS 34 natDb (withN 11 natAll (withN 41 natEnc evP)))
theorem KSp_ok : TabP KSp := withD_ok (withS_ok (withN_ok (withN_ok evP_ok n_enc) n_all) n_dbits singDb) (by kernel_rfl) (by kernel_rfl)
theorem chk_st {sz : Nat} {L : Smp} : ∀ {H : AH} {m : Nat} {r : Nat → Nat}, SubL H m r (chk sz L) (chk sz L) := .cons (.int rfl) (.cons (.str rfl) (.cons (.int rfl) (.cons (.int rfl) .nil)))
set_option maxHeartbeats 4000000 in
set_option maxRecDepth 100000 in
theorem split_run0 (sz : Nat) (L : Smp) (hsz : 0 < sz) (h2 : L.length < 2) : post (callT KSp 4 21) [.ptr 0 0] (mkH [(0, .cells (chk sz L) true)]) 1 (fun u H' _ => u = .tup [.nil, .int .i64 5] ∧ PM.get H' 0 = some (.cells (chk sz L) true)) := by
  have hz : (0 : Int) < (sz : Int) := by omega
  show callT KSp 4 21 _ _ _ _
  conv => whnf
  refine Fork.ndec (fun h => absurd hz h) (fun _ => ?_)
  conv => whnf
  refine Fork.dec (fun _ => ?_) (fun q => absurd (show (L.length : Int) < 2 by omega) q)
  conv => whnf
  exact ⟨_, _, _, .refl _, .refl _ _, rfl, rfl⟩
set_option maxHeartbeats 8000000 in
set_option maxRecDepth 100000 in
theorem split_run1 (sz : Nat) (L : Smp) (hsz : 0 < sz) (hF : Fine L) (h2 : 2 ≤ L.length) : post (callT KSp 4 21) [.ptr 0 0] (mkH [(0, .cells (chk sz L) true)]) 1 (SpQ sz L (splK L)) := by
  have hz : (0 : Int) < (sz : Int) := by omega
  have hL := hF.2.2
  have h64 := hF.in64
  have hL1 : L.length ≤ 100000 := by omega
  have leaf : ∀ {H' : AH} {n' k : Nat} {l m : List AV}, k = splK L → PM.get H' 0 = some (.cells l true) → l.map mk = chk sz (L.take k) → PM.get H' 1 = some (.cells m true) → m.map mk = chk sz (L.drop k) → ∃ v2 H2 n2, VTo (.tup [.ptr 1 0, .int .i64 0]) v2 ∧ Recast H' n' H2 n2 ∧ SpQ sz L (splK L) v2 H2 n2 := fun hk g1 g2 g3 g4 => by
    rw [← hk]
    exact ⟨_, _, _, .refl _, (Recast.remk (l' := chk sz (L.drop _)) g3 rfl g4).trans (Recast.remk (l' := chk sz (L.take _)) (get_set_10.trans g1) rfl g2), rfl, PM.get_set0, get_set_01.trans get_set_11⟩
  have hlw : IntKind.i64.wrap ((L.length : Int) - 1) = ((L.length - 1 : Nat) : Int) := (W64_of ⟨by omega, by omega⟩).trans (by omega)
  show callT KSp 4 21 _ _ _ _
  conv => whnf
  refine Fork.ndec (fun h => absurd hz h) (fun _ => ?_)
  conv => whnf
  refine Fork.dec (fun q => absurd q (by omega)) (fun _ => ?_)
  conv => whnf
  refine ⟨0, sz, _, L, rfl, rfl, rfl, hsz, hL1, h64, ?_⟩
  conv => whnf
  refine LoopP.mk { k : Nat // 1 ≤ k ∧ k ≤ L.length - 1 ∧ splG L (L.length - k) k = splK L } 1 (fun k => spt sz L k.val) (fun k => L.length - k.val) ⟨1, Nat.le_refl _, by omega, rfl⟩ ?_ ?_
  · exact spt_cov (Nat.le_refl 1) rfl rfl rfl ⟨_, rfl, chk_st⟩
  · intro ⟨k, hk1, hk2, hk3⟩
    have hkl : k ≤ L.length := by omega
    have hFt := hF.sub (List.take_sublist k L)
    have hFd := hF.sub (List.drop_sublist k L)
    have hit : (L.take k).length ≤ 100000 := by rw [List.length_take]; omega
    have hid : (L.drop k).length ≤ 100000 := by rw [List.length_drop]; omega
    have hnt : (L.take k).length ≠ 0 := by rw [List.length_take]; omega
    have hnd : (L.drop k).length ≠ 0 := by rw [List.length_drop]; omega
    have hlt := encB_len (L.take k)
    have hlt2 : (encB (L.take k)).length ≤ 13600000 := by omega
    have hk : IntKind.i64.wrap ((k : Int) + 1) = ((k + 1 : Nat) : Int) := W64_of ⟨by omega, by omega⟩
    have h2w : IntKind.i64.wrap (2 * ((encB (L.take k)).length : Int)) = ((2 * (encB (L.take k)).length : Nat) : Int) := (W64_of ⟨by omega, by omega⟩).trans (by omega)
    have hqt : [AV.si .i64 (sz : Int), .ss (pack (encB (L.take k))), .si .i64 ((encB (L.take k)).length : Int), .si .i64 (k : Int)].map mk = chk sz (L.take k) := by unfold chk; rw [List.length_take, Nat.min_eq_left hkl]; rfl
    have hqd : [AV.si .i64 (sz : Int), .ss (pack (encB (L.drop k))), .si .i64 ((encB (L.drop k)).length : Int), .si .i64 ((L.length - k : Nat) : Int)].map mk = chk sz (L.drop k) := by unfold chk; rw [List.length_drop]; rfl
    conv => whnf
    refine Fork.dec (fun h => ?_) (fun h => ?_)
    · have hc1 : k < L.length - 1 := by rw [hlw] at h; exact Int.ofNat_lt.1 h
      conv => whnf
      refine RSl.mk 0 k rfl rfl (.inl rfl) (Nat.zero_le _) hkl ?_
      conv => whnf
      refine ⟨L.take k, take_fr L hkl, hit, hFt.in64, hnt, ?_⟩
      conv => whnf
      refine Fork.dec (fun h3 => ?_) (fun h3 => ?_)
      · have hcut : cutC L k = true := by rw [h2w] at h3; unfold cutC; rw [decide_eq_true hc1, Bool.true_and]; exact decide_eq_true (Int.ofNat_lt.1 h3)
        conv => whnf
        exact ⟨⟨k + 1, by omega, by omega, (splG_go hcut).symm.trans hk3⟩, (show L.length - (k + 1) < L.length - k by omega), spt_cov (Nat.le_refl 1) rfl rfl (congrArg (AV.si .i64) hk) ⟨_, rfl, chk_st⟩⟩
      · have hsk : k = splK L := by rw [← hk3, splG_stop (by rw [h2w] at h3; unfold cutC; rw [decide_eq_true hc1, Bool.true_and]; exact decide_eq_false (fun q => h3 (Int.ofNat_lt.2 q)))]
        conv => whnf
        refine RSl.mk k _ rfl rfl (.inl rfl) hkl (Nat.le_refl _) ?_
        conv => whnf
        refine ⟨L.drop k, .inr (.inl (.inr ⟨_, drop_fr L k, smp_map _, hnd⟩)), hid, hFd.in64, ?_⟩
        conv => whnf
        refine RSl.mk 0 k rfl rfl (.inl rfl) (Nat.zero_le _) hkl ?_
        conv => whnf
        refine ⟨L.take k, .inr (.inl (.inr ⟨_, take_fr L hkl, smp_map _, hnt⟩)), hit, hFt.in64, ?_⟩
        conv => whnf
        exact leaf hsk rfl hqt rfl hqd
    · have hsk : k = splK L := by rw [← hk3, splG_stop (by rw [hlw] at h; unfold cutC; rw [decide_eq_false (fun q => h (Int.ofNat_lt.2 q))]; rfl)]
      conv => whnf
      refine RSl.mk k _ rfl rfl (.inl rfl) hkl (Nat.le_refl _) ?_
      conv => whnf
      refine ⟨L.drop k, .inr (.inl (.inr ⟨_, drop_fr L k, smp_map _, hnd⟩)), hid, hFd.in64, ?_⟩
      conv => whnf
      refine RSl.mk 0 k rfl rfl (.inl rfl) (Nat.zero_le _) hkl ?_
      conv => whnf
      refine ⟨L.take k, .inr (.inl (.inr ⟨_, take_fr L hkl, smp_map _, hnt⟩)), hit, hFt.in64, ?_⟩
      conv => whnf
      exact leaf hsk rfl hqt rfl hqd
/-- Two of one. -/
def natSplit (args : List AV) (H : AH) (n : Nat) (κ : PK) : Prop := match args with
  | [x] => ∃ (c sz : Nat) (L : Smp), x = .ptr c 0 ∧ c < n ∧ H.get c = some (.cells (chk sz L) true) ∧ 0 < sz ∧ Fine L ∧ (L.length < 2 → κ (.tup [.nil, .int .i64 5]) H n) ∧
      (2 ≤ L.length → κ (.tup [.ptr n 0, .int .i64 0]) ((H.set (some (.cells (chk sz (L.drop (splK L))) true)) depthH n).set (some (.cells (chk sz (L.take (splK L))) true)) depthH c) (n + 1))
  | _ => False
theorem csame {c n : Nat} {H H' : AH} {sz : Nat} {L : Smp} (hc : H.get c = some (.cells (chk sz L) true)) (h2 : PM.get H' 0 = some (.cells (chk sz L) true)) : After [c] n ([c] : List Nat).length H H' H := After.same fun i s o h3 h4 _ => by
  cases i with
  | zero =>
    injection h3 with h3; subst h3
    rw [hc] at h4; injection h4 with h4; subst h4
    exact ⟨_, h2, rfl, rfl, rfl⟩
  | succ i => simp at h3
theorem n_split : NatP 21 natSplit := fun args H n κ hs φ h0' hp vs K hr hargs hk => by
  unfold natSplit at hs
  split at hs
  · obtain ⟨x, rfl, e1⟩ := vs1 hargs
    obtain ⟨c, sz, L, rfl, hcn, hc, hsz, hF, ha, hb⟩ := hs
    rcases Nat.lt_or_ge L.length 2 with h2 | h2
    · refine framed (S := [c]) (O := [.cells (chk sz L) true]) (args0 := [.ptr 0 0]) (NatP.post (callT_nat KSp_ok 4 _)) (by kernel_rfl) hr
        (hands1 hcn hc (.inr rfl)) (.cons e1 .nil) hk (split_run0 sz L hsz h2) fun u H' n' ⟨g1, g2⟩ => ?_
      subst g1
      exact ⟨1, H, Nat.le_refl _, csame hc g2, rfl, ha h2⟩
    · refine framed (S := [c]) (O := [.cells (chk sz L) true]) (args0 := [.ptr 0 0]) (NatP.post (callT_nat KSp_ok 4 _)) (by kernel_rfl) hr
        (hands1 hcn hc (.inr rfl)) (.cons e1 .nil) hk (split_run1 sz L hsz hF h2) fun u H' n' ⟨g1, g2, g3⟩ => ?_
      subst g1
      refine ⟨2, putH [c] n H [(0, some (.cells (chk sz (L.take (splK L))) true)), (1, some (.cells (chk sz (L.drop (splK L))) true))], Nat.le_succ 1, After.put (Nat.le_succ 1) rfl (fun x hx o ho => ?_), rfl, hb h2⟩
      simp only [List.mem_cons, List.not_mem_nil, or_false] at hx
      rcases hx with rfl | rfl
      · injection ho with ho; subst ho; exact ⟨g2, rfl, rfl⟩
      · injection ho with ho; subst ho; exact ⟨g3, rfl, rfl⟩
  · exact hs.elim
end Go.Proofs.Ytpfflibkkjjlaaa
namespace Go.Proofs.Ytpfflibkkjjlaaa
open Go Go.RowKit
set_option maxRecDepth 20000
def d_csame : DT := [(6, [(some 0, [0]), (none, [75]), (some 1, [1]), (some 2, [77]), (some 3, [78]), (some 4, [79]), (none, [76, 80]), (some 0, [81]), (some 0, [0, 82]), (none, [83, 82]), (some 1, [9, 82]), (some 0, [84, 85, 82]), (some 0, [82, 86]), (some 0, [87]), (some 0, [0, 88]), (none, [89, 88]), (some 1, [1, 88]), (none, [91, 88]), (some 0, [90, 92, 88]), (some 0, [88, 93]), (some 0, [94]), (some 0, [0, 95]), (none, [96, 95]), (some 1, [1, 95]), (some 2, [98, 95]), (some 3, [99, 95]), (some 4, [100, 95]), (some 0, [97, 101, 95]), (some 0, [95, 102]), (some 0, [103])])]
/-! ### the first and the last sample -/
theorem VTo.tupAgg {a b c : AV} {x y : Int} {q : Bool} (h1 : mk a = .si .i64 x) (h2 : mk b = .si .i64 y) (h3 : mk c = .sb q) : VTo (.tup [.agg [a, b], c]) (.tup [.agg [.si .i64 x, .si .i64 y], .sb q]) := fun φ w h => by
  obtain ⟨cs, rfl, hv⟩ := h.tup_inv
  obtain ⟨v1, v2, rfl, e1, e2⟩ := vs2 hv
  obtain ⟨ds, rfl, hw⟩ := e1.agg_inv
  obtain ⟨w1, w2, rfl, f1, f2⟩ := vs2 hw
  have k1 := f1.mk; have k2 := f2.mk; have k3 := e2.mk
  rw [h1] at k1; rw [h2] at k2; rw [h3] at k3
  exact .tup (.cons (.agg (.cons k1 (.cons k2 .nil))) (.cons k3 .nil))
def FLv (i : Nat) (L : Smp) : AV := .tup [.agg [.si .i64 (tAt L i), .si .i64 (vAt L i)], .sb (decide ((0 : Int) < (L.length : Int)))]
def FLQ (i sz : Nat) (L : Smp) : PK := fun u H' _ => u = FLv i L ∧ PM.get H' 0 = some (.cells (chk sz L) true)
theorem flvLeaf {i sz n' : Nat} {L : Smp} {a b c : AV} {H' : AH} (h1 : mk a = .si .i64 (tAt L i)) (h2 : mk b = .si .i64 (vAt L i)) (h3 : mk c = .sb (decide ((0 : Int) < (L.length : Int)))) (hc : PM.get H' 0 = some (.cells (chk sz L) true)) : ∃ v H2 n2, VTo (.tup [.agg [a, b], c]) v ∧ Recast H' n' H2 n2 ∧ FLQ i sz L v H2 n2 := ⟨_, H', n', VTo.tupAgg h1 h2 h3, .refl _ _, rfl, hc⟩
noncomputable def KFL : FuncId → EP := withN 11 natAll evP
theorem KFL_ok : TabP KFL := withN_ok evP_ok n_all
set_option maxHeartbeats 4000000 in
set_option maxRecDepth 100000 in
theorem first_run (sz : Nat) (L : Smp) (hs : 0 < sz) (hF : Fine L) : post (callT KFL 4 26) [.ptr 0 0] (mkH [(0, .cells (chk sz L) true)]) 1 (FLQ (0) sz L) := by
  have hL := hF.2.2
  have h64 := hF.in64
  have hL1 : L.length ≤ 100000 := by omega
  have hnt : ∀ i, ¬ (0 : Int) < (L.length : Int) → AV.si .i64 0 = .si .i64 (tAt L i) := fun i h => by rw [List.eq_nil_of_length_eq_zero (show L.length = 0 by omega)]; rfl
  have hnv : ∀ i, ¬ (0 : Int) < (L.length : Int) → AV.si .i64 0 = .si .i64 (vAt L i) := fun i h => by rw [List.eq_nil_of_length_eq_zero (show L.length = 0 by omega)]; rfl
  show callT KFL 4 26 _ _ _ _
  conv => whnf
  refine ⟨0, sz, _, L, rfl, rfl, rfl, hs, hL1, h64, ?_⟩
  conv => whnf
  refine Fork.dec (fun h => ?_) (fun h => ?_)
  · have hz : ¬ (0 : Int) < (L.length : Int) := by omega
    have hq : AV.sb false = .sb (decide ((0 : Int) < (L.length : Int))) := by rw [decide_eq_false hz]
    conv => whnf
    exact flvLeaf (hnt _ hz) (hnv _ hz) hq rfl
  · have hz : (0 : Int) < (L.length : Int) := by omega
    have hp : 0 < L.length := by omega
    have hq : AV.sb true = .sb (decide ((0 : Int) < (L.length : Int))) := by rw [decide_eq_true hz]
    have hw : (0 : Int) = ((0 : Nat) : Int) := rfl
    have ht : AV.si .i64 L[0].1 = .si .i64 (tAt L (0)) := by rw [tAt_of hp]
    have hv : AV.si .i64 L[0].2 = .si .i64 (vAt L (0)) := by rw [vAt_of hp]
    conv => whnf
    refine Idx.mk (0) hw hp ?_
    conv => whnf
    refine optP_of (smp_sub hp rfl) ?_
    conv => whnf
    exact flvLeaf ht hv hq rfl
set_option maxHeartbeats 4000000 in
set_option maxRecDepth 100000 in
theorem last_run (sz : Nat) (L : Smp) (hs : 0 < sz) (hF : Fine L) : post (callT KFL 4 27) [.ptr 0 0] (mkH [(0, .cells (chk sz L) true)]) 1 (FLQ (L.length - 1) sz L) := by
  have hL := hF.2.2
  have h64 := hF.in64
  have hL1 : L.length ≤ 100000 := by omega
  have hnt : ∀ i, ¬ (0 : Int) < (L.length : Int) → AV.si .i64 0 = .si .i64 (tAt L i) := fun i h => by rw [List.eq_nil_of_length_eq_zero (show L.length = 0 by omega)]; rfl
  have hnv : ∀ i, ¬ (0 : Int) < (L.length : Int) → AV.si .i64 0 = .si .i64 (vAt L i) := fun i h => by rw [List.eq_nil_of_length_eq_zero (show L.length = 0 by omega)]; rfl
  show callT KFL 4 27 _ _ _ _
  conv => whnf
  refine ⟨0, sz, _, L, rfl, rfl, rfl, hs, hL1, h64, ?_⟩
  conv => whnf
  refine Fork.dec (fun h => ?_) (fun h => ?_)
  · have hz : ¬ (0 : Int) < (L.length : Int) := by omega
    have hq : AV.sb false = .sb (decide ((0 : Int) < (L.length : Int))) := by rw [decide_eq_false hz]
    conv => whnf
    exact flvLeaf (hnt _ hz) (hnv _ hz) hq rfl
  · have hz : (0 : Int) < (L.length : Int) := by omega
    have hp : L.length - 1 < L.length := by omega
    have hq : AV.sb true = .sb (decide ((0 : Int) < (L.length : Int))) := by rw [decide_eq_true hz]
    have hw : IntKind.i64.wrap ((L.length : Int) - 1) = ((L.length - 1 : Nat) : Int) := (W64_of ⟨by omega, by omega⟩).trans (by omega)
    have ht : AV.si .i64 L[L.length - 1].1 = .si .i64 (tAt L (L.length - 1)) := by rw [tAt_of hp]
    have hv : AV.si .i64 L[L.length - 1].2 = .si .i64 (vAt L (L.length - 1)) := by rw [vAt_of hp]
    conv => whnf
    refine Idx.mk (L.length - 1) hw hp ?_
    conv => whnf
    refine optP_of (smp_sub hp rfl) ?_
    conv => whnf
    exact flvLeaf ht hv hq rfl
def natFL (i : Smp → Nat) (args : List AV) (H : AH) (n : Nat) (κ : PK) : Prop := match args with
  | [x] => ∃ (c sz : Nat) (L : Smp), x = .ptr c 0 ∧ c < n ∧ H.get c = some (.cells (chk sz L) true) ∧ 0 < sz ∧ Fine L ∧ κ (FLv (i L) L) H n
  | _ => False
theorem natFL_of {f : FuncId} {i : Smp → Nat} (hic : isCall Try.prog f = true) (hrun : ∀ (sz : Nat) (L : Smp), 0 < sz → Fine L → post (callT KFL 4 f) [.ptr 0 0] (mkH [(0, .cells (chk sz L) true)]) 1 (FLQ (i L) sz L)) : NatP f (natFL i) := fun args H n κ hs φ h0' hp vs K hr hargs hk => by
  unfold natFL at hs
  split at hs
  · obtain ⟨x, rfl, e1⟩ := vs1 hargs
    obtain ⟨c, sz, L, rfl, hcn, hc, hsz, hF, hs⟩ := hs
    refine framed (S := [c]) (O := [.cells (chk sz L) true]) (args0 := [.ptr 0 0]) (NatP.post (callT_nat KFL_ok 4 _)) hic hr
      (hands1 hcn hc (.inr rfl)) (.cons e1 .nil) hk (hrun sz L hsz hF) fun u H' n' ⟨h1, h2⟩ => ?_
    subst h1
    exact ⟨1, H, Nat.le_refl _, csame hc h2, rfl, hs⟩
  · exact hs.elim
theorem n_first : NatP 26 (natFL fun _ => 0) := natFL_of (by kernel_rfl) first_run
theorem n_last : NatP 27 (natFL fun L => L.length - 1) := natFL_of (by kernel_rfl) last_run
noncomputable def KSm : FuncId → EP := withD 25 d_csame (withS 11 natAll (withS 14 natSF (withS 15 (natCk lenC) (withS 16 (natCk usedC) (withS 17 (natCk sizeC) (withS 40 natRu (withN 26 (natFL fun _ => 0) (withN 27 (natFL fun L => L.length - 1) evP))))))))
theorem KSm_ok : TabP KSm := withD_ok (withS_ok (withS_ok (withS_ok (withS_ok (withS_ok (withS_ok (withN_ok (withN_ok evP_ok n_last) n_first) n_rused singRu) n_size (singCk _)) n_used (singCk _)) n_len (singCk _)) n_same singSF) n_all singAll) (by kernel_rfl) (by kernel_rfl)
/-! ### steps of a long region, one by one -/
theorem opP_is {ops : Array Oper} {o : Oper} {call : CP} {σ : AE} {H H' : AH} {n n' : Nat} {k : KP} {j t : Nat} {w : Bool} {v : AV} (hg : o.guard = some (j, w)) (hgs : gslot ops j = some t) (hq : getq (pa t) σ = .bool w) (hs : ∀ κ : PK, κ v H' n' → stepP o.op call σ H n κ) (K : k (eput σ o.dst v) H' n') : opP ops o call σ H n k := by
  unfold opP
  rw [hg]; dsimp only
  rw [hgs]; dsimp only
  rw [hq]; dsimp only
  cases w <;> exact hs _ K
theorem stepP_is {o : Op} {call : CP} {σ : AE} {H H' : AH} {n n' : Nat} {κ : PK} {v : AV} (hs : ∀ κ : PK, κ v H' n' → stepP o call σ H n κ) (K : κ v H' n') : stepP o call σ H n κ := hs κ K
theorem opP_neqS {ops : Array Oper} {o : Oper} {call : CP} {σ : AE} {H : AH} {n : Nat} {k : KP} {ty r : TypeId} {x y : Operand} {j t : Nat} {w : Bool} {c d : AV} {a' b' c' d' : Int} (ho : o.op = .binOp .neq ty x y r) (hg : o.guard = some (j, w)) (hgs : gslot ops j = some t) (hq : getq (pa t) σ = .bool w) (hx : eev σ x = .agg [.si .i64 a', .si .i64 b']) (hy : eev σ y = .agg [c, d])
    (hc : hd c = .int .i64 c') (hd' : hd d = .int .i64 d') (hp : eqPlan Try.prog ty = some [(0, 0), (0, 1)]) (K : k (eput σ o.dst (.sb (!(decide (a' = c') && (decide (b' = d') && true))))) H n) : opP ops o call σ H n k := by
  refine opP_is hg hgs hq (fun κ h => ?_) K
  rw [ho]
  show binP .neq ty (eev σ x) (eev σ y) H _
  rw [hx, hy]
  show optP (ebin Try.prog .neq ty (.agg [.int .i64 a', .int .i64 b']) (.agg [hd c, hd d]) H) _
  rw [hc, hd']
  exact optP_of (ebin_agg2 hp) h
def SmQ (sz : Nat) (L : Smp) : PK := fun u H' _ => u = .sb true ∧ PM.get H' 0 = some (.cells (chk sz L) true) ∧ PM.get H' 1 = some (.cells (rch sz L) true)
theorem smLeaf {u : AV} {H' : AH} {n' sz : Nat} {L : Smp} (hu : mk u = .sb true) (h0 : PM.get H' 0 = some (.cells (chk sz L) true)) (h1 : PM.get H' 1 = some (.cells (rch sz L) true)) : ∃ v H2 n2, VTo u v ∧ Recast H' n' H2 n2 ∧ SmQ sz L v H2 n2 := ⟨_, H', n', (fun φ w h => by rw [← hu]; exact h.mk), .refl _ _, rfl, h0, h1⟩
set_option maxHeartbeats 16000000 in
set_option maxRecDepth 100000 in
theorem same_run (sz : Nat) (L : Smp) (hs : 0 < sz) (hF : Fine L) : post (callT KSm 5 25) [.ptr 0 0, .ptr 1 0] (mkH [(0, .cells (chk sz L) true), (1, .cells (rch sz L) true)]) 2 (SmQ sz L) := by
  have hL := hF.2.2
  have h64 := hF.in64
  have hL1 : L.length ≤ 100000 := by omega
  have hL2 : L.length ≤ 1000000 := by omega
  have hA : ¬ (!(decide ((0 : Int) < (L.length : Int)) == decide ((0 : Int) < (L.length : Int)))) = true := by simp
  have hB : ∀ a b : Int, ¬ (!(decide (a = a) && (decide (b = b) && true))) = true := fun a b => by simp
  have hend : AV.sb (decide ((sz : Int) = (sz : Int))) = .sb true := by simp
  show callT KSm 5 25 _ _ _ _
  conv => whnf
  refine ⟨0, sz, L, rfl, by decide, rfl, hs, hF, ?_⟩
  conv => whnf
  refine ⟨0, sz, L, rfl, by decide, rfl, hs, hF, ?_⟩
  conv => whnf
  refine Fork.sb (fun q => absurd q hA) (fun _ => ?_)
  conv => whnf
  refine Fork.sb (fun q => absurd q hA) (fun _ => ?_)
  conv => whnf
  refine Fork.dec (fun hn => ?_) (fun hn => ?_)
  · have hp : 0 < L.length := by exact Int.ofNat_lt.1 hn
    have hlp : L.length - 1 < L.length := by omega
    have hne : ¬ ((L.length : Int) = 0) := by omega
    have hlw : IntKind.i64.wrap ((L.length : Int) - 1) = ((L.length - 1 : Nat) : Int) := (W64_of ⟨by omega, by omega⟩).trans (by omega)
    have hC0 : ¬ (!(decide (tAt L 0 = L[0].1) && (decide (vAt L 0 = L[0].2) && true))) = true := by rw [tAt_of hp, vAt_of hp]; simp
    have hC1 : ¬ (!(decide (tAt L (L.length - 1) = L[L.length - 1].1) && (decide (vAt L (L.length - 1) = L[L.length - 1].2) && true))) = true := by rw [tAt_of hlp, vAt_of hlp]; simp
    conv => whnf
    refine Idx.mk 0 rfl hp ?_
    conv => whnf
    refine optP_of (smp_sub hp rfl) ?_
    dsimp only [stepP]
    refine opP_neqS (a' := tAt L 0) (b' := vAt L 0) (c' := L[0].1) (d' := L[0].2) rfl rfl rfl rfl rfl rfl rfl rfl plan28 ?_
    conv => whnf
    refine Fork.sb (fun q => absurd q hC0) (fun _ => ?_)
    conv => whnf
    refine Idx.mk (L.length - 1) hlw hlp ?_
    conv => whnf
    refine optP_of (smp_sub hlp rfl) ?_
    dsimp only [stepP]
    refine opP_neqS (a' := tAt L (L.length - 1)) (b' := vAt L (L.length - 1)) (c' := L[L.length - 1].1) (d' := L[L.length - 1].2) rfl rfl rfl rfl rfl rfl rfl rfl plan28 ?_
    conv => whnf
    refine Fork.sb (fun q => absurd q hC1) (fun _ => ?_)
    conv => whnf
    refine Fork.dec (fun q => absurd q hne) (fun _ => ?_)
    conv => whnf
    refine ⟨0, sz, _, L, rfl, rfl, rfl, hs, hL1, h64, ?_⟩
    conv => whnf
    refine ⟨L, L, .inr rfl, .inr rfl, hL2, ?_⟩
    conv => whnf
    refine Fork.dec (fun _ => ?_) (fun q => absurd rfl q)
    conv => whnf
    refine ⟨0, sz, _, L, rfl, rfl, rfl, ?_⟩
    conv => whnf
    refine Fork.dec (fun _ => ?_) (fun q => absurd rfl q)
    conv => whnf
    refine ⟨0, sz, _, L, rfl, rfl, rfl, ?_⟩
    conv => whnf
    refine ⟨1, sz, L, rfl, by decide, rfl, hF, ?_⟩
    conv => whnf
    refine Fork.dec (fun _ => ?_) (fun q => absurd rfl q)
    conv => whnf
    refine ⟨0, sz, _, L, rfl, rfl, rfl, ?_⟩
    conv => whnf
    exact smLeaf hend rfl rfl
  · have hE : L = [] := List.eq_nil_of_length_eq_zero (by omega)
    have h0 : (L.length : Int) = 0 := by omega
    have hC : ∀ i, ¬ (!(decide (tAt L i = 0) && (decide (vAt L i = 0) && true))) = true := fun i => by rw [hE]; simp [tAt, vAt]
    conv => whnf
    refine Fork.dec (fun _ => ?_) (fun q => absurd h0 q)
    refine stepP_is (v := .agg [.si .i64 (tAt L 0), .si .i64 (vAt L 0)]) (fun κ h => h) ?_
    dsimp only
    refine opP_is (v := .agg [.int .i64 0, .int .i64 0]) rfl rfl rfl (fun κ h => h) ?_
    dsimp only
    refine opP_neqS (a' := tAt L 0) (b' := vAt L 0) (c' := 0) (d' := 0) rfl rfl rfl rfl rfl rfl rfl rfl plan28 ?_
    conv => whnf
    refine Fork.sb (fun q => absurd q (hC _)) (fun _ => ?_)
    refine stepP_is (v := .agg [.si .i64 (tAt L (L.length - 1)), .si .i64 (vAt L (L.length - 1))]) (fun κ h => h) ?_
    dsimp only
    refine opP_is (v := .agg [.int .i64 0, .int .i64 0]) rfl rfl rfl (fun κ h => h) ?_
    dsimp only
    refine opP_neqS (a' := tAt L (L.length - 1)) (b' := vAt L (L.length - 1)) (c' := 0) (d' := 0) rfl rfl rfl rfl rfl rfl rfl rfl plan28 ?_
    conv => whnf
    refine Fork.sb (fun q => absurd q (hC _)) (fun _ => ?_)
    conv => whnf
    refine ⟨0, sz, _, L, rfl, rfl, rfl, hs, hL1, h64, ?_⟩
    conv => whnf
    refine ⟨L, L, .inr rfl, .inr rfl, hL2, ?_⟩
    conv => whnf
    refine Fork.dec (fun _ => ?_) (fun q => absurd rfl q)
    conv => whnf
    refine ⟨0, sz, _, L, rfl, rfl, rfl, ?_⟩
    conv => whnf
    refine Fork.dec (fun _ => ?_) (fun q => absurd rfl q)
    conv => whnf
    refine ⟨0, sz, _, L, rfl, rfl, rfl, ?_⟩
    conv => whnf
    refine ⟨1, sz, L, rfl, by decide, rfl, hF, ?_⟩
    conv => whnf
    refine Fork.dec (fun _ => ?_) (fun q => absurd rfl q)
    conv => whnf
    refine ⟨0, sz, _, L, rfl, rfl, rfl, ?_⟩
    conv => whnf
    exact smLeaf hend rfl rfl
/-- A chunk is as the document says. -/
def natSm (args : List AV) (H : AH) (n : Nat) (κ : PK) : Prop := match args with
  | [x, y] => ∃ (c d sz : Nat) (L : Smp), x = .ptr c 0 ∧ y = .ptr d 0 ∧ c ≠ d ∧ c < n ∧ d < n ∧ H.get c = some (.cells (chk sz L) true) ∧ H.get d = some (.cells (rch sz L) true) ∧ 0 < sz ∧ Fine L ∧ κ (.sb true) H n
  | _ => False
theorem n_csame : NatP 25 natSm := fun args H n κ hs φ h0' hp vs K hr hargs hk => by
  unfold natSm at hs
  split at hs
  · obtain ⟨x, y, rfl, e1, e2⟩ := vs2 hargs
    obtain ⟨c, d, sz, L, rfl, rfl, hcd, hcn, hdn, hc, hd, hsz, hF, hs⟩ := hs
    have run : post (callT KSm 5 25) [.ptr 0 0, .ptr 1 0] (mkH [(0, .cells (chk sz L) true), (1, .cells (rch sz L) true)]) 2 (SmQ sz L) := by
      exact same_run sz L hsz hF
    refine framed (S := [c, d]) (O := [.cells (chk sz L) true, .cells (rch sz L) true]) (args0 := [.ptr 0 0, .ptr 1 0]) (NatP.post (callT_nat KSm_ok 5 _)) (by kernel_rfl) hr
      (hands2 hcd hcn hdn hc hd (.inr rfl) (.inr rfl)) (.cons e1 (.cons e2 .nil)) hk run fun u H' n' ⟨g1, g2, g3⟩ => ?_
    subst g1
    refine ⟨2, H, Nat.le_refl _, After.same fun i s o h3 h4 _ => ?_, rfl, hs⟩
    match i, h3 with
    | 0, h3 =>
      injection h3 with h3; subst h3
      rw [hc] at h4; injection h4 with h4; subst h4
      exact ⟨_, g2, rfl, rfl, rfl⟩
    | 1, h3 =>
      injection h3 with h3; subst h3
      rw [hd] at h4; injection h4 with h4; subst h4
      exact ⟨_, g3, rfl, rfl, rfl⟩
  · exact hs.elim
end Go.Proofs.Ytpfflibkkjjlaaa
namespace Go.Proofs.Ytpfflibkkjjlaaa
open Go Go.RowKit
set_option maxRecDepth 20000
def d_play : DT := [(3, [(some 1000000, [5, 11, 5, 8, 5, 10, 2, 11, 4, 11]), (none, [0, 1, 2, 3, 4, 5, 6, 7, 8, 9, 10, 11, 12, 13]), (none, [0, 1, 2, 3, 4, 6, 7, 8, 5, 9, 10, 11, 12, 13]), (none, [0, 1, 2, 3, 4, 6, 9, 10, 5, 7, 8, 11, 12, 13]), (none, [0, 1, 2, 3, 4, 6, 7, 8, 9, 10, 5, 11, 12, 13]), (none, [6, 7, 8, 9, 10, 11, 0, 1, 2, 3, 4, 5, 12, 13]), (none, [6, 7, 8, 9, 10, 0, 1, 2, 11, 3, 4, 5, 12, 13]), (none, [6, 7, 8, 9, 10, 0, 3, 4, 11, 1, 2, 5, 12, 13]), (none, [6, 7, 8, 9, 10, 0, 1, 2, 3, 4, 11, 5, 12, 13])]),
  (5, [(some 1000000, [7, 15, 7, 11, 7, 14, 3, 15, 6, 15]), (none, [0, 1, 2, 3, 4, 5, 6, 7, 8, 9, 10, 11, 12, 13, 14, 15, 16, 17]), (none, [0, 1, 2, 3, 4, 5, 6, 8, 9, 10, 11, 7, 12, 13, 14, 15, 16, 17]), (none, [0, 1, 2, 3, 4, 5, 6, 8, 12, 13, 14, 7, 9, 10, 11, 15, 16, 17]), (none, [0, 1, 2, 3, 4, 5, 6, 8, 9, 10, 11, 12, 13, 14, 7, 15, 16, 17]), (none, [8, 9, 10, 11, 12, 13, 14, 15, 0, 1, 2, 3, 4, 5, 6, 7, 16, 17]), (none, [8, 9, 10, 11, 12, 13, 14, 0, 1, 2, 3, 15, 4, 5, 6, 7, 16, 17]), (none, [8, 9, 10, 11, 12, 13, 14, 0, 4, 5, 6, 15, 1, 2, 3, 7, 16, 17]), (none, [8, 9, 10, 11, 12, 13, 14, 0, 1, 2, 3, 4, 5, 6, 15, 7, 16, 17])])]
noncomputable def KPy : FuncId → EP := withD 23 d_play (withN 9 natPut (withN 10 natDrop (withN 12 natGet (withN 19 natJoin (withN 36 natRPut (withN 37 natRDrop (withN 39 natRGet4 (withN 38 natRJoin evP))))))))
theorem KPy_ok : TabP KPy := withD_ok (withN_ok (withN_ok (withN_ok (withN_ok (withN_ok (withN_ok (withN_ok (withN_ok evP_ok n_rjoin) n_rget4) n_rdrop) n_rput) n_join) n_get) n_drop) n_put) (by kernel_rfl) (by kernel_rfl)
def playF (sz : Nat) (L M : Smp) (K T V P : Int) : Smp × Smp := if K = 0 then ((putF sz L T V P).1, M) else if K = 1 then (dropF L T V, M) else if K = 3 then (joinF sz L M).1 else (L, M)
theorem playF_fine {sz : Nat} (hs : sz ≤ 4096) {L M : Smp} (hF : Fine L) (hG : Fine M) {K T V P : Int} (hV : In64 V) : Fine (playF sz L M K T V P).1 ∧ Fine (playF sz L M K T V P).2 := by
  unfold playF
  split
  · exact ⟨putF_fine hs hF hV, hG⟩
  split
  · exact ⟨dropF_fine hF _ _, hG⟩
  split
  · exact join_fine hs hF hG
  · exact ⟨hF, hG⟩
def PyQ (sz : Nat) (X : Smp × Smp) : PK := fun u H' _ => u = .sb true ∧ PM.get H' 0 = some (.cells (chk sz X.1) true) ∧ PM.get H' 1 = some (.cells (chk sz X.2) true) ∧ PM.get H' 2 = some (.cells (rch sz X.1) true) ∧ PM.get H' 3 = some (.cells (rch sz X.2) true)
set_option maxHeartbeats 16000000 in
set_option maxRecDepth 100000 in
theorem play_run (sz : Nat) (L M : Smp) (K T V P : Int) (hs : 0 < sz) (hs2 : sz ≤ 4096) (hF : Fine L) (hG : Fine M) (hV : In64 V) : post (callT KPy 4 23) [.ptr 0 0, .ptr 1 0, .ptr 2 0, .ptr 3 0, .agg [.si .i64 K, .si .i64 T, .si .i64 V, .si .i64 P]] (mkH [(0, .cells (chk sz L) true), (1, .cells (chk sz M) true), (2, .cells (rch sz L) true), (3, .cells (rch sz M) true)]) 4 (PyQ sz (playF sz L M K T V P)) := by
  have leaf : ∀ {u : AV} {H' : AH} {n' : Nat} {X : Smp × Smp}, playF sz L M K T V P = X → mk u = .sb true → PM.get H' 0 = some (.cells (chk sz X.1) true) → PM.get H' 1 = some (.cells (chk sz X.2) true) → PM.get H' 2 = some (.cells (rch sz X.1) true) → PM.get H' 3 = some (.cells (rch sz X.2) true) → ∃ v2 H2 n2, VTo u v2 ∧ Recast H' n' H2 n2 ∧ PyQ sz (playF sz L M K T V P) v2 H2 n2 := fun hX hu g1 g2 g3 g4 => by
    rw [hX]; exact ⟨_, _, _, (fun φ w h => by rw [← hu]; exact h.mk), .refl _ _, rfl, g1, g2, g3, g4⟩
  have heq : ∀ a : Int, AV.sb (decide (a = a)) = .sb true := fun a => by simp
  show callT KPy 4 23 _ _ _ _
  conv => whnf
  refine Fork.dec (fun h0 => ?_) (fun h0 => ?_)
  · have e : playF sz L M K T V P = ((putF sz L T V P).1, M) := by unfold playF; rw [if_pos h0]
    conv => whnf
    refine ⟨?_, ?_, ?_, ?_, ?_, ?_, ?_, ?_, trivial⟩
    · conv => whnf
      refine ⟨0, sz, L, T, V, P, rfl, ⟨_, _, rfl, rfl, rfl⟩, rfl, by decide, rfl, hs, hs2, hF, hV, ?_⟩
      conv => whnf
      refine ⟨2, sz, L, T, V, P, rfl, ⟨_, _, rfl, rfl, rfl⟩, rfl, by decide, rfl, hs, hs2, hF, hV, ?_⟩
      conv => whnf
      exact leaf e (heq _) rfl rfl rfl rfl
    · conv => whnf
      refine ⟨0, sz, L, T, V, P, rfl, ⟨_, _, rfl, rfl, rfl⟩, rfl, by decide, rfl, hs, hs2, hF, hV, ?_⟩
      conv => whnf
      refine ⟨2, sz, L, T, V, P, rfl, ⟨_, _, rfl, rfl, rfl⟩, rfl, by decide, rfl, hs, hs2, hF, hV, ?_⟩
      conv => whnf
      exact leaf e (heq _) rfl rfl rfl rfl
    · conv => whnf
      refine ⟨0, sz, L, T, V, P, rfl, ⟨_, _, rfl, rfl, rfl⟩, rfl, by decide, rfl, hs, hs2, hF, hV, ?_⟩
      conv => whnf
      refine ⟨2, sz, L, T, V, P, rfl, ⟨_, _, rfl, rfl, rfl⟩, rfl, by decide, rfl, hs, hs2, hF, hV, ?_⟩
      conv => whnf
      exact leaf e (heq _) rfl rfl rfl rfl
    · conv => whnf
      refine ⟨0, sz, L, T, V, P, rfl, ⟨_, _, rfl, rfl, rfl⟩, rfl, by decide, rfl, hs, hs2, hF, hV, ?_⟩
      conv => whnf
      refine ⟨2, sz, L, T, V, P, rfl, ⟨_, _, rfl, rfl, rfl⟩, rfl, by decide, rfl, hs, hs2, hF, hV, ?_⟩
      conv => whnf
      exact leaf e (heq _) rfl rfl rfl rfl
    · conv => whnf
      refine ⟨2, sz, L, T, V, P, rfl, ⟨_, _, rfl, rfl, rfl⟩, rfl, by decide, rfl, hs, hs2, hF, hV, ?_⟩
      conv => whnf
      refine ⟨0, sz, L, T, V, P, rfl, ⟨_, _, rfl, rfl, rfl⟩, rfl, by decide, rfl, hs, hs2, hF, hV, ?_⟩
      conv => whnf
      exact leaf e (heq _) rfl rfl rfl rfl
    · conv => whnf
      refine ⟨2, sz, L, T, V, P, rfl, ⟨_, _, rfl, rfl, rfl⟩, rfl, by decide, rfl, hs, hs2, hF, hV, ?_⟩
      conv => whnf
      refine ⟨0, sz, L, T, V, P, rfl, ⟨_, _, rfl, rfl, rfl⟩, rfl, by decide, rfl, hs, hs2, hF, hV, ?_⟩
      conv => whnf
      exact leaf e (heq _) rfl rfl rfl rfl
    · conv => whnf
      refine ⟨2, sz, L, T, V, P, rfl, ⟨_, _, rfl, rfl, rfl⟩, rfl, by decide, rfl, hs, hs2, hF, hV, ?_⟩
      conv => whnf
      refine ⟨0, sz, L, T, V, P, rfl, ⟨_, _, rfl, rfl, rfl⟩, rfl, by decide, rfl, hs, hs2, hF, hV, ?_⟩
      conv => whnf
      exact leaf e (heq _) rfl rfl rfl rfl
    · conv => whnf
      refine ⟨2, sz, L, T, V, P, rfl, ⟨_, _, rfl, rfl, rfl⟩, rfl, by decide, rfl, hs, hs2, hF, hV, ?_⟩
      conv => whnf
      refine ⟨0, sz, L, T, V, P, rfl, ⟨_, _, rfl, rfl, rfl⟩, rfl, by decide, rfl, hs, hs2, hF, hV, ?_⟩
      conv => whnf
      exact leaf e (heq _) rfl rfl rfl rfl
  · conv => whnf
    refine Fork.dec (fun h1 => ?_) (fun h1 => ?_)
    · have e : playF sz L M K T V P = (dropF L T V, M) := by unfold playF; rw [if_neg h0, if_pos h1]
      conv => whnf
      refine ⟨?_, ?_, ?_, ?_, ?_, ?_, ?_, ?_, trivial⟩
      · conv => whnf
        refine ⟨0, sz, L, T, V, rfl, rfl, rfl, by decide, rfl, hs, hF, ?_⟩
        conv => whnf
        refine ⟨2, sz, L, T, V, rfl, rfl, rfl, by decide, rfl, hF, ?_⟩
        conv => whnf
        exact leaf e (heq _) rfl rfl rfl rfl
      · conv => whnf
        refine ⟨0, sz, L, T, V, rfl, rfl, rfl, by decide, rfl, hs, hF, ?_⟩
        conv => whnf
        refine ⟨2, sz, L, T, V, rfl, rfl, rfl, by decide, rfl, hF, ?_⟩
        conv => whnf
        exact leaf e (heq _) rfl rfl rfl rfl
      · conv => whnf
        refine ⟨0, sz, L, T, V, rfl, rfl, rfl, by decide, rfl, hs, hF, ?_⟩
        conv => whnf
        refine ⟨2, sz, L, T, V, rfl, rfl, rfl, by decide, rfl, hF, ?_⟩
        conv => whnf
        exact leaf e (heq _) rfl rfl rfl rfl
      · conv => whnf
        refine ⟨0, sz, L, T, V, rfl, rfl, rfl, by decide, rfl, hs, hF, ?_⟩
        conv => whnf
        refine ⟨2, sz, L, T, V, rfl, rfl, rfl, by decide, rfl, hF, ?_⟩
        conv => whnf
        exact leaf e (heq _) rfl rfl rfl rfl
      · conv => whnf
        refine ⟨2, sz, L, T, V, rfl, rfl, rfl, by decide, rfl, hF, ?_⟩
        conv => whnf
        refine ⟨0, sz, L, T, V, rfl, rfl, rfl, by decide, rfl, hs, hF, ?_⟩
        conv => whnf
        exact leaf e (heq _) rfl rfl rfl rfl
      · conv => whnf
        refine ⟨2, sz, L, T, V, rfl, rfl, rfl, by decide, rfl, hF, ?_⟩
        conv => whnf
        refine ⟨0, sz, L, T, V, rfl, rfl, rfl, by decide, rfl, hs, hF, ?_⟩
        conv => whnf
        exact leaf e (heq _) rfl rfl rfl rfl
      · conv => whnf
        refine ⟨2, sz, L, T, V, rfl, rfl, rfl, by decide, rfl, hF, ?_⟩
        conv => whnf
        refine ⟨0, sz, L, T, V, rfl, rfl, rfl, by decide, rfl, hs, hF, ?_⟩
        conv => whnf
        exact leaf e (heq _) rfl rfl rfl rfl
      · conv => whnf
        refine ⟨2, sz, L, T, V, rfl, rfl, rfl, by decide, rfl, hF, ?_⟩
        conv => whnf
        refine ⟨0, sz, L, T, V, rfl, rfl, rfl, by decide, rfl, hs, hF, ?_⟩
        conv => whnf
        exact leaf e (heq _) rfl rfl rfl rfl
    · conv => whnf
      refine Fork.dec (fun h3 => ?_) (fun h3 => ?_)
      · have e : playF sz L M K T V P = (joinF sz L M).1 := by unfold playF; rw [if_neg h0, if_neg h1, if_pos h3]
        conv => whnf
        refine ⟨0, 1, sz, sz, L, M, rfl, rfl, by decide, by decide, by decide, rfl, rfl, hs, hs2, hs, hF, hG, ?_⟩
        conv => whnf
        refine ⟨2, 3, sz, sz, L, M, rfl, rfl, by decide, by decide, by decide, rfl, rfl, hs, hs2, hF, hG, ?_⟩
        conv => whnf
        exact leaf e (heq _) rfl rfl rfl rfl
      · have e : playF sz L M K T V P = (L, M) := by unfold playF; rw [if_neg h0, if_neg h1, if_neg h3]
        conv => whnf
        refine ⟨0, sz, L, T, rfl, rfl, by decide, rfl, hs, hF, ?_⟩
        conv => whnf
        refine ⟨2, sz, L, T, rfl, rfl, by decide, rfl, hF, ?_⟩
        conv => whnf
        refine Fork.dec (fun _ => ?_) (fun q => absurd rfl q)
        conv => whnf
        exact leaf e (heq _) rfl rfl rfl rfl
theorem vs5 {φ : Ph} {a b c d e : AV} {vs : Array Value} (h : VRs φ [a, b, c, d, e] vs.toList) : ∃ x y z w u, vs = #[x, y, z, w, u] ∧ VR φ a x ∧ VR φ b y ∧ VR φ c z ∧ VR φ d w ∧ VR φ e u := by
  obtain ⟨x, l1, e1, h1, h2⟩ := h.cons_inv
  obtain ⟨y, l2, e2, h3, h4⟩ := h2.cons_inv
  obtain ⟨z, l3, e3, h5, h6⟩ := h4.cons_inv
  obtain ⟨w, l4, e4, h7, h8⟩ := h6.cons_inv
  obtain ⟨u, l5, e5, h9, h10⟩ := h8.cons_inv
  have := h10.nil_inv
  subst this
  exact ⟨x, y, z, w, u, by apply Array.ext'; rw [e1, e2, e3, e4, e5], h1, h3, h5, h7, h9⟩
/-- A call's cells. -/
def OpAt (o : AV) (K T V P : Int) : Prop := ∃ a b c d, o = .agg [a, b, c, d] ∧ mk a = .si .i64 K ∧ mk b = .si .i64 T ∧ mk c = .si .i64 V ∧ mk d = .si .i64 P
theorem OpAt.open {o : AV} {K T V P : Int} (h : OpAt o K T V P) {φ ψ : Ph} {w : Value} (hw : VR φ o w) : VR ψ (.agg [.si .i64 K, .si .i64 T, .si .i64 V, .si .i64 P]) w := by
  obtain ⟨a, b, c, d, rfl, h1, h2, h3, h4⟩ := h
  obtain ⟨cs, rfl, hv⟩ := hw.agg_inv
  obtain ⟨x, y, z, w, rfl, e1, e2, e3, e4⟩ := vs4 hv
  exact .agg (.cons (flat1_VR rfl (h1 ▸ e1.mk)) (.cons (flat1_VR rfl (h2 ▸ e2.mk)) (.cons (flat1_VR rfl (h3 ▸ e3.mk)) (.cons (flat1_VR rfl (h4 ▸ e4.mk)) .nil))))
theorem hands4 {H : AH} {n b c d e : Nat} {o q r s : AO} (hnd : [b, c, d, e].Nodup) (hb : b < n) (hc : c < n) (hd : d < n) (he : e < n) (h : H.get b = some (renO (nmOf [b, c, d, e] n) o)) (k : H.get c = some (renO (nmOf [b, c, d, e] n) q)) (l : H.get d = some (renO (nmOf [b, c, d, e] n) r)) (m : H.get e = some (renO (nmOf [b, c, d, e] n) s))
    (hv : o.own = true) (kv : q.own = true) (lv : r.own = true) (mv : s.own = true) : Hands H n [b, c, d, e] [o, q, r, s] :=
  ⟨hnd, rfl, fun i t u h1 h2 => by
    match i, h1, h2 with
    | 0, h1, h2 => injection h1 with h1; injection h2 with h2; subst h1 h2; exact ⟨hb, h, .inr hv⟩
    | 1, h1, h2 => injection h1 with h1; injection h2 with h2; subst h1 h2; exact ⟨hc, k, .inr kv⟩
    | 2, h1, h2 => injection h1 with h1; injection h2 with h2; subst h1 h2; exact ⟨hd, l, .inr lv⟩
    | 3, h1, h2 => injection h1 with h1; injection h2 with h2; subst h1 h2; exact ⟨he, m, .inr mv⟩⟩
/-- A call, done by both. -/
def natPy (args : List AV) (H : AH) (n : Nat) (κ : PK) : Prop := match args with
  | [x, y, z, w, o] => ∃ (c d r s sz : Nat) (L M : Smp) (K T V P : Int), x = .ptr c 0 ∧ y = .ptr d 0 ∧ z = .ptr r 0 ∧ w = .ptr s 0 ∧ OpAt o K T V P ∧ [c, d, r, s].Nodup ∧ c < n ∧ d < n ∧ r < n ∧ s < n ∧
      H.get c = some (.cells (chk sz L) true) ∧ H.get d = some (.cells (chk sz M) true) ∧ H.get r = some (.cells (rch sz L) true) ∧ H.get s = some (.cells (rch sz M) true) ∧ 0 < sz ∧ sz ≤ 4096 ∧ Fine L ∧ Fine M ∧ In64 V ∧
      ∀ X : Smp × Smp, Fine X.1 → Fine X.2 → κ (.sb true) ((((H.set (some (.cells (rch sz X.2) true)) depthH s).set (some (.cells (rch sz X.1) true)) depthH r).set (some (.cells (chk sz X.2) true)) depthH d).set (some (.cells (chk sz X.1) true)) depthH c) n
  | _ => False
theorem n_play : NatP 23 natPy := fun args H n κ hs φ h0' hp vs K hr hargs hk => by
  unfold natPy at hs
  split at hs
  · obtain ⟨x, y, z, w, o, rfl, e1, e2, e3, e4, e5⟩ := vs5 hargs
    obtain ⟨c, d, r, s, sz, L, M, K, T, V, P, rfl, rfl, rfl, rfl, ho, hnd, hcn, hdn, hrn, hsn, hc, hd, hr2, hs2, hsz, hsz2, hF, hG, hV, hs⟩ := hs
    have hX := playF_fine hsz2 hF hG (K := K) (T := T) (P := P) hV
    refine framed (S := [c, d, r, s]) (O := [.cells (chk sz L) true, .cells (chk sz M) true, .cells (rch sz L) true, .cells (rch sz M) true]) (args0 := [.ptr 0 0, .ptr 1 0, .ptr 2 0, .ptr 3 0, .agg [.si .i64 K, .si .i64 T, .si .i64 V, .si .i64 P]]) (NatP.post (callT_nat KPy_ok 4 _)) (by kernel_rfl) hr
      (hands4 hnd hcn hdn hrn hsn hc hd hr2 hs2 rfl rfl rfl rfl) (.cons e1 (.cons e2 (.cons e3 (.cons e4 (.cons (ho.open e5) .nil))))) hk (play_run sz L M K T V P hsz hsz2 hF hG hV) fun u H' n' ⟨g1, g2, g3, g4, g5⟩ => ?_
    subst g1
    refine ⟨4, putH [c, d, r, s] n H [(0, some (.cells (chk sz (playF sz L M K T V P).1) true)), (1, some (.cells (chk sz (playF sz L M K T V P).2) true)), (2, some (.cells (rch sz (playF sz L M K T V P).1) true)), (3, some (.cells (rch sz (playF sz L M K T V P).2) true))], Nat.le_refl _, After.put (Nat.le_refl _) rfl (fun x hx o ho => ?_), rfl, hs _ hX.1 hX.2⟩
    simp only [List.mem_cons, List.not_mem_nil, or_false] at hx
    rcases hx with rfl | rfl | rfl | rfl
    · injection ho with ho; subst ho; exact ⟨g2, rfl, rfl⟩
    · injection ho with ho; subst ho; exact ⟨g3, rfl, rfl⟩
    · injection ho with ho; subst ho; exact ⟨g4, rfl, rfl⟩
    · injection ho with ho; subst ho; exact ⟨g5, rfl, rfl⟩
  · exact hs.elim
end Go.Proofs.Ytpfflibkkjjlaaa
namespace Go.Proofs.Ytpfflibkkjjlaaa
open Go Go.RowKit
set_option maxRecDepth 20000
noncomputable def KPl : FuncId → EP := withN 13 (natQ trueN) (withN 21 natSplit (withN 22 natRSplit (withN 23 natPy (withN 25 natSm (withN 10 natDrop evP)))))
theorem KPl_ok (hK : NatP 13 (natQ trueN)) : TabP KPl := withN_ok (withN_ok (withN_ok (withN_ok (withN_ok (withN_ok evP_ok n_drop) n_csame) n_play) n_rsplit) n_split) hK
noncomputable def pls (S : List Op4) (sz : Nat) (L : Smp) (M : Smp) (i : Nat) : AE × AH := (mkE [(1, .fr S.length 4 (opsC S)), (5, .ptr 0 (0)), (7, .ptr 1 (0)), (9, .ptr 2 (0)), (11, .ptr 3 (0)), (13, .si .i64 (((i : Nat) : Int)))], mkH [(0, .cells (chk sz L) true), (1, .cells (chk sz M) true), (2, .cells (rch sz L) true), (3, .cells (rch sz M) true)])
theorem pls_cov {S : List Op4} {sz : Nat} {L : Smp} {M : Smp} {i : Nat} {p n : Nat} {σ : AE} {H : AH} (j0 : Nat) (j1 : Nat) (j2 : Nat) (j3 : Nat) (hj : j0 ≠ j1 ∧ j0 ≠ j2 ∧ j0 ≠ j3 ∧ j1 ≠ j2 ∧ j1 ≠ j3 ∧ j2 ≠ j3) (hp : p ≤ 0) (e1 : getq (pa 1) σ = .fr S.length 4 (opsC S)) (e5 : getq (pa 5) σ = .ptr j0 (0)) (e7 : getq (pa 7) σ = .ptr j1 (0)) (e9 : getq (pa 9) σ = .ptr j2 (0)) (e11 : getq (pa 11) σ = .ptr j3 (0)) (e13 : mk (getq (pa 13) σ) = .si .i64 (((i : Nat) : Int))) (h0 : ∃ l, H.get j0 = some (.cells l true) ∧ SubL H 4 (fun b => if b = 0 then j0 else if b = 1 then j1 else if b = 2 then j2 else if b = 3 then j3 else b) l (chk sz L)) (h1 : ∃ l, H.get j1 = some (.cells l true) ∧ SubL H 4 (fun b => if b = 0 then j0 else if b = 1 then j1 else if b = 2 then j2 else if b = 3 then j3 else b) l (chk sz M)) (h2 : ∃ l, H.get j2 = some (.cells l true) ∧ SubL H 4 (fun b => if b = 0 then j0 else if b = 1 then j1 else if b = 2 then j2 else if b = 3 then j3 else b) l (rch sz L)) (h3 : ∃ l, H.get j3 = some (.cells l true) ∧ SubL H 4 (fun b => if b = 0 then j0 else if b = 1 then j1 else if b = 2 then j2 else if b = 3 then j3 else b) l (rch sz M)) : Cov p σ H n ((pls S sz L M i).1, (pls S sz L M i).2, 4) := by
  refine Cov.ofR (fun b => if b = 0 then j0 else if b = 1 then j1 else if b = 2 then j2 else if b = 3 then j3 else b) (by omega) (fun b hb => by repeat' rw [if_neg (by omega)]) ?_ ?_ ?_
  · intro x hx
    simp only [List.mem_cons, List.not_mem_nil, or_false] at hx
    rcases hx with rfl | rfl | rfl | rfl | rfl | rfl
    · exact SubV.frE e1
    · exact .ptr (by decide) e5
    · exact .ptr (by decide) e7
    · exact .ptr (by decide) e9
    · exact .ptr (by decide) e11
    · exact .int e13
  · intro x hx
    simp only [List.mem_cons, List.not_mem_nil, or_false] at hx
    rcases hx with rfl | rfl | rfl | rfl
    · exact ⟨by simp, .inl (h0.elim fun l h => ⟨_, h.1, SubO.st h.2⟩)⟩
    · exact ⟨by simp, .inl (h1.elim fun l h => ⟨_, h.1, SubO.st h.2⟩)⟩
    · exact ⟨by simp, .inl (h2.elim fun l h => ⟨_, h.1, SubO.st h.2⟩)⟩
    · exact ⟨by simp, .inl (h3.elim fun l h => ⟨_, h.1, SubO.st h.2⟩)⟩
  · intro x hx y hy
    simp only [List.mem_cons, List.not_mem_nil, or_false] at hx hy
    rcases hx with rfl | rfl | rfl | rfl <;> rcases hy with rfl | rfl | rfl | rfl <;> simp <;> omega
theorem rch_st {sz : Nat} {L : Smp} {H : AH} {m : Nat} {r : Nat → Nat} : SubL H m r (rch sz L) (rch sz L) := .cons (.int rfl) (.cons (SubV.frE rfl) .nil)
theorem rch_new {sz : Nat} {a : AV} (h : mk a = .si .i64 (sz : Int)) {H : AH} {m : Nat} {r : Nat → Nat} : SubL H m r [a, .nsl] (rch sz []) := .cons (.int h) (.cons SubV.nslFr .nil)
set_option maxHeartbeats 16000000 in
set_option maxRecDepth 100000 in
theorem plays_none (a : Int) (S : List Op4) (hn : a < 128 ∨ 4096 < a) : callT KPl 6 6 [.si .i64 a, .fr S.length 4 (opsC S)] .nil 0 fun v _ _ => v = .bool true ∨ v = .sb true := by
  conv => whnf
  refine Fork.dec (fun h => ?_) (fun h => ?_)
  · conv => whnf
    refine Fork.dec (fun _ => ?_) (fun q => absurd h q)
    conv => whnf
    refine Fork.dec (fun _ => ?_) (fun q => absurd h q)
    conv => whnf
    refine Fork.dec (fun _ => ?_) (fun q => absurd h q)
    conv => whnf
    refine LoopP.roll 1 ?_
    conv => whnf
    refine Fork.dec (fun _ => ?_) (fun _ => ?_)
    · conv => whnf
      exact .inl rfl
    · conv => whnf
      exact .inl rfl
  · have h2 : 4096 < a := hn.elim (fun q => absurd q h) id
    conv => whnf
    refine Fork.dec (fun _ => ?_) (fun q => absurd h2 q)
    conv => whnf
    refine Fork.dec (fun q => absurd q h) (fun _ => ?_)
    conv => whnf
    refine Fork.dec (fun _ => ?_) (fun q => absurd h2 q)
    conv => whnf
    refine Fork.dec (fun q => absurd q h) (fun _ => ?_)
    conv => whnf
    refine Fork.dec (fun _ => ?_) (fun q => absurd h2 q)
    conv => whnf
    refine Fork.dec (fun q => absurd q h) (fun _ => ?_)
    conv => whnf
    refine Fork.dec (fun _ => ?_) (fun q => absurd h2 q)
    conv => whnf
    refine LoopP.roll 1 ?_
    conv => whnf
    refine Fork.dec (fun _ => ?_) (fun _ => ?_)
    · conv => whnf
      exact .inl rfl
    · conv => whnf
      exact .inl rfl
set_option maxHeartbeats 16000000 in
set_option maxRecDepth 100000 in
theorem plays_some (sz : Nat) (S : List Op4) (h1 : 128 ≤ sz) (h2 : sz ≤ 4096) (hS : OpsIn S) (hSl : S.length ≤ 8796093022208) : callT KPl 6 6 [.si .i64 (sz : Int), .fr S.length 4 (opsC S)] .nil 0 fun v _ _ => v = .bool true ∨ v = .sb true := by
  have hs : 0 < sz := by omega
  have g1 : ¬ (sz : Int) < 128 := by omega
  have g2 : ¬ (4096 : Int) < (sz : Int) := by omega
  have hend : ¬ (!true) = true := by decide
  conv => whnf
  refine Fork.dec (fun q => absurd q g1) (fun _ => ?_)
  conv => whnf
  refine Fork.dec (fun q => absurd q g2) (fun _ => ?_)
  conv => whnf
  refine Fork.dec (fun q => absurd q g1) (fun _ => ?_)
  conv => whnf
  refine Fork.dec (fun q => absurd q g2) (fun _ => ?_)
  conv => whnf
  refine Fork.dec (fun q => absurd q g1) (fun _ => ?_)
  conv => whnf
  refine Fork.dec (fun q => absurd q g2) (fun _ => ?_)
  conv => whnf
  refine Fork.dec (fun q => absurd q g1) (fun _ => ?_)
  conv => whnf
  refine Fork.dec (fun q => absurd q g2) (fun _ => ?_)
  conv => whnf
  refine LoopP.mk { x : Nat × Smp × Smp // x.1 ≤ S.length ∧ Fine x.2.1 ∧ Fine x.2.2 } 4 (fun x => pls S sz x.val.2.1 x.val.2.2 x.val.1) (fun x => S.length - x.val.1) ⟨(0, [], []), Nat.zero_le _, .nil, .nil⟩ ?_ ?_
  · exact pls_cov (j0 := 0) (j1 := 1) (j2 := 2) (j3 := 3) (by decide) (Nat.le_refl 0) rfl rfl rfl rfl rfl rfl ⟨_, rfl, chk_new sz rfl⟩ ⟨_, rfl, chk_new sz rfl⟩ ⟨_, rfl, rch_new rfl⟩ ⟨_, rfl, rch_new rfl⟩
  · intro ⟨(i, L, M), hi, hF, hG⟩
    dsimp only at hi hF hG
    conv => whnf
    refine Fork.dec (fun h => ?_) (fun h => ?_)
    · have hi2 : i < S.length := by exact Int.ofNat_lt.1 h
      have hs0 : (0 : Int) < (sz : Int) := by omega
      have hV : In64 S[i].2.2.1 := (hS _ (List.getElem_mem hi2)).2.2.1
      conv => whnf
      refine Fork.dec (fun h60 => ?_) (fun _ => ?_)
      · have h60' : (i : Int) < 60 := h60
        have hi1 : IntKind.i64.wrap ((i : Int) + 1) = ((i + 1 : Nat) : Int) := W64_of ⟨by omega, by omega⟩
        conv => whnf
        refine Idx.mk i rfl hi2 ?_
        conv => whnf
        refine optP_of (opsC_sub hi2 rfl) ?_
        conv => whnf
        refine Fork.dec (fun hk => ?_) (fun hk => ?_)
        · conv => whnf
          refine ⟨0, sz, L, rfl, by decide, rfl, hs, hF, fun h3 => ?_, fun h3 => ?_⟩
          · conv => whnf
            refine ⟨2, sz, L, rfl, by decide, rfl, hF, fun _ => ?_, fun q => absurd h3 (by omega)⟩
            conv => whnf
            refine ⟨0, 2, sz, L, rfl, rfl, by decide, by decide, by decide, rfl, rfl, hs, hF, ?_⟩
            conv => whnf
            refine Fork.sb (fun q => absurd q hend) (fun _ => ?_)
            conv => whnf
            refine ⟨1, 3, sz, M, rfl, rfl, by decide, by decide, by decide, rfl, rfl, hs, hG, ?_⟩
            conv => whnf
            refine Fork.sb (fun q => absurd q hend) (fun _ => ?_)
            conv => whnf
            exact ⟨⟨(i + 1, L, M), hi2, hF, hG⟩, (show S.length - (i + 1) < S.length - i by omega), pls_cov (j0 := 0) (j1 := 1) (j2 := 2) (j3 := 3) (by decide) (Nat.le_refl 0) rfl rfl rfl rfl rfl (congrArg (AV.si .i64) hi1) ⟨_, rfl, chk_st⟩ ⟨_, rfl, chk_st⟩ ⟨_, rfl, rch_st⟩ ⟨_, rfl, rch_st⟩⟩
          · have hFt := hF.sub (List.take_sublist (splK L) L)
            have hFd := hF.sub (List.drop_sublist (splK L) L)
            conv => whnf
            refine ⟨2, sz, L, rfl, by decide, rfl, hF, fun q => absurd h3 (by omega), fun _ => ?_⟩
            conv => whnf
            refine ⟨0, 2, sz, (L.take (splK L)), rfl, rfl, by decide, by decide, by decide, rfl, rfl, hs, hFt, ?_⟩
            conv => whnf
            refine Fork.sb (fun q => absurd q hend) (fun _ => ?_)
            conv => whnf
            refine ⟨5, 6, sz, (L.drop (splK L)), rfl, rfl, by decide, by decide, by decide, rfl, rfl, hs, hFd, ?_⟩
            conv => whnf
            refine Fork.sb (fun q => absurd q hend) (fun _ => ?_)
            conv => whnf
            exact ⟨⟨(i + 1, (L.take (splK L)), (L.drop (splK L))), hi2, hFt, hFd⟩, (show S.length - (i + 1) < S.length - i by omega), pls_cov (j0 := 0) (j1 := 5) (j2 := 2) (j3 := 6) (by decide) (Nat.le_refl 0) rfl rfl rfl rfl rfl (congrArg (AV.si .i64) hi1) ⟨_, rfl, chk_st⟩ ⟨_, rfl, chk_st⟩ ⟨_, rfl, rch_st⟩ ⟨_, rfl, rch_st⟩⟩
        · conv => whnf
          refine Fork.dec (fun hk0 => ?_) (fun hk0 => ?_)
          · conv => whnf
            refine Fork.dec (fun hk4 => ?_) (fun hk4 => ?_)
            · conv => whnf
              refine ⟨0, 1, 2, 3, sz, L, M, S[i].1, S[i].2.1, S[i].2.2.1, S[i].2.2.2, rfl, rfl, rfl, rfl, ⟨_, _, _, _, rfl, rfl, rfl, rfl, rfl⟩, by decide, by decide, by decide, by decide, by decide, rfl, rfl, rfl, rfl, hs, h2, hF, hG, hV, fun X hX1 hX2 => ?_⟩
              conv => whnf
              refine Fork.sb (fun q => absurd q hend) (fun _ => ?_)
              conv => whnf
              refine ⟨0, 2, sz, X.1, rfl, rfl, by decide, by decide, by decide, rfl, rfl, hs, hX1, ?_⟩
              conv => whnf
              refine Fork.sb (fun q => absurd q hend) (fun _ => ?_)
              conv => whnf
              refine ⟨1, 3, sz, X.2, rfl, rfl, by decide, by decide, by decide, rfl, rfl, hs, hX2, ?_⟩
              conv => whnf
              refine Fork.sb (fun q => absurd q hend) (fun _ => ?_)
              conv => whnf
              exact ⟨⟨(i + 1, X.1, X.2), hi2, hX1, hX2⟩, (show S.length - (i + 1) < S.length - i by omega), pls_cov (j0 := 0) (j1 := 1) (j2 := 2) (j3 := 3) (by decide) (Nat.le_refl 0) rfl rfl rfl rfl rfl (congrArg (AV.si .i64) hi1) ⟨_, rfl, chk_st⟩ ⟨_, rfl, chk_st⟩ ⟨_, rfl, rch_st⟩ ⟨_, rfl, rch_st⟩⟩
            · conv => whnf
              refine Fork.ndec (fun q => absurd hs0 q) (fun _ => ?_)
              conv => whnf
              refine ⟨0, sz, L, 0, 1099511627776, rfl, rfl, rfl, by decide, rfl, hs, hF, ?_⟩
              conv => whnf
              refine ⟨5, 2, sz, L, rfl, rfl, by decide, by decide, by decide, rfl, rfl, hs, hF, ?_⟩
              conv => whnf
              refine Fork.sb (fun q => absurd q hend) (fun _ => ?_)
              conv => whnf
              refine ⟨1, 3, sz, M, rfl, rfl, by decide, by decide, by decide, rfl, rfl, hs, hG, ?_⟩
              conv => whnf
              refine Fork.sb (fun q => absurd q hend) (fun _ => ?_)
              conv => whnf
              exact ⟨⟨(i + 1, L, M), hi2, hF, hG⟩, (show S.length - (i + 1) < S.length - i by omega), pls_cov (j0 := 5) (j1 := 1) (j2 := 2) (j3 := 3) (by decide) (Nat.le_refl 0) rfl rfl rfl rfl rfl (congrArg (AV.si .i64) hi1) ⟨_, rfl, chk_st⟩ ⟨_, rfl, chk_st⟩ ⟨_, rfl, rch_st⟩ ⟨_, rfl, rch_st⟩⟩
          · conv => whnf
            refine Fork.ndec (fun q => absurd hs0 q) (fun _ => ?_)
            conv => whnf
            refine ⟨0, sz, L, 0, 1099511627776, rfl, rfl, rfl, by decide, rfl, hs, hF, ?_⟩
            conv => whnf
            refine ⟨5, 2, sz, L, rfl, rfl, by decide, by decide, by decide, rfl, rfl, hs, hF, ?_⟩
            conv => whnf
            refine Fork.sb (fun q => absurd q hend) (fun _ => ?_)
            conv => whnf
            refine ⟨1, 3, sz, M, rfl, rfl, by decide, by decide, by decide, rfl, rfl, hs, hG, ?_⟩
            conv => whnf
            refine Fork.sb (fun q => absurd q hend) (fun _ => ?_)
            conv => whnf
            exact ⟨⟨(i + 1, L, M), hi2, hF, hG⟩, (show S.length - (i + 1) < S.length - i by omega), pls_cov (j0 := 5) (j1 := 1) (j2 := 2) (j3 := 3) (by decide) (Nat.le_refl 0) rfl rfl rfl rfl rfl (congrArg (AV.si .i64) hi1) ⟨_, rfl, chk_st⟩ ⟨_, rfl, chk_st⟩ ⟨_, rfl, rch_st⟩ ⟨_, rfl, rch_st⟩⟩
      · conv => whnf
        exact .inl rfl
    · conv => whnf
      exact .inl rfl
theorem w_chunkPlays (a : Int) (S : List Op4) (hS : OpsIn S) (hSl : S.length ≤ 8796093022208) : callT KPl 6 6 [.si .i64 a, .fr S.length 4 (opsC S)] .nil 0 fun v _ _ => v = .bool true ∨ v = .sb true := by
  by_cases h : a < 128 ∨ 4096 < a
  · exact plays_none a S h
  · obtain ⟨sz, rfl⟩ : ∃ sz : Nat, a = (sz : Int) := ⟨a.toNat, by omega⟩
    exact plays_some sz S (by omega) (by omega) hS hSl
end Go.Proofs.Ytpfflibkkjjlaaa
namespace Go.Proofs.Ytpfflibkkjjlaaa
end Go.Proofs.Ytpfflibkkjjlaaa
