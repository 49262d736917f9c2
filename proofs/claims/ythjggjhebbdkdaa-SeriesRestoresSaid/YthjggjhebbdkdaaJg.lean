/- Texts of our own, joined: the engine, the machine that runs code, and what is known of the functions. -/
import Derived.Test.YthjggjhebbdkdaaRows
import Derived.WalkKit
import Derived.Deep.Quiet
import Derived.ProofKit
import Derived.Laws.StructEq
import Derived.LaidEql
import Derived.Laws.BytesArg
import Derived.Maps.RangeRun
import Derived.RangeFuncSeq
import Derived.Scope
import Derived.Laws.Strings
import Derived.Laws.Strings2
import Derived.Below
import Derived.Carry
import Derived.OpenShut
import Derived.ChangeMaps5
import Derived.Deep.Slices
import Derived.Deep.SlicePairs
import Derived.SizedLaws
import Derived.Laws.BitsAllLaws
import Derived.RangeFuncRecord
import Derived.Test.YthjggjhebbdkdaaJf
set_option linter.unusedSimpArgs false
set_option linter.unusedVariables false
set_option maxHeartbeats 16000000
set_option maxRecDepth 100000
namespace Go.Proofs.Ythjggjhebbdkdaa
open Go Go.RowKit
structure RsI (X : Sr) (L : Smp) : Prop where
  ln : LnI X L
  hi : aR X ≤ max 0 X.mx
  top : ∀ x ∈ L, x.1 ≤ X.mx
theorem RsI.new (h : dD S40 []) : RsI S40 [] := ⟨⟨h, by decide, by decide, fun x hx => by cases hx⟩, by decide, fun x hx => by cases hx⟩
theorem E5 {L : Smp} (hU : Up L) {t v p m : Int} (h : ∀ x ∈ L, x.1 ≤ m) : ∀ x ∈ (cO L t v p).1, x.1 ≤ max m t := fun x hx => by
  have hu2 := pv hU t v p
  have h2 := (gV hu2).2 (show (x.1, x.2) ∈ (cO L t v p).1 from hx)
  rw [BL hU] at h2
  split at h2
  · rename_i q; omega
  · have := h _ ((gV hU).1 h2)
    dsimp only at this
    omega
theorem sT {X : Sr} (h1 : X.fl ≤ max 0 X.mx) (h2 : 0 ≤ X.ret) : aR X ≤ max 0 X.mx := by unfold aR; split <;> omega
theorem xp {X : Sr} (h1 : X.fl < 1099511627776) (h2 : 0 ≤ X.ret) (h3 : X.mx < 1099511627776) : aR X < 1099511627776 := by unfold aR; split <;> omega
theorem RsI.trim {X : Sr} {M : Smp} (hp : ∀ x ∈ M, 0 ≤ x.1) (hlt : aR X < 1099511627776) (hhi : aR X ≤ max 0 X.mx) (htop : ∀ x ∈ M, x.1 ≤ X.mx) (hk : dD (gR X M).1 (gR X M).2) : RsI (gR X M).1 (gR X M).2 :=
  ⟨Jh hp hlt hk, by show aR { X with fl := aR X } ≤ max 0 X.mx; rw [lO]; exact hhi, fun x hx => htop x (lL.1 hx).1⟩
theorem RsI.BV {X : Sr} {L : Smp} (h : RsI X L) {K T V P : Int} {X' : Sr} {L' : Smp} {e : Int} (he : bt X L K T V P = ((X', L'), e)) (hk : dD X' L') : RsI X' L' := by
  have hfl := h.ln.fl
  have hlt := h.ln.lt
  have hhi := h.hi
  have hn := h.ln.ok.num
  have hmx := hn.mx
  have hret := hn.ret
  unfold bt at he
  split at he
  · unfold gS at he
    generalize (if P = 0 then X.pol else P) = q at he
    split at he
    · cases he; exact h
    · rename_i c1
      split at he
      · cases he; exact h
      · rename_i c2
        split at he
        · have e1 : gR { X with mx := max X.mx T } (cO L T V q).1 = (X', L') := congrArg Prod.fst he
          have e2 : X' = (gR { X with mx := max X.mx T } (cO L T V q).1).1 := by rw [e1]
          have e3 : L' = (gR { X with mx := max X.mx T } (cO L T V q).1).2 := by rw [e1]
          subst e2 e3
          refine RsI.trim (fun x hx => (EV (fun y hy => (h.ln.ok.bS y hy).1) (by omega) x hx).1) (xp (by show X.fl < _; omega) hret.1 (by show max X.mx T < _; omega)) (sT (by show X.fl ≤ max 0 (max X.mx T); omega) hret.1) (E5 h.ln.ok.up h.top) hk
        · cases he; exact h
  · split at he
    · unfold kl at he
      split at he
      · rename_i c1
        have e1 : gR { X with ret := T, pol := P } L = (X', L') := congrArg Prod.fst he
        have e2 : X' = (gR { X with ret := T, pol := P } L).1 := by rw [e1]
        have e3 : L' = (gR { X with ret := T, pol := P } L).2 := by rw [e1]
        subst e2 e3
        exact RsI.trim h.ln.pos (xp (by show X.fl < _; omega) c1.1.1 hmx.2) (sT (by show X.fl ≤ max 0 X.mx; omega) c1.1.1) h.top hk
      · cases he; exact h
    · cases he
      exact ⟨h.ln.del rfl hk, h.hi, fun x hx => h.top x (lL.1 hx).1⟩
theorem Ah : ∀ {M : Smp} {a b : Int}, Up M → (∀ x ∈ M, a < x.1 ∧ x.1 ≤ b) → dK a b M = true
  | [], _, _, _, _ => rfl
  | x :: M, a, b, hU, h => by
    obtain ⟨h1, h2⟩ := List.pairwise_cons.1 hU
    obtain ⟨q1, q2⟩ := h x List.mem_cons_self
    unfold dK
    rw [Ah h2 fun y hy => ⟨h1 y hy, (h y (List.mem_cons_of_mem _ hy)).2⟩, decide_eq_true q1, decide_eq_true q2]
    rfl
theorem RsI.rest {X : Sr} {L : Smp} (h : RsI X L) : dF X X.mx (aR X) L = some X := by
  have hn := h.ln.ok.num
  have h1 := hn.mx
  have h2 := h.ln.Ji
  have h3 := h.hi
  have h4 : 0 < X.ret → X.mx - X.ret ≤ aR X := fun q => by unfold aR; split <;> omega
  have e := iw (S := X) (M := L) (most := X.mx) (line := aR X) (fun q => by unfold eH at q; omega) (Ah h.ln.ok.up fun x hx => ⟨by have := h.ln.up x hx; omega, h.top x hx⟩)
  rw [e, ← h.ln.fl]
theorem GR {σ : AE} {H : AH} {κ : AV → Prop} {ty r : TypeId} {x y : Operand} {a' b' c' d' : Int} {c d : AV} (hp : eo Try.prog ty = some [(0, 0), (0, 1)]) (hx : eev σ x = .agg [.si .i64 a', .si .i64 b']) (hy : eev σ y = .agg [c, d]) (hc : hd c = .int .i64 c') (hd' : hd d = .int .i64 d') (K : κ (.sb (!(decide (a' = c') && (decide (b' = d') && true))))) : qP (.binOp .neq ty x y r) σ H κ := by
  show vz .neq ty (eev σ x) (eev σ y) H κ
  rw [hx, hy]
  show bU (oT Try.prog .neq ty (.agg [.int .i64 a', .int .i64 b']) (.agg [hd c, hd d]) H) _
  rw [hc, hd']
  exact ao (oa hp) K
def GS : DT := [(3, [(some 0, [10]), (some 0, [11]), (some 0, [24]), (some 0, [23, 25]), (some 0, [26]), (some 0, [11, 27]), (some 0, [28, 27]), (some 0, [29, 27]), (some 0, [9, 30]), (some 0, [1, 30]), (some 0, [32, 30]), (some 0, [33, 30]), (some 0, [34, 30]), (some 0, [11, 30]), (some 0, [36, 30]), (some 0, [35, 37, 30]), (some 0, [38, 30]), (some 0, [31, 39, 30]), (some 0, [30, 40, 27]), (some 0, [27, 41]), (some 0, [42]), (some 0, [11, 43]), (some 0, [44, 43]), (some 0, [45, 43]), (some 0, [9, 46]), (some 0, [46]), (some 0, [47, 48, 46]), (some 0, [46, 49, 43]), (some 0, [43, 50])]),
  (6, [(some 0, [0]), (none, [56]), (some 1, [1]), (some 2, [58]), (some 3, [59]), (some 4, [60]), (some 0, [57, 61]), (some 0, [62]), (some 0, [0, 63]), (none, [64, 63]), (some 1, [1, 63]), (none, [66, 63]), (some 0, [65, 67, 63]), (some 0, [63, 68]), (some 0, [69]), (some 0, [0, 70]), (none, [71, 70]), (some 1, [11, 70]), (some 0, [72, 73, 70]), (some 0, [70, 74]), (some 0, [75]), (some 0, [0, 76]), (none, [77, 76]), (some 1, [1, 76]), (some 2, [79, 76]), (some 3, [80, 76]), (some 4, [81, 76]), (some 0, [78, 82, 76]), (some 0, [76, 83]), (some 0, [84]), (some 0, [0, 85]), (none, [86, 85]), (some 1, [1, 85]), (some 2, [88, 85]), (some 3, [89, 85]), (some 4, [90, 85]), (some 0, [87, 91, 85]), (some 0, [85, 92]), (some 0, [93]), (some 0, [0, 94]), (some 0, [2, 94]), (some 0, [3, 94]), (none, [95, 96, 97, 94]), (some 1, [12, 94]), (none, [98, 99, 94]), (some 0, [94, 100]), (some 0, [101]), (some 0, [0, 102]), (some 0, [2, 102]), (some 0, [3, 102]), (none, [103, 104, 105, 102]), (some 1, [12, 102]), (none, [107, 102]), (none, [106, 108, 102]), (some 0, [102, 109]), (some 0, [110]), (some 0, [0, 111]), (none, [112, 111]), (some 1, [1, 111]), (some 2, [114, 111]), (some 3, [115, 111]), (some 4, [116, 111]), (none, [113, 117, 111]), (some 0, [111, 118]), (some 63, [119])])]
noncomputable def GU : FuncId → EP := bK 21 GS (cq 59 rz (a9 58 uM (cq 17 xm KSq)))
theorem GV : bG GU := aL (aY (aw (aY yG E3 Jl) Jt) KV Jr) (by kernel_rfl) (by kernel_rfl)
def SaP (p : Nat × Nat) (S : Sr) (L : Smp) : PK := fun u H' _ => u = .sb true ∧ PM.get H' 0 = some (.sep (dy p S L)) ∧ PM.get H' 1 = some (.cells (iO S 2 L) true) ∧ PM.get H' 2 = some (.cells (smp L) true)
noncomputable def saM (p : Nat × Nat) (S : Sr) (L : Smp) : AH := mkH [(0, .sep (dy p S L)), (1, .cells (iO S 2 L) true), (2, .cells (smp L) true)]
theorem BW (p : Nat × Nat) (S : Sr) (L : Smp) (a c : Int) (hk : dD S L) (hl : L.length ≤ 40000) (hne : 0 < L.length) : az GU 4 21 [bW p, .ptr 1 0, .si .i64 a, .si .i64 c] (saM p S L) 3 (SaP p S L) := by
  have hU := hk.up
  have hn := hk.num
  have hLE : (aH a c L).length ≤ 1000000 := Nat.le_trans (List.length_filter_le _ _) (Nat.le_trans hl (by decide))
  have hrev : (aH a c L).length = (aH a c L).reverse.length := List.length_reverse.symm
  have hall : aH 0 1099511627776 L = L := gC fun x hx => ⟨(hk.bS x hx).1.1, Int.le_of_lt (hk.bS x hx).1.2⟩
  have hpos : (0 : Int) < (L.length : Int) := by omega
  have hnz : ¬ (L.length : Int) = 0 := by omega
  have hlw : IntKind.i64.wrap ((L.length : Int) - 1) = ((L.length - 1 : Nat) : Int) := by rw [al (by omega) (by omega)]; omega
  have hlp : L.length - 1 < L.length := by omega
  have hC : (decide (tAt L (L.length - 1) = L[L.length - 1].1) && (decide (vAt L (L.length - 1) = L[L.length - 1].2) && true)) = true := by
    unfold tAt vAt
    rw [List.getElem?_eq_getElem hlp]
    simp
  conv => whnf
  refine ⟨0, p, S, L, lZ L, rfl, by decide, rfl, ⟨by decide, rfl, rfl, rfl, rfl⟩, ⟨rfl, rfl⟩, ?_⟩
  conv => whnf
  refine ag.nsb (fun z => absurd z (by simp)) (fun _ => ?_)
  conv => whnf
  refine ag.dec (fun _ => ?_) (fun z => absurd hpos z)
  conv => whnf
  refine Idx.mk (L.length - 1) hlw hlp ?_
  conv => whnf
  refine ao (bT hlp (show 0 + (L.length - 1) * 2 = (L.length - 1) * 2 from Nat.zero_add _)) ?_
  refine rm (v := .sb (!(decide (tAt L (L.length - 1) = L[L.length - 1].1) && (decide (vAt L (L.length - 1) = L[L.length - 1].2) && true)))) rfl rfl rfl rfl rfl (fun κ h => GR uC rfl rfl rfl rfl h) ?_
  conv => whnf
  refine ag.nsb (fun z => absurd (hC.symm.trans z) (by decide)) (fun _ => ?_)
  conv => whnf
  refine ag.dec (fun z => absurd z hnz) (fun _ => ?_)
  conv => whnf
  refine ⟨1, 2, S, L, a, c, rfl, ⟨by decide, ⟨by decide, by decide⟩, rfl, rfl⟩, rfl, rfl, by omega, by decide, rfl, ?_⟩
  conv => whnf
  refine ⟨0, p, S, L, .si .i64 S.mx, rfl, by decide, rfl, ⟨by decide, rfl, rfl, rfl, rfl⟩, ⟨rfl, rfl⟩, ?_⟩
  conv => whnf
  refine ag.dec (fun _ => ?_) (fun z => absurd rfl z)
  conv => whnf
  refine ⟨0, p, S, L, .si .i64 (aR S), rfl, by decide, rfl, ⟨by decide, rfl, rfl, rfl, rfl⟩, ⟨rfl, rfl⟩, ?_⟩
  conv => whnf
  refine ⟨1, 2, S, L, rfl, ⟨by decide, ⟨by decide, by decide⟩, rfl, rfl⟩, hn.ret, hn.mx, ?_⟩
  conv => whnf
  refine ag.dec (fun _ => ?_) (fun z => absurd rfl z)
  conv => whnf
  refine ⟨0, p, S, L, .si .i64 (L.length : Int), rfl, by decide, rfl, ⟨by decide, rfl, rfl, rfl, rfl⟩, ⟨rfl, rfl⟩, ?_⟩
  conv => whnf
  refine ag.dec (fun _ => ?_) (fun z => absurd rfl z)
  conv => whnf
  refine ⟨0, p, S, L, .si .i64 S.ret, rfl, by decide, rfl, ⟨by decide, rfl, rfl, rfl, rfl⟩, ⟨rfl, rfl⟩, ?_⟩
  conv => whnf
  refine ag.dec (fun _ => ?_) (fun z => absurd rfl z)
  conv => whnf
  refine ⟨0, p, S, L, .si .i64 S.pol, rfl, by decide, rfl, ⟨by decide, rfl, rfl, rfl, rfl⟩, ⟨rfl, rfl⟩, ?_⟩
  conv => whnf
  refine ag.dec (fun _ => ?_) (fun z => absurd rfl z)
  conv => whnf
  refine ⟨0, p, S, L, aH a c L, rfl, by decide, rfl, ⟨by decide, rfl, rfl, rfl, rfl⟩, ⟨_, _, a, c, rfl, rfl, rfl, rfl⟩, ?_⟩
  conv => whnf
  refine ⟨aH a c L, aH a c L, cF.jG rfl rfl, cF.jG rfl rfl, hLE, hLE, ?_⟩
  conv => whnf
  refine ag.sb (fun _ => ?_) (fun z => absurd ((fh _).symm.trans z) (by decide))
  conv => whnf
  refine ⟨0, p, S, L, (aH a c L).reverse, rfl, by decide, rfl, ⟨by decide, rfl, rfl, rfl, rfl⟩, ⟨_, _, a, c, rfl, rfl, rfl, rfl⟩, ?_⟩
  conv => whnf
  refine ⟨aH a c L, cF.jG rfl rfl, hLE, ⟨by decide, rfl, rfl⟩, ?_⟩
  conv => whnf
  refine ⟨(aH a c L).reverse, (aH a c L).reverse, cF.jG rfl rfl, cF.jG (congrArg (fun q => AV.rw 32 0 q 2 0) hrev) rfl, hrev ▸ hLE, hrev ▸ hLE, ?_⟩
  conv => whnf
  refine ag.sb (fun _ => ?_) (fun z => absurd ((fh _).symm.trans z) (by decide))
  conv => whnf
  refine ⟨0, p, S, L, L, rfl, by decide, rfl, ⟨by decide, rfl, rfl, rfl, rfl⟩, ⟨_, _, 0, 1099511627776, rfl, rfl, rfl, hall.symm⟩, ?_⟩
  conv => whnf
  refine ⟨L, L, cF.jG rfl rfl, cF.jG rfl rfl, by omega, by omega, ?_⟩
  conv => whnf
  exact ⟨congrArg AV.sb (fh _), rfl, rfl, rfl⟩
theorem BX (p : Nat × Nat) (S : Sr) (a c : Int) (hk : dD S []) : az GU 4 21 [bW p, .ptr 1 0, .si .i64 a, .si .i64 c] (saM p S []) 3 (SaP p S []) := by
  have hl : ([] : Smp).length ≤ 40000 := by decide
  have hU := hk.up
  have hn := hk.num
  have hLE : (aH a c ([] : Smp)).length ≤ 1000000 := Nat.le_trans (List.length_filter_le _ _) (Nat.le_trans hl (by decide))
  have hrev : (aH a c ([] : Smp)).length = (aH a c ([] : Smp)).reverse.length := List.length_reverse.symm
  have hall : aH 0 1099511627776 ([] : Smp) = [] := gC fun x hx => ⟨(hk.bS x hx).1.1, Int.le_of_lt (hk.bS x hx).1.2⟩
  conv => whnf
  refine ⟨0, p, S, [], lZ [], rfl, by decide, rfl, ⟨by decide, rfl, rfl, rfl, rfl⟩, ⟨rfl, rfl⟩, ?_⟩
  conv => whnf
  refine ag.nsb (fun z => absurd z (by decide)) (fun _ => ?_)
  conv => whnf
  refine ag.dec (fun z => absurd z (by decide)) (fun _ => ?_)
  conv => whnf
  refine ag.dec (fun _ => ?_) (fun z => absurd rfl z)
  conv => whnf
  refine ao (oa uC) ?_
  conv => whnf
  refine ag.nsb (fun z => absurd z (by decide)) (fun _ => ?_)
  conv => whnf
  refine ⟨1, 2, S, [], a, c, rfl, ⟨by decide, ⟨by decide, by decide⟩, rfl, rfl⟩, rfl, rfl, by omega, by decide, rfl, ?_⟩
  conv => whnf
  refine ⟨0, p, S, [], .si .i64 S.mx, rfl, by decide, rfl, ⟨by decide, rfl, rfl, rfl, rfl⟩, ⟨rfl, rfl⟩, ?_⟩
  conv => whnf
  refine ag.dec (fun _ => ?_) (fun z => absurd rfl z)
  conv => whnf
  refine ⟨0, p, S, [], .si .i64 (aR S), rfl, by decide, rfl, ⟨by decide, rfl, rfl, rfl, rfl⟩, ⟨rfl, rfl⟩, ?_⟩
  conv => whnf
  refine ⟨1, 2, S, [], rfl, ⟨by decide, ⟨by decide, by decide⟩, rfl, rfl⟩, hn.ret, hn.mx, ?_⟩
  conv => whnf
  refine ag.dec (fun _ => ?_) (fun z => absurd rfl z)
  conv => whnf
  refine ⟨0, p, S, [], .si .i64 (([] : Smp).length : Int), rfl, by decide, rfl, ⟨by decide, rfl, rfl, rfl, rfl⟩, ⟨rfl, rfl⟩, ?_⟩
  conv => whnf
  refine ag.dec (fun _ => ?_) (fun z => absurd rfl z)
  conv => whnf
  refine ⟨0, p, S, [], .si .i64 S.ret, rfl, by decide, rfl, ⟨by decide, rfl, rfl, rfl, rfl⟩, ⟨rfl, rfl⟩, ?_⟩
  conv => whnf
  refine ag.dec (fun _ => ?_) (fun z => absurd rfl z)
  conv => whnf
  refine ⟨0, p, S, [], .si .i64 S.pol, rfl, by decide, rfl, ⟨by decide, rfl, rfl, rfl, rfl⟩, ⟨rfl, rfl⟩, ?_⟩
  conv => whnf
  refine ag.dec (fun _ => ?_) (fun z => absurd rfl z)
  conv => whnf
  refine ⟨0, p, S, [], aH a c [], rfl, by decide, rfl, ⟨by decide, rfl, rfl, rfl, rfl⟩, ⟨_, _, a, c, rfl, rfl, rfl, rfl⟩, ?_⟩
  conv => whnf
  refine ⟨aH a c [], aH a c [], cF.jG rfl rfl, cF.jG rfl rfl, hLE, hLE, ?_⟩
  conv => whnf
  refine ag.sb (fun _ => ?_) (fun z => absurd ((fh _).symm.trans z) (by decide))
  conv => whnf
  refine ⟨0, p, S, [], (aH a c []).reverse, rfl, by decide, rfl, ⟨by decide, rfl, rfl, rfl, rfl⟩, ⟨_, _, a, c, rfl, rfl, rfl, rfl⟩, ?_⟩
  conv => whnf
  refine ⟨aH a c [], cF.jG rfl rfl, hLE, ⟨by decide, rfl, rfl⟩, ?_⟩
  conv => whnf
  refine ⟨(aH a c []).reverse, (aH a c []).reverse, cF.jG rfl rfl, cF.jG (congrArg (fun q => AV.rw 32 0 q 2 0) hrev) rfl, hrev ▸ hLE, hrev ▸ hLE, ?_⟩
  conv => whnf
  refine ag.sb (fun _ => ?_) (fun z => absurd ((fh _).symm.trans z) (by decide))
  conv => whnf
  refine ⟨0, p, S, [], [], rfl, by decide, rfl, ⟨by decide, rfl, rfl, rfl, rfl⟩, ⟨_, _, 0, 1099511627776, rfl, rfl, rfl, hall.symm⟩, ?_⟩
  conv => whnf
  refine ⟨[], [], cF.jG rfl rfl, cF.jG rfl rfl, by omega, by omega, ?_⟩
  conv => whnf
  exact ⟨congrArg AV.sb (fh _), rfl, rfl, rfl⟩
theorem BY (p : Nat × Nat) (S : Sr) (L : Smp) (a c : Int) (hk : dD S L) (hl : L.length ≤ 40000) : az GU 4 21 [bW p, .ptr 1 0, .si .i64 a, .si .i64 c] (saM p S L) 3 (SaP p S L) := by
  cases L with
  | nil => exact BX p S a c hk
  | cons x L => exact BW p S (x :: L) a c hk hl (Nat.succ_pos _)
def rA (args : List AV) (H : AH) (n : Nat) (κ : PK) : Prop := match args with
  | [x, y, z, w] => ∃ (b r k : Nat) (p : Nat × Nat) (S : Sr) (L : Smp) (a c : Int), x = bW p ∧ b < n ∧ PM.get H b = some (.sep (dy p S L)) ∧ y = .ptr r 0 ∧ Ag H n r k S L ∧ mk z = .si .i64 a ∧ mk w = .si .i64 c ∧ dD S L ∧ L.length ≤ 40000 ∧ κ (.sb true) H n
  | _ => False
theorem GW : aF 21 rA := fun args H n κ hs φ h0' hp vs K hr hargs hk => by
  unfold rA at hs
  split at hs
  · obtain ⟨b, r, k, p, S, L, a, c, rfl, hbn, hb, rfl, hR, hz, hw, hok, hl, hs⟩ := hs
    obtain ⟨w1, us1, q1, e1, r1⟩ := hargs.cons_inv
    obtain ⟨w2, us2, q2, e2, r2⟩ := r1.cons_inv
    obtain ⟨w3, us3, q3, e3, r3⟩ := r2.cons_inv
    obtain ⟨w4, us4, q4, e4, r4⟩ := r3.cons_inv
    have hbr : b ≠ r := fun q => by rw [q, hR.hr] at hb; cases hb
    have hbk : b ≠ k := fun q => by rw [q, hR.hk] at hb; cases hb
    refine cw (S := [b, r, k]) (O := [.sep (dy p S L), .cells (iO S 2 L) true, .cells (smp L) true]) (args0 := [bW p, .ptr 1 0, .si .i64 a, .si .i64 c]) (aB GV 4 _) (by kernel_rfl) hr ⟨by simp [hbr, hbk, hR.ne], rfl, fun i s o h1 h2 => ?_⟩ (by rw [q1, q2, q3, q4, r4.aW]; exact .cons e1 (.cons e2 (.cons (aA rfl (hz ▸ e3.mk)) (.cons (aA rfl (hw ▸ e4.mk)) .nil)))) hk (BY p S L a c hok hl) fun u H' n' ⟨g1, g2, g3, g4⟩ => ?_
    · match i, h1, h2 with
      | 0, h1, h2 => injection h1 with h1; injection h2 with h2; subst h1 h2; exact ⟨hbn, hb, .inr rfl⟩
      | 1, h1, h2 => injection h1 with h1; injection h2 with h2; subst h1 h2; exact ⟨hR.lt.1, hR.hr, .inr rfl⟩
      | 2, h1, h2 => injection h1 with h1; injection h2 with h2; subst h1 h2; exact ⟨hR.lt.2, by rw [ck, il]; exact hR.hk, .inr rfl⟩
    · subst g1
      refine ⟨3, H, Nat.le_refl _, cG.same fun i s o h3 h4 _ => ?_, rfl, hs⟩
      match i, h3 with
      | 0, h3 =>
        injection h3 with h3; subst h3
        rw [hb] at h4; injection h4 with h4; subst h4
        exact ⟨_, g2, rfl, rfl, rfl⟩
      | 1, h3 =>
        injection h3 with h3; subst h3
        rw [hR.hr] at h4; injection h4 with h4; subst h4
        exact ⟨_, g3, rfl, rfl, rfl⟩
      | 2, h3 =>
        injection h3 with h3; subst h3
        rw [hR.hk] at h4; injection h4 with h4; subst h4
        exact ⟨_, g4, rfl, mM _ _, by rw [ck, il]⟩
  · exact hs.elim
theorem xq : az BM 5 19 [.nil, .int .i64 0, .int .i64 0, .nsl] .nil 0 fun u _ _ => u = .tup [.nil, .int .i64 11] := by
  conv => whnf
  rfl
def xr (args : List AV) (H : AH) (n : Nat) (κ : PK) : Prop := rq args H n κ ∨ (args = [.nil, .int .i64 0, .int .i64 0, .nsl] ∧ κ (.tup [.nil, .int .i64 11]) H n)
theorem GX : aF 19 xr := fun args H n κ hs φ h0' hp vs K hr hargs hk => by
  rcases hs with hs | ⟨rfl, hs⟩
  · exact GJ args H n κ hs φ h0' hp vs K hr hargs hk
  · obtain ⟨w1, us1, q1, e1, r1⟩ := hargs.cons_inv
    obtain ⟨w2, us2, q2, e2, r2⟩ := r1.cons_inv
    obtain ⟨w3, us3, q3, e3, r3⟩ := r2.cons_inv
    obtain ⟨w4, us4, q4, e4, r4⟩ := r3.cons_inv
    refine cw (S := []) (O := []) (args0 := [.nil, .int .i64 0, .int .i64 0, .nsl]) (aB uL 5 _) (by kernel_rfl) hr ⟨List.nodup_nil, rfl, fun i s o h => by simp at h⟩ (by rw [q1, q2, q3, q4, r4.aW]; exact .cons (aA rfl e1) (.cons (aA rfl e2) (.cons (aA rfl e3) (.cons (aA rfl e4) .nil)))) hk xq fun u H' n' g => ?_
    subst g
    exact ⟨0, H, Nat.le_refl _, cG.same fun i s o h3 => by simp at h3, rfl, hs⟩
end Go.Proofs.Ythjggjhebbdkdaa
namespace Go.Proofs.Ythjggjhebbdkdaa
open Go Go.RowKit
def KX : DT := [(20, [(some 1000000, [5, 10]), (none, [0, 1, 2, 3, 4, 5, 6, 7, 8, 9, 10, 11, 12]), (none, [0, 1, 2, 3, 4, 6, 7, 8, 9, 10, 5, 11, 12])])]
noncomputable def KY : FuncId → EP := bK 4 KX (a9 19 xr (a9 21 rA (a9 22 (ff KQ) (a9 23 rr (a9 20 yK KOr)))))
theorem GY : bG KY := aL (aw (aw (aw (aw (aw Je KS) GL) E1) GW) GX) (by kernel_rfl) (by kernel_rfl)
noncomputable def GZ (M : List Op4) (va : Nat × Nat) (X : Sr) (L : Smp) (i : Nat) : AE × AH := (mkE [(0, .fr M.length 4 (jq M)), (7, bW va), (15, .si .i64 (((min M.length 60 : Nat) : Int))), (16, .si .i64 ((i : Int)))], mkH [(1, .sep (dy va X L))])
theorem nG {M : List Op4} {va : Nat × Nat} {X : Sr} {L : Smp} {i : Nat} {p n : Nat} {σ : AE} {H : AH} (hp : p ≤ 0) (e0 : ay (pa 0) σ = .fr M.length 4 (jq M)) (e7 : ay (pa 7) σ = bW va) (e15 : mk (ay (pa 15) σ) = .si .i64 (((min M.length 60 : Nat) : Int))) (e16 : mk (ay (pa 16) σ) = .si .i64 ((i : Int))) (h1 : H.get 1 = some (.sep (dy va X L))) : Cov p σ H n ((GZ M va X L i).1, (GZ M va X L i).2, 2) := by
  refine Cov.ofR (fun b => b) (by omega) (fun b hb => rfl) ?_ ?_ ?_
  · intro x hx
    simp only [List.mem_cons, List.not_mem_nil, or_false] at hx
    rcases hx with rfl | rfl | rfl | rfl
    · exact ae.frE e0
    · exact ae.bW e7
    · exact .int e15
    · exact .int e16
  · intro x hx
    simp only [List.mem_cons, List.not_mem_nil, or_false] at hx
    subst hx
    exact ⟨by simp, .inl ⟨_, h1, aO.sep _⟩⟩
  · intro x hx y hy
    simp only [List.mem_cons, List.not_mem_nil, or_false] at hx hy
    subst hx hy
    exact fun q => rfl
noncomputable def G0 (M : List Op4) (va vb : Nat × Nat) (X : Sr) (L : Smp) (i : Nat) : AE × AH := (mkE [(0, .fr M.length 4 (jq M)), (7, bW va), (15, .si .i64 (((min M.length 60 : Nat) : Int))), (17, bW vb), (19, .si .i64 ((i : Int)))], mkH [(1, .sep (dy va X L)), (12, .sep (dy vb X L))])
theorem jK {M : List Op4} {va vb : Nat × Nat} {X : Sr} {L : Smp} {i : Nat} {p n : Nat} {σ : AE} {H : AH} (hp : p ≤ 0) (e0 : ay (pa 0) σ = .fr M.length 4 (jq M)) (e7 : ay (pa 7) σ = bW va) (e15 : mk (ay (pa 15) σ) = .si .i64 (((min M.length 60 : Nat) : Int))) (e17 : ay (pa 17) σ = bW vb) (e19 : mk (ay (pa 19) σ) = .si .i64 ((i : Int))) (h1 : H.get 1 = some (.sep (dy va X L))) (h12 : H.get 12 = some (.sep (dy vb X L))) : Cov p σ H n ((G0 M va vb X L i).1, (G0 M va vb X L i).2, 13) := by
  refine Cov.ofR (fun b => b) (by omega) (fun b hb => rfl) ?_ ?_ ?_
  · intro x hx
    simp only [List.mem_cons, List.not_mem_nil, or_false] at hx
    rcases hx with rfl | rfl | rfl | rfl | rfl
    · exact ae.frE e0
    · exact ae.bW e7
    · exact .int e15
    · exact ae.bW e17
    · exact .int e19
  · intro x hx
    simp only [List.mem_cons, List.not_mem_nil, or_false] at hx
    rcases hx with rfl | rfl
    · exact ⟨by simp, .inl ⟨_, h1, aO.sep _⟩⟩
    · exact ⟨by simp, .inl ⟨_, h12, aO.sep _⟩⟩
  · intro x hx y hy
    simp only [List.mem_cons, List.not_mem_nil, or_false] at hx hy
    rcases hx with rfl | rfl <;> rcases hy with rfl | rfl <;> simp <;> omega
theorem om (M : List Op4) (p0 p1 : Int) (Q : Smp) (hM : DQ M) (hl : M.length ≤ 8796093022208) (h0 : aM p0) (h1 : aM p1) (hQ : ∀ x ∈ Q, aM x.1 ∧ aM x.2) (hq : Q.length ≤ 8796093022208) : az KY 6 4 [.fr M.length 4 (jq M), .agg [.si .i64 p0, .si .i64 p1], .fr Q.length 2 (smp Q)] .nil 0 fun v _ _ => v = .bool true ∨ v = .sb true := by
  have hmin : (min (M.length : Int) 60) = ((min M.length 60 : Nat) : Int) := by omega
  have hquo : IntKind.i64.wrap (((min M.length 60 : Nat) : Int).tdiv 2) = ((min M.length 60 / 2 : Nat) : Int) := by
    have e : ((min M.length 60 : Nat) : Int).tdiv 2 = ((min M.length 60 / 2 : Nat) : Int) := rfl
    rw [e, al (by omega) (by omega)]
  have hcase : dF S40 p0 p1 Q = none ∨ dF S40 p0 p1 Q = some ⟨128, 40, 3, p0, p1⟩ := by
    unfold dF
    split
    · exact .inl rfl
    · split
      · exact .inr rfl
      · exact .inl rfl
  conv => whnf
  refine ⟨128, 40, 3, some S40, rfl, rfl, rfl, ⟨by decide, rfl, rfl, rfl, rfl⟩, if_pos (by decide), fun va hs => ?_⟩
  conv => whnf
  refine ag.dec (fun h60 => ?_) (fun h60 => ?_)
  focus
    conv => whnf
    exact .inr rfl
  have hQl : Q.length ≤ 60 := by
    have h60 : ¬ (60 : Int) < (Q.length : Int) := h60
    omega
  refine hcase.elim (fun hr => ?_) (fun hr => ?_)
  focus
    conv => whnf
    refine .inl ?_
    conv => whnf
    refine ⟨1, va, S40, [], p0, p1, Q, none, rfl, by decide, rfl, ⟨by decide, rfl, rfl, rfl, rfl⟩, ⟨by decide, rfl, rfl, rfl, rfl⟩, rfl, rfl, .inl rfl, hQ, by omega, h0, h1, hr, ?_⟩
    conv => whnf
    refine ⟨6, p0, p1, Q, none, rfl, by decide, rfl, by decide, rfl, rfl, rfl, rfl, rfl, by omega, h0, h1, hr, ?_⟩
    conv => whnf
    refine bg.mk { x : Nat × Sr × Smp // x.1 ≤ min M.length 60 / 2 ∧ RsI x.2.1 x.2.2 ∧ x.2.2.length ≤ x.1 } 2 (fun x => GZ M va x.val.2.1 x.val.2.2 x.val.1) (fun x => 60 - x.val.1) ⟨(0, S40, []), Nat.zero_le _, RsI.new hs, Nat.le_refl _⟩ ?_ ?_
    focus
      exact nG (i := 0) (Nat.le_refl _) rfl rfl (congrArg (AV.si .i64) hmin) rfl rfl
    intro ⟨(i, X, L), hi, hI, hil⟩
    dsimp only at hi hI hil
    have hlen : L.length ≤ 40000 := by omega
    have hall : aH 0 1099511627776 L = L := gC fun x hx => ⟨(hI.ln.ok.bS x hx).1.1, Int.le_of_lt (hI.ln.ok.bS x hx).1.2⟩
    have hw : IntKind.i64.wrap ((i : Int) + 1) = ((i + 1 : Nat) : Int) := by rw [al (by omega) (by omega)]; omega
    conv => whnf
    refine ag.dec (fun h => ?_) (fun h => ?_)
    focus
      have g3 : i < min M.length 60 / 2 := Int.ofNat_lt.1 (show (i : Int) < ((min M.length 60 / 2 : Nat) : Int) by rw [← hquo]; exact h)
      have g2 : i < M.length := by omega
      have hop := (hM _ (List.getElem_mem g2)).2.2.1
      have hl2 := lP X L M[i].1 M[i].2.1 M[i].2.2.1 M[i].2.2.2
      conv => whnf
      refine Idx.mk i rfl g2 ?_
      conv => whnf
      refine ao (eE g2 rfl) ?_
      conv => whnf
      refine ⟨1, va, X, L, M[i].1, M[i].2.1, M[i].2.2.1, M[i].2.2.2, (bt X L M[i].1 M[i].2.1 M[i].2.2.1 M[i].2.2.2).1.1, (bt X L M[i].1 M[i].2.1 M[i].2.2.1 M[i].2.2.2).1.2, (bt X L M[i].1 M[i].2.1 M[i].2.2.1 M[i].2.2.2).2, rfl, rfl, by decide, rfl, hop, hlen, rfl, fun hk => ?_⟩
      have hI2 := hI.BV (K := M[i].1) (T := M[i].2.1) (V := M[i].2.2.1) (P := M[i].2.2.2) rfl hk
      conv => whnf
      exact ⟨⟨(i + 1, (bt X L M[i].1 M[i].2.1 M[i].2.2.1 M[i].2.2.2).1.1, (bt X L M[i].1 M[i].2.1 M[i].2.2.1 M[i].2.2.2).1.2), g3, hI2, by dsimp only; omega⟩, by show 60 - (i + 1) < 60 - i; omega, nG (Nat.le_refl _) rfl rfl rfl (congrArg (AV.si .i64) hw) rfl⟩
    have hrest := hI.rest
    have hin : ∀ x ∈ L, aM x.1 ∧ aM x.2 := fun x hx => ⟨⟨by have := (hI.ln.ok.bS x hx).1; omega, by have := (hI.ln.ok.bS x hx).1; omega⟩, (hI.ln.ok.bS x hx).2⟩
    have hm64 : aM X.mx := ⟨by have := hI.ln.ok.num.mx; omega, by have := hI.ln.ok.num.mx; omega⟩
    have hl64 : aM (aR X) := ⟨by have := hI.ln.Ji; omega, by have := hI.ln.lt; omega⟩
    conv => whnf
    refine ⟨1, va, X, L, .si .i64 X.mx, rfl, by decide, rfl, ⟨by decide, rfl, rfl, rfl, rfl⟩, ⟨rfl, rfl⟩, ?_⟩
    conv => whnf
    refine ⟨1, va, X, L, .si .i64 (aR X), rfl, by decide, rfl, ⟨by decide, rfl, rfl, rfl, rfl⟩, ⟨rfl, rfl⟩, ?_⟩
    conv => whnf
    refine ⟨1, va, X, L, L, rfl, by decide, rfl, ⟨by decide, rfl, rfl, rfl, rfl⟩, ⟨_, _, 0, 1099511627776, rfl, rfl, rfl, hall.symm⟩, ?_⟩
    conv => whnf
    refine .inl ?_
    conv => whnf
    refine ⟨1, va, X, L, X.mx, aR X, L, some X, rfl, by decide, rfl, ⟨by decide, rfl, rfl, rfl, rfl⟩, ⟨by decide, rfl, rfl, rfl, rfl⟩, rfl, rfl, .inr (cF.jG rfl rfl), hin, hlen, hm64, hl64, hrest, fun vb hs3 => ?_⟩
    clear hm64 hl64
    conv => whnf
    refine bg.mk { x : Nat × Sr × Smp // x.1 ≤ min M.length 60 ∧ RsI x.2.1 x.2.2 ∧ x.2.2.length ≤ x.1 } 13 (fun x => G0 M va vb x.val.2.1 x.val.2.2 x.val.1) (fun x => 60 - x.val.1) ⟨(min M.length 60 / 2, X, L), by dsimp only; omega, hI, by dsimp only; omega⟩ ?_ ?_
    focus
      exact jK (i := min M.length 60 / 2) (Nat.le_refl _) rfl rfl rfl rfl (congrArg (AV.si .i64) hquo) rfl rfl
    clear hin hs3 hall hlen hil hI hi h hw hrest
    clear X L i
    intro ⟨(i, X, L), hi, hI, hil⟩
    dsimp only at hi hI hil
    have hlen : L.length ≤ 40000 := by omega
    have hall : aH 0 1099511627776 L = L := gC fun x hx => ⟨(hI.ln.ok.bS x hx).1.1, Int.le_of_lt (hI.ln.ok.bS x hx).1.2⟩
    have hw : IntKind.i64.wrap ((i : Int) + 1) = ((i + 1 : Nat) : Int) := by rw [al (by omega) (by omega)]; omega
    conv => whnf
    refine ag.dec (fun h => ?_) (fun h => ?_)
    focus
      have g3 : i < min M.length 60 := Int.ofNat_lt.1 h
      have g2 : i < M.length := by omega
      have hop := (hM _ (List.getElem_mem g2)).2.2.1
      have hl2 := lP X L M[i].1 M[i].2.1 M[i].2.2.1 M[i].2.2.2
      conv => whnf
      refine ⟨?_, ?_, trivial⟩
      focus
        conv => whnf
        refine Idx.mk i rfl g2 ?_
        conv => whnf
        refine ao (eE g2 rfl) ?_
        conv => whnf
        refine ⟨1, va, X, L, M[i].1, M[i].2.1, M[i].2.2.1, M[i].2.2.2, (bt X L M[i].1 M[i].2.1 M[i].2.2.1 M[i].2.2.2).1.1, (bt X L M[i].1 M[i].2.1 M[i].2.2.1 M[i].2.2.2).1.2, (bt X L M[i].1 M[i].2.1 M[i].2.2.1 M[i].2.2.2).2, rfl, rfl, by decide, rfl, hop, hlen, rfl, fun hk => ?_⟩
        conv => whnf
        refine Idx.mk i rfl g2 ?_
        conv => whnf
        refine ao (eE g2 rfl) ?_
        conv => whnf
        refine ⟨12, vb, X, L, M[i].1, M[i].2.1, M[i].2.2.1, M[i].2.2.2, (bt X L M[i].1 M[i].2.1 M[i].2.2.1 M[i].2.2.2).1.1, (bt X L M[i].1 M[i].2.1 M[i].2.2.1 M[i].2.2.2).1.2, (bt X L M[i].1 M[i].2.1 M[i].2.2.1 M[i].2.2.2).2, rfl, rfl, by decide, rfl, hop, hlen, rfl, fun hk => ?_⟩
        conv => whnf
        refine ag.dB (fun z => absurd rfl z) (fun _ => ?_)
        have hI2 := hI.BV (K := M[i].1) (T := M[i].2.1) (V := M[i].2.2.1) (P := M[i].2.2.2) rfl hk
        conv => whnf
        exact ⟨⟨(i + 1, (bt X L M[i].1 M[i].2.1 M[i].2.2.1 M[i].2.2.2).1.1, (bt X L M[i].1 M[i].2.1 M[i].2.2.1 M[i].2.2.2).1.2), g3, hI2, by dsimp only; omega⟩, by show 60 - (i + 1) < 60 - i; omega, jK (Nat.le_refl _) rfl rfl rfl rfl (congrArg (AV.si .i64) hw) rfl rfl⟩
      conv => whnf
      refine Idx.mk i rfl g2 ?_
      conv => whnf
      refine ao (eE g2 rfl) ?_
      conv => whnf
      refine Idx.mk i rfl g2 ?_
      conv => whnf
      refine ao (eE g2 rfl) ?_
      conv => whnf
      refine ⟨1, va, X, L, M[i].1, M[i].2.1, M[i].2.2.1, M[i].2.2.2, (bt X L M[i].1 M[i].2.1 M[i].2.2.1 M[i].2.2.2).1.1, (bt X L M[i].1 M[i].2.1 M[i].2.2.1 M[i].2.2.2).1.2, (bt X L M[i].1 M[i].2.1 M[i].2.2.1 M[i].2.2.2).2, rfl, rfl, by decide, rfl, hop, hlen, rfl, fun hk => ?_⟩
      conv => whnf
      refine ⟨12, vb, X, L, M[i].1, M[i].2.1, M[i].2.2.1, M[i].2.2.2, (bt X L M[i].1 M[i].2.1 M[i].2.2.1 M[i].2.2.2).1.1, (bt X L M[i].1 M[i].2.1 M[i].2.2.1 M[i].2.2.2).1.2, (bt X L M[i].1 M[i].2.1 M[i].2.2.1 M[i].2.2.2).2, rfl, rfl, by decide, rfl, hop, hlen, rfl, fun hk => ?_⟩
      conv => whnf
      refine ag.dB (fun z => absurd rfl z) (fun _ => ?_)
      have hI2 := hI.BV (K := M[i].1) (T := M[i].2.1) (V := M[i].2.2.1) (P := M[i].2.2.2) rfl hk
      conv => whnf
      exact ⟨⟨(i + 1, (bt X L M[i].1 M[i].2.1 M[i].2.2.1 M[i].2.2.2).1.1, (bt X L M[i].1 M[i].2.1 M[i].2.2.1 M[i].2.2.2).1.2), g3, hI2, by dsimp only; omega⟩, by show 60 - (i + 1) < 60 - i; omega, jK (Nat.le_refl _) rfl rfl rfl rfl (congrArg (AV.si .i64) hw) rfl rfl⟩
    conv => whnf
    refine .inr ?_
    refine ⟨rfl, ?_⟩
    conv => whnf
    refine ⟨1, va, X, L, L, rfl, by decide, rfl, ⟨by decide, rfl, rfl, rfl, rfl⟩, ⟨_, _, 0, 1099511627776, rfl, rfl, rfl, hall.symm⟩, ?_⟩
    conv => whnf
    refine ⟨12, vb, X, L, L, rfl, by decide, rfl, ⟨by decide, rfl, rfl, rfl, rfl⟩, ⟨_, _, 0, 1099511627776, rfl, rfl, rfl, hall.symm⟩, ?_⟩
    conv => whnf
    refine ⟨L, L, cF.jG rfl rfl, cF.jG rfl rfl, by omega, by omega, ?_⟩
    conv => whnf
    refine ag.sb (fun _ => ?_) (fun z => absurd ((fh _).symm.trans z) (by decide))
    conv => whnf
    refine ⟨1, va, X, L, .si .i64 X.mx, rfl, by decide, rfl, ⟨by decide, rfl, rfl, rfl, rfl⟩, ⟨rfl, rfl⟩, ?_⟩
    conv => whnf
    refine ⟨12, vb, X, L, .si .i64 X.mx, rfl, by decide, rfl, ⟨by decide, rfl, rfl, rfl, rfl⟩, ⟨rfl, rfl⟩, ?_⟩
    conv => whnf
    refine ag.dec (fun _ => ?_) (fun z => absurd rfl z)
    conv => whnf
    refine ⟨1, va, X, L, .si .i64 (aR X), rfl, by decide, rfl, ⟨by decide, rfl, rfl, rfl, rfl⟩, ⟨rfl, rfl⟩, ?_⟩
    conv => whnf
    refine ⟨12, vb, X, L, .si .i64 (aR X), rfl, by decide, rfl, ⟨by decide, rfl, rfl, rfl, rfl⟩, ⟨rfl, rfl⟩, ?_⟩
    conv => whnf
    refine ag.dec (fun _ => ?_) (fun z => absurd rfl z)
    conv => whnf
    refine ⟨1, va, X, L, .si .i64 X.pol, rfl, by decide, rfl, ⟨by decide, rfl, rfl, rfl, rfl⟩, ⟨rfl, rfl⟩, ?_⟩
    conv => whnf
    refine ⟨12, vb, X, L, .si .i64 X.pol, rfl, by decide, rfl, ⟨by decide, rfl, rfl, rfl, rfl⟩, ⟨rfl, rfl⟩, ?_⟩
    conv => whnf
    refine ag.dec (fun _ => ?_) (fun z => absurd rfl z)
    conv => whnf
    refine ⟨1, va, X, L, .si .i64 X.ret, rfl, by decide, rfl, ⟨by decide, rfl, rfl, rfl, rfl⟩, ⟨rfl, rfl⟩, ?_⟩
    conv => whnf
    refine ⟨12, vb, X, L, .si .i64 X.ret, rfl, by decide, rfl, ⟨by decide, rfl, rfl, rfl, rfl⟩, ⟨rfl, rfl⟩, ?_⟩
    conv => whnf
    refine ag.dec (fun _ => ?_) (fun z => absurd rfl z)
    conv => whnf
    exact .inr rfl
  conv => whnf
  refine .inl ?_
  conv => whnf
  refine ⟨1, va, S40, [], p0, p1, Q, some ⟨128, 40, 3, p0, p1⟩, rfl, by decide, rfl, ⟨by decide, rfl, rfl, rfl, rfl⟩, ⟨by decide, rfl, rfl, rfl, rfl⟩, rfl, rfl, .inl rfl, hQ, by omega, h0, h1, hr, fun vc hs2 => ?_⟩
  conv => whnf
  refine ⟨6, p0, p1, Q, some ⟨128, 40, 3, p0, p1⟩, rfl, by decide, rfl, by decide, rfl, rfl, rfl, rfl, rfl, by omega, h0, h1, hr, ?_⟩
  conv => whnf
  refine ⟨7, 13, 14, vc, ⟨128, 40, 3, p0, p1⟩, Q, 0, 50, rfl, by decide, rfl, rfl, ⟨by decide, ⟨by decide, by decide⟩, rfl, rfl⟩, rfl, rfl, hs2, by omega, ?_⟩
  conv => whnf
  refine ag.nsb (fun z => absurd z (by decide)) (fun _ => ?_)
  conv => whnf
  refine ⟨7, vc, ⟨128, 40, 3, p0, p1⟩, Q, .sb true, rfl, by decide, rfl, ⟨by decide, rfl, rfl, rfl, rfl⟩, ⟨_, rfl, rfl, rfl⟩, ?_⟩
  conv => whnf
  refine ag.nsb (fun z => absurd z (by decide)) (fun _ => ?_)
  conv => whnf
  refine bg.mk { x : Nat × Sr × Smp // x.1 ≤ min M.length 60 / 2 ∧ RsI x.2.1 x.2.2 ∧ x.2.2.length ≤ x.1 } 2 (fun x => GZ M va x.val.2.1 x.val.2.2 x.val.1) (fun x => 60 - x.val.1) ⟨(0, S40, []), Nat.zero_le _, RsI.new hs, Nat.le_refl _⟩ ?_ ?_
  focus
    exact nG (i := 0) (Nat.le_refl _) rfl rfl (congrArg (AV.si .i64) hmin) rfl rfl
  intro ⟨(i, X, L), hi, hI, hil⟩
  dsimp only at hi hI hil
  have hlen : L.length ≤ 40000 := by omega
  have hall : aH 0 1099511627776 L = L := gC fun x hx => ⟨(hI.ln.ok.bS x hx).1.1, Int.le_of_lt (hI.ln.ok.bS x hx).1.2⟩
  have hw : IntKind.i64.wrap ((i : Int) + 1) = ((i + 1 : Nat) : Int) := by rw [al (by omega) (by omega)]; omega
  conv => whnf
  refine ag.dec (fun h => ?_) (fun h => ?_)
  focus
    have g3 : i < min M.length 60 / 2 := Int.ofNat_lt.1 (show (i : Int) < ((min M.length 60 / 2 : Nat) : Int) by rw [← hquo]; exact h)
    have g2 : i < M.length := by omega
    have hop := (hM _ (List.getElem_mem g2)).2.2.1
    have hl2 := lP X L M[i].1 M[i].2.1 M[i].2.2.1 M[i].2.2.2
    conv => whnf
    refine Idx.mk i rfl g2 ?_
    conv => whnf
    refine ao (eE g2 rfl) ?_
    conv => whnf
    refine ⟨1, va, X, L, M[i].1, M[i].2.1, M[i].2.2.1, M[i].2.2.2, (bt X L M[i].1 M[i].2.1 M[i].2.2.1 M[i].2.2.2).1.1, (bt X L M[i].1 M[i].2.1 M[i].2.2.1 M[i].2.2.2).1.2, (bt X L M[i].1 M[i].2.1 M[i].2.2.1 M[i].2.2.2).2, rfl, rfl, by decide, rfl, hop, hlen, rfl, fun hk => ?_⟩
    have hI2 := hI.BV (K := M[i].1) (T := M[i].2.1) (V := M[i].2.2.1) (P := M[i].2.2.2) rfl hk
    conv => whnf
    exact ⟨⟨(i + 1, (bt X L M[i].1 M[i].2.1 M[i].2.2.1 M[i].2.2.2).1.1, (bt X L M[i].1 M[i].2.1 M[i].2.2.1 M[i].2.2.2).1.2), g3, hI2, by dsimp only; omega⟩, by show 60 - (i + 1) < 60 - i; omega, nG (Nat.le_refl _) rfl rfl rfl (congrArg (AV.si .i64) hw) rfl⟩
  have hrest := hI.rest
  have hin : ∀ x ∈ L, aM x.1 ∧ aM x.2 := fun x hx => ⟨⟨by have := (hI.ln.ok.bS x hx).1; omega, by have := (hI.ln.ok.bS x hx).1; omega⟩, (hI.ln.ok.bS x hx).2⟩
  have hm64 : aM X.mx := ⟨by have := hI.ln.ok.num.mx; omega, by have := hI.ln.ok.num.mx; omega⟩
  have hl64 : aM (aR X) := ⟨by have := hI.ln.Ji; omega, by have := hI.ln.lt; omega⟩
  conv => whnf
  refine ⟨1, va, X, L, .si .i64 X.mx, rfl, by decide, rfl, ⟨by decide, rfl, rfl, rfl, rfl⟩, ⟨rfl, rfl⟩, ?_⟩
  conv => whnf
  refine ⟨1, va, X, L, .si .i64 (aR X), rfl, by decide, rfl, ⟨by decide, rfl, rfl, rfl, rfl⟩, ⟨rfl, rfl⟩, ?_⟩
  conv => whnf
  refine ⟨1, va, X, L, L, rfl, by decide, rfl, ⟨by decide, rfl, rfl, rfl, rfl⟩, ⟨_, _, 0, 1099511627776, rfl, rfl, rfl, hall.symm⟩, ?_⟩
  conv => whnf
  refine .inl ?_
  conv => whnf
  refine ⟨1, va, X, L, X.mx, aR X, L, some X, rfl, by decide, rfl, ⟨by decide, rfl, rfl, rfl, rfl⟩, ⟨by decide, rfl, rfl, rfl, rfl⟩, rfl, rfl, .inr (cF.jG rfl rfl), hin, hlen, hm64, hl64, hrest, fun vb hs3 => ?_⟩
  clear hm64 hl64
  conv => whnf
  refine bg.mk { x : Nat × Sr × Smp // x.1 ≤ min M.length 60 ∧ RsI x.2.1 x.2.2 ∧ x.2.2.length ≤ x.1 } 13 (fun x => G0 M va vb x.val.2.1 x.val.2.2 x.val.1) (fun x => 60 - x.val.1) ⟨(min M.length 60 / 2, X, L), by dsimp only; omega, hI, by dsimp only; omega⟩ ?_ ?_
  focus
    exact jK (i := min M.length 60 / 2) (Nat.le_refl _) rfl rfl rfl rfl (congrArg (AV.si .i64) hquo) rfl rfl
  clear hin hs3 hall hlen hil hI hi h hw hrest
  clear X L i
  intro ⟨(i, X, L), hi, hI, hil⟩
  dsimp only at hi hI hil
  have hlen : L.length ≤ 40000 := by omega
  have hall : aH 0 1099511627776 L = L := gC fun x hx => ⟨(hI.ln.ok.bS x hx).1.1, Int.le_of_lt (hI.ln.ok.bS x hx).1.2⟩
  have hw : IntKind.i64.wrap ((i : Int) + 1) = ((i + 1 : Nat) : Int) := by rw [al (by omega) (by omega)]; omega
  conv => whnf
  refine ag.dec (fun h => ?_) (fun h => ?_)
  focus
    have g3 : i < min M.length 60 := Int.ofNat_lt.1 h
    have g2 : i < M.length := by omega
    have hop := (hM _ (List.getElem_mem g2)).2.2.1
    have hl2 := lP X L M[i].1 M[i].2.1 M[i].2.2.1 M[i].2.2.2
    conv => whnf
    refine ⟨?_, ?_, trivial⟩
    focus
      conv => whnf
      refine Idx.mk i rfl g2 ?_
      conv => whnf
      refine ao (eE g2 rfl) ?_
      conv => whnf
      refine ⟨1, va, X, L, M[i].1, M[i].2.1, M[i].2.2.1, M[i].2.2.2, (bt X L M[i].1 M[i].2.1 M[i].2.2.1 M[i].2.2.2).1.1, (bt X L M[i].1 M[i].2.1 M[i].2.2.1 M[i].2.2.2).1.2, (bt X L M[i].1 M[i].2.1 M[i].2.2.1 M[i].2.2.2).2, rfl, rfl, by decide, rfl, hop, hlen, rfl, fun hk => ?_⟩
      conv => whnf
      refine Idx.mk i rfl g2 ?_
      conv => whnf
      refine ao (eE g2 rfl) ?_
      conv => whnf
      refine ⟨12, vb, X, L, M[i].1, M[i].2.1, M[i].2.2.1, M[i].2.2.2, (bt X L M[i].1 M[i].2.1 M[i].2.2.1 M[i].2.2.2).1.1, (bt X L M[i].1 M[i].2.1 M[i].2.2.1 M[i].2.2.2).1.2, (bt X L M[i].1 M[i].2.1 M[i].2.2.1 M[i].2.2.2).2, rfl, rfl, by decide, rfl, hop, hlen, rfl, fun hk => ?_⟩
      conv => whnf
      refine ag.dB (fun z => absurd rfl z) (fun _ => ?_)
      have hI2 := hI.BV (K := M[i].1) (T := M[i].2.1) (V := M[i].2.2.1) (P := M[i].2.2.2) rfl hk
      conv => whnf
      exact ⟨⟨(i + 1, (bt X L M[i].1 M[i].2.1 M[i].2.2.1 M[i].2.2.2).1.1, (bt X L M[i].1 M[i].2.1 M[i].2.2.1 M[i].2.2.2).1.2), g3, hI2, by dsimp only; omega⟩, by show 60 - (i + 1) < 60 - i; omega, jK (Nat.le_refl _) rfl rfl rfl rfl (congrArg (AV.si .i64) hw) rfl rfl⟩
    conv => whnf
    refine Idx.mk i rfl g2 ?_
    conv => whnf
    refine ao (eE g2 rfl) ?_
    conv => whnf
    refine Idx.mk i rfl g2 ?_
    conv => whnf
    refine ao (eE g2 rfl) ?_
    conv => whnf
    refine ⟨1, va, X, L, M[i].1, M[i].2.1, M[i].2.2.1, M[i].2.2.2, (bt X L M[i].1 M[i].2.1 M[i].2.2.1 M[i].2.2.2).1.1, (bt X L M[i].1 M[i].2.1 M[i].2.2.1 M[i].2.2.2).1.2, (bt X L M[i].1 M[i].2.1 M[i].2.2.1 M[i].2.2.2).2, rfl, rfl, by decide, rfl, hop, hlen, rfl, fun hk => ?_⟩
    conv => whnf
    refine ⟨12, vb, X, L, M[i].1, M[i].2.1, M[i].2.2.1, M[i].2.2.2, (bt X L M[i].1 M[i].2.1 M[i].2.2.1 M[i].2.2.2).1.1, (bt X L M[i].1 M[i].2.1 M[i].2.2.1 M[i].2.2.2).1.2, (bt X L M[i].1 M[i].2.1 M[i].2.2.1 M[i].2.2.2).2, rfl, rfl, by decide, rfl, hop, hlen, rfl, fun hk => ?_⟩
    conv => whnf
    refine ag.dB (fun z => absurd rfl z) (fun _ => ?_)
    have hI2 := hI.BV (K := M[i].1) (T := M[i].2.1) (V := M[i].2.2.1) (P := M[i].2.2.2) rfl hk
    conv => whnf
    exact ⟨⟨(i + 1, (bt X L M[i].1 M[i].2.1 M[i].2.2.1 M[i].2.2.2).1.1, (bt X L M[i].1 M[i].2.1 M[i].2.2.1 M[i].2.2.2).1.2), g3, hI2, by dsimp only; omega⟩, by show 60 - (i + 1) < 60 - i; omega, jK (Nat.le_refl _) rfl rfl rfl rfl (congrArg (AV.si .i64) hw) rfl rfl⟩
  conv => whnf
  refine .inr ?_
  refine ⟨rfl, ?_⟩
  conv => whnf
  refine ⟨1, va, X, L, L, rfl, by decide, rfl, ⟨by decide, rfl, rfl, rfl, rfl⟩, ⟨_, _, 0, 1099511627776, rfl, rfl, rfl, hall.symm⟩, ?_⟩
  conv => whnf
  refine ⟨12, vb, X, L, L, rfl, by decide, rfl, ⟨by decide, rfl, rfl, rfl, rfl⟩, ⟨_, _, 0, 1099511627776, rfl, rfl, rfl, hall.symm⟩, ?_⟩
  conv => whnf
  refine ⟨L, L, cF.jG rfl rfl, cF.jG rfl rfl, by omega, by omega, ?_⟩
  conv => whnf
  refine ag.sb (fun _ => ?_) (fun z => absurd ((fh _).symm.trans z) (by decide))
  conv => whnf
  refine ⟨1, va, X, L, .si .i64 X.mx, rfl, by decide, rfl, ⟨by decide, rfl, rfl, rfl, rfl⟩, ⟨rfl, rfl⟩, ?_⟩
  conv => whnf
  refine ⟨12, vb, X, L, .si .i64 X.mx, rfl, by decide, rfl, ⟨by decide, rfl, rfl, rfl, rfl⟩, ⟨rfl, rfl⟩, ?_⟩
  conv => whnf
  refine ag.dec (fun _ => ?_) (fun z => absurd rfl z)
  conv => whnf
  refine ⟨1, va, X, L, .si .i64 (aR X), rfl, by decide, rfl, ⟨by decide, rfl, rfl, rfl, rfl⟩, ⟨rfl, rfl⟩, ?_⟩
  conv => whnf
  refine ⟨12, vb, X, L, .si .i64 (aR X), rfl, by decide, rfl, ⟨by decide, rfl, rfl, rfl, rfl⟩, ⟨rfl, rfl⟩, ?_⟩
  conv => whnf
  refine ag.dec (fun _ => ?_) (fun z => absurd rfl z)
  conv => whnf
  refine ⟨1, va, X, L, .si .i64 X.pol, rfl, by decide, rfl, ⟨by decide, rfl, rfl, rfl, rfl⟩, ⟨rfl, rfl⟩, ?_⟩
  conv => whnf
  refine ⟨12, vb, X, L, .si .i64 X.pol, rfl, by decide, rfl, ⟨by decide, rfl, rfl, rfl, rfl⟩, ⟨rfl, rfl⟩, ?_⟩
  conv => whnf
  refine ag.dec (fun _ => ?_) (fun z => absurd rfl z)
  conv => whnf
  refine ⟨1, va, X, L, .si .i64 X.ret, rfl, by decide, rfl, ⟨by decide, rfl, rfl, rfl, rfl⟩, ⟨rfl, rfl⟩, ?_⟩
  conv => whnf
  refine ⟨12, vb, X, L, .si .i64 X.ret, rfl, by decide, rfl, ⟨by decide, rfl, rfl, rfl, rfl⟩, ⟨rfl, rfl⟩, ?_⟩
  conv => whnf
  refine ag.dec (fun _ => ?_) (fun z => absurd rfl z)
  conv => whnf
  exact .inr rfl
end Go.Proofs.Ythjggjhebbdkdaa
