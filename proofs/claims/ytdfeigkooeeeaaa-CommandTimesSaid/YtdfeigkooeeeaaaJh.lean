/- Texts of our own, joined: the engine, the machine that runs code, and what is known of the functions. -/
import Derived.Test.YtdfeigkooeeeaaaJg
import Derived.Laws.BitsAllLaws
set_option linter.unusedSimpArgs false
set_option linter.unusedVariables false
namespace Go.Proofs.Ytdfeigkooeeeaaa
open Go Go.RowKit
set_option maxRecDepth 20000
section
variable {φ ψ : Ph} {H : AH} {n : Nat} {h0 hp : Hp}
/-- What is looked at lies at a place, or there is none of it. -/
def RoO (hp : Hp) (p : Option Pl) (l : List AV) : Prop := match p with
  | none => l = []
  | some p => RoAt hp p l
def pho (ps : List (Option Pl)) : Ph := ⟨fun b => (ps[b]?).getD none, fun _ => False, fun _ => False⟩
def memR (ls : List (List AV)) (k : Nat) : List (Nat × AO) := match ls with
  | [] => []
  | l :: ls => (k, .ro l) :: memR ls (k + 1)
theorem memR_mem : ∀ {ls : List (List AV)} {k b : Nat} {o : AO}, (b, o) ∈ memR ls k → ∃ i l, b = k + i ∧ ls[i]? = some l ∧ o = .ro l
  | [], k, b, o, h => by cases h
  | l :: ls, k, b, o, h => by
    rcases List.mem_cons.1 h with h | h
    · injection h with h1 h2; exact ⟨0, l, h1, rfl, h2⟩
    · obtain ⟨i, l', h1, h2, h3⟩ := memR_mem h
      exact ⟨i + 1, l', by omega, h2, h3⟩
theorem HR.ros (hw : Wf hp) {ps : List (Option Pl)} {ls : List (List AV)} (hl : ps.length = ls.length) (h : ∀ (i : Nat) p l, ps[i]? = some p → ls[i]? = some l → RoO hp p l) : HR (pho ps) (mkH (memR ls 0)) ps.length hp hp := by
  refine ⟨fun b q e => ?_, fun b o e => ?_, fun b b' o o' q q' e _ hw' => ?_, fun b o e => ⟨hw b o e, e⟩, Nat.le_refl _, fun _ k => k.elim⟩
  · simp only [pho] at e
    cases hb : ps[b]? with
    | none => rw [hb] at e; cases e
    | some p =>
      rw [hb] at e
      have e : p = some q := e
      subst e
      have hlt := (List.getElem?_eq_some_iff.1 hb).1
      obtain ⟨c, t, fz, h1, _⟩ := h b (some q) _ hb (List.getElem?_eq_getElem (by omega))
      exact ⟨hlt, hw _ _ h1⟩
  · obtain ⟨i, l, hb, hl2, rfl⟩ := memR_mem (mkH_get e)
    have hb : b = i := by omega
    subst hb
    have hlt := (List.getElem?_eq_some_iff.1 hl2).1
    have h2 := h b _ l (List.getElem?_eq_getElem (by omega)) hl2
    have hφ : pho ps b = ps[b]'(by omega) := by simp only [pho]; rw [List.getElem?_eq_getElem (by omega)]; rfl
    cases hp2 : ps[b]'(by omega) with
    | none =>
      rw [hp2] at h2 hφ
      have h2 : l = [] := h2
      subst h2
      exact .inl ⟨hφ, rfl⟩
    | some p =>
      rw [hp2] at h2 hφ
      obtain ⟨c, t, fz, h1, h3, h4, h5⟩ := h2
      exact .inr ⟨p, _, hφ, h1, h1, c, t, fz, rfl, h3, h4, h5 _⟩
  · obtain ⟨i, l, _, _, rfl⟩ := memR_mem (mkH_get e)
    cases hw'
theorem HR.rosE (hw : Wf hp) {φ0 : Ph} {M : List (Nat × AO)} {m : Nat} {ps : List (Option Pl)} {ls : List (List AV)} (hl : ps.length = ls.length) (h : ∀ (i : Nat) p l, ps[i]? = some p → ls[i]? = some l → RoO hp p l) (e1 : φ0 = pho ps) (e2 : M = memR ls 0) (e3 : m = ps.length) : HR φ0 (mkH M) m hp hp := by
  subst e1 e2 e3; exact HR.ros hw hl h
theorem ros1 {p : Option Pl} {l : List AV} (h : RoO hp p l) : ∀ (i : Nat) q m, [p][i]? = some q → [l][i]? = some m → RoO hp q m := fun i q m h1 h2 => by
  cases i with
  | zero => injection h1 with h1; injection h2 with h2; subst h1 h2; exact h
  | succ i => simp at h1
theorem ros2 {p q : Option Pl} {l m : List AV} (h : RoO hp p l) (k : RoO hp q m) : ∀ (i : Nat) r s, [p, q][i]? = some r → [l, m][i]? = some s → RoO hp r s := fun i r s h1 h2 => by
  cases i with
  | zero => injection h1 with h1; injection h2 with h2; subst h1 h2; exact h
  | succ i => exact ros1 k i r s h1 h2
theorem ros3 {p q r : Option Pl} {l m o : List AV} (h : RoO hp p l) (k : RoO hp q m) (j : RoO hp r o) : ∀ (i : Nat) x s, [p, q, r][i]? = some x → [l, m, o][i]? = some s → RoO hp x s := fun i x s h1 h2 => by
  cases i with
  | zero => injection h1 with h1; injection h2 with h2; subst h1 h2; exact h
  | succ i => exact ros2 k j i x s h1 h2
/-- A row, as one that may be none. -/
theorem row_open (hr : HR φ H n h0 hp) {a : AV} {v : Value} {es m : Nat} {l : List AV} (hl : l.all flat.flat1 = true) (hm : l.length = m * es) (hes : es ≠ 0) (hv : VR φ a v)
    (hS : (hd a = .nsl ∧ m = 0) ∨ ((∃ b o x l' r, (a = .rw b o m es x ∧ x ≠ 4) ∧ (H.get b = some (.ro l') ∨ ∃ z, H.get b = some (.cells l' z)) ∧ subL l' o (m * es) = some r ∧ r.map mk = l.map mk) ∨ ∃ l', a = .fr m es l' ∧ l'.map mk = l.map mk ∧ m ≠ 0) ∨ ∃ b o c k l' r, hd a = .sl b o m c k ∧ (H.get b = some (.ro l') ∨ ∃ z, H.get b = some (.cells l' z)) ∧ subL l' o (m * es) = some r ∧ r.map mk = l.map mk ∧ m ≤ c) :
    ∃ po, RoO hp po l ∧ ∀ χ b, χ b = po → VR χ (.rw b 0 m es 2) v := by
  have emp : m = 0 → l = [] := fun q => List.eq_nil_of_length_eq_zero (by rw [hm, q, Nat.zero_mul])
  rcases hS with ⟨ey, h0⟩ | (⟨b, o, x, l', r, ⟨rfl, hx4⟩, hb, hsub, hmk⟩ | ⟨l', rfl, hmk, hne⟩) | ⟨b, o, c, kk, l', r, ey, hb, hsub, hmk, hlc⟩
  · have e6 := hv.hd
    rw [ey] at e6
    exact ⟨none, emp h0, fun χ b _ => by rw [e6.nsl_inv, h0]; exact .rwn⟩
  · rcases hv.rw_inv with ⟨h1, hem⟩ | ⟨p, y, C, hpb, rfl, h2, h3, h4, h5, _, _⟩
    · have := hem.nil hx4
      subst this
      exact ⟨none, emp h1, fun χ b _ => by rw [h1]; exact .rwn⟩
    · by_cases hm0 : m = 0
      · have := emp hm0
        subst this
        exact ⟨some ⟨p.B, y, 0⟩, RoAt.emp hr hb hpb h3 (by rw [hm0, Nat.zero_mul] at h5; exact h5), fun χ b hχ => .rwx (p := ⟨p.B, y, 0⟩) hχ (fun q => absurd hm0 q) (Nat.le_refl _) h4 (by rw [hm0, Nat.zero_mul]; exact Nat.le_refl _) (fun q => by omega) (fun q => by cases q)⟩
      · have := h2 hm0
        subst this
        have hro := RoAt.of (s := l) hr hb hpb hsub hmk hl
        exact ⟨some ⟨p.B, p.s + o, m * es⟩, hro, fun χ b hχ => .rwx (p := ⟨p.B, p.s + o, m * es⟩) hχ (fun _ => rfl) (Nat.le_refl _) h4 (Nat.le_refl _) (fun q => by omega) (fun q => by cases q)⟩
  · obtain ⟨p, C, hC, hro, hT, rfl⟩ := fz_open hr hne hv hmk hl
    exact ⟨some p, hro, fun χ b hχ => .rwx (p := p) hχ (fun _ => rfl) (by omega) hC (by omega) (fun q => by omega) (fun q => by cases q)⟩
  · have e6 := hv.hd
    rw [ey] at e6
    obtain ⟨p, C, hpb, rfl, hC0, hC1⟩ := e6.sl_inv
    have hlC : m ≤ C := by
      by_cases hk0 : kk = 0
      · rw [hC0 hk0]; exact hlc
      · exact Nat.le_trans hlc (hC1 hk0).1
    have hro := RoAt.of (s := l) hr hb hpb hsub hmk hl
    exact ⟨some ⟨p.B, p.s + o, m * es⟩, hro, fun χ b hχ => .rwx (p := ⟨p.B, p.s + o, m * es⟩) hχ (fun _ => rfl) (Nat.le_refl _) hlC (Nat.le_refl _) (fun q => by omega) (fun q => by cases q)⟩
theorem SmpAt.openR (hr : HR φ H n h0 hp) {a : AV} {L : Smp} {v : Value} (hS : SmpAt H a L) (hv : VR φ a v) : ∃ po, RoO hp po (smp L) ∧ ∀ χ b, χ b = po → VR χ (.rw b 0 L.length 2 2) v := by
  refine row_open hr (smp_flat L) (smp_length L) (by decide) hv ?_
  rcases hS with ⟨h1, rfl⟩ | (⟨b, o, x, l, r, h1, h2, h3, h4⟩ | ⟨l, h1, h2, h3⟩) | ⟨b, o, c, k, l, r, h1, h2, h3, h4, h5⟩
  · exact .inl ⟨h1, rfl⟩
  · exact .inr (.inl (.inl ⟨b, o, x, l, r, h1, h2, h3, by rw [h4, smp_map]⟩))
  · exact .inr (.inl (.inr ⟨l, h1, by rw [h2, smp_map], h3⟩))
  · exact .inr (.inr ⟨b, o, c, k, l, r, h1, h2, h3, by rw [h4, smp_map], h5⟩)
theorem IntAt.openR (hr : HR φ H n h0 hp) {a : AV} {V : List Int} {v : Value} (hS : IntAt H a V) (hv : VR φ a v) : ∃ po, RoO hp po (ints V) ∧ ∀ χ b, χ b = po → VR χ (.rw b 0 V.length 1 2) v := by
  refine row_open hr (ints_flat V) (by rw [ints_length, Nat.mul_one]) (by decide) hv ?_
  rcases hS with ⟨h1, rfl⟩ | (⟨b, o, x, l, r, h1, h2, h3, h4⟩ | ⟨l, h1, h2, h3⟩) | ⟨b, o, c, k, l, r, h1, h2, h3, h4, h5⟩
  · exact .inl ⟨h1, rfl⟩
  · exact .inr (.inl (.inl ⟨b, o, x, l, r, h1, h2, by rw [Nat.mul_one]; exact h3, by rw [h4, ints_map]⟩))
  · exact .inr (.inl (.inr ⟨l, h1, by rw [h2, ints_map], h3⟩))
  · exact .inr (.inr ⟨b, o, c, k, l, r, h1, h2, by rw [Nat.mul_one]; exact h3, by rw [h4, ints_map], h5⟩)
def qRw (b : Nat) (Q : Qry) : AV := .agg (qCells Q (.rw b 0 Q.times.length 1 2))
theorem QryAt.openR (hr : HR φ H n h0 hp) {a : AV} {Q : Qry} {v : Value} (hq : QryAt H a Q) (hv : VR φ a v) : ∃ po, RoO hp po (ints Q.times) ∧ ∀ χ b, χ b = po → VR χ (qRw b Q) v := by
  obtain ⟨a8, v8, hI, h8, key⟩ := hq.core hr hv
  obtain ⟨po, h1, h2⟩ := hI.openR hr h8
  exact ⟨po, h1, fun χ b hχ => key χ _ (h2 χ b hχ)⟩
theorem SmpAt.row {H : AH} {a : AV} {b x : Nat} {L : Smp} {l : List AV} {z : Bool} (h1 : a = .rw b 0 L.length 2 x) (h2 : H.get b = some (.cells l z)) (h3 : l.map mk = smp L) (hx : x ≠ 4 := by decide) : SmpAt H a L :=
  .inr (.inl (.inl ⟨b, 0, x, l, l, ⟨h1, hx⟩, .inr ⟨z, h2⟩, subL_all (by have := congrArg List.length h3; rw [List.length_map, smp_length] at this; exact this), h3⟩))
theorem SmpAt.rowO {H : AH} {a : AV} {b x : Nat} {L : Smp} {l : List AV} (h1 : a = .rw b 0 L.length 2 x) (h2 : H.get b = some (.ro l)) (h3 : l.map mk = smp L) (hx : x ≠ 4 := by decide) : SmpAt H a L :=
  .inr (.inl (.inl ⟨b, 0, x, l, l, ⟨h1, hx⟩, .inl h2, subL_all (by have := congrArg List.length h3; rw [List.length_map, smp_length] at this; exact this), h3⟩))
theorem IntAt.rowO {H : AH} {a : AV} {b x : Nat} {L : List Int} {l : List AV} (h1 : a = .rw b 0 L.length 1 x) (h2 : H.get b = some (.ro l)) (h3 : l.map mk = ints L) (hx : x ≠ 4 := by decide) : IntAt H a L :=
  .inr (.inl (.inl ⟨b, 0, x, l, l, ⟨h1, hx⟩, .inl h2, subL_all (by have := congrArg List.length h3; rw [List.length_map, ints_length] at this; exact this), h3⟩))
theorem SubO.qcellsR {m : Nat} {r : Nat → Nat} {b : Nat} {Q : Qry} {z : Bool} (hb : b < m) (hr : r b = b) : SubO H m r (.cells (qCells Q (.rw b 0 Q.times.length 1 2)) z) (.cells (qCells Q (.rw b 0 Q.times.length 1 2)) z) :=
  SubO.cells (Nat.le_refl _) (fun q => q) fun _ a' hi => ⟨a', hi, by
    have ha := List.mem_of_getElem? hi
    simp only [qCells, List.mem_cons, List.not_mem_nil, or_false] at ha
    rcases ha with rfl | rfl | rfl | rfl | rfl | rfl | rfl | rfl | rfl | rfl | rfl | rfl
    all_goals first | exact .same rfl | exact SubV.rw hb (by rw [hr])⟩
theorem mk_rw {a : AV} {b o n k x : Nat} (h : mk a = .rw b o n k x) : a = .rw b o n k x := by
  cases a <;> first | exact h | cases h
theorem SubO.qcellsM {m : Nat} {r : Nat → Nat} {b : Nat} {Q : Qry} {z : Bool} {l : List AV} (hb : b < m) (hr : r b = b) (hl : l.map mk = qCells Q (.rw b 0 Q.times.length 1 2)) : SubO H m r (.cells l z) (.cells (qCells Q (.rw b 0 Q.times.length 1 2)) z) := by
  refine SubO.cells (by have := congrArg List.length hl; rw [List.length_map] at this; omega) (fun q => q) fun i a' hi => ?_
  have e := congrArg (fun x : List AV => x[i]?) hl
  simp only [List.getElem?_map, hi] at e
  rw [Option.map_eq_some_iff] at e
  obtain ⟨a, h1, h2⟩ := e
  refine ⟨a, h1, ?_⟩
  have ha := List.mem_of_getElem? hi
  simp only [qCells, List.mem_cons, List.not_mem_nil, or_false] at ha
  rcases ha with rfl | rfl | rfl | rfl | rfl | rfl | rfl | rfl | rfl | rfl | rfl | rfl
  all_goals first | exact .flat rfl (h2.trans rfl) | exact SubV.rw hb (by rw [hr]; exact mk_rw h2)
theorem SmpAt.rowN {H : AH} {a : AV} {b x k : Nat} {L : Smp} {l : List AV} {z : Bool} (h1 : a = .rw b 0 k 2 x) (hk : k = L.length) (h2 : H.get b = some (.cells l z)) (h3 : l.map mk = smp L) (hx : x ≠ 4 := by decide) : SmpAt H a L := by
  subst hk; exact SmpAt.row h1 h2 h3 hx
theorem qatR {H : AH} {b : Nat} {Q : Qry} (h : H.get b = some (.ro (ints Q.times))) : QryAt H (qRw b Q) Q := ⟨_, _, _, _, _, _, _, _, _, _, _, _, rfl, IntAt.rowO rfl h (ints_map _), rfl⟩
theorem rowNum_rw {F : Smp × Int} {X : Smp} {e : Int} {r w : AV} {H' : AH} {b x : Nat} {l : List AV} (h : F = (X, e)) (h1 : r = .rw b 0 X.length 2 x) (h2 : mk w = .si .i64 e) (hb : H'.get b = some (.cells l true)) (hl : l.map mk = smp X) (hx : x < 2 := by decide) : RowNum F.1 F.2 (.tup [r, w]) H' := by
  subst h
  exact ⟨r, w, rfl, h2, .rw h1 hb (subL_all (by have := congrArg List.length hl; rw [List.length_map, smp_length] at this; exact this)) hl hx⟩
theorem natTl_okR {B : Nat} {F : FuncId → EP} (hF : TabP F) {d : Nat} {f : FuncId} {g : Smp → Qry → Smp × Int} (hic : isCall Try.prog f = true)
    (h : ∀ L (Q : Qry), L.length ≤ B → Q.times.length ≤ 1000000 → callT F d f [.rw 0 0 L.length 2 2, qRw 1 Q] (mkH [(0, .ro (smp L)), (1, .ro (ints Q.times))]) 2 fun u H' _ => RowNum (g L Q).1 (g L Q).2 u H') : NatP f (natTl B g) := fun args H n κ hs φ h0' hp vs K hr hargs hk => by
  unfold natTl at hs
  split at hs
  · obtain ⟨x, y, rfl, e1, e2⟩ := vs2 hargs
    obtain ⟨L, Q, hS, hq, hL, hT, hs⟩ := hs
    obtain ⟨p, hp1, hv⟩ := hS.openR hr e1
    obtain ⟨q, hq1, hw⟩ := hq.openR hr e2
    exact smallNewE hF (fun _ _ h => h) (h L Q hL hT) hs hr hk hic (fun hw => HR.rosE (ps := [p, q]) (ls := [smp L, ints Q.times]) hw rfl (ros2 hp1 hq1) rfl rfl rfl) (.cons (hv _ 0 rfl) (.cons (hw _ 1 rfl) .nil))
  · exact hs.elim
/-- One sample more, behind what a row has. -/
theorem RApp.one {t u : TypeId} {s x : AV} {H : AH} {n : Nat} {κ : PK} {by' b o sn : Nat} {z : Bool} {l old new : List AV} (ty : RTy t u 2 by') (hs : s = .rw b o sn 2 0) (hb : H.get b = some (.cells l z)) (hold : subL l o (sn * 2) = some old) (src : esrc H 2 (hd x) = some (1, new)) (hnew : new.length = 1 * 2) (hone : new.all one1 = true) (big : (sn + 1) * by' ≤ 140737488355328)
    (k : κ (.rw n 0 (sn + 1) 2 0) ((H.set none depthH b).set (some (.cells (old ++ new) z)) depthH n) (n + 1)) : RApp t u s x H n κ := by
  subst hs
  exact .grow 2 by' 1 sn new old _ z ty (.old src) hnew hone (.rw hb hold) big k
end
end Go.Proofs.Ytdfeigkooeeeaaa
namespace Go.Proofs.Ytdfeigkooeeeaaa
open Go Go.RowKit Go.ChangeShapes Go.WideShapes
set_option maxRecDepth 20000
/-! ### things without places -/
inductive Kd where
  | int (k : IntKind)
  | bool
  | str
  | sl (t : TypeId)
def Kd.isFlat : Kd → Bool
  | .sl _ => false
  | _ => true
noncomputable def fieldsT (P : Program) (k : TypeId → Option (List Kd)) : List Field → List Kd → Option (List Kd)
  | [], l => some l
  | f :: fs, l => (match k f.type with
    | some m => if f.offset = l.length ∧ m.length = P.cellsOf f.type then fieldsT P k fs (l ++ m) else none
    | none => none)
def repL' {α : Type} (m : List α) : Nat → List α
  | 0 => []
  | n + 1 => repL' m n ++ m
noncomputable def kdsT (P : Program) : Nat → TypeId → Option (List Kd)
  | 0, _ => none
  | d + 1, t => (match P.underlying t with
    | some (.int k) => some [.int k]
    | some .bool => some [.bool]
    | some .string => some [.str]
    | some (.slice _) => some [.sl t]
    | some (.struct fs) => (fieldsT P (kdsT P d) fs.toList []).bind fun l => if l.length = P.cellsOf t then some l else none
    | some (.array n e) => (kdsT P d e).bind fun m => if m.length = P.cellsOf e ∧ n * m.length = P.cellsOf t then some (repL' m n) else none
    | _ => none)
def Prim (Tr : TypeId → Value → Prop) : Kd → Value → Prop
  | .int k, v => ∃ z, v = .int k z ∧ (Lit.int k z).wf = true
  | .bool, v => ∃ b, v = .bool b
  | .str, v => ∃ s, v = .string s ∧ s.size ≤ maxLen
  | .sl t, v => Tr t v
def Prims (Tr : TypeId → Value → Prop) (ks : List Kd) (cs : List Value) : Prop := ks.length = cs.length ∧ ∀ (j : Nat) k v, ks[j]? = some k → cs[j]? = some v → Prim Tr k v
def avOf : Value → AV
  | .int k z => .si k z
  | .bool b => .sb b
  | .string s => .ss (s.data.toList.map UInt8.toNat)
  | _ => .bad
section
variable {Tr : TypeId → Value → Prop}
theorem Prim.av {k : Kd} {v : Value} (h : Prim Tr k v) (hf : k.isFlat = true) (χ : Ph) : VR χ (avOf v) v := by
  cases k with
  | sl t => cases hf
  | int k => obtain ⟨z, rfl, _⟩ := h; exact .si k z
  | bool => obtain ⟨b, rfl⟩ := h; exact .sb b
  | str => obtain ⟨s, rfl, _⟩ := h; exact vr_string s
theorem Prim.flat {k : Kd} {v : Value} (h : Prim Tr k v) (hf : k.isFlat = true) : flat.flat1 (avOf v) = true := by
  cases k with
  | sl t => cases hf
  | int k => obtain ⟨z, rfl, _⟩ := h; rfl
  | bool => obtain ⟨b, rfl⟩ := h; rfl
  | str => obtain ⟨s, rfl, _⟩ := h; rfl
theorem Prim.mk {k : Kd} {v : Value} (h : Prim Tr k v) (hf : k.isFlat = true) : Go.Proofs.Ytdfeigkooeeeaaa.mk (avOf v) = avOf v := by
  cases k with
  | sl t => cases hf
  | int k => obtain ⟨z, rfl, _⟩ := h; rfl
  | bool => obtain ⟨b, rfl⟩ := h; rfl
  | str => obtain ⟨s, rfl, _⟩ := h; rfl
theorem Prims.one {k : Kd} {v : Value} (h : Prim Tr k v) : Prims Tr [k] [v] := ⟨rfl, fun j k' v' h1 h2 => by
  cases j with
  | zero => injection h1 with h1; injection h2 with h2; subst h1 h2; exact h
  | succ j => simp at h1⟩
theorem Prims.app {ks ms : List Kd} {cs ds : List Value} (h : Prims Tr ks cs) (k : Prims Tr ms ds) : Prims Tr (ks ++ ms) (cs ++ ds) := ⟨by simp [h.1, k.1], fun j a v h1 h2 => by
  by_cases hj : j < ks.length
  · rw [List.getElem?_append_left hj] at h1
    rw [List.getElem?_append_left (by rw [← h.1]; exact hj)] at h2
    exact h.2 j a v h1 h2
  · rw [List.getElem?_append_right (by omega)] at h1
    rw [List.getElem?_append_right (by rw [← h.1]; omega), ← h.1] at h2
    exact k.2 _ a v h1 h2⟩
theorem Prims.vr {ks : List Kd} {cs : List Value} (h : Prims Tr ks cs) (hf : ks.all Kd.isFlat = true) (χ : Ph) : VRs χ (cs.map avOf) cs := by
  induction cs generalizing ks with
  | nil => exact .nil
  | cons c cs ih =>
    obtain ⟨h1, h2⟩ := h
    cases ks with
    | nil => simp at h1
    | cons k ks =>
      simp only [List.all_cons, Bool.and_eq_true] at hf
      exact .cons ((h2 0 k c rfl rfl).av hf.1 χ) (ih ⟨by simpa using h1, fun j a v q r => h2 (j + 1) a v q r⟩ hf.2)
end
def TrS {H : Type} (enc : TypeId × Value → H) (P : Program) (W : World) (base : Nat) (sp : Nat → Bool) (held : Bool) (t : TypeId) (v : Value) : Prop := ∃ fuel x, DataW.trod enc P W base sp held fuel t [v] = some x
section
variable {H : Type} {enc : TypeId × Value → H} {P : Program} {W : World} {base : Nat} {sp : Nat → Bool} {held : Bool}
theorem fieldsT_trod {k : TypeId → Option (List Kd)} {cs : List Value} {n : Nat} (ih : ∀ t ks cs x, k t = some ks → DataW.trod enc P W base sp held n t cs = some x → Prims (TrS enc P W base sp held) ks cs) : ∀ (fs : List Field) (l r : List Kd), Prims (TrS enc P W base sp held) l (cs.take l.length) → (∀ f ∈ fs, ∃ x, DataW.trod enc P W base sp held n f.type ((cs.drop f.offset).take (P.cellsOf f.type)) = some x) →
    fieldsT P k fs l = some r → Prims (TrS enc P W base sp held) r (cs.take r.length)
  | [], l, r, h, _, e => by injection e with e; subst e; exact h
  | f :: fs, l, r, h, hf, e => by
    unfold fieldsT at e
    split at e
    · rename_i m hk
      split at e
      · rename_i ho
        obtain ⟨ho, hm⟩ := ho
        obtain ⟨x, hx⟩ := hf f List.mem_cons_self
        have hp := ih _ _ _ _ hk hx
        refine fieldsT_trod ih fs (l ++ m) r ?_ (fun g hg => hf g (List.mem_cons_of_mem _ hg)) e
        have e2 : cs.take (l ++ m).length = cs.take l.length ++ ((cs.drop f.offset).take (P.cellsOf f.type)) := by
          rw [List.length_append, List.take_add, ho, hm]
        rw [e2]
        exact h.app hp
      · cases e
    · cases e
theorem repL_trod {Tr : TypeId → Value → Prop} {m : List Kd} {c : Nat} {cs : List Value} (hc : m.length = c) : ∀ n, (∀ i, i < n → Prims Tr m ((cs.drop (i * c)).take c)) → Prims Tr (repL' m n) (cs.take (n * c))
  | 0, _ => ⟨by simp [repL'], fun j k v h => by simp [repL'] at h⟩
  | n + 1, h => by
    have e : cs.take ((n + 1) * c) = cs.take (n * c) ++ (cs.drop (n * c)).take c := by rw [Nat.add_mul, Nat.one_mul, List.take_add]
    rw [e]
    exact (repL_trod hc n fun i hi => h i (by omega)).app (h n (by omega))
theorem repL_length {α : Type} (m : List α) : ∀ n, (repL' m n).length = n * m.length
  | 0 => by simp [repL']
  | n + 1 => by simp [repL', repL_length m n, Nat.add_mul]
theorem kds_trod : ∀ (d : Nat) (t : TypeId) (ks : List Kd) (fuel : Nat) (cs : List Value) (x : DataW H × List MemPlace), kdsT P d t = some ks → DataW.trod enc P W base sp held fuel t cs = some x → Prims (TrS enc P W base sp held) ks cs
  | 0, t, ks, fuel, cs, x, h, _ => by cases h
  | d + 1, t, ks, fuel, cs, x, h, hx => by
    unfold kdsT at h
    split at h
    · rename_i k hu
      injection h with h; subst h
      obtain ⟨z, rfl, _, hw⟩ := DataW.trod_int hu hx
      exact .one ⟨z, rfl, hw⟩
    · rename_i hu
      injection h with h; subst h
      obtain ⟨b, rfl, _⟩ := DataW.trod_bool hu hx
      exact .one ⟨b, rfl⟩
    · rename_i hu
      injection h with h; subst h
      obtain ⟨s, rfl, _, hs⟩ := DataW.trod_string hu hx
      exact .one ⟨s, rfl, hs⟩
    · rename_i e hu
      injection h with h; subst h
      rcases DataW.trod_slice hu hx with ⟨rfl, _⟩ | ⟨a, len, cap, _, _, _, _, rfl, _⟩
      · exact .one ⟨_, _, hx⟩
      · exact .one ⟨_, _, hx⟩
    · rename_i fs hu
      obtain ⟨xs, n, rfl, _, hl, hxl, hf⟩ := DataW.trod_struct hu hx
      rw [Option.bind_eq_some_iff] at h
      obtain ⟨l, h1, h2⟩ := h
      split at h2
      · rename_i hc
        injection h2 with h2; subst h2
        have := fieldsT_trod (enc := enc) (W := W) (base := base) (sp := sp) (held := held) (n := n) (cs := cs) (fun t ks cs x h hx => kds_trod d t ks n cs x h hx) fs.toList [] l ⟨by simp, fun j k v h => by simp at h⟩ (fun f hfm => by
          obtain ⟨i, hi, e⟩ := List.mem_iff_getElem.1 hfm
          have hi2 : i < fs.size := by simpa using hi
          have hg : fs[i]? = some f := by rw [Array.getElem?_eq_getElem hi2]; simpa using e
          have := hf i f hg
          rw [List.getElem?_eq_getElem (by omega)] at this
          exact ⟨_, this⟩) h1
        rw [hc, ← hl, List.take_length] at this
        exact this
      · cases h2
    · rename_i n e hu
      rw [Option.bind_eq_some_iff] at h
      obtain ⟨m, h1, h2⟩ := h
      split at h2
      · rename_i hc
        obtain ⟨hc1, hc2⟩ := hc
        injection h2 with h2; subst h2
        cases fuel with
        | zero => simp [DataW.trod] at hx
        | succ q =>
          rw [DataW.trod_step] at hx
          unfold DataW.trodStep at hx
          simp only [hu] at hx
          split at hx
          · rename_i hlen
            simp only [Option.map_eq_some_iff] at hx
            obtain ⟨ys, hy, _⟩ := hx
            have hyl := mapM_some_length hy
            have := repL_trod (cs := cs) hc1 n (fun i hi => by
              have h3 := mapM_some_get hy i i (by simp [hi])
              rw [List.getElem?_eq_getElem (by rw [hyl]; simpa using hi)] at h3
              exact kds_trod d e m q _ _ h1 h3)
            rw [← hc1, hc2, ← hlen, List.take_length] at this
            exact this
          · cases hx
      · cases h2
    · cases h
theorem flat_at {α : Type} {c : Nat} : ∀ (rows : List (List α)), (∀ r ∈ rows, r.length = c) → ∀ i q, q < c → rows.flatten[i * c + q]? = (rows[i]?).bind (·[q]?)
  | [], _, i, q, _ => by simp
  | r :: rows, h, 0, q, hq => by
    have := h r List.mem_cons_self
    rw [List.flatten_cons, Nat.zero_mul, Nat.zero_add, List.getElem?_append_left (by omega)]; rfl
  | r :: rows, h, i + 1, q, hq => by
    have h1 := h r List.mem_cons_self
    rw [List.flatten_cons, List.getElem?_append_right (by rw [Nat.add_mul]; omega), show (i + 1) * c + q - r.length = i * c + q from by rw [Nat.add_mul]; omega]
    exact flat_at rows (fun x hx => h x (List.mem_cons_of_mem _ hx)) i q hq
theorem flat_len {α : Type} {c : Nat} : ∀ (rows : List (List α)), (∀ r ∈ rows, r.length = c) → rows.flatten.length = rows.length * c
  | [], _ => by simp
  | r :: rows, h => by
    rw [List.flatten_cons, List.length_append, flat_len rows (fun x hx => h x (List.mem_cons_of_mem _ hx)), h r List.mem_cons_self, List.length_cons, Nat.add_mul]; omega
theorem cell_inv {a : Addr} {v : Value} (h : W.cell? a = some v) : ∃ c u fz, W.heap[a.block]? = some (.cells c u fz) ∧ a.spot = none ∧ c[a.off]? = some v := by
  unfold World.cell? at h
  split at h
  · rename_i c u fz hb
    split at h
    · cases h
    · rename_i hs
      exact ⟨c, u, fz, hb, by simpa using hs, h⟩
  · cases h
/-- A row of things without places. -/
theorem open_row {t e : TypeId} {ks : List Kd} {d c fuel : Nat} {v : Value} {D : DataW H} {ps : List MemPlace} (ht : P.underlying t = some (.slice e)) (hk : kdsT P d e = some ks) (hc : ks.length = c) (hc2 : P.cellsOf e = c) (hc0 : c ≠ 0) (hfl0 : ks.all Kd.isFlat = true)
    (hf : DataW.trod enc P W 0 (fun _ => true) held fuel t [v] = some (D, ps)) : ∃ (rows : List (List Value)) (po : Option Pl), (∀ r ∈ rows, Prims (TrS enc P W 0 (fun _ => true) held) ks r) ∧ RoO (wholeHp W) po ((rows.map fun r => r.map avOf).flatten) ∧ (∀ χ b, χ b = po → VR χ (.rw b 0 rows.length c 4) v) ∧
      (∀ a l cap, v = .slice a l cap → l = rows.length ∧ l ≤ cap) ∧ (rows = [] ∨ ∃ E F, D = .slice ((List.range rows.length).map F) E) ∧ rows.length ≤ maxLen := by
  rcases Go.Deep.open_slice ht hf with ⟨h0, h1⟩ | ⟨a, len, cap, m, n, Df, Pf, h1, _, hl, hm, hmm, hx, hel⟩
  · injection h0 with h0
    subst h0
    exact ⟨[], none, (fun r h => by cases h), rfl, fun χ b _ => .rwn, (fun a l cap q => by cases q; exact ⟨rfl, Nat.le_refl _⟩), .inl rfl, Nat.zero_le _⟩
  · injection h1 with h1
    subst h1
    have hmc : m = cap := hmm
    subst hmc
    by_cases hcap : m = 0
    · have : len = 0 := by omega
      subst this hcap
      exact ⟨[], none, (fun r h => by cases h), rfl, fun χ b _ => .rwe rfl (.inr ⟨rfl, a, rfl⟩), (fun a l cap q => by cases q; exact ⟨rfl, Nat.le_refl _⟩), .inl rfl, Nat.zero_le _⟩
    · have hcells : ∀ i, i < m → ∃ cs', cs'.length = c ∧ Prims (TrS enc P W 0 (fun _ => true) held) ks cs' ∧ ∀ q, q < c → W.cell? ((a.add (i * c)).add q) = cs'[q]? := fun i hi => by
        obtain ⟨cs', g1, g2⟩ := hel i hi
        rw [hc2] at g1
        obtain ⟨_, g3, g4⟩ := World.cells?_some g1
        exact ⟨cs', g3, kds_trod d e ks n cs' _ hk g2, fun q hq => g4 q hq⟩
      obtain ⟨R, hR⟩ := Go.Deep.choose_lt hcells
      have hspot : a.spot = none ∧ ∃ cc u fz, W.heap[a.block]? = some (.cells cc u fz) := by
        obtain ⟨g1, _, g3⟩ := hR 0 (by omega)
        have g4 := g3 0 (by omega)
        rw [List.getElem?_eq_getElem (by omega)] at g4
        obtain ⟨cc, u, fz, g5, g6, _⟩ := cell_inv g4
        have e0 : (a.add (0 * c)).add 0 = a := by simp [Addr.add]
        rw [e0] at g5 g6
        exact ⟨g6, cc, u, fz, g5⟩
      obtain ⟨hs, cc, u, fz, hb⟩ := hspot
      obtain ⟨b, off, sp⟩ := a
      simp only at hs hb
      subst hs
      have hget : ∀ i q, i < m → q < c → cc[off + i * c + q]? = (R i)[q]? := fun i q hi hq => by
        have g := (hR i hi).2.2 q hq
        have e0 : ((⟨b, off, none⟩ : Addr).add (i * c)).add q = (⟨b, off, none⟩ : Addr).add (i * c + q) := Go.Deep.add_add _ _ _
        rw [e0, List.getElem?_eq_getElem (by rw [(hR i hi).1]; exact hq)] at g
        have := cell_at hb g
        rw [Nat.add_assoc, this, List.getElem?_eq_getElem (by rw [(hR i hi).1]; exact hq)]
      let rows := (List.range len).map R
      have hrl : rows.length = len := by simp [rows]
      have hmem : ∀ r ∈ rows, ∃ i, i < len ∧ r = R i := fun r hr => by
        simp only [rows, List.mem_map, List.mem_range] at hr
        obtain ⟨i, hi, rfl⟩ := hr
        exact ⟨i, hi, rfl⟩
      have hrc : ∀ r ∈ rows.map (fun r => r.map avOf), r.length = c := fun r hr => by
        simp only [List.mem_map] at hr
        obtain ⟨r', hr', rfl⟩ := hr
        obtain ⟨i, hi, rfl⟩ := hmem r' hr'
        simp [(hR i (by omega)).1]
      have hfl := flat_len _ hrc
      rw [List.length_map, hrl] at hfl
      refine ⟨rows, some ⟨b, off, len * c⟩, fun r hr => ?_, ⟨cc, u, fz, hb, Nat.le_of_eq hfl, ?_, fun ψ i v' hi => ?_⟩, fun χ b' hχ => ?_, (fun a l cap q => by cases q; exact ⟨hrl.symm, hl⟩), .inr ?_, ?_⟩
      · obtain ⟨i, hi, rfl⟩ := hmem r hr
        exact (hR i (by omega)).2.1
      · simp only
        by_cases hl0 : len = 0
        · subst hl0
          have g := hget 0 0 (by omega) (by omega)
          rw [List.getElem?_eq_getElem (by rw [(hR 0 (by omega)).1]; omega)] at g
          have := (Array.getElem?_eq_some_iff.1 g).1
          omega
        · have g := hget (len - 1) (c - 1) (by omega) (by omega)
          rw [List.getElem?_eq_getElem (by rw [(hR _ (by omega)).1]; omega)] at g
          have := (Array.getElem?_eq_some_iff.1 g).1
          have e1 : (len - 1) * c + c = len * c := by rw [← Nat.succ_mul]; congr 1; omega
          omega
      · have hi2 := (List.getElem?_eq_some_iff.1 hi).1
        rw [hfl] at hi2
        have h0 := Nat.div_add_mod i c
        have hq := Nat.mod_lt i (Nat.pos_of_ne_zero hc0)
        have hj : i / c < len := (Nat.div_lt_iff_lt_mul (Nat.pos_of_ne_zero hc0)).2 hi2
        have ei : i = i / c * c + i % c := by rw [Nat.mul_comm]; omega
        rw [ei, flat_at _ hrc _ _ hq] at hi
        have e2 : (rows.map fun r => r.map avOf)[i / c]? = some ((R (i / c)).map avOf) := by simp [rows, hj]
        rw [e2, Option.bind_some, List.getElem?_map, List.getElem?_eq_getElem (by rw [(hR _ (by omega)).1]; exact hq)] at hi
        injection hi with hi
        subst hi
        refine ⟨(R (i / c))[i % c]'(by rw [(hR _ (by omega)).1]; exact hq), ?_, ?_⟩
        · have := hget (i / c) (i % c) (by omega) hq
          rw [List.getElem?_eq_getElem (by rw [(hR _ (by omega)).1]; exact hq), Nat.add_assoc, ← ei] at this
          exact this
        · obtain ⟨g1, g2⟩ := (hR (i / c) (by omega)).2.1
          refine Prim.av (k := ks[i % c]'(by rw [hc]; exact hq)) (g2 (i % c) _ _ (List.getElem?_eq_getElem _) (List.getElem?_eq_getElem _)) (List.all_eq_true.1 hfl0 _ (List.getElem_mem _)) ψ
      · rw [hrl]
        exact .rwx (p := ⟨b, off, len * c⟩) (o := 0) hχ (fun _ => rfl) (Nat.le_refl _) hl (Nat.le_refl _) (fun q => by omega) (fun q => by cases q)
      · injection hx with hx _
        exact ⟨_, Df, by rw [hrl]; exact hx⟩
      · rw [hrl]; omega
/-- .. that is an argument. -/
theorem open_rowT {t e : TypeId} {ks : List Kd} {d c fuel : Nat} {v : Value} {D : DataW H} {ps : List MemPlace} (ht : P.underlying t = some (.slice e)) (hk : kdsT P d e = some ks) (hc : ks.length = c) (hc2 : P.cellsOf e = c) (hc0 : c ≠ 0) (hfl0 : ks.all Kd.isFlat = true)
    (hval : v = .slice none 0 0 ∨ ∃ b off len cap cc u fz, v = .slice (some ⟨b, off, none⟩) len cap ∧ W.heap[b]? = some (.cells cc u fz) ∧ off ≤ cc.size) (hf : DataW.trod enc P W 0 (fun _ => true) held fuel t [v] = some (D, ps)) : ∃ (rows : List (List Value)) (po : Option Pl), (∀ r ∈ rows, Prims (TrS enc P W 0 (fun _ => true) held) ks r) ∧ RoO (wholeHp W) po ((rows.map fun r => r.map avOf).flatten) ∧ (∀ χ b, χ b = po → VR χ (.rw b 0 rows.length c 2) v) ∧
      (rows = [] ∨ ∃ E F, D = .slice ((List.range rows.length).map F) E) ∧ rows.length ≤ maxLen := by
  obtain ⟨rows, po, h1, h2, h3, h4, h5, h6⟩ := open_row ht hk hc hc2 hc0 hfl0 hf
  rcases hval with rfl | ⟨b, off, len, cap, cc, u, fz, rfl, hb, hoff⟩
  · obtain ⟨g1, _⟩ := h4 _ _ _ rfl
    have : rows = [] := List.eq_nil_of_length_eq_zero g1.symm
    subst this
    exact ⟨[], none, h1, rfl, fun χ b _ => .rwn, .inl rfl, h6⟩
  · obtain ⟨g1, g2⟩ := h4 _ _ _ rfl
    by_cases hr : rows = []
    · subst hr
      have : len = 0 := g1
      subst this
      exact ⟨[], some ⟨b, off, 0⟩, h1, ⟨cc, u, fz, hb, Nat.le_refl _, by simp only; omega, fun ψ i a h => by simp at h⟩, fun χ b' hχ => .rwx (p := ⟨b, off, 0⟩) hχ (fun q => absurd rfl q) (Nat.le_refl _) g2 (by simp) (fun q => by omega) (fun q => by cases q), .inl rfl, h6⟩
    · refine ⟨rows, po, h1, h2, fun χ b' hχ => ?_, h5, h6⟩
      have hl : rows.length ≠ 0 := fun q => hr (List.eq_nil_of_length_eq_zero q)
      rcases (h3 χ b' hχ).rw_inv with ⟨q, _⟩ | ⟨p, a, C, k1, k2, k3, k4, k5, k6, k7, k8⟩
      · exact absurd q hl
      · rw [k2]
        exact .rwx k1 k3 k4 k5 k6 (fun q => by omega) (fun q => by cases q)
/-! ### rows of numbers, of pairs -/
def pairOf : List Value → Int × Int
  | [.int _ a, .int _ b] => (a, b)
  | _ => (0, 0)
theorem smp_rows {Tr : TypeId → Value → Prop} : ∀ {rows : List (List Value)}, (∀ r ∈ rows, Prims Tr [.int .i64, .int .i64] r) → (rows.map fun r => r.map avOf).flatten = smp (rows.map pairOf) ∧ ∀ x ∈ rows.map pairOf, In64 x.1 ∧ In64 x.2
  | [], _ => ⟨rfl, fun x h => by cases h⟩
  | r :: rows, h => by
    obtain ⟨h1, h2⟩ := smp_rows (rows := rows) fun x hx => h x (List.mem_cons_of_mem _ hx)
    obtain ⟨g1, g2⟩ := h r List.mem_cons_self
    match r, g1, g2 with
    | [v, w], _, g2 =>
      obtain ⟨a, rfl, ha⟩ := g2 0 _ v rfl rfl
      obtain ⟨b, rfl, hb⟩ := g2 1 _ w rfl rfl
      refine ⟨by simp only [List.map_cons, List.flatten_cons, h1]; rfl, fun x hx => ?_⟩
      rcases List.mem_cons.1 hx with rfl | hx
      · simp [Lit.wf, IntKind.min, IntKind.max, IntKind.signed, IntKind.bits] at ha hb
        unfold In64 pairOf; dsimp only; omega
      · exact h2 x hx
def intAt : List Value → Int
  | [.int _ a] => a
  | _ => 0
theorem int_rows {Tr : TypeId → Value → Prop} : ∀ {rows : List (List Value)}, (∀ r ∈ rows, Prims Tr [.int .i64] r) → (rows.map fun r => r.map avOf).flatten = ints (rows.map intAt) ∧ ∀ x ∈ rows.map intAt, In64 x
  | [], _ => ⟨rfl, fun x h => by cases h⟩
  | r :: rows, h => by
    obtain ⟨h1, h2⟩ := int_rows (rows := rows) fun x hx => h x (List.mem_cons_of_mem _ hx)
    obtain ⟨g1, g2⟩ := h r List.mem_cons_self
    match r, g1, g2 with
    | [v], _, g2 =>
      obtain ⟨a, rfl, ha⟩ := g2 0 _ v rfl rfl
      refine ⟨by simp only [List.map_cons, List.flatten_cons, h1]; rfl, fun x hx => ?_⟩
      rcases List.mem_cons.1 hx with rfl | hx
      · simp [Lit.wf, IntKind.min, IntKind.max, IntKind.signed, IntKind.bits] at ha
        show -9223372036854775808 ≤ _ ∧ _ ≤ 9223372036854775807
        omega
      · exact h2 x hx
/-- Samples that are an argument. -/
theorem arg_samples {b0 : Nat} {t e : TypeId} {d : Nat} {v : Value} {D : DataW H} {ps : List MemPlace} (ht : P.underlying t = some (.slice e)) (hk : kdsT P d e = some [.int .i64, .int .i64]) (hc2 : P.cellsOf e = 2) (hval : Value.okWide P W .any b0 t v) (hd : DataW.Trod enc P W 0 (fun _ => true) held t v D ps) :
    ∃ (L : Smp) (po : Option Pl), (∀ x ∈ L, In64 x.1 ∧ In64 x.2) ∧ RoO (wholeHp W) po (smp L) ∧ (∀ χ b, χ b = po → VR χ (.rw b 0 L.length 2 2) v) ∧ L.length ≤ maxLen := by
  obtain ⟨fuel, hf⟩ := hd
  have hv := okWide_slice_at ht hval
  have hcell : v.cells.toList = [v] := by rcases hv with rfl | ⟨b, off, len, cap, cc, u, fz, rfl, _⟩ <;> rfl
  rw [hcell] at hf
  obtain ⟨rows, po, h1, h2, h3, h4, h5⟩ := open_rowT ht hk rfl hc2 (by decide) rfl hv hf
  obtain ⟨g1, g2⟩ := smp_rows h1
  refine ⟨rows.map pairOf, po, g2, g1 ▸ h2, fun χ b hχ => by rw [List.length_map]; exact h3 χ b hχ, by rw [List.length_map]; exact h5⟩
theorem arg_ints {b0 : Nat} {t e : TypeId} {d : Nat} {v : Value} {D : DataW H} {ps : List MemPlace} (ht : P.underlying t = some (.slice e)) (hk : kdsT P d e = some [.int .i64]) (hc2 : P.cellsOf e = 1) (hval : Value.okWide P W .any b0 t v) (hd : DataW.Trod enc P W 0 (fun _ => true) held t v D ps) :
    ∃ (V : List Int) (po : Option Pl), (∀ x ∈ V, In64 x) ∧ RoO (wholeHp W) po (ints V) ∧ (∀ χ b, χ b = po → VR χ (.rw b 0 V.length 1 2) v) ∧ V.length ≤ maxLen := by
  obtain ⟨fuel, hf⟩ := hd
  have hv := okWide_slice_at ht hval
  have hcell : v.cells.toList = [v] := by rcases hv with rfl | ⟨b, off, len, cap, cc, u, fz, rfl, _⟩ <;> rfl
  rw [hcell] at hf
  obtain ⟨rows, po, h1, h2, h3, h4, h5⟩ := open_rowT ht hk rfl hc2 (by decide) rfl hv hf
  obtain ⟨g1, g2⟩ := int_rows h1
  refine ⟨rows.map intAt, po, g2, g1 ▸ h2, fun χ b hχ => by rw [List.length_map]; exact h3 χ b hχ, by rw [List.length_map]; exact h5⟩
/-- Cells without places that are an argument. -/
theorem arg_cells {b0 : Nat} {t : TypeId} {ks : List Kd} {d : Nat} {v : Value} {D : DataW H} {ps : List MemPlace} (hk : kdsT P d t = some ks) (hd : DataW.Trod enc P W 0 (fun _ => true) held t v D ps) (hv : ∃ cs, v = .agg cs) : ∃ cs, v = .agg cs ∧ Prims (TrS enc P W 0 (fun _ => true) held) ks cs.toList := by
  obtain ⟨fuel, hf⟩ := hd
  obtain ⟨cs, rfl⟩ := hv
  exact ⟨cs, rfl, kds_trod d t ks fuel _ _ hk hf⟩
theorem In64.of {z : Int} (h : (Lit.int .i64 z).wf = true) : In64 z := by
  simp [Lit.wf, IntKind.min, IntKind.max, IntKind.signed, IntKind.bits] at h
  unfold In64; omega
def Qry.In64 (Q : Qry) : Prop := Go.Proofs.Ytdfeigkooeeeaaa.In64 Q.f ∧ Go.Proofs.Ytdfeigkooeeeaaa.In64 Q.t ∧ Go.Proofs.Ytdfeigkooeeeaaa.In64 Q.count ∧ Go.Proofs.Ytdfeigkooeeeaaa.In64 Q.kind ∧ Go.Proofs.Ytdfeigkooeeeaaa.In64 Q.size ∧ Go.Proofs.Ytdfeigkooeeeaaa.In64 Q.align ∧ Go.Proofs.Ytdfeigkooeeeaaa.In64 Q.low ∧ Go.Proofs.Ytdfeigkooeeeaaa.In64 Q.high ∧ ∀ x ∈ Q.times, Go.Proofs.Ytdfeigkooeeeaaa.In64 x
/-- A query that is an argument. -/
theorem arg_query {b0 : Nat} {t e ei : TypeId} {d : Nat} {v : Value} {D : DataW H} {ps : List MemPlace} {fs : Array Field} {ts : List TypeId} (hu : P.underlying t = some (.struct fs)) (hk : kdsT P d t = some [.int .i64, .int .i64, .bool, .int .i64, .int .i64, .int .i64, .int .i64, .bool, .sl e, .bool, .int .i64, .int .i64])
    (he : P.underlying e = some (.slice ei)) (hke : kdsT P d ei = some [.int .i64]) (hc2 : P.cellsOf ei = 1) (hct : P.cellTypes P.depth t = some ts) (hts : ts[8 % ts.length]? = some e) (hval : Value.okWide P W .any b0 t v) (hd : DataW.Trod enc P W 0 (fun _ => true) held t v D ps) :
    ∃ (Q : Qry) (po : Option Pl), Q.In64 ∧ RoO (wholeHp W) po (ints Q.times) ∧ (∀ χ b, χ b = po → VR χ (qRw b Q) v) ∧ Q.times.length ≤ maxLen := by
  simp only [Value.okWide, hu] at hval
  obtain ⟨cs, rfl, _, ts', h1, _, h2⟩ := hval
  rw [hct] at h1
  injection h1 with h1
  subst h1
  obtain ⟨fuel, hf⟩ := hd
  obtain ⟨g1, g2⟩ := kds_trod d t _ fuel _ _ hk hf
  obtain ⟨l⟩ := cs
  simp only [Value.cells] at g1 g2
  match l, g1, g2, h2 with
  | [v0, v1, v2, v3, v4, v5, v6, v7, v8, v9, v10, v11], _, g2, h2 =>
    obtain ⟨z0, rfl, w0⟩ := g2 0 _ v0 rfl rfl
    obtain ⟨z1, rfl, w1⟩ := g2 1 _ v1 rfl rfl
    obtain ⟨z2, rfl⟩ := g2 2 _ v2 rfl rfl
    obtain ⟨z3, rfl, w3⟩ := g2 3 _ v3 rfl rfl
    obtain ⟨z4, rfl, w4⟩ := g2 4 _ v4 rfl rfl
    obtain ⟨z5, rfl, w5⟩ := g2 5 _ v5 rfl rfl
    obtain ⟨z6, rfl, w6⟩ := g2 6 _ v6 rfl rfl
    obtain ⟨z7, rfl⟩ := g2 7 _ v7 rfl rfl
    obtain ⟨f8, ⟨D8, P8⟩, h8⟩ := g2 8 _ v8 rfl rfl
    obtain ⟨z9, rfl⟩ := g2 9 _ v9 rfl rfl
    obtain ⟨z10, rfl, w10⟩ := g2 10 _ v10 rfl rfl
    obtain ⟨z11, rfl, w11⟩ := g2 11 _ v11 rfl rfl
    obtain ⟨u, hu8, ho8⟩ := h2 8 v8 rfl
    rw [hts] at hu8
    injection hu8 with hu8
    subst hu8
    have hv8 : Value.okWide P W .any b0 e v8 := by simp only [Value.okWide, he]; exact ho8
    have hv := okWide_slice_at he hv8
    obtain ⟨rows, po, q1, q2, q3, _, q5⟩ := open_rowT he hke rfl hc2 (by decide) rfl hv h8
    obtain ⟨k1, k2⟩ := int_rows q1
    refine ⟨⟨z0, z1, z2, z3, z4, z5, z6, z7, rows.map intAt, z9, z10, z11⟩, po, ⟨.of w0, .of w1, .of w3, .of w4, .of w5, .of w6, .of w10, .of w11, k2⟩, k1 ▸ q2, fun χ b hχ => ?_, by simpa using q5⟩
    have hr : VR χ (.rw b 0 (rows.map intAt).length 1 2) v8 := by rw [List.length_map]; exact q3 χ b hχ
    exact .agg (.cons (.si _ _) (.cons (.si _ _) (.cons (.sb _) (.cons (.si _ _) (.cons (.si _ _) (.cons (.si _ _) (.cons (.si _ _) (.cons (.sb _) (.cons hr (.cons (.sb _) (.cons (.si _ _) (.cons (.si _ _) .nil))))))))))))
/-- A sample that is an argument. -/
theorem arg_pair {b0 : Nat} {t : TypeId} {d : Nat} {v : Value} {D : DataW H} {ps : List MemPlace} {fs : Array Field} (hu : P.underlying t = some (.struct fs)) (hk : kdsT P d t = some [.int .i64, .int .i64]) (hval : Value.okWide P W .any b0 t v) (hd : DataW.Trod enc P W 0 (fun _ => true) held t v D ps) :
    ∃ x y : Int, In64 x ∧ In64 y ∧ ∀ χ, VR χ (.agg [.si .i64 x, .si .i64 y]) v := by
  simp only [Value.okWide, hu] at hval
  obtain ⟨cs, rfl, _⟩ := hval
  obtain ⟨fuel, hf⟩ := hd
  obtain ⟨g1, g2⟩ := kds_trod d t _ fuel _ _ hk hf
  obtain ⟨l⟩ := cs
  simp only [Value.cells] at g1 g2
  match l, g1, g2 with
  | [v0, v1], _, g2 =>
    obtain ⟨z0, rfl, w0⟩ := g2 0 _ v0 rfl rfl
    obtain ⟨z1, rfl, w1⟩ := g2 1 _ v1 rfl rfl
    exact ⟨z0, z1, .of w0, .of w1, fun χ => .agg (.cons (.si _ _) (.cons (.si _ _) .nil))⟩
end
end Go.Proofs.Ytdfeigkooeeeaaa
namespace Go.Proofs.Ytdfeigkooeeeaaa
open Go Go.RowKit
set_option maxRecDepth 20000
section
variable {φ ψ : Ph} {H : AH} {n : Nat} {h0 hp : Hp}
/-- The memory of a run of its own, what was frozen being so still. -/
theorem HR.withz (hr : HR φ H n h0 hp) {φ0 : Ph} {H0 : AH} {n0 : Nat} (h : HR φ0 H0 n0 hp hp) (hn : ∀ b o, H0.get b = some o → o.own = false) (hz : ∀ q, ¬ φ0.z q) : HR ⟨φ0.f, φ.z, φ.z⟩ H0 n0 hp hp := by
  have hle : SLe φ0 ⟨φ0.f, φ.z, φ.z⟩ := ⟨fun _ _ e => e, fun q e => (hz q e).elim⟩
  have hz2 : ∀ q, φ.z q → (⟨φ0.f, φ.z, φ.z⟩ : Ph).z q := fun _ e => e
  refine ⟨h.dom, fun b o hb => (h.live b o hb).imp id fun ⟨p, ob, h1, h2, h3, h4⟩ => ⟨p, ob, h1, h2, h3, h4.smono hle⟩, h.inj, h.base, h.size, fun q hq => ⟨⟨FzR.mono hz2 (hr.frz q hq).1.1, .inl hq⟩, fun b o p hb hw _ => ?_⟩⟩
  rw [hn b o hb] at hw; cases hw
/-- What a run yields: a row that can be frozen. -/
def FrG (m k : Nat) (s : List AV) (u : AV) (H' : AH) : Prop :=
  (hd u = .nsl ∧ m = 0 ∧ s = []) ∨ (u = .fr m k s ∧ s.length = m * k) ∨
  (∃ b o x l z r, u = .rw b o m k x ∧ x ≠ 4 ∧ H'.get b = some (.cells l z) ∧ subL l o (m * k) = some r ∧ r.map mk = s.map mk) ∨
  ∃ b o c kk l z r, hd u = .sl b o m c kk ∧ m ≤ c ∧ H'.get b = some (.cells l z) ∧ subL l o (m * k) = some r ∧ r.map mk = s.map mk
theorem frG_row {m k j b x : Nat} {l s : List AV} {z : Bool} {u : AV} {H' : AH} (h1 : u = .rw b 0 j k x) (hj : j = m) (hb : H'.get b = some (.cells l z)) (hl : l.map mk = s.map mk) (hs : s.length = m * k) (hx : x ≠ 4 := by decide) : FrG m k s u H' := by
  subst hj
  exact .inr (.inr (.inl ⟨b, 0, x, l, z, l, h1, hx, hb, subL_all (by have := congrArg List.length hl; simp only [List.length_map] at this; omega), hl⟩))
/-- More is frozen than was. -/
def Ph.more (φ : Ph) (z : Fz → Prop) : Ph := ⟨φ.f, fun q => φ.z q ∨ z q, φ.y⟩
theorem Ph.more_le (φ : Ph) (z : Fz → Prop) : PLe φ (φ.more z) := ⟨fun _ _ e => e, fun _ e => .inl e, fun _ e => e⟩
theorem HR.more {h : Hp} (hr : HR φ H n h0 h) {z : Fz → Prop} (hz : ∀ q, z q → FzR (φ.more z) h q ∧ h0.f q.B = none ∧ ∀ b o p, H.get b = some o → o.own = true → φ b = some p → p.B ≠ q.B) : HR (φ.more z) H n h0 h := by
  refine ⟨hr.dom, fun b o hb => (hr.live b o hb).imp id fun ⟨p, ob, h1, h2, h3, h4⟩ => ⟨p, ob, h1, h2, h3, h4.mono (φ.more_le z)⟩, hr.inj, hr.base, hr.size, fun q hq => ?_⟩
  rcases hq with hq | hq
  · obtain ⟨⟨h1, h2⟩, h3⟩ := hr.frz q hq
    exact ⟨⟨FzR.mono (φ.more_le z).z h1, h2⟩, h3⟩
  · obtain ⟨h1, h2, h3⟩ := hz q hq
    exact ⟨⟨h1, .inr h2⟩, h3⟩
/-- The outcome of a run of its own, its row frozen. -/
theorem frozen_use {H' : AH} {n' : Nat} {g : Hp} {m k : Nat} {s : List AV} {u : AV} {w : Value} (hr : HR φ H n h0 hp) (hg : HR ψ H' n' hp g) (hy : ∀ q, ψ.y q → φ.z q) (hs : s.all flat.flat1 = true) (hsl : s.length = m * k) (hu : VR ψ u w) (he : FrG m k s u H') :
    ∃ χ, PLe φ χ ∧ HR χ H n h0 g ∧ VR χ (.fr m k s) w := by
  have hg2 : HR φ H n h0 g := hr.grow (fun b o hb => (hg.base b o hb).2) hg.size
  have hb0 : ∀ B, hp.f B = none → h0.f B = none := fun B e => by
    cases q : h0.f B with
    | none => rfl
    | some o => have := (hr.base B o q).2; rw [e] at this; cases this
  have own : ∀ B, hp.f B = none → ∀ b o p, H.get b = some o → o.own = true → φ b = some p → p.B ≠ B := fun B e b o p hb hw hp' q => by
    obtain ⟨ob, _, h1, _⟩ := hr.of hb hp'
    rw [q, e] at h1; cases h1
  have none : ∀ {a : Option Addr} {C : Nat}, m = 0 → s = [] → w = .slice a 0 C → (a = none → C = 0) → ∃ χ, PLe φ χ ∧ HR χ H n h0 g ∧ VR χ (.fr m k s) w := fun {a C} h1 h2 h3 h4 => by
    subst h1 h2 h3
    exact ⟨φ, .refl φ, hg2, .fre h4⟩
  -- a row at a place that is new
  have new : ∀ (B a C : Nat) (c : Array Value) (t : TypeId) (fz : Nat × Nat), hp.f B = .none → B < g.n → g.f B = some (.cells c t fz) → a + m * k ≤ c.size → (∃ χ, CR χ c a s) → m ≤ C → w = .slice (some ⟨B, a, .none⟩) m C → ∃ χ, PLe φ χ ∧ HR χ H n h0 g ∧ VR χ (.fr m k s) w := by
    intro B a C c t fz h1 h2 h3 h4 ⟨χ, h5⟩ h6 h7
    subst h7
    have hst : s.all stab = true := by
      rw [List.all_eq_true] at hs ⊢
      intro x hx
      have := hs x hx
      cases x <;> first | rfl | cases this
    refine ⟨φ.more fun q => q = ⟨B, a, s⟩, φ.more_le _, hg2.more fun q hq => ?_, ?_⟩
    · subst hq
      exact ⟨⟨⟨h2, hst⟩, c, t, fz, h3, (show a + s.length ≤ c.size by omega), CR.mk_flat h5 rfl hs⟩, hb0 _ h1, own _ h1⟩
    · have : VR (φ.more fun q => q = ⟨B, a, s⟩) (.fr m k s) (.slice (some ⟨B, a + 0, .none⟩) m C) := .fr (q := ⟨B, a, s⟩) (o := 0) (.inr rfl) h6 (subL_all hsl)
      exact this
  rcases he with ⟨e, hm, hs0⟩ | ⟨rfl, _⟩ | ⟨b, o, x, l, z, r, rfl, hx, hb, hsub, hmk⟩ | ⟨b, o, c, kk, l, z, r, e, hc, hb, hsub, hmk⟩
  · have := hu.hd
    rw [e] at this
    exact none hm hs0 this.nsl_inv fun _ => rfl
  · rcases hu.fr_inv with ⟨h1, h2, a, C, h3, h4⟩ | ⟨q, o, C, hq, rfl, hC, hl⟩
    · exact none h1 h2 h3 h4
    · obtain ⟨⟨hf, hyq⟩, _⟩ := hg.frz q hq
      rcases hyq with hyq | hyq
      · exact ⟨φ, .refl φ, hg2, .fr (hy q hyq) hC hl⟩
      · obtain ⟨⟨h1, h2⟩, c, t, fz, h3, h4, h5⟩ := hf
        obtain ⟨g1, g2⟩ := subL_spec hl
        exact new q.B (q.s + o) C c t fz hyq h1 h3 (by omega) ⟨ψ, by rw [g2]; exact CR.drop h5⟩ hC rfl
  · rcases hu.rw_inv with ⟨h1, hem⟩ | ⟨p, a, C, hpb, rfl, h2, h3, h4, h5, _, _⟩
    · exact none h1 (List.eq_nil_of_length_eq_zero (by rw [hsl, h1, Nat.zero_mul])) (hem.nil hx) fun _ => rfl
    · obtain ⟨ob, hq0, hq1, cc, t, fz, rfl, o1, o2, o3, o4, o5⟩ := hg.of hb hpb
      by_cases hm : m = 0
      · exact none (a := some ⟨p.B, a, .none⟩) hm (List.eq_nil_of_length_eq_zero (by rw [hsl, hm, Nat.zero_mul])) (by rw [hm]) fun q => by cases q
      · have ha := h2 hm
        subst ha
        obtain ⟨g1, g2⟩ := subL_spec hsub
        have h6 : CR ψ cc (p.s + o) r := by rw [g2]; exact CR.drop o5
        exact new p.B (p.s + o) C cc t fz hq0 (hg.dom _ _ hpb).2 hq1 (by omega) ⟨ψ, CR.mk_flat h6 hmk hs⟩ h4 rfl
  · have := hu.hd
    rw [e] at this
    obtain ⟨p, C, hpb, rfl, hC0, hC1⟩ := this.sl_inv
    obtain ⟨ob, hq0, hq1, cc, t, fz, rfl, o1, o2, o3, o4, o5⟩ := hg.of hb hpb
    obtain ⟨g1, g2⟩ := subL_spec hsub
    have h6 : CR ψ cc (p.s + o) r := by rw [g2]; exact CR.drop o5
    have hlC : m ≤ C := by
      by_cases hk0 : kk = 0
      · rw [hC0 hk0]; exact hc
      · exact Nat.le_trans hc (hC1 hk0).1
    exact new p.B (p.s + o) C cc t fz hq0 (hg.dom _ _ hpb).2 hq1 (by omega) ⟨ψ, CR.mk_flat h6 hmk hs⟩ hlC rfl
/-- A run of a function's code, its callees, itself among them, by a table. -/
noncomputable def recT (F : FuncId → EP) (d : Nat) (D : DT) (f : FuncId) : List AV → AH → Nat → PK → Prop := EP.rec (fun _ _ _ _ => False) (fun D c rs m => runP (callT F d) (callD F) D c rs m) (fun _ _ _ _ _ => False) (fun _ _ _ _ _ => False) (bodyP D f)
theorem recT_ok {F : FuncId → EP} (hF : TabP F) (d : Nat) {D : DT} {f : FuncId} (hok : fnOk Try.prog f = true) (hdr : drawF D f = true) : NatP f (recT F d D f) := fun args H n κ hs φ h0 h vs K hr hargs hk => by
  have hf := bodyP_ok (D := D) hok hdr
  unfold recT at hs
  cases hbd : bodyP D f with
  | no => rw [hbd] at hs; exact hs.elim
  | nat g => rw [hbd] at hs; exact hs.elim
  | det g => rw [hbd] at hs; exact hs.elim
  | run D c rs m =>
    rw [hbd] at hs hf
    obtain ⟨hok, hdr, fn, hfn, hb, hrs, hnt⟩ := hf
    subst hrs hnt
    exact runP_sound (by kernel_rfl) (callT_sound (by kernel_rfl) hF d) (callD_ok hF) (callD_sing hF) hok hdr hfn hb hs hr hargs hk
theorem callT_nat {F : FuncId → EP} (hF : TabP F) (d : Nat) (f : FuncId) : NatP f (callT F d f) := fun args H n κ hs φ h0 h vs K hr hargs hk => callT_sound (by kernel_rfl) hF d f args H n κ hs φ h0 h vs K hr hargs hk
/-- A run on a small memory that yields a row: it is frozen. -/
theorem smallFrR {f : FuncId} {run : List AV → AH → Nat → PK → Prop} (hrun : NatP f run) {args0 : List AV} {H0 : AH} {n0 m k : Nat} {s : List AV} (hs : s.all flat.flat1 = true) (hsl : s.length = m * k) (h : run args0 H0 n0 fun u H' _ => FrG m k s u H')
    {vs : Array Value} {κ : PK} {K : KH} (hk' : κ (.fr m k s) H n) (hr : HR φ H n h0 hp) (hk : ThenP φ h0 κ K) (hic : isCall Try.prog f = true) {φ0 : Ph} (hr0 : Wf hp → HR φ0 H0 n0 hp hp) (hy : φ0.y = φ.z) (hargs : VRs φ0 args0 vs.toList) : CallF Try.prog f vs hp K := by
  have key : Wf hp → CallF Try.prog f vs hp K := fun hw => hrun args0 H0 n0 _ h φ0 hp hp vs K (hr0 hw) hargs fun ψ u H' n' w g hle hg hu he => by
    obtain ⟨χ, h1, h2, h3⟩ := frozen_use hr hg (fun q hq => hy ▸ hle.y q hq) hs hsl hu he
    exact hk χ _ H n w g h1 h2 h3 hk'
  exact ⟨hic, fun w hi => (key hi.wf).2 w hi⟩
theorem smallFr {F : FuncId → EP} (hF : TabP F) {d : Nat} {f : FuncId} {args0 : List AV} {H0 : AH} {n0 m k : Nat} {s : List AV} (hs : s.all flat.flat1 = true) (hsl : s.length = m * k) (h : callT F d f args0 H0 n0 fun u H' _ => FrG m k s u H')
    {vs : Array Value} {κ : PK} {K : KH} (hk' : κ (.fr m k s) H n) (hr : HR φ H n h0 hp) (hk : ThenP φ h0 κ K) (hic : isCall Try.prog f = true) {φ0 : Ph} (hr0 : Wf hp → HR φ0 H0 n0 hp hp) (hy : φ0.y = φ.z) (hargs : VRs φ0 args0 vs.toList) : CallF Try.prog f vs hp K :=
  smallFrR (callT_nat hF d f) hs hsl h hk' hr hk hic hr0 hy hargs
end
end Go.Proofs.Ytdfeigkooeeeaaa
namespace Go.Proofs.Ytdfeigkooeeeaaa
open Go Go.RowKit
set_option maxRecDepth 20000
/-! ### names changed -/
mutual
def ren (r : Nat → Nat) : AV → AV
  | .int k n => .int k n
  | .str s => .str s
  | .bool b => .bool b
  | .nil => .nil
  | .ptr b o => .ptr (r b) o
  | .nsl => .nsl
  | .sl b o n c k => .sl (r b) o n c k
  | .esl b => .esl (r b)
  | .agg l => .agg (renL r l)
  | .tup l => .tup (renL r l)
  | .fn f a c => .fn f (renL r a) (renL r c)
  | .map b => .map (r b)
  | .any v => .any v
  | .bad => .bad
  | .si k n => .si k n
  | .sb b => .sb b
  | .ss s => .ss s
  | .sy b o n c k => .sy (r b) o n c k
  | .rw b o n k x => .rw (r b) o n k x
  | .fr n k l => .fr n k l
  | .fa l o => .fa l o
def renL (r : Nat → Nat) : List AV → List AV
  | [] => []
  | a :: l => ren r a :: renL r l
end
mutual
def ltV (m : Nat) : AV → Bool
  | .int _ _ => true
  | .str _ => true
  | .bool _ => true
  | .nil => true
  | .ptr b _ => Nat.blt b m
  | .nsl => true
  | .sl b _ _ _ _ => Nat.blt b m
  | .esl b => Nat.blt b m
  | .agg l => ltL_ m l
  | .tup l => ltL_ m l
  | .fn _ a c => ltL_ m a && ltL_ m c
  | .map b => Nat.blt b m
  | .any _ => true
  | .bad => true
  | .si _ _ => true
  | .sb _ => true
  | .ss _ => true
  | .sy b _ _ _ _ => Nat.blt b m
  | .rw b _ _ _ _ => Nat.blt b m
  | .fr _ _ _ => true
  | .fa _ _ => true
def ltL_ (m : Nat) : List AV → Bool
  | [] => true
  | a :: l => ltV m a && ltL_ m l
end
def Ph.pull (χ : Ph) (r : Nat → Nat) : Ph := ⟨fun b => χ (r b), χ.z, χ.y⟩
section
variable {χ ψ : Ph} {r : Nat → Nat} {m : Nat}
mutual
theorem VR.pull : ∀ (a : AV) (v : Value), VR χ (ren r a) v ↔ VR (χ.pull r) a v
  | .int k n, v => by simp only [ren, VR]
  | .str s, v => by simp only [ren, VR]
  | .bool b, v => by simp only [ren, VR]
  | .nil, v => by simp only [ren, VR]
  | .ptr b o, v => by simp only [ren, VR, Ph.pull]
  | .nsl, v => by simp only [ren, VR]
  | .sl b o n c k, v => by simp only [ren, VR, Ph.pull]
  | .esl b, v => by simp only [ren, VR, Ph.pull]
  | .agg l, v => by simp only [ren, VR, VRs.pull l]
  | .tup l, v => by simp only [ren, VR, VRs.pull l]
  | .fn f a c, v => by simp only [ren, VR, VRs.pull a, VRs.pull c]
  | .map b, v => by simp only [ren, VR, Ph.pull]
  | .any u, v => by simp only [ren, VR]
  | .bad, v => by simp only [ren, VR]
  | .si k n, v => by simp only [ren, VR]
  | .sb b, v => by simp only [ren, VR]
  | .ss s, v => by simp only [ren, VR]
  | .sy b o n c k, v => by simp only [ren, VR, Ph.pull]
  | .rw b o n k x, v => by simp only [ren, VR, Ph.pull]
  | .fr n k l, v => by simp only [ren, VR, Ph.pull]
  | .fa l o, v => by simp only [ren, VR, Ph.pull]
theorem VRs.pull : ∀ (l : List AV) (vs : List Value), VRs χ (renL r l) vs ↔ VRs (χ.pull r) l vs
  | [], vs => by simp only [renL, VRs]
  | a :: l, vs => by simp only [renL, VRs, VR.pull a, VRs.pull l]
end
mutual
theorem VR.below (he : ∀ b p, b < m → ψ b = some p → χ b = some p) (hz : ∀ q, ψ.z q → χ.z q) : ∀ (a : AV) (v : Value), ltV m a = true → VR ψ a v → VR χ a v
  | .int k n, v, _, h => by simp only [VR] at h ⊢; exact h
  | .str s, v, _, h => by simp only [VR] at h ⊢; exact h
  | .bool b, v, _, h => by simp only [VR] at h ⊢; exact h
  | .nil, v, _, h => by simp only [VR] at h ⊢; exact h
  | .ptr b o, v, hl, h => by
    simp only [ltV, Nat.blt_eq] at hl
    simp only [VR] at h ⊢
    obtain ⟨p, h1, h2⟩ := h
    exact ⟨p, he _ _ hl h1, h2⟩
  | .nsl, v, _, h => by simp only [VR] at h ⊢; exact h
  | .sl b o n c k, v, hl, h => by
    simp only [ltV, Nat.blt_eq] at hl
    simp only [VR] at h ⊢
    obtain ⟨p, C, h1, h2⟩ := h
    exact ⟨p, C, he _ _ hl h1, h2⟩
  | .esl b, v, hl, h => by
    simp only [ltV, Nat.blt_eq] at hl
    simp only [VR] at h ⊢
    obtain ⟨p, x, C, h1, h2⟩ := h
    exact ⟨p, x, C, he _ _ hl h1, h2⟩
  | .agg l, v, hl, h => by
    simp only [ltV] at hl
    simp only [VR] at h ⊢
    obtain ⟨cs, h1, h2⟩ := h
    exact ⟨cs, h1, VRs.below he hz l _ hl h2⟩
  | .tup l, v, hl, h => by
    simp only [ltV] at hl
    simp only [VR] at h ⊢
    obtain ⟨cs, h1, h2⟩ := h
    exact ⟨cs, h1, VRs.below he hz l _ hl h2⟩
  | .fn f a c, v, hl, h => by
    simp only [ltV, Bool.and_eq_true] at hl
    simp only [VR] at h ⊢
    obtain ⟨xs, cs, h1, h2, h3⟩ := h
    exact ⟨xs, cs, h1, VRs.below he hz a _ hl.1 h2, VRs.below he hz c _ hl.2 h3⟩
  | .map b, v, hl, h => by
    simp only [ltV, Nat.blt_eq] at hl
    simp only [VR] at h ⊢
    obtain ⟨p, h1, h2⟩ := h
    exact ⟨p, he _ _ hl h1, h2⟩
  | .any u, v, _, h => by simp only [VR] at h ⊢; exact h
  | .bad, v, _, h => by simp only [VR]
  | .si k n, v, _, h => by simp only [VR] at h ⊢; exact h
  | .sb b, v, _, h => by simp only [VR] at h ⊢; exact h
  | .ss s, v, _, h => by simp only [VR] at h ⊢; exact h
  | .sy b o n c k, v, hl, h => by
    simp only [ltV, Nat.blt_eq] at hl
    simp only [VR] at h ⊢
    obtain ⟨p, C, h1, h2⟩ := h
    exact ⟨p, C, he _ _ hl h1, h2⟩
  | .rw b o n k x, v, hl, h => by
    simp only [ltV, Nat.blt_eq] at hl
    simp only [VR] at h ⊢
    rcases h with h | ⟨p, a, C, h1, h2⟩
    · exact .inl h
    · exact .inr ⟨p, a, C, he _ _ hl h1, h2⟩
  | .fr n k l, v, _, h => by
    simp only [VR] at h ⊢
    rcases h with h | ⟨q, o, C, h1, h2⟩
    · exact .inl h
    · exact .inr ⟨q, o, C, hz _ h1, h2⟩
  | .fa l o, v, _, h => by
    simp only [VR] at h ⊢
    obtain ⟨q, x, h1, h2⟩ := h
    exact ⟨q, x, hz _ h1, h2⟩
theorem VRs.below (he : ∀ b p, b < m → ψ b = some p → χ b = some p) (hz : ∀ q, ψ.z q → χ.z q) : ∀ (l : List AV) (vs : List Value), ltL_ m l = true → VRs ψ l vs → VRs χ l vs
  | [], vs, _, h => by simp only [VRs] at h ⊢; exact h
  | a :: l, vs, hl, h => by
    simp only [ltL_, Bool.and_eq_true] at hl
    simp only [VRs] at h ⊢
    obtain ⟨v, us, h1, h2, h3⟩ := h
    exact ⟨v, us, h1, VR.below he hz a v hl.1 h2, VRs.below he hz l us hl.2 h3⟩
end
end
def renE (r : Nat → Nat) : List (AV × AV) → List (AV × AV)
  | [] => []
  | e :: es => (ren r e.1, ren r e.2) :: renE r es
def renO (r : Nat → Nat) : AO → AO
  | .cells l z => .cells (renL r l) z
  | .map es => .map (renE r es)
  | .ro l => .ro (renL r l)
  | .iter b m seen => .iter (r b) m seen
def ltE (m : Nat) : List (AV × AV) → Bool
  | [] => true
  | e :: es => ltV m e.1 && (ltV m e.2 && ltE m es)
def ltO (m : Nat) : AO → Bool
  | .cells l _ => ltL_ m l
  | .map es => ltE m es
  | .ro l => ltL_ m l
  | .iter b _ _ => Nat.blt b m
section
variable {χ ψ : Ph} {r : Nat → Nat} {m : Nat}
theorem renL_length : ∀ l : List AV, (renL r l).length = l.length
  | [] => rfl
  | a :: l => by simp [renL, renL_length l]
theorem renL_at : ∀ (l : List AV) (i : Nat), (renL r l)[i]? = (l[i]?).map (ren r)
  | [], i => by simp [renL]
  | a :: l, 0 => by simp [renL]
  | a :: l, i + 1 => by simp [renL, renL_at l i]
theorem ltL_at : ∀ {l : List AV}, ltL_ m l = true → ∀ {i : Nat} {a : AV}, l[i]? = some a → ltV m a = true
  | [], _, i, a, h => by simp at h
  | b :: l, hl, i, a, h => by
    simp only [ltL_, Bool.and_eq_true] at hl
    cases i with
    | zero => simp only [List.getElem?_cons_zero, Option.some.injEq] at h; subst h; exact hl.1
    | succ i => exact ltL_at hl.2 (by simpa using h)
theorem CR.pull {c : Array Value} {s : Nat} {l : List AV} : CR χ c s (renL r l) ↔ CR (χ.pull r) c s l := by
  constructor
  · intro h i a e
    obtain ⟨v, h1, h2⟩ := h i (ren r a) (by rw [renL_at, e]; rfl)
    exact ⟨v, h1, (VR.pull _ _).1 h2⟩
  · intro h i a e
    rw [renL_at, Option.map_eq_some_iff] at e
    obtain ⟨a', e1, rfl⟩ := e
    obtain ⟨v, h1, h2⟩ := h i a' e1
    exact ⟨v, h1, (VR.pull _ _).2 h2⟩
theorem CR.below (he : ∀ b p, b < m → ψ b = some p → χ b = some p) (hz : ∀ q, ψ.z q → χ.z q) {c : Array Value} {s : Nat} {l : List AV} (hl : ltL_ m l = true) (h : CR ψ c s l) : CR χ c s l := fun i a e => by
  obtain ⟨v, h1, h2⟩ := h i a e
  exact ⟨v, h1, VR.below he hz a v (ltL_at hl e) h2⟩
theorem MR.pull : ∀ {es : List (AV × AV)} {ms : List MapEntry}, MR χ (renE r es) ms ↔ MR (χ.pull r) es ms
  | [], ms => Iff.rfl
  | e :: es, ms => by
    show (∃ m us, _ ∧ _ ∧ _ ∧ MR χ (renE r es) us) ↔ ∃ m us, _ ∧ _ ∧ _ ∧ MR (χ.pull r) es us
    simp only [MR.pull (es := es), VR.pull]
theorem MR.below (he : ∀ b p, b < m → ψ b = some p → χ b = some p) (hz : ∀ q, ψ.z q → χ.z q) : ∀ {es : List (AV × AV)} {ms : List MapEntry}, ltE m es = true → MR ψ es ms → MR χ es ms
  | [], ms, _, h => h
  | e :: es, ms, hl, ⟨x, us, h1, h2, h3, h4⟩ => by
    simp only [ltE, Bool.and_eq_true] at hl
    exact ⟨x, us, h1, VR.below he hz _ _ hl.1 h2, VR.below he hz _ _ hl.2.1 h3, MR.below he hz hl.2.2 h4⟩
theorem OR.pull {p : Pl} {o : AO} {ob : Obj} : OR χ p (renO r o) ob ↔ OR (χ.pull r) p o ob := by
  cases o with
  | cells l z => simp only [renO, OR, renL_length, CR.pull]
  | map es => simp only [renO, OR, MR.pull]
  | iter b k seen => exact Iff.rfl
  | ro l => simp only [renO, OR, renL_length, CR.pull]
theorem OR.below (he : ∀ b p, b < m → ψ b = some p → χ b = some p) (hz : ∀ q, ψ.z q → χ.z q) {p : Pl} {o : AO} {ob : Obj} (hl : ltO m o = true) (h : OR ψ p o ob) : OR χ p o ob := by
  cases o with
  | cells l z => obtain ⟨c, t, fz, h1, h2, h3, h4, h5, h6⟩ := h; exact ⟨c, t, fz, h1, h2, h3, h4, h5, h6.below he hz hl⟩
  | map es => obtain ⟨ms, cl, h1, h2, h3⟩ := h; exact ⟨ms, cl, h1, MR.below he hz hl h2, h3⟩
  | iter b k seen =>
    obtain ⟨h0, q, h1, h2⟩ := h
    simp only [ltO, Nat.blt_eq] at hl
    exact ⟨h0, q, he _ _ hl h1, h2⟩
  | ro l => obtain ⟨c, t, fz, h1, h2, h3, h4⟩ := h; exact ⟨c, t, fz, h1, h2, h3, h4.below he hz hl⟩
theorem renO_own (o : AO) : (renO r o).own = o.own := by cases o <;> rfl
theorem renO_void (o : AO) : (renO r o).void = o.void := by
  cases o with
  | cells l z => cases l <;> rfl
  | map es => rfl
  | iter b k seen => rfl
  | ro l => cases l <;> rfl
theorem renO_under (o : AO) (ob : Obj) : (renO r o).under ob = o.under ob := by cases o <;> rfl
end
/-! ### the run and its caller -/
/-- A callee's names as its caller's: those that it was given, and new ones. -/
def nmOf (S : List Nat) (n b : Nat) : Nat := match S[b]? with
  | some s => s
  | none => n + (b - S.length)
def memO (O : List AO) : Nat → List (Nat × AO)
  | k => match O with
    | [] => []
    | o :: O => (k, o) :: memO O (k + 1)
theorem memO_mem : ∀ {O : List AO} {k b : Nat} {o : AO}, (b, o) ∈ memO O k → ∃ i, b = k + i ∧ O[i]? = some o
  | [], k, b, o, h => by cases h
  | x :: O, k, b, o, h => by
    rcases List.mem_cons.1 (show (b, o) ∈ (k, x) :: memO O (k + 1) from h) with h | h
    · injection h with h1 h2; subst h1 h2; exact ⟨0, rfl, rfl⟩
    · obtain ⟨i, h1, h2⟩ := memO_mem h
      exact ⟨i + 1, by omega, h2⟩
theorem nodup_at : ∀ {S : List Nat}, S.Nodup → ∀ {i j a : Nat}, S[i]? = some a → S[j]? = some a → i = j
  | [], _, i, j, a, h, _ => by simp at h
  | x :: S, hn, i, j, a, h, k => by
    obtain ⟨h1, h2⟩ := List.nodup_cons.1 hn
    cases i with
    | zero =>
      cases j with
      | zero => rfl
      | succ j =>
        simp only [List.getElem?_cons_zero, Option.some.injEq, List.getElem?_cons_succ] at h k
        subst h
        exact absurd (List.mem_of_getElem? k) h1
    | succ i =>
      cases j with
      | zero =>
        simp only [List.getElem?_cons_zero, Option.some.injEq, List.getElem?_cons_succ] at h k
        subst k
        exact absurd (List.mem_of_getElem? h) h1
      | succ j =>
        simp only [List.getElem?_cons_succ] at h k
        rw [nodup_at h2 h k]
section
variable {φ ψ : Ph} {H H' H2 : AH} {n n' m : Nat} {h0 hp g : Hp} {S : List Nat} {O : List AO}
/-- The caller's blocks that are handed on: they are there, and no row that may be without a place. -/
def Hands (H : AH) (n : Nat) (S : List Nat) (O : List AO) : Prop := S.Nodup ∧ S.length = O.length ∧ ∀ (i : Nat) s o, S[i]? = some s → O[i]? = some o → s < n ∧ H.get s = some (renO (nmOf S n) o) ∧ (o.void = false ∨ o.own = true)
theorem nmOf_lt {i s : Nat} (h : S[i]? = some s) : nmOf S n i = s := by unfold nmOf; rw [h]
theorem nmOf_ge {b : Nat} (h : S.length ≤ b) : nmOf S n b = n + (b - S.length) := by unfold nmOf; rw [List.getElem?_eq_none h]
/-- The blocks that are written by the callee. -/
def Gone (φ : Ph) (S : List Nat) (O : List AO) (B : Nat) : Prop := ∃ (i : Nat) (s : Nat) (o : AO) (p : Pl), S[i]? = some s ∧ O[i]? = some o ∧ o.own = true ∧ φ s = some p ∧ p.B = B
open Classical in
noncomputable def cutHp (φ : Ph) (S : List Nat) (O : List AO) (hp : Hp) : Hp := ⟨fun B => if Gone φ S O B then none else hp.f B, hp.n⟩
theorem less_some {B : Nat} {o : Obj} (h : (cutHp φ S O hp).f B = some o) : hp.f B = some o ∧ ¬ Gone φ S O B := by
  unfold cutHp at h
  dsimp only at h
  split at h
  · cases h
  · rename_i q; exact ⟨h, q⟩
theorem less_of {B : Nat} (h : ¬ Gone φ S O B) : (cutHp φ S O hp).f B = hp.f B := by
  unfold cutHp
  dsimp only
  rw [if_neg h]
theorem less_none {B : Nat} (h : (cutHp φ S O hp).f B = none) : Gone φ S O B ∨ hp.f B = none := by
  unfold cutHp at h
  dsimp only at h
  split at h
  · rename_i q; exact .inl q
  · exact .inr h
theorem Hands.at (hh : Hands H n S O) {i s : Nat} (hs : S[i]? = some s) : ∃ o, O[i]? = some o ∧ s < n ∧ H.get s = some (renO (nmOf S n) o) ∧ (o.void = false ∨ o.own = true) := by
  have hlt : i < O.length := by rw [← hh.2.1]; exact (List.getElem?_eq_some_iff.1 hs).1
  exact ⟨O[i], List.getElem?_eq_getElem hlt, hh.2.2 i s O[i] hs (List.getElem?_eq_getElem hlt)⟩
theorem Gone.base (hr : HR φ H n h0 hp) (hh : Hands H n S O) {B : Nat} (h : Gone φ S O B) : h0.f B = none := by
  obtain ⟨i, s, o, p, h1, h2, h3, h4, rfl⟩ := h
  obtain ⟨_, h5, _⟩ := hh.2.2 i s o h1 h2
  obtain ⟨ob, h6, _⟩ := hr.of h5 h4
  rw [renO_under, AO.under_own h3] at h6
  exact h6
theorem HR.small (hr : HR φ H n h0 hp) (hh : Hands H n S O) (hw : Wf hp) : HR ⟨fun b => φ (nmOf S n b), φ.z, φ.z⟩ (mkH (memO O 0)) S.length (cutHp φ S O hp) hp := by
  have nlt : ∀ b p, φ (nmOf S n b) = some p → ∃ s, S[b]? = some s ∧ φ s = some p := fun b p e => by
    cases hb : S[b]? with
    | some s => rw [nmOf_lt hb] at e; exact ⟨s, rfl, e⟩
    | none =>
      have hl := List.getElem?_eq_none_iff.1 hb
      rw [nmOf_ge hl] at e
      have := (hr.dom _ _ e).1; omega
  have get : ∀ {b o}, (mkH (memO O 0)).get b = some o → O[b]? = some o := fun {b o} e => by
    obtain ⟨i, h1, h2⟩ := memO_mem (mkH_get e)
    rw [show b = i by omega]; exact h2
  have ofO : ∀ {b o}, O[b]? = some o → ∃ s, S[b]? = some s := fun {b o} e => by
    have := (List.getElem?_eq_some_iff.1 e).1
    rw [← hh.2.1] at this
    exact ⟨S[b], List.getElem?_eq_getElem this⟩
  refine ⟨fun b p e => ?_, fun b o e => ?_, fun b b' o o' p p' e e' ho ho' hp1 hp2 hB => ?_, fun b o e => ?_, Nat.le_refl _, fun q hq => ⟨⟨FzR.mono (φ := φ) (ψ := ⟨fun b => φ (nmOf S n b), φ.z, φ.z⟩) (fun _ h => h) (hr.frz q hq).1.1, .inl hq⟩, fun b o p e ho hp1 => ?_⟩⟩
  · obtain ⟨s, h1, h2⟩ := nlt b p e
    exact ⟨(List.getElem?_eq_some_iff.1 h1).1, (hr.dom s p h2).2⟩
  · have h1 := get e
    obtain ⟨s, h2⟩ := ofO h1
    obtain ⟨_, h4, h5⟩ := hh.2.2 b s o h2 h1
    rcases hr.live s _ h4 with ⟨hφ, hv⟩ | ⟨p, ob, h6, h7, h8, h9⟩
    · exact .inl ⟨by show φ (nmOf S n b) = _; rw [nmOf_lt h2]; exact hφ, by rw [renO_void] at hv; exact hv⟩
    · refine .inr ⟨p, ob, by show φ (nmOf S n b) = _; rw [nmOf_lt h2]; exact h6, ?_, h8, ?_⟩
      · rw [renO_under] at h7
        by_cases ho : o.own = true
        · rw [AO.under_own ho]
          unfold cutHp
          dsimp only
          rw [if_pos ⟨b, s, o, p, h2, h1, ho, h6, rfl⟩]
        · rw [less_of (fun hg => ?_), h8]
          · cases o <;> first | (exact absurd rfl ho; done) | rfl
          · have := hg.base hr hh
            rw [this] at h7
            cases o <;> first | (exact absurd rfl ho; done) | cases h7
      · have := (OR.pull (χ := φ) (r := nmOf S n)).1 h9
        exact OR.smono (φ := φ.pull (nmOf S n)) (ψ := ⟨fun b => φ (nmOf S n b), φ.z, φ.z⟩) ⟨fun _ _ h => h, fun _ h => h⟩ this
  · have h1 := get e
    have h1' := get e'
    obtain ⟨s, h2⟩ := ofO h1
    obtain ⟨s', h2'⟩ := ofO h1'
    have hp1 : φ (nmOf S n b) = some p := hp1
    have hp2 : φ (nmOf S n b') = some p' := hp2
    rw [nmOf_lt h2] at hp1
    rw [nmOf_lt h2'] at hp2
    have := hr.inj s s' _ _ p p' (hh.2.2 b s o h2 h1).2.1 (hh.2.2 b' s' o' h2' h1').2.1 (by rw [renO_own]; exact ho) (by rw [renO_own]; exact ho') hp1 hp2 hB
    subst this
    exact nodup_at hh.1 h2 h2'
  · obtain ⟨h1, _⟩ := less_some e
    exact ⟨hw _ _ h1, h1⟩
  · have h1 := get e
    obtain ⟨s, h2⟩ := ofO h1
    have hp1 : φ (nmOf S n b) = some p := hp1
    rw [nmOf_lt h2] at hp1
    exact (hr.frz q hq).2 s _ p (hh.2.2 b s o h2 h1).2.1 (by rw [renO_own]; exact ho) hp1
/-- The caller's memory behind the call: what the callee left of the blocks it was given, and of its own. -/
def After (S : List Nat) (n m : Nat) (H H' H2 : AH) : Prop := ∀ b o, H2.get b = some o → (∃ c o', c < m ∧ b = nmOf S n c ∧ H'.get c = some o' ∧ o'.own = true ∧ ltO m o' = true ∧ o = renO (nmOf S n) o') ∨ ((b < n ∨ n + (m - S.length) ≤ b) ∧ H.get b = some o ∧ (b ∈ S → o.own = false))
open Classical in
/-- Where the caller's blocks lie then. -/
noncomputable def phA (φ ψ : Ph) (S : List Nat) (n m : Nat) : Ph := ⟨fun b => if h : ∃ c, c < m ∧ nmOf S n c = b then ψ h.choose else if b < n then φ b else none, fun q => φ.z q ∨ ψ.z q, φ.y⟩
theorem nmOf_inj (hh : Hands H n S O) {c d : Nat} (h : nmOf S n c = nmOf S n d) : c = d := by
  have lt : ∀ {i s}, S[i]? = some s → s < n := fun {i s} hs => by
    obtain ⟨_, _, h, _⟩ := hh.at hs; exact h
  cases hc : S[c]? with
  | some s =>
    cases hd : S[d]? with
    | some t =>
      rw [nmOf_lt hc, nmOf_lt hd] at h
      subst h
      exact nodup_at hh.1 hc hd
    | none =>
      rw [nmOf_lt hc, nmOf_ge (List.getElem?_eq_none_iff.1 hd)] at h
      have := lt hc; omega
  | none =>
    have l1 := List.getElem?_eq_none_iff.1 hc
    cases hd : S[d]? with
    | some t =>
      rw [nmOf_lt hd, nmOf_ge l1] at h
      have := lt hd; omega
    | none =>
      have l2 := List.getElem?_eq_none_iff.1 hd
      rw [nmOf_ge l1, nmOf_ge l2] at h
      omega
theorem phA_of (hh : Hands H n S O) {c : Nat} (hc : c < m) : phA φ ψ S n m (nmOf S n c) = ψ c := by
  have h : ∃ d, d < m ∧ nmOf S n d = nmOf S n c := ⟨c, hc, rfl⟩
  show (if h : ∃ d, d < m ∧ nmOf S n d = nmOf S n c then ψ h.choose else _) = _
  rw [dif_pos h, nmOf_inj hh h.choose_spec.2]
theorem phA_old {b : Nat} (hb : b < n) (hS : b ∉ S) : phA φ ψ S n m b = φ b := by
  have h : ¬ ∃ d, d < m ∧ nmOf S n d = b := fun ⟨d, _, e⟩ => by
    cases hd : S[d]? with
    | some s => rw [nmOf_lt hd] at e; subst e; exact hS (List.mem_of_getElem? hd)
    | none => rw [nmOf_ge (List.getElem?_eq_none_iff.1 hd)] at e; omega
  show (if h : ∃ d, d < m ∧ nmOf S n d = b then ψ h.choose else _) = _
  rw [dif_neg h, if_pos hb]
theorem phA_past (hr : HR φ H n h0 hp) (hh : Hands H n S O) {b : Nat} (hb : b < n ∨ n + (m - S.length) ≤ b) (hS : b ∉ S) : phA φ ψ S n m b = φ b := by
  rcases hb with hb | hb
  · exact phA_old hb hS
  · have h : ¬ ∃ d, d < m ∧ nmOf S n d = b := fun ⟨d, h1, e⟩ => by
      cases hd : S[d]? with
      | some s => rw [nmOf_lt hd] at e; subst e; exact hS (List.mem_of_getElem? hd)
      | none =>
        have := List.getElem?_eq_none_iff.1 hd
        rw [nmOf_ge this] at e; omega
    show (if h : ∃ d, d < m ∧ nmOf S n d = b then ψ h.choose else if b < n then φ b else none) = _
    rw [dif_neg h, if_neg (by omega)]
    cases e : φ b with
    | none => rfl
    | some p => have := (hr.dom b p e).1; omega
theorem phA_le (hr : HR φ H n h0 hp) (hh : Hands H n S O) (hm : S.length ≤ m) (hle : PLe ⟨fun b => φ (nmOf S n b), φ.z, φ.z⟩ ψ) : PLe φ (phA φ ψ S n m) := by
  refine ⟨fun b p e => ?_, fun _ h => .inl h, fun _ h => h⟩
  have hb := (hr.dom b p e).1
  by_cases hS : b ∈ S
  · obtain ⟨i, hi, rfl⟩ := List.mem_iff_getElem.1 hS
    have hi2 : S[i]? = some S[i] := List.getElem?_eq_getElem hi
    have := phA_of (φ := φ) (ψ := ψ) (m := m) hh (c := i) (by omega)
    rw [nmOf_lt hi2] at this
    rw [this]
    exact hle.b i p (by show φ (nmOf S n i) = _; rw [nmOf_lt hi2]; exact e)
  · rw [phA_old hb hS]; exact e
theorem HR.after (hr : HR φ H n h0 hp) (hh : Hands H n S O) (hm : S.length ≤ m) (hle : PLe ⟨fun b => φ (nmOf S n b), φ.z, φ.z⟩ ψ) (hg : HR ψ H' n' (cutHp φ S O hp) g) (ha : After S n m H H' H2) : HR (phA φ ψ S n m) H2 (n + (m - S.length)) h0 g := by
  have hple := phA_le (m := m) hr hh hm hle
  have pull : ∀ b p, b < m → ψ b = some p → (phA φ ψ S n m).pull (nmOf S n) b = some p := fun b p hb e => by
    show phA φ ψ S n m (nmOf S n b) = _
    rw [phA_of hh hb]; exact e
  have hn0 : ∀ B, (cutHp φ S O hp).f B = none → h0.f B = none := fun B e => by
    rcases less_none e with h | h
    · exact h.base hr hh
    · cases q : h0.f B with
      | none => rfl
      | some o => have := (hr.base B o q).2; rw [h] at this; cases this
  -- what an old block's place holds
  have old : ∀ {b o p}, (b < n ∨ n + (m - S.length) ≤ b) → H.get b = some o → (b ∈ S → o.own = false) → φ b = some p → ∃ ob, h0.f p.B = o.under ob ∧ hp.f p.B = some ob ∧ ¬ Gone φ S O p.B ∧ OR φ p o ob := fun {b o p} hb e hS hp1 => by
    obtain ⟨ob, h1, h2, h3⟩ := hr.of e hp1
    refine ⟨ob, h1, h2, fun hgn => ?_, h3⟩
    by_cases ho : o.own = true
    · obtain ⟨i, s, o', p', g1, g2, g3, g4, g5⟩ := hgn
      have := hr.inj s b _ o p' p (hh.2.2 i s o' g1 g2).2.1 e (by rw [renO_own]; exact g3) ho g4 hp1 g5
      subst this
      have := hS (List.mem_of_getElem? g1)
      rw [this] at ho; cases ho
    · have := hgn.base hr hh
      rw [this] at h1
      cases o <;> first | (exact absurd rfl ho; done) | cases h1
  have oldP : ∀ {b o}, (b < n ∨ n + (m - S.length) ≤ b) → H.get b = some o → (b ∈ S → o.own = false) → ∀ p, phA φ ψ S n m b = some p → o.own = true ∨ φ b ≠ none → φ b = some p := fun {b o} hb e hS p hp1 hq => by
    by_cases hbS : b ∈ S
    · have hf := hS hbS
      rcases hq with hq | hq
      · rw [hf] at hq; cases hq
      · cases hφ : φ b with
        | none => exact absurd hφ hq
        | some q =>
          have := hple.b b q hφ
          rw [hp1] at this; rw [this]
    · rw [phA_past hr hh hb hbS] at hp1; exact hp1
  refine ⟨fun b p e => ?_, fun b o e => ?_, fun b b' o o' p p' e e' ho ho' hp1 hp2 hB => ?_, fun b o e => ?_, Nat.le_trans hr.size hg.size, fun q hq => ?_⟩
  · have e : (if h : ∃ c, c < m ∧ nmOf S n c = b then ψ h.choose else if b < n then φ b else none) = some p := e
    split at e
    · rename_i h
      obtain ⟨h1, h2⟩ := h.choose_spec
      refine ⟨?_, (hg.dom _ _ e).2⟩
      generalize h.choose = c at h1 h2
      cases hc : S[c]? with
      | some s => rw [nmOf_lt hc] at h2; obtain ⟨_, _, h3, _⟩ := hh.at hc; omega
      | none =>
        have := List.getElem?_eq_none_iff.1 hc
        rw [nmOf_ge this] at h2; omega
    · split at e
      · have := hr.dom b p e
        have hsz : hp.n ≤ g.n := hg.size
        omega
      · cases e
  · rcases ha b o e with ⟨c, o', hc, rfl, h1, h2, h3, rfl⟩ | ⟨hb, h1, h2⟩
    · rcases hg.live c o' h1 with ⟨h4, h5⟩ | ⟨p, ob, h4, h5, h6, h7⟩
      · exact .inl ⟨by rw [phA_of hh hc]; exact h4, by rw [renO_void]; exact h5⟩
      · refine .inr ⟨p, ob, by rw [phA_of hh hc]; exact h4, ?_, h6, ?_⟩
        · rw [renO_under, AO.under_own h2]
          rw [AO.under_own h2] at h5
          exact hn0 _ h5
        · exact (OR.pull (χ := phA φ ψ S n m)).2 (h7.below (m := m) pull (fun _ h => .inr h) h3)
    · rcases hr.live b o h1 with ⟨h3, h4⟩ | ⟨p, ob, h3, _⟩
      · by_cases hbS : b ∈ S
        · obtain ⟨i, hi, rfl⟩ := List.mem_iff_getElem.1 hbS
          obtain ⟨o', g1, _, g2, g3⟩ := hh.at (List.getElem?_eq_getElem hi)
          rw [h1] at g2; injection g2 with g2
          rcases g3 with g3 | g3
          · rw [g2, renO_void, g3] at h4; cases h4
          · have := h2 hbS
            rw [g2, renO_own, g3] at this; cases this
        · exact .inl ⟨by rw [phA_past hr hh hb hbS]; exact h3, h4⟩
      · obtain ⟨ob, h4, h5, h6, h7⟩ := old hb h1 h2 h3
        exact .inr ⟨p, ob, hple.b b p h3, h4, (hg.base _ _ (by rw [less_of h6]; exact h5)).2, h7.mono hple⟩
  · rcases ha b o e with ⟨c, x, hc, rfl, h1, h2, h3, rfl⟩ | ⟨hb, h1, h2⟩ <;> rcases ha b' o' e' with ⟨d, y, hd, rfl, k1, k2, k3, rfl⟩ | ⟨hb', k1, k2⟩
    · rw [phA_of hh hc] at hp1
      rw [phA_of hh hd] at hp2
      rw [hg.inj c d x y p p' h1 k1 h2 k2 hp1 hp2 hB]
    · exfalso
      rw [phA_of hh hc] at hp1
      have hp2' := oldP hb' k1 k2 p' hp2 (.inl ho')
      obtain ⟨ob, g1, g2, g3, _⟩ := old hb' k1 k2 hp2'
      obtain ⟨ob', g4, _⟩ := hg.of h1 hp1
      rw [AO.under_own h2, hB, less_of g3, g2] at g4; cases g4
    · exfalso
      rw [phA_of hh hd] at hp2
      have hp1' := oldP hb h1 h2 p hp1 (.inl ho)
      obtain ⟨ob, g1, g2, g3, _⟩ := old hb h1 h2 hp1'
      obtain ⟨ob', g4, _⟩ := hg.of k1 hp2
      rw [AO.under_own k2, ← hB, less_of g3, g2] at g4; cases g4
    · exact hr.inj b b' o o' p p' h1 k1 ho ho' (oldP hb h1 h2 p hp1 (.inl ho)) (oldP hb' k1 k2 p' hp2 (.inl ho')) hB
  · obtain ⟨_, h1⟩ := hr.base b o e
    have h2 : ¬ Gone φ S O b := fun hgn => by rw [hgn.base hr hh] at e; cases e
    exact hg.base b o (by rw [less_of h2]; exact h1)
  · rcases hq with hq | hq
    · obtain ⟨⟨h1, h2⟩, h3⟩ := hr.frz q hq
      have hψ : ψ.z q := hle.z q hq
      obtain ⟨⟨k1, k2⟩, k3⟩ := hg.frz q hψ
      refine ⟨⟨FzR.mono (φ := ψ) (ψ := phA φ ψ S n m) (fun _ h => Or.inr h) k1, h2⟩, fun b o p e ho hp1 => ?_⟩
      rcases ha b o e with ⟨c, x, hc, rfl, g1, g2, g3, rfl⟩ | ⟨hb, g1, g2⟩
      · rw [phA_of hh hc] at hp1
        exact k3 c x p g1 g2 hp1
      · exact h3 b o p g1 ho (oldP hb g1 g2 p hp1 (.inl ho))
    · obtain ⟨⟨k1, k2⟩, k3⟩ := hg.frz q hq
      refine ⟨⟨FzR.mono (φ := ψ) (ψ := phA φ ψ S n m) (fun _ h => Or.inr h) k1, ?_⟩, fun b o p e ho hp1 => ?_⟩
      · rcases k2 with k2 | k2
        · exact (hr.frz q (hle.y q k2)).1.2
        · exact .inr (hn0 _ k2)
      · rcases ha b o e with ⟨c, x, hc, rfl, g1, g2, g3, rfl⟩ | ⟨hb, g1, g2⟩
        · rw [phA_of hh hc] at hp1
          exact k3 c x p g1 g2 hp1
        · have hp1' := oldP hb g1 g2 p hp1 (.inl ho)
          obtain ⟨ob, j1, j2, j3, _⟩ := old hb g1 g2 hp1'
          rcases k2 with k2 | k2
          · exact (hr.frz q (hle.y q k2)).2 b o p g1 ho hp1'
          · intro hB
            rw [← hB, less_of j3, j2] at k2; cases k2
end
/-- The caller's memory, the callee's blocks put into it (none: it is gone). -/
noncomputable def putH (S : List Nat) (n : Nat) (H : AH) : List (Nat × Option AO) → AH
  | [] => H
  | x :: l => (putH S n H l).set (x.2.map (renO (nmOf S n))) depthH (nmOf S n x.1)
theorem putH_get {S : List Nat} {n : Nat} {H : AH} : ∀ {l : List (Nat × Option AO)} {b : Nat} {o : AO}, (putH S n H l).get b = some o → (∃ x ∈ l, ∃ o', b = nmOf S n x.1 ∧ x.2 = some o' ∧ o = renO (nmOf S n) o') ∨ (H.get b = some o ∧ ∀ x ∈ l, b ≠ nmOf S n x.1)
  | [], b, o, h => .inr ⟨h, fun x hx => by cases hx⟩
  | x :: l, b, o, h => by
    rcases PM.get_set depthH _ _ b o (show ((putH S n H l).set (x.2.map (renO (nmOf S n))) depthH (nmOf S n x.1)).get b = some o from h) with ⟨h1, h2⟩ | ⟨h1, h2⟩
    · rw [Option.map_eq_some_iff] at h2
      obtain ⟨o', h3, h4⟩ := h2
      exact .inl ⟨x, List.mem_cons_self, o', h1, h3, h4.symm⟩
    · rcases putH_get h2 with ⟨y, h3, h4⟩ | ⟨h3, h4⟩
      · exact .inl ⟨y, List.mem_cons_of_mem _ h3, h4⟩
      · refine .inr ⟨h3, fun y hy => ?_⟩
        rcases List.mem_cons.1 hy with rfl | hy
        · exact h1
        · exact h4 y hy
theorem After.put {S : List Nat} {n m : Nat} {H H' : AH} {l : List (Nat × Option AO)} (hm : S.length ≤ m) (hl : l.map (·.1) = List.range m) (h : ∀ x ∈ l, ∀ o, x.2 = some o → H'.get x.1 = some o ∧ o.own = true ∧ ltO m o = true) : After S n m H H' (putH S n H l) := fun b o e => by
  rcases putH_get e with ⟨x, h1, o', h2, h3, h4⟩ | ⟨h1, h2⟩
  · obtain ⟨k1, k2, k3⟩ := h x h1 o' h3
    have : x.1 ∈ List.range m := hl ▸ List.mem_map.2 ⟨x, h1, rfl⟩
    exact .inl ⟨x.1, o', List.mem_range.1 this, h2, k1, k2, k3, h4⟩
  · have key : ∀ c, c < m → b ≠ nmOf S n c := fun c hc => by
      have : c ∈ l.map (·.1) := hl ▸ List.mem_range.2 hc
      obtain ⟨x, h3, rfl⟩ := List.mem_map.1 this
      exact h2 x h3
    refine .inr ⟨?_, h1, fun hS => ?_⟩
    · by_cases q : b < n
      · exact .inl q
      · refine .inr ?_
        rcases Nat.lt_or_ge b (n + (m - S.length)) with q2 | q2
        · exfalso
          refine key (S.length + (b - n)) (by omega) ?_
          rw [nmOf_ge (by omega)]; omega
        · exact q2
    · obtain ⟨i, hi, rfl⟩ := List.mem_iff_getElem.1 hS
      exact absurd (nmOf_lt (n := n) (List.getElem?_eq_getElem hi)).symm (key i (by omega))
/-- Nothing but what was there, if it is as it was. -/
theorem After.same {S : List Nat} {n : Nat} {H H' : AH} (h : ∀ (i s : Nat) o, S[i]? = some s → H.get s = some o → o.own = true → ∃ o', H'.get i = some o' ∧ o'.own = true ∧ ltO S.length o' = true ∧ o = renO (nmOf S n) o') : After S n S.length H H' H := fun b o e => by
  by_cases hb : b ∈ S
  · obtain ⟨i, hi, rfl⟩ := List.mem_iff_getElem.1 hb
    by_cases ho : o.own = true
    · obtain ⟨o', h1, h2, h3, h4⟩ := h i S[i] o (List.getElem?_eq_getElem hi) e ho
      exact .inl ⟨i, o', hi, (nmOf_lt (List.getElem?_eq_getElem hi)).symm, h1, h2, h3, h4⟩
    · exact .inr ⟨by omega, e, fun _ => by simpa using ho⟩
  · exact .inr ⟨by omega, e, fun h => absurd h hb⟩
/-- A function that is known by a run on the blocks it is given. -/
theorem framed {f : FuncId} {run : List AV → AH → Nat → PK → Prop} (hrun : NatP f run) {φ : Ph} {H : AH} {n : Nat} {h0 hp : Hp} {S : List Nat} {O : List AO} {args0 : List AV} {κ : PK} {K : KH} {vs : Array Value} (hic : isCall Try.prog f = true)
    (hr : HR φ H n h0 hp) (hh : Hands H n S O) (hargs : VRs φ (renL (nmOf S n) args0) vs.toList) (hk : ThenP φ h0 κ K)
    {Q : PK} (h : run args0 (mkH (memO O 0)) S.length Q) (hQ : ∀ u H' n', Q u H' n' → ∃ m H2, S.length ≤ m ∧ After S n m H H' H2 ∧ ltV m u = true ∧ κ (ren (nmOf S n) u) H2 (n + (m - S.length))) : CallF Try.prog f vs hp K := by
  have key : Wf hp → CallF Try.prog f vs hp K := fun hw => hrun args0 _ _ _ h ⟨fun b => φ (nmOf S n b), φ.z, φ.z⟩ (cutHp φ S O hp) hp vs K (hr.small hh hw) (VRs.smono (φ := φ.pull (nmOf S n)) (ψ := ⟨fun b => φ (nmOf S n b), φ.z, φ.z⟩) ⟨fun _ _ h => h, fun _ h => h⟩ _ _ ((VRs.pull (χ := φ) (r := nmOf S n) args0 vs.toList).1 hargs)) fun ψ u H' n' w g hle hg hu hq => by
    obtain ⟨m, H2, hm, ha, hl, hκ⟩ := hQ u H' n' hq
    exact hk _ _ _ _ w g (phA_le hr hh hm hle) (hr.after hh hm hle hg ha) ((VR.pull (χ := phA φ ψ S n m) u w).2 (VR.below (ψ := ψ) (m := m) (fun b p hb e => by
      show phA φ ψ S n m (nmOf S n b) = _
      rw [phA_of hh hb]; exact e) (fun _ h => Or.inr h) u w hl hu)) hκ
  exact ⟨hic, fun w hi => (key hi.wf).2 w hi⟩
/-- A block told in another way. -/
theorem HR.reobj {φ : Ph} {H : AH} {n : Nat} {h0 h : Hp} (hr : HR φ H n h0 h) {b : Nat} {o o' : AO} (hb : H.get b = some o) (hown : o.own = true) (hown' : o'.own = true) (hv : o.void = true → o'.void = true) (ho : ∀ p ob, φ b = some p → h.f p.B = some ob → OR φ p o ob → OR φ p o' ob) : HR φ (H.set (some o') depthH b) n h0 h := by
  have back : ∀ z r, (H.set (some o') depthH b).get z = some r → r.own = true → ∃ r', H.get z = some r' ∧ r'.own = true := fun z r hz hw2 => by
    rcases PM.get_set depthH H b z r hz with ⟨rfl, _⟩ | ⟨_, h2⟩
    · exact ⟨o, hb, hown⟩
    · exact ⟨r, h2, hw2⟩
  refine ⟨hr.dom, fun x q hx => ?_, fun x y q q' px py hx hy hwx hwy hpx hpy e => ?_, hr.base, hr.size, fun q hq => ⟨(hr.frz q hq).1, fun y oy py hy hwy hpy => ?_⟩⟩
  · rcases PM.get_set depthH H b x q hx with ⟨rfl, h2⟩ | ⟨h1, h2⟩
    · injection h2 with h2
      subst h2
      rcases hr.live x o hb with ⟨h3, h4⟩ | ⟨p, ob, h3, h4, h5, h6⟩
      · exact .inl ⟨h3, hv h4⟩
      · exact .inr ⟨p, ob, h3, by rw [AO.under_own hown']; rw [AO.under_own hown] at h4; exact h4, h5, ho p ob h3 h5 h6⟩
    · exact hr.live x q h2
  · obtain ⟨r, hr1, hr3⟩ := back x q hx hwx
    obtain ⟨r', hr2, hr4⟩ := back y q' hy hwy
    exact hr.inj x y r r' px py hr1 hr2 hr3 hr4 hpx hpy e
  · obtain ⟨r, hr1, hr3⟩ := back y oy hy hwy
    exact (hr.frz q hq).2 y r py hr1 hr3 hpy
/-- Cells told in another way. -/
theorem HR.recell {φ : Ph} {H : AH} {n : Nat} {h0 h : Hp} (hr : HR φ H n h0 h) {b : Nat} {l l' : List AV} {z : Bool} (hb : H.get b = some (.cells l z)) (hl : l'.length = l.length) (hc : ∀ (i : Nat) (a' : AV), l'[i]? = some a' → ∃ a, l[i]? = some a ∧ ∀ v, VR φ a v → VR φ a' v) : HR φ (H.set (some (.cells l' z)) depthH b) n h0 h :=
  hr.reobj hb rfl rfl (fun q => by cases l with
    | nil => cases l' with
      | nil => rfl
      | cons _ _ => simp at hl
    | cons _ _ => cases q) fun p ob _ _ ⟨c, t, fz, h1, h2, h3, h4, h5, h6⟩ => ⟨c, t, fz, h1, by rw [hl]; exact h2, h3, h4, h5, fun i a' hi => by
      obtain ⟨a, h7, h8⟩ := hc i a' hi
      obtain ⟨v, h9, h10⟩ := h6 i a h7
      exact ⟨v, h9, h8 v h10⟩⟩
end Go.Proofs.Ytdfeigkooeeeaaa
namespace Go.Proofs.Ytdfeigkooeeeaaa
open Go Go.RowKit
/-! ### numbers as bits, the highest first -/
def bitsOf (u : Nat) : Nat → List Nat
  | 0 => []
  | m + 1 => (u / 2 ^ m) % 2 :: bitsOf u m
def Bits (B : List Nat) : Prop := ∀ b ∈ B, b < 2
theorem bitsOf_length (u : Nat) : ∀ m, (bitsOf u m).length = m
  | 0 => rfl
  | m + 1 => by simp [bitsOf, bitsOf_length u m]
theorem bitsOf_bits (u : Nat) : ∀ m, Bits (bitsOf u m)
  | 0 => fun b h => by cases h
  | m + 1 => fun b h => by
    rcases List.mem_cons.1 h with rfl | h
    · exact Nat.mod_lt _ (by decide)
    · exact bitsOf_bits u m b h
theorem Bits.nil : Bits [] := fun b h => by cases h
theorem Bits.app {A B : List Nat} (h : Bits A) (k : Bits B) : Bits (A ++ B) := fun b hb => (List.mem_append.1 hb).elim (h b) (k b)
theorem Bits.one {b : Nat} (h : b < 2) : Bits [b] := fun c hc => by simp at hc; omega
def numB (a : Nat) (B : List Nat) : Nat := B.foldl (fun u b => 2 * u + b) a
theorem numB_bits (a u : Nat) : ∀ m, numB a (bitsOf u m) = a * 2 ^ m + u % 2 ^ m
  | 0 => by simp [numB, bitsOf, Nat.mod_one]
  | m + 1 => by
    show numB (2 * a + u / 2 ^ m % 2) (bitsOf u m) = _
    rw [numB_bits _ u m, Nat.mod_pow_succ, Nat.pow_succ, Nat.add_mul]
    have e1 : 2 * a * 2 ^ m = a * (2 ^ m * 2) := by rw [Nat.mul_comm 2 a, Nat.mul_assoc, Nat.mul_comm 2]
    have e2 : u / 2 ^ m % 2 * 2 ^ m = 2 ^ m * (u / 2 ^ m % 2) := Nat.mul_comm _ _
    omega
theorem numB_acc : ∀ (B : List Nat) (a : Nat), numB a B = a * 2 ^ B.length + numB 0 B
  | [], a => by simp [numB]
  | b :: B, a => by
    show numB (2 * a + b) B = a * 2 ^ (B.length + 1) + numB (2 * 0 + b) B
    rw [numB_acc B (2 * a + b), numB_acc B (2 * 0 + b), Nat.pow_succ, Nat.add_mul]
    have e1 : 2 * a * 2 ^ B.length = a * (2 ^ B.length * 2) := by rw [Nat.mul_comm 2 a, Nat.mul_assoc, Nat.mul_comm 2]
    simp only [Nat.mul_zero, Nat.zero_add]
    omega
theorem numB_lt : ∀ (B : List Nat), Bits B → numB 0 B < 2 ^ B.length
  | [], _ => by simp [numB]
  | b :: B, h => by
    have ih := numB_lt B fun c hc => h c (List.mem_cons_of_mem _ hc)
    have hb := h b List.mem_cons_self
    show numB (2 * 0 + b) B < _
    rw [numB_acc, List.length_cons, Nat.pow_succ]
    have : (2 * 0 + b) * 2 ^ B.length ≤ 1 * 2 ^ B.length := Nat.mul_le_mul_right _ (by omega)
    omega
theorem numB_app (A B : List Nat) (a : Nat) : numB a (A ++ B) = numB (numB a A) B := by simp [numB, List.foldl_append]
/-- A bit out of the number. -/
theorem numB_at : ∀ (B : List Nat) (a j : Nat), Bits B → ∀ h : j < B.length, numB a B / 2 ^ (B.length - 1 - j) % 2 = B[j]
  | b :: B, a, 0, hb, _ => by
    show numB (2 * a + b) B / 2 ^ (B.length + 1 - 1 - 0) % 2 = b
    have hlt := numB_lt B fun c hc => hb c (List.mem_cons_of_mem _ hc)
    have := hb b List.mem_cons_self
    rw [numB_acc, Nat.add_sub_cancel, Nat.sub_zero, Nat.mul_comm, Nat.mul_add_div (Nat.two_pow_pos _), Nat.div_eq_of_lt hlt]
    omega
  | b :: B, a, j + 1, hb, h => by
    have h' : j < B.length := by simpa using h
    have := numB_at B (2 * a + b) j (fun c hc => hb c (List.mem_cons_of_mem _ hc)) h'
    show numB (2 * a + b) B / 2 ^ (B.length + 1 - 1 - (j + 1)) % 2 = B[j]
    rw [show B.length + 1 - 1 - (j + 1) = B.length - 1 - j from by omega]
    exact this
/-! ### bits as bytes -/
def pad8 (C : List Nat) : List Nat := C ++ List.replicate (8 - C.length) 0
def byteN (C : List Nat) : Nat := numB 0 (pad8 C)
def pack (B : List Nat) : List Nat := (List.range ((B.length + 7) / 8)).map fun i => byteN ((B.drop (8 * i)).take 8)
def rdBit (s : List Nat) (i : Nat) : Nat := (s[i / 8]?).getD 0 / 2 ^ (7 - i % 8) % 2
theorem pad8_length {C : List Nat} (h : C.length ≤ 8) : (pad8 C).length = 8 := by simp [pad8]; omega
theorem pad8_bits {C : List Nat} (h : Bits C) : Bits (pad8 C) := h.app fun b hb => by
  have := List.eq_of_mem_replicate hb; omega
theorem byteN_lt {C : List Nat} (h : Bits C) (hl : C.length ≤ 8) : byteN C < 256 := by
  have := numB_lt _ (pad8_bits h)
  rw [pad8_length hl] at this
  exact this
theorem byteN_eq {C : List Nat} : byteN C = numB 0 C * 2 ^ (8 - C.length) := by
  unfold byteN pad8
  rw [numB_app]
  have : ∀ m a, numB a (List.replicate m 0) = a * 2 ^ m := fun m => by
    induction m with
    | zero => intro a; simp [numB]
    | succ m ih =>
      intro a
      show numB (2 * a + 0) (List.replicate m 0) = _
      rw [ih, Nat.pow_succ, Nat.add_zero, Nat.mul_comm 2 a, Nat.mul_assoc, Nat.mul_comm 2]
  exact this _ _
theorem byteN_at {C : List Nat} (h : Bits C) (hl : C.length ≤ 8) {j : Nat} (hj : j < C.length) : byteN C / 2 ^ (7 - j) % 2 = C[j] := by
  have hp := pad8_length hl
  have := numB_at (pad8 C) 0 j (pad8_bits h) (by omega)
  unfold byteN
  rw [show 7 - j = (pad8 C).length - 1 - j from by omega, this]
  simp [pad8, hj]
theorem pack_length (B : List Nat) : (pack B).length = (B.length + 7) / 8 := by simp [pack]
theorem pack_at (B : List Nat) (i : Nat) (h : i < (B.length + 7) / 8) : (pack B)[i]? = some (byteN ((B.drop (8 * i)).take 8)) := by
  simp [pack, h]
theorem sub_bits {B : List Nat} (h : Bits B) (i m : Nat) : Bits ((B.drop i).take m) := fun b hb => h b (List.mem_of_mem_drop (List.mem_of_mem_take hb))
theorem pack_lt {B : List Nat} (h : Bits B) : ∀ x ∈ pack B, x < 256 := fun x hx => by
  simp only [pack, List.mem_map, List.mem_range] at hx
  obtain ⟨i, _, rfl⟩ := hx
  exact byteN_lt (sub_bits h _ _) (by rw [List.length_take]; omega)
theorem rdBit_pack {B : List Nat} (h : Bits B) {i : Nat} (hi : i < B.length) : rdBit (pack B) i = B[i] := by
  unfold rdBit
  rw [pack_at B (i / 8) (by omega)]
  have hl : i % 8 < ((B.drop (8 * (i / 8))).take 8).length := by rw [List.length_take, List.length_drop]; omega
  rw [Option.getD_some, byteN_at (sub_bits h _ _) (by rw [List.length_take]; omega) hl]
  rw [List.getElem_take, List.getElem_drop]
  congr 1; omega
/-- A bit more, in a byte more. -/
theorem pack_new {B : List Nat} {b : Nat} (h : B.length % 8 = 0) : pack (B ++ [b]) = pack B ++ [b * 2 ^ 7] := by
  apply List.ext_getElem?
  intro i
  have hl : (pack B).length = B.length / 8 := by rw [pack_length]; omega
  rcases Nat.lt_trichotomy i (B.length / 8) with hi | hi | hi
  · rw [List.getElem?_append_left (by omega), pack_at _ _ (by simp; omega), pack_at _ _ (by omega)]
    rw [List.drop_append_of_le_length (by omega), List.take_append_of_le_length (by rw [List.length_drop]; omega)]
  · subst hi
    rw [List.getElem?_append_right (by omega), hl, Nat.sub_self, pack_at _ _ (by simp; omega)]
    have : (B ++ [b]).drop (8 * (B.length / 8)) = [b] := by
      rw [show 8 * (B.length / 8) = B.length from by omega]; simp
    rw [this]
    simp [byteN_eq, numB]
  · rw [List.getElem?_eq_none (by rw [pack_length]; simp; omega), List.getElem?_eq_none (by simp; omega)]
/-- A bit more, in the last byte. -/
theorem pack_or {B : List Nat} {b : Nat} (h : B.length % 8 ≠ 0) : pack (B ++ [b]) = (pack B).set (B.length / 8) (byteN (B.drop (8 * (B.length / 8))) + b * 2 ^ (7 - B.length % 8)) := by
  apply List.ext_getElem?
  intro i
  have hl : (pack B).length = B.length / 8 + 1 := by rw [pack_length]; omega
  rcases Nat.lt_trichotomy i (B.length / 8) with hi | hi | hi
  · rw [List.getElem?_set_ne (by omega), pack_at _ _ (by simp; omega), pack_at _ _ (by omega)]
    rw [List.drop_append_of_le_length (by omega), List.take_append_of_le_length (by rw [List.length_drop]; omega)]
  · subst hi
    rw [List.getElem?_set_self (by omega), pack_at _ _ (by simp; omega)]
    have hC : (B.drop (8 * (B.length / 8))).length = B.length % 8 := by rw [List.length_drop]; omega
    rw [List.drop_append_of_le_length (by omega), List.take_of_length_le (by rw [List.length_append, hC]; simp; omega)]
    generalize B.drop (8 * (B.length / 8)) = C at hC
    have hr8 := Nat.mod_lt B.length (show 8 > 0 by decide)
    generalize B.length % 8 = r at hC h hr8
    rw [byteN_eq, byteN_eq, numB_app, List.length_append, hC]
    have hr : r < 8 ∨ 8 ≤ r := by omega
    show some ((2 * numB 0 C + b) * 2 ^ (8 - (r + 1))) = _
    congr 1
    rcases hr with hr | hr
    · rw [show 8 - (r + 1) = 7 - r from by omega, show 8 - r = 7 - r + 1 from by omega, Nat.pow_succ, Nat.add_mul, Nat.mul_comm 2 (numB 0 C), Nat.mul_assoc, Nat.mul_comm 2]
    · exfalso; omega
  · rw [List.getElem?_eq_none (by rw [pack_length]; simp; omega), List.getElem?_eq_none (by simp; omega)]
end Go.Proofs.Ytdfeigkooeeeaaa
namespace Go.Proofs.Ytdfeigkooeeeaaa
open Go Go.RowKit
/-! ### numbers that are not below 0, and back -/
theorem bitsV_eq (op : BinOp) (k : IntKind) (x y : Int) (h : op = .and ∨ op = .or ∨ op = .xor) : bitsV op k x y = bits op k x y := by
  rcases h with rfl | rfl | rfl <;> rfl
theorem wrap_u64 (n : Int) : IntKind.u64.wrap n = n % 18446744073709551616 := by simp [IntKind.wrap, IntKind.bits, IntKind.signed]
def zigN (n : Int) : Nat := if 0 ≤ n then (2 * n).toNat else (-2 * n - 1).toNat
def zagI (u : Nat) : Int := if u % 2 = 0 then ((u / 2 : Nat) : Int) else -((u / 2 : Nat) : Int) - 1
theorem zig_lt {n : Int} (h : In64 n) : zigN n < 18446744073709551616 := by
  unfold zigN; have := h.1; have := h.2; split <;> omega
theorem zag_zig (n : Int) : zagI (zigN n) = n := by
  unfold zagI zigN
  split
  · rename_i h
    rw [if_pos (by omega)]; omega
  · rename_i h
    rw [if_neg (by omega)]; omega
theorem zag_in {u : Nat} (h : u < 18446744073709551616) : In64 (zagI u) := by
  unfold zagI In64; split <;> omega
theorem xor_ones (a : Nat) (h : a < 18446744073709551616) : a ^^^ 18446744073709551615 = 18446744073709551615 - a := by
  have e : (BitVec.ofNat 64 a ^^^ BitVec.allOnes 64).toNat = 18446744073709551615 - a := by
    rw [BitVec.xor_allOnes, BitVec.toNat_not, BitVec.toNat_ofNat, Nat.mod_eq_of_lt h]
  rw [← e, BitVec.toNat_xor, BitVec.toNat_ofNat, Nat.mod_eq_of_lt h]
  rfl
theorem fdiv63 {n : Int} (h : In64 n) : n.fdiv 9223372036854775808 = if 0 ≤ n then 0 else -1 := by
  have := h.1; have := h.2
  rw [Int.fdiv_eq_ediv_of_nonneg _ (by decide)]
  split <;> omega
theorem zig_eq {n : Int} (h : In64 n) : bitsV .xor .u64 (IntKind.u64.wrap (IntKind.u64.wrap n * 2)) (IntKind.u64.wrap (n.fdiv 9223372036854775808)) = ((zigN n : Nat) : Int) := by
  have h1 := h.1; have h2 := h.2
  rw [bitsV_eq _ _ _ _ (.inr (.inr rfl)), fdiv63 h]
  unfold zigN
  by_cases h0 : 0 ≤ n
  · rw [if_pos h0, if_pos h0]
    have e1 : IntKind.u64.wrap (IntKind.u64.wrap n * 2) = (((2 * n).toNat : Nat) : Int) := by rw [wrap_u64, wrap_u64]; omega
    have e2 : IntKind.u64.wrap 0 = ((0 : Nat) : Int) := by rw [wrap_u64]; rfl
    rw [e1, e2, u64_xor_nat _ _ (by omega) (by omega), Nat.xor_zero]
  · rw [if_neg h0, if_neg h0]
    have e1 : IntKind.u64.wrap (IntKind.u64.wrap n * 2) = (((2 * n + 18446744073709551616).toNat : Nat) : Int) := by rw [wrap_u64, wrap_u64]; omega
    have e2 : IntKind.u64.wrap (-1) = ((18446744073709551615 : Nat) : Int) := by rw [wrap_u64]; rfl
    rw [e1, e2, u64_xor_nat _ _ (by omega) (by omega), xor_ones _ (by omega)]
    omega
theorem i64_xor_ones {a : Int} (h0 : 0 ≤ a) (h1 : a ≤ 9223372036854775807) : bitsV .xor .i64 a (-1) = -a - 1 := by
  have e : bitsV .xor .i64 a (-1) = IntKind.i64.wrap (((BitVec.ofInt 64 a ^^^ BitVec.ofInt 64 (-1)).toNat : Nat) : Int) := rfl
  obtain ⟨m, rfl⟩ := Int.eq_ofNat_of_zero_le h0
  have e2 : (BitVec.ofInt 64 (m : Int) ^^^ BitVec.ofInt 64 (-1)).toNat = 18446744073709551615 - m := by
    have e3 : BitVec.ofInt 64 (-1) = BitVec.allOnes 64 := by decide
    rw [e3, BitVec.xor_allOnes, BitVec.toNat_not, BitVec.ofInt_natCast, BitVec.toNat_ofNat, Nat.mod_eq_of_lt (by omega)]
  rw [e, e2, IntKind.wrap_i64]
  omega
theorem i64_xor_zero {a : Int} (h0 : 0 ≤ a) (h1 : a ≤ 9223372036854775807) : bitsV .xor .i64 a 0 = a := by
  have e : bitsV .xor .i64 a 0 = IntKind.i64.wrap (((BitVec.ofInt 64 a ^^^ BitVec.ofInt 64 0).toNat : Nat) : Int) := rfl
  obtain ⟨m, rfl⟩ := Int.eq_ofNat_of_zero_le h0
  have e2 : (BitVec.ofInt 64 (m : Int) ^^^ BitVec.ofInt 64 0).toNat = m := by
    have e3 : BitVec.ofInt 64 0 = 0#64 := by decide
    rw [e3, BitVec.xor_zero, BitVec.ofInt_natCast, BitVec.toNat_ofNat, Nat.mod_eq_of_lt (by omega)]
  rw [e, e2, IntKind.wrap_i64]
  omega
theorem fdiv_nat (a b : Nat) : (a : Int).fdiv (b : Int) = ((a / b : Nat) : Int) := by
  rw [Int.fdiv_eq_ediv_of_nonneg _ (Int.natCast_nonneg _)]; exact (Int.natCast_ediv a b).symm
theorem and1 {u : Nat} (h : u < 18446744073709551616) : bitsV .and .u64 (u : Int) 1 = ((u % 2 : Nat) : Int) := by
  rw [bitsV_eq _ _ _ _ (.inl rfl), show (1 : Int) = ((1 : Nat) : Int) from rfl, u64_and_nat _ _ h (by decide), nat_mask1]
theorem zag_eq {u : Nat} (h : u < 18446744073709551616) : bitsV .xor .i64 (IntKind.i64.wrap ((u : Int).fdiv 2)) (IntKind.i64.wrap (0 - IntKind.i64.wrap (bitsV .and .u64 (u : Int) 1))) = zagI u := by
  rw [show (2 : Int) = ((2 : Nat) : Int) from rfl, fdiv_nat, and1 h]
  have e1 : IntKind.i64.wrap ((u / 2 : Nat) : Int) = ((u / 2 : Nat) : Int) := by rw [IntKind.wrap_i64]; omega
  rw [e1]
  unfold zagI
  by_cases q : u % 2 = 0
  · rw [if_pos q, q]
    have e2 : IntKind.i64.wrap (0 - IntKind.i64.wrap ((0 : Nat) : Int)) = 0 := by rw [IntKind.wrap_i64, IntKind.wrap_i64]; rfl
    rw [e2, i64_xor_zero (by omega) (by omega)]
  · have q1 : u % 2 = 1 := by omega
    rw [if_neg q, q1]
    have e2 : IntKind.i64.wrap (0 - IntKind.i64.wrap ((1 : Nat) : Int)) = -1 := by rw [IntKind.wrap_i64, IntKind.wrap_i64]; rfl
    rw [e2, i64_xor_ones (by omega) (by omega)]
/-! ### a number's code -/
def clsN (u : Nat) : Nat := if u = 0 then 0 else if u < 128 then 1 else if u < 4096 then 2 else if u < 16777216 then 3 else 4
def codeB (u : Nat) : List Nat := if u = 0 then [0] else if u < 128 then [1, 0] ++ bitsOf u 7 else if u < 4096 then [1, 1, 0] ++ bitsOf u 12 else if u < 16777216 then [1, 1, 1, 0] ++ bitsOf u 24 else [1, 1, 1, 1] ++ bitsOf u 64
theorem Bits.lit {l : List Nat} (h : l.all (fun b => decide (b < 2)) = true) : Bits l := fun b hb => by
  have := List.all_eq_true.1 h b hb
  exact of_decide_eq_true this
theorem codeB_bits (u : Nat) : Bits (codeB u) := by
  unfold codeB
  repeat' split
  · exact .lit rfl
  all_goals exact (Bits.lit rfl).app (bitsOf_bits _ _)
theorem codeB_len (u : Nat) : (codeB u).length ≤ 68 ∧ 1 ≤ (codeB u).length := by
  unfold codeB
  repeat' split
  all_goals simp [bitsOf_length]
/-! ### samples -/
abbrev W64 (x : Int) : Int := IntKind.i64.wrap x
theorem W64_in (x : Int) : In64 (W64 x) := by
  unfold In64 W64
  rw [IntKind.wrap_i64]; omega
theorem W64_of {x : Int} (h : In64 x) : W64 x = x := by
  have := h.1; have := h.2
  show IntKind.i64.wrap x = x
  rw [IntKind.wrap_i64]; omega
def u64N (x : Int) : Nat := (x % 18446744073709551616).toNat
theorem u64_eq (x : Int) : IntKind.u64.wrap x = ((u64N x : Nat) : Int) := by rw [wrap_u64]; unfold u64N; omega
theorem u64_lt (x : Int) : u64N x < 18446744073709551616 := by unfold u64N; omega
theorem u64_back {x : Int} (h : In64 x) : W64 ((u64N x : Nat) : Int) = x := by
  have := h.1; have := h.2
  show IntKind.i64.wrap _ = x
  unfold u64N
  rw [IntKind.wrap_i64]; omega
def tAt (X : Smp) (i : Nat) : Int := ((X[i]?).getD (0, 0)).1
def vAt (X : Smp) (i : Nat) : Int := ((X[i]?).getD (0, 0)).2
/-- How far the last two times are apart, ahead of the sample i. -/
def stepAt (X : Smp) (i : Nat) : Int := if i < 2 then 0 else W64 (tAt X (i - 1) - tAt X (i - 2))
def dT (X : Smp) (i : Nat) : Nat := zigN (W64 (W64 (tAt X i - tAt X (i - 1)) - stepAt X i))
def dV (X : Smp) (i : Nat) : Nat := zigN (W64 (vAt X i - vAt X (i - 1)))
def sampB (X : Smp) (i : Nat) : List Nat := if i = 0 then bitsOf (u64N (tAt X 0)) 64 ++ bitsOf (u64N (vAt X 0)) 64 else codeB (dT X i) ++ codeB (dV X i)
def encTo (X : Smp) : Nat → List Nat
  | 0 => []
  | i + 1 => encTo X i ++ sampB X i
def encB (X : Smp) : List Nat := encTo X X.length
theorem sampB_bits (X : Smp) (i : Nat) : Bits (sampB X i) := by
  unfold sampB; split
  · exact (bitsOf_bits _ _).app (bitsOf_bits _ _)
  · exact (codeB_bits _).app (codeB_bits _)
theorem encTo_bits (X : Smp) : ∀ i, Bits (encTo X i)
  | 0 => .nil
  | i + 1 => (encTo_bits X i).app (sampB_bits X i)
theorem encB_bits (X : Smp) : Bits (encB X) := encTo_bits X _
theorem encTo_nil (X : Smp) : encTo X 0 = [] := rfl
theorem encTo_len (X : Smp) : ∀ i, (encTo X i).length ≤ 136 * i
  | 0 => by simp [encTo]
  | i + 1 => by
    have h1 := encTo_len X i
    have h2 : (sampB X i).length ≤ 136 := by
      unfold sampB
      split
      · simp [bitsOf_length]
      · rw [List.length_append]
        have := (codeB_len (dT X i)).1
        have := (codeB_len (dV X i)).1
        omega
    simp only [encTo, List.length_append]
    omega
theorem encB_len (X : Smp) : (encB X).length ≤ 136 * X.length := encTo_len X _
theorem encTo_pre (X : Smp) (i : Nat) : ∀ k, ∃ D, encTo X (i + k) = encTo X i ++ D
  | 0 => ⟨[], by simp⟩
  | k + 1 => by
    obtain ⟨D, h⟩ := encTo_pre X i k
    exact ⟨D ++ sampB X (i + k), by show encTo X (i + k) ++ sampB X (i + k) = _; rw [h, List.append_assoc]⟩
/-- What is behind the first i samples' bits. -/
theorem encB_split {X : Smp} {i : Nat} (h : i < X.length) : ∃ D, encB X = encTo X i ++ (sampB X i ++ D) := by
  obtain ⟨D, hD⟩ := encTo_pre X (i + 1) (X.length - (i + 1))
  refine ⟨D, ?_⟩
  unfold encB
  rw [show X.length = i + 1 + (X.length - (i + 1)) from by omega, hD]
  simp [encTo]
theorem tAt_take {X : Smp} {k i : Nat} (h : i < k) : tAt (X.take k) i = tAt X i := by simp [tAt, h]
theorem vAt_take {X : Smp} {k i : Nat} (h : i < k) : vAt (X.take k) i = vAt X i := by simp [vAt, h]
theorem sampB_take {X : Smp} {k i : Nat} (h : i < k) : sampB (X.take k) i = sampB X i := by
  have e : ∀ j, j ≤ i → tAt (X.take k) j = tAt X j := fun j hj => tAt_take (by omega)
  have e2 : ∀ j, j ≤ i → vAt (X.take k) j = vAt X j := fun j hj => vAt_take (by omega)
  unfold sampB dT dV stepAt
  rw [e 0 (Nat.zero_le _), e2 0 (Nat.zero_le _), e i (Nat.le_refl _), e (i - 1) (Nat.sub_le _ _), e (i - 2) (Nat.sub_le _ _), e2 i (Nat.le_refl _), e2 (i - 1) (Nat.sub_le _ _)]
theorem encTo_take (X : Smp) (k : Nat) : ∀ i, i ≤ k → encTo (X.take k) i = encTo X i
  | 0, _ => rfl
  | i + 1, h => by
    show encTo (X.take k) i ++ sampB (X.take k) i = encTo X i ++ sampB X i
    rw [encTo_take X k i (by omega), sampB_take (by omega)]
theorem encB_take {X : Smp} {k : Nat} (h : k ≤ X.length) : encB (X.take k) = encTo X k := by
  unfold encB
  rw [List.length_take, Nat.min_eq_left h, encTo_take X k k (Nat.le_refl _)]
theorem encB_nil : encB [] = [] := rfl
/-! ### bits read -/
def rdBits (s : List Nat) (at' m : Nat) : List Nat := (List.range m).map fun j => rdBit s (at' + j)
theorem rdBits_pack {B A C D : List Nat} (hB : Bits B) (h : B = A ++ (C ++ D)) : rdBits (pack B) A.length C.length = C := by
  apply List.ext_getElem?
  intro j
  by_cases hj : j < C.length
  · have hl : A.length + j < B.length := by rw [h]; simp; omega
    simp only [rdBits, List.getElem?_map, List.getElem?_range hj, Option.map_some]
    rw [rdBit_pack hB hl, List.getElem?_eq_getElem hj]
    congr 1
    simp only [h]
    rw [List.getElem_append_right (by omega), List.getElem_append_left (by omega)]
    congr 1; omega
  · rw [List.getElem?_eq_none (by simp [rdBits]; omega), List.getElem?_eq_none (by omega)]
theorem rdBits_at {B A C D : List Nat} {a m : Nat} (hB : Bits B) (h : B = A ++ (C ++ D)) (ha : a = A.length) (hm : m = C.length) : rdBits (pack B) a m = C := by
  subst ha hm; exact rdBits_pack hB h
theorem rdBits_snoc (s : List Nat) (a j : Nat) : rdBits s a (j + 1) = rdBits s a j ++ [rdBit s (a + j)] := by
  simp [rdBits, List.range_succ]
theorem rdBits_bits (s : List Nat) (a j : Nat) : Bits (rdBits s a j) := fun b hb => by
  simp only [rdBits, List.mem_map] at hb
  obtain ⟨_, _, rfl⟩ := hb
  exact Nat.mod_lt _ (by decide)
theorem rdBits_length (s : List Nat) (a j : Nat) : (rdBits s a j).length = j := by simp [rdBits]
theorem numB_snoc (a : Nat) (B : List Nat) (b : Nat) : numB a (B ++ [b]) = 2 * numB a B + b := by rw [numB_app]; rfl
/-- A bit more of a number that is read. -/
theorem rd_or {u b : Nat} (hu : u < 9223372036854775808) (hb : b < 2) : bitsV .or .u64 (IntKind.u64.wrap ((u : Int) * 2)) (IntKind.u64.wrap (b : Int)) = ((2 * u + b : Nat) : Int) := by
  have e1 : IntKind.u64.wrap ((u : Int) * 2) = ((2 * u : Nat) : Int) := by rw [wrap_u64]; omega
  have e2 : IntKind.u64.wrap (b : Int) = ((b : Nat) : Int) := by rw [wrap_u64]; omega
  rw [e1, e2, bitsV_eq _ _ _ _ (.inr (.inl rfl)), u64_or_nat _ _ (by omega) (by omega), nat_join 1 _ _ (by omega) (by omega)]
theorem rd_and {c q : Nat} (hc : c < 256) : bitsV .and .u8 (((c / q : Nat)) : Int) 1 = ((c / q % 2 : Nat) : Int) := by
  rw [bitsV_eq _ _ _ _ (.inl rfl), show (1 : Int) = ((1 : Nat) : Int) from rfl, u8_and_nat _ _ (Nat.lt_of_le_of_lt (Nat.div_le_self _ _) hc) (by decide), nat_mask1]
/-- A bit of a number that is written. -/
theorem wr_and (c : Nat) : bitsV .and .u8 (IntKind.u8.wrap (c : Int)) 1 = ((c % 2 : Nat) : Int) := by
  have e1 : IntKind.u8.wrap (c : Int) = ((c % 256 : Nat) : Int) := by rw [IntKind.wrap_u8]; omega
  rw [e1, bitsV_eq _ _ _ _ (.inl rfl), show (1 : Int) = ((1 : Nat) : Int) from rfl, u8_and_nat _ _ (by omega) (by decide), nat_mask1]
  congr 1; omega
theorem wr_shl {b r : Nat} (hb : b < 2) (hr : r < 8) : IntKind.u8.wrap ((b : Int) * (2 : Int) ^ r) = ((b * 2 ^ r : Nat) : Int) := by
  have hp : (2 : Nat) ^ r ≤ 2 ^ 7 := Nat.pow_le_pow_right (by decide) (by omega)
  have h2 : b * 2 ^ r ≤ 1 * 2 ^ r := Nat.mul_le_mul_right _ (by omega)
  have e : ((b : Int) * (2 : Int) ^ r) = ((b * 2 ^ r : Nat) : Int) := by
    rw [Int.natCast_mul, Int.natCast_pow]; rfl
  rw [e, IntKind.wrap_u8]
  omega
theorem wr_or {a b r : Nat} (ha : a < 256) (hm : a % 2 ^ (r + 1) = 0) (hb : b < 2) (hr : r < 8) : bitsV .or .u8 (a : Int) ((b * 2 ^ r : Nat) : Int) = ((a + b * 2 ^ r : Nat) : Int) := by
  have hp : (2 : Nat) ^ r ≤ 2 ^ 7 := Nat.pow_le_pow_right (by decide) (by omega)
  have h2 : b * 2 ^ r ≤ 1 * 2 ^ r := Nat.mul_le_mul_right _ (by omega)
  have h3 : 0 < 2 ^ r := Nat.two_pow_pos r
  rw [bitsV_eq _ _ _ _ (.inr (.inl rfl)), u8_or_nat _ _ ha (by omega), nat_join (r + 1) _ _ hm (by rw [Nat.pow_succ]; omega)]
/-- A byte that has room for more. -/
theorem byteN_room {C : List Nat} (h : C.length < 8) : byteN C % 2 ^ (7 - C.length + 1) = 0 := by
  rw [byteN_eq, show 7 - C.length + 1 = 8 - C.length from by omega]
  exact Nat.mul_mod_left _ _
def bytA (s : List Nat) : List AV := s.map fun c => .si .u8 (Int.ofNat c)
theorem bytA_length (s : List Nat) : (bytA s).length = s.length := by simp [bytA]
theorem bytA_flat (s : List Nat) : (bytA s).all flat.flat1 = true := by
  rw [List.all_eq_true]; intro x hx
  simp only [bytA, List.mem_map] at hx
  obtain ⟨c, _, rfl⟩ := hx; rfl
theorem bytA_map (s : List Nat) : (bytA s).map mk = bytA s := by simp [bytA, mk]
end Go.Proofs.Ytdfeigkooeeeaaa
namespace Go.Proofs.Ytdfeigkooeeeaaa
open Go Go.RowKit Go.ChangeShapes Go.WideShapes
set_option maxRecDepth 20000
section
variable {H : Type} {enc : TypeId × Value → H} {P : Program} {W : World} {held : Bool}
/-- A row's cells, as they lie. -/
theorem open_cells {t e : TypeId} {ks : List Kd} {d c fuel : Nat} {v : Value} {D : DataW H} {ps : List MemPlace} (ht : P.underlying t = some (.slice e)) (hk : kdsT P d e = some ks) (hc : ks.length = c) (hc2 : P.cellsOf e = c) (hc0 : c ≠ 0)
    (hf : DataW.trod enc P W 0 (fun _ => true) held fuel t [v] = some (D, ps)) : ∃ (rows : List (List Value)), (∀ r ∈ rows, Prims (TrS enc P W 0 (fun _ => true) held) ks r ∧ r.length = c) ∧ (rows = [] ∨ ∃ E F, D = .slice ((List.range rows.length).map F) E) ∧ rows.length ≤ maxLen ∧
      ((rows = [] ∧ ∃ a C, v = .slice a 0 C ∧ (a = none → C = 0)) ∨ ∃ b off cap cc u fz, v = .slice (some ⟨b, off, none⟩) rows.length cap ∧ rows.length ≤ cap ∧ W.heap[b]? = some (.cells cc u fz) ∧ off + rows.length * c ≤ cc.size ∧ ∀ i a, rows.flatten[i]? = some a → cc[off + i]? = some a) := by
  rcases Go.Deep.open_slice ht hf with ⟨h0, h1⟩ | ⟨a, len, cap, m, n, Df, Pf, h1, _, hl, hm, hmm, hx, hel⟩
  · injection h0 with h0
    subst h0
    exact ⟨[], (fun r h => by cases h), .inl rfl, Nat.zero_le _, .inl ⟨rfl, none, 0, rfl, fun _ => rfl⟩⟩
  · injection h1 with h1
    subst h1
    have hmc : m = cap := hmm
    subst hmc
    by_cases hcap : len = 0
    · subst hcap
      exact ⟨[], (fun r h => by cases h), .inl rfl, Nat.zero_le _, .inl ⟨rfl, some a, m, rfl, fun q => by cases q⟩⟩
    · have hcells : ∀ i, i < m → ∃ cs', cs'.length = c ∧ Prims (TrS enc P W 0 (fun _ => true) held) ks cs' ∧ ∀ q, q < c → W.cell? ((a.add (i * c)).add q) = cs'[q]? := fun i hi => by
        obtain ⟨cs', g1, g2⟩ := hel i hi
        rw [hc2] at g1
        obtain ⟨_, g3, g4⟩ := World.cells?_some g1
        exact ⟨cs', g3, kds_trod d e ks n cs' _ hk g2, fun q hq => g4 q hq⟩
      obtain ⟨R, hR⟩ := Go.Deep.choose_lt hcells
      have hspot : a.spot = none ∧ ∃ cc u fz, W.heap[a.block]? = some (.cells cc u fz) := by
        obtain ⟨g1, _, g3⟩ := hR 0 (by omega)
        have g4 := g3 0 (by omega)
        rw [List.getElem?_eq_getElem (by omega)] at g4
        obtain ⟨cc, u, fz, g5, g6, _⟩ := cell_inv g4
        have e0 : (a.add (0 * c)).add 0 = a := by simp [Addr.add]
        rw [e0] at g5 g6
        exact ⟨g6, cc, u, fz, g5⟩
      obtain ⟨hs, cc, u, fz, hb⟩ := hspot
      obtain ⟨b, off, sp⟩ := a
      simp only at hs hb
      subst hs
      have hget : ∀ i q, i < m → q < c → cc[off + i * c + q]? = (R i)[q]? := fun i q hi hq => by
        have g := (hR i hi).2.2 q hq
        have e0 : ((⟨b, off, none⟩ : Addr).add (i * c)).add q = (⟨b, off, none⟩ : Addr).add (i * c + q) := Go.Deep.add_add _ _ _
        rw [e0, List.getElem?_eq_getElem (by rw [(hR i hi).1]; exact hq)] at g
        have := cell_at hb g
        rw [Nat.add_assoc, this, List.getElem?_eq_getElem (by rw [(hR i hi).1]; exact hq)]
      have hrl : ((List.range len).map R).length = len := by simp
      have hmem : ∀ r ∈ (List.range len).map R, ∃ i, i < len ∧ r = R i := fun r hr => by
        simp only [List.mem_map, List.mem_range] at hr
        obtain ⟨i, hi, rfl⟩ := hr
        exact ⟨i, hi, rfl⟩
      have hrc : ∀ r ∈ (List.range len).map R, r.length = c := fun r hr => by
        obtain ⟨i, hi, rfl⟩ := hmem r hr
        exact (hR i (by omega)).1
      have hfl := flat_len _ hrc
      rw [hrl] at hfl
      refine ⟨(List.range len).map R, fun r hr => ⟨?_, hrc r hr⟩, .inr ?_, ?_, .inr ⟨b, off, m, cc, u, fz, by rw [hrl], by rw [hrl]; exact hl, hb, ?_, fun i a hi => ?_⟩⟩
      · obtain ⟨i, hi, rfl⟩ := hmem r hr
        exact (hR i (by omega)).2.1
      · injection hx with hx _
        exact ⟨_, Df, by rw [hrl]; exact hx⟩
      · rw [hrl]; omega
      · rw [hrl]
        have g := hget (len - 1) (c - 1) (by omega) (by omega)
        rw [List.getElem?_eq_getElem (by rw [(hR _ (by omega)).1]; omega)] at g
        have := (Array.getElem?_eq_some_iff.1 g).1
        have e1 : (len - 1) * c + c = len * c := by rw [← Nat.succ_mul]; congr 1; omega
        omega
      · have hi2 := (List.getElem?_eq_some_iff.1 hi).1
        rw [hfl] at hi2
        have h0 := Nat.div_add_mod i c
        have hq := Nat.mod_lt i (Nat.pos_of_ne_zero hc0)
        have hj : i / c < len := (Nat.div_lt_iff_lt_mul (Nat.pos_of_ne_zero hc0)).2 hi2
        have ei : i = i / c * c + i % c := by rw [Nat.mul_comm]; omega
        rw [ei, flat_at _ hrc _ _ hq] at hi
        have e2 : ((List.range len).map R)[i / c]? = some (R (i / c)) := by simp [hj]
        rw [e2, Option.bind_some] at hi
        have := hget (i / c) (i % c) (by omega) hq
        rw [hi, Nat.add_assoc, ← ei] at this
        exact this
def phF (z : Fz → Prop) : Ph := ⟨fun _ => none, z, z⟩
/-- What is frozen when a law is called. -/
def Frozen (W : World) (z : Fz → Prop) : Prop := ∀ q, z q → FzR (phF z) (wholeHp W) q
theorem Frozen.none : Frozen W fun _ => False := fun _ h => h.elim
theorem Frozen.or {z y : Fz → Prop} (h : Frozen W z) (k : Frozen W y) : Frozen W fun q => z q ∨ y q := fun q hq => hq.elim (fun hq => FzR.mono (φ := phF z) (ψ := phF _) (fun _ h => Or.inl h) (h q hq)) fun hq => FzR.mono (φ := phF y) (ψ := phF _) (fun _ h => Or.inr h) (k q hq)
theorem HR.frs {z : Fz → Prop} (h : Frozen W z) : HR (phF z) .nil 0 (wholeHp W) (wholeHp W) :=
  ⟨fun _ _ h => (by cases h), fun _ _ h => (by cases h), fun _ _ _ _ _ _ h => (by cases h), fun b o h => ⟨(Array.getElem?_eq_some_iff.1 h).1, h⟩, Nat.le_refl _, fun q hq => ⟨⟨h q hq, .inl hq⟩, fun _ _ _ h => by cases h⟩⟩
/-- A row of flat cells, frozen. -/
theorem frz_row {b off cap m k : Nat} {cc : Array Value} {u : TypeId} {fz : Nat × Nat} {L : List AV} {vs : List Value} (hb : W.heap[b]? = some (.cells cc u fz)) (hcap : m ≤ cap) (hL : L.length = m * k) (hsz : off + m * k ≤ cc.size) (hst : L.all stab = true) {z : Fz → Prop} (hfz : z ⟨b, off, L⟩) (hv : VRs (phF z) L vs) (hcell : ∀ i a, vs[i]? = some a → cc[off + i]? = some a) :
    FzR (phF z) (wholeHp W) ⟨b, off, L⟩ ∧ ∀ χ : Ph, (∀ q, z q → χ.z q) → VR χ (.fr m k L) (.slice (some ⟨b, off, none⟩) m cap) := by
  refine ⟨⟨⟨(Array.getElem?_eq_some_iff.1 hb).1, hst⟩, cc, u, fz, hb, (show off + L.length ≤ cc.size by omega), fun i a e => ?_⟩, fun χ hχ => ?_⟩
  · obtain ⟨v, h1, h2⟩ := hv.at e
    exact ⟨v, hcell i v h1, h2⟩
  · have : VR χ (.fr m k L) (.slice (some ⟨(⟨b, off, L⟩ : Fz).B, (⟨b, off, L⟩ : Fz).s + 0, .none⟩) m cap) := .fr (q := ⟨b, off, L⟩) (o := 0) (hχ _ hfz) hcap (subL_all hL)
    exact this
theorem smp_vals {Tr : TypeId → Value → Prop} : ∀ {rows : List (List Value)}, (∀ r ∈ rows, Prims Tr [.int .i64, .int .i64] r) → ∀ φ : Ph, VRs φ (smp (rows.map pairOf)) rows.flatten
  | [], _, φ => .nil
  | r :: rows, h, φ => by
    obtain ⟨g1, g2⟩ := h r List.mem_cons_self
    match r, g1, g2 with
    | [v, w], _, g2 =>
      obtain ⟨a, rfl, ha⟩ := g2 0 _ v rfl rfl
      obtain ⟨b, rfl, hb⟩ := g2 1 _ w rfl rfl
      exact .cons (.si _ _) (.cons (.si _ _) (smp_vals (fun x hx => h x (List.mem_cons_of_mem _ hx)) φ))
/-- Samples, frozen. -/
theorem fr_samples {t e : TypeId} {d fuel : Nat} {v : Value} {D : DataW H} {ps : List MemPlace} (ht : P.underlying t = some (.slice e)) (hk : kdsT P d e = some [.int .i64, .int .i64]) (hc2 : P.cellsOf e = 2) (hf : DataW.trod enc P W 0 (fun _ => true) held fuel t [v] = some (D, ps)) :
    ∃ (L : Smp) (z : Fz → Prop), (∀ x ∈ L, In64 x.1 ∧ In64 x.2) ∧ Frozen W z ∧ (∀ χ : Ph, (∀ q, z q → χ.z q) → VR χ (.fr L.length 2 (smp L)) v) ∧ (L = [] ∨ ∃ E F, D = .slice ((List.range L.length).map F) E) ∧ L.length ≤ maxLen := by
  obtain ⟨rows, h1, h2, h3, h4⟩ := open_cells ht hk rfl hc2 (by decide) hf
  obtain ⟨_, g2⟩ := smp_rows fun r hr => (h1 r hr).1
  rcases h4 with ⟨rfl, a, C, rfl, hC⟩ | ⟨b, off, cap, cc, u, fz, rfl, hcap, hb, hsz, hcell⟩
  · exact ⟨[], fun _ => False, (fun x h => by cases h), .none, fun χ _ => .fre hC, .inl rfl, Nat.zero_le _⟩
  · have hst : (smp (rows.map pairOf)).all stab = true := by
      rw [List.all_eq_true]
      intro y hy
      have := List.all_eq_true.1 (smp_flat (rows.map pairOf)) y hy
      cases y <;> first | rfl | cases this
    obtain ⟨k1, k2⟩ := frz_row (m := rows.length) (k := 2) (L := smp (rows.map pairOf)) (z := fun q => q = ⟨b, off, smp (rows.map pairOf)⟩) hb hcap (by rw [smp_length, List.length_map]) hsz hst rfl (smp_vals (fun r hr => (h1 r hr).1) _) hcell
    exact ⟨rows.map pairOf, fun q => q = ⟨b, off, smp (rows.map pairOf)⟩, g2, fun q hq => by subst hq; exact k1, fun χ hχ => by rw [List.length_map]; exact k2 χ hχ, by rw [List.length_map]; exact h2.imp (fun q => by rw [q]; rfl) id, by rw [List.length_map]; exact h3⟩
/-- Rows of samples, frozen. -/
theorem arg_rows2 {t e e2 : TypeId} {d d2 : Nat} {v : Value} {D : DataW H} {ps : List MemPlace} (ht : P.underlying t = some (.slice e)) (hk : kdsT P d e = some [.sl e]) (hc2 : P.cellsOf e = 1) (ht2 : P.underlying e = some (.slice e2)) (hk2 : kdsT P d2 e2 = some [.int .i64, .int .i64]) (hc3 : P.cellsOf e2 = 2) (hcell : v.cells.toList = [v]) (hd : DataW.Trod enc P W 0 (fun _ => true) held t v D ps) :
    ∃ (X : List Smp) (z : Fz → Prop), (∀ L ∈ X, ∀ x ∈ L, In64 x.1 ∧ In64 x.2) ∧ Frozen W z ∧ (∀ χ : Ph, (∀ q, z q → χ.z q) → VR χ (.fr X.length 1 (X.map fun L => .fr L.length 2 (smp L))) v) ∧ (X = [] ∨ ∃ E F, D = .slice ((List.range X.length).map F) E) ∧ X.length ≤ maxLen := by
  obtain ⟨fuel, hf⟩ := hd
  rw [hcell] at hf
  obtain ⟨rows, h1, h2, h3, h4⟩ := open_cells ht hk rfl hc2 (Nat.one_ne_zero) hf
  rcases h4 with ⟨rfl, a, C, rfl, hC⟩ | ⟨b, off, cap, cc, u, fz, rfl, hcap, hb, hsz, hcel⟩
  · exact ⟨[], fun _ => False, (fun x h => by cases h), .none, fun χ _ => .fre hC, .inl rfl, Nat.zero_le _⟩
  · have inner : ∀ (R : List (List Value)), (∀ r ∈ R, Prims (TrS enc P W 0 (fun _ => true) held) [.sl e] r ∧ r.length = 1) → ∃ (X : List Smp) (z : Fz → Prop), X.length = R.length ∧ (∀ L ∈ X, ∀ x ∈ L, In64 x.1 ∧ In64 x.2) ∧ Frozen W z ∧ ∀ χ : Ph, (∀ q, z q → χ.z q) → VRs χ (X.map fun L => .fr L.length 2 (smp L)) R.flatten := fun R => by
      induction R with
      | nil => intro _; exact ⟨[], fun _ => False, rfl, (fun x h => by cases h), .none, fun χ _ => .nil⟩
      | cons r R ih =>
        intro hR
        obtain ⟨X, z, k1, k2, k3, k4⟩ := ih fun x hx => hR x (List.mem_cons_of_mem _ hx)
        obtain ⟨⟨_, g1⟩, g2⟩ := hR r List.mem_cons_self
        match r, g2, g1 with
        | [w], _, g1 =>
          obtain ⟨fuel2, ⟨D2, ps2⟩, hf2⟩ := g1 0 _ w rfl rfl
          obtain ⟨L, y, j1, j2, j3, _⟩ := fr_samples ht2 hk2 hc3 hf2
          refine ⟨L :: X, fun q => y q ∨ z q, by simp [k1], fun M hM => ?_, j2.or k3, fun χ hχ => .cons (j3 χ fun q hq => hχ q (.inl hq)) (k4 χ fun q hq => hχ q (.inr hq))⟩
          rcases List.mem_cons.1 hM with rfl | hM
          · exact j1
          · exact k2 M hM
    obtain ⟨X, z, k1, k2, k3, k4⟩ := inner rows h1
    have hX : (X.map fun L => (AV.fr L.length 2 (smp L))).length = rows.length * 1 := by simp [k1]
    obtain ⟨j1, j2⟩ := frz_row (m := rows.length) (k := 1) (L := X.map fun L => .fr L.length 2 (smp L)) (z := fun q => z q ∨ q = ⟨b, off, X.map fun L => .fr L.length 2 (smp L)⟩) hb hcap hX hsz (by simp [stab]) (.inr rfl) (k4 _ fun q hq => Or.inl hq) hcel
    refine ⟨X, fun q => z q ∨ q = ⟨b, off, X.map fun L => .fr L.length 2 (smp L)⟩, k2, fun q hq => ?_, fun χ hχ => by rw [k1]; exact j2 χ hχ, by rw [k1]; exact h2.imp (fun q => by rw [q] at k1; exact List.eq_nil_of_length_eq_zero k1) id, by rw [k1]; exact h3⟩
    rcases hq with hq | rfl
    · exact FzR.mono (φ := phF z) (ψ := phF _) (fun _ h => Or.inl h) (k3 q hq)
    · exact j1
/-- Texts, frozen. -/
theorem arg_texts {t e : TypeId} {d : Nat} {v : Value} {D : DataW H} {ps : List MemPlace} (ht : P.underlying t = some (.slice e)) (hk : kdsT P d e = some [.str]) (hc2 : P.cellsOf e = 1) (hcell : v.cells.toList = [v]) (hd : DataW.Trod enc P W 0 (fun _ => true) held t v D ps) :
    ∃ (V : List (List Nat)) (z : Fz → Prop), (∀ s ∈ V, (∀ x ∈ s, x < 256) ∧ s.length ≤ maxLen) ∧ Frozen W z ∧ (∀ χ : Ph, (∀ q, z q → χ.z q) → VR χ (.fr V.length 1 (V.map fun s => .ss s)) v) ∧ (V = [] ∨ ∃ E F, D = .slice ((List.range V.length).map F) E) ∧ V.length ≤ maxLen := by
  obtain ⟨fuel, hf⟩ := hd
  rw [hcell] at hf
  obtain ⟨rows, h1, h2, h3, h4⟩ := open_cells ht hk rfl hc2 (by decide) hf
  rcases h4 with ⟨rfl, a, C, rfl, hC⟩ | ⟨b, off, cap, cc, u, fz, rfl, hcap, hb, hsz, hcel⟩
  · exact ⟨[], fun _ => False, (fun x h => by cases h), .none, fun χ _ => .fre hC, .inl rfl, Nat.zero_le _⟩
  · have inner : ∀ (R : List (List Value)), (∀ r ∈ R, Prims (TrS enc P W 0 (fun _ => true) held) [.str] r ∧ r.length = 1) → ∃ (V : List (List Nat)), V.length = R.length ∧ (∀ s ∈ V, (∀ x ∈ s, x < 256) ∧ s.length ≤ maxLen) ∧ ∀ χ : Ph, VRs χ (V.map fun s => .ss s) R.flatten := fun R => by
      induction R with
      | nil => intro _; exact ⟨[], rfl, (fun x h => by cases h), fun χ => .nil⟩
      | cons r R ih =>
        intro hR
        obtain ⟨V, k1, k2, k3⟩ := ih fun x hx => hR x (List.mem_cons_of_mem _ hx)
        obtain ⟨⟨_, g1⟩, g2⟩ := hR r List.mem_cons_self
        match r, g2, g1 with
        | [w], _, g1 =>
          obtain ⟨s, rfl, hs⟩ := g1 0 _ w rfl rfl
          refine ⟨s.data.toList.map UInt8.toNat :: V, by simp [k1], fun x hx => ?_, fun χ => .cons (vr_string s) (k3 χ)⟩
          rcases List.mem_cons.1 hx with rfl | hx
          · refine ⟨fun y hy => ?_, by simp only [List.length_map, Array.length_toList]; exact hs⟩
            simp only [List.mem_map] at hy
            obtain ⟨c, _, rfl⟩ := hy
            exact c.toNat_lt
          · exact k2 x hx
    obtain ⟨V, k1, k2, k3⟩ := inner rows h1
    obtain ⟨j1, j2⟩ := frz_row (m := rows.length) (k := 1) (L := V.map fun s => .ss s) (z := fun q => q = ⟨b, off, V.map fun s => .ss s⟩) hb hcap (by simp [k1]) hsz (by simp [stab]) rfl (k3 _) hcel
    exact ⟨V, fun q => q = ⟨b, off, V.map fun s => .ss s⟩, k2, fun q hq => by subst hq; exact j1, fun χ hχ => by rw [k1]; exact j2 χ hχ, by rw [k1]; exact h2.imp (fun q => by rw [q] at k1; exact List.eq_nil_of_length_eq_zero k1) id, by rw [k1]; exact h3⟩
theorem slice_cells {b0 : Nat} {t e : TypeId} {v : Value} (ht : P.underlying t = some (.slice e)) (hval : Value.okWide P W .any b0 t v) : v.cells.toList = [v] := by
  rcases okWide_slice_at ht hval with rfl | ⟨b, off, len, cap, cc, u, fz, rfl, _⟩ <;> rfl
theorem sized_len2 {ts : List TypeId} {ds : List (DataW H)} (h : (DataW.weightsEach P ts ds).all (· ≤ reachBytes) = true) {j n : Nat} {t e : TypeId} {D : DataW H} (ht : ts[j]? = some t) (hd : ds[j]? = some D) (hD : n = 0 ∨ ∃ E F, D = .slice ((List.range n).map F) E) (hu : P.underlying t = some (.slice e)) (hb : 16 ≤ P.bytesOf e) : n ≤ 8796093022208 := by
  rcases hD with rfl | ⟨E, F, rfl⟩
  · omega
  · have := sized_slice h ht hd hu
    rw [List.length_map, List.length_range] at this
    unfold reachBytes at this
    have h2 : n * 16 ≤ n * P.bytesOf e := Nat.mul_le_mul_left n hb
    have h3 : n * P.bytesOf e ≤ (n + E.length) * P.bytesOf e := Nat.mul_le_mul_right _ (Nat.le_add_right _ _)
    omega
end
end Go.Proofs.Ytdfeigkooeeeaaa
namespace Go.Proofs.Ytdfeigkooeeeaaa
open Go Go.RowKit
inductive SubL (H : AH) (m : Nat) (r : Nat → Nat) : List AV → List AV → Prop where
  | nil : SubL H m r [] []
  | cons {a a' : AV} {l l' : List AV} (h : SubV H m r a a') (k : SubL H m r l l') : SubL H m r (a :: l) (a' :: l')
section
variable {H : AH} {m : Nat} {r : Nat → Nat}
theorem SubL.length : ∀ {l l' : List AV}, SubL H m r l l' → l.length = l'.length
  | _, _, .nil => rfl
  | _, _, .cons _ k => congrArg (· + 1) k.length
theorem SubL.at : ∀ {l l' : List AV}, SubL H m r l l' → ∀ (i : Nat) (a' : AV), l'[i]? = some a' → ∃ a, l[i]? = some a ∧ SubV H m r a a'
  | _, _, .nil, i, a', h => by simp at h
  | _, _, .cons (a := a) q k, 0, a', h => by
    simp only [List.getElem?_cons_zero, Option.some.injEq] at h
    subst h
    exact ⟨a, rfl, q⟩
  | _, _, .cons q k, i + 1, a', h => by
    obtain ⟨b, h1, h2⟩ := k.at i a' (by simpa using h)
    exact ⟨b, by simpa using h1, h2⟩
theorem SubO.st {l l' : List AV} {z : Bool} (h : SubL H m r l l') : SubO H m r (.cells l z) (.cells l' z) :=
  SubO.cells (by rw [h.length]; exact Nat.le_refl _) (fun q => q) h.at
end
mutual
theorem ren_flat1 (r : Nat → Nat) : ∀ a : AV, flat.flat1 a = true → ren r a = a
  | .int _ _, _ => rfl
  | .str _, _ => rfl
  | .bool _, _ => rfl
  | .nil, _ => rfl
  | .nsl, _ => rfl
  | .si _ _, _ => rfl
  | .sb _, _ => rfl
  | .ss _, _ => rfl
  | .any _, _ => rfl
  | .bad, h => rfl
  | .ptr _ _, h => by cases h
  | .sl _ _ _ _ _, h => by cases h
  | .esl _, h => by cases h
  | .agg _, h => by cases h
  | .tup _, h => by cases h
  | .fn _ _ _, h => by cases h
  | .map _, h => by cases h
  | .sy _ _ _ _ _, h => by cases h
  | .rw _ _ _ _ _, h => by cases h
  | .fr _ _ _, h => by rfl
  | .fa _ _, h => by rfl
end
theorem renL_flat (r : Nat → Nat) : ∀ l : List AV, l.all flat.flat1 = true → renL r l = l
  | [], _ => rfl
  | a :: l, h => by
    simp only [List.all_cons, Bool.and_eq_true] at h
    rw [renL, ren_flat1 r a h.1, renL_flat r l h.2]
theorem ltV_flat1 (m : Nat) : ∀ a : AV, flat.flat1 a = true → ltV m a = true
  | .int _ _, _ => rfl
  | .str _, _ => rfl
  | .bool _, _ => rfl
  | .nil, _ => rfl
  | .nsl, _ => rfl
  | .si _ _, _ => rfl
  | .sb _, _ => rfl
  | .ss _, _ => rfl
  | .any _, _ => rfl
  | .bad, h => rfl
  | .ptr _ _, h => by cases h
  | .sl _ _ _ _ _, h => by cases h
  | .esl _, h => by cases h
  | .agg _, h => by cases h
  | .tup _, h => by cases h
  | .fn _ _ _, h => by cases h
  | .map _, h => by cases h
  | .sy _ _ _ _ _, h => by cases h
  | .rw _ _ _ _ _, h => by cases h
  | .fr _ _ _, h => by rfl
  | .fa _ _, h => by rfl
theorem ltL_flat (m : Nat) : ∀ l : List AV, l.all flat.flat1 = true → ltL_ m l = true
  | [], _ => rfl
  | a :: l, h => by
    simp only [List.all_cons, Bool.and_eq_true] at h
    rw [ltL_, ltV_flat1 m a h.1, ltL_flat m l h.2]; rfl
theorem VR.mk_to {φ : Ph} {a a' : AV} {v : Value} (hf : Go.Proofs.Ytdfeigkooeeeaaa.flat.flat1 a' = true) (e : Go.Proofs.Ytdfeigkooeeeaaa.mk a = Go.Proofs.Ytdfeigkooeeeaaa.mk a') (h : VR φ a v) : VR φ a' v := by
  have h1 : VR φ (Go.Proofs.Ytdfeigkooeeeaaa.mk a') v := e ▸ h.mk
  have h2 : VR φ a' v := by cases a' <;> exact h1
  exact h2
/-- Flat cells in the form that is asked for. -/
theorem HR.remk {φ : Ph} {H : AH} {n : Nat} {h0 h : Hp} (hr : HR φ H n h0 h) {b : Nat} {l l' : List AV} {z : Bool} (hb : H.get b = some (.cells l z)) (hf : l'.all Go.Proofs.Ytdfeigkooeeeaaa.flat.flat1 = true) (e : l.map Go.Proofs.Ytdfeigkooeeeaaa.mk = l'.map Go.Proofs.Ytdfeigkooeeeaaa.mk) : HR φ (H.set (some (.cells l' z)) depthH b) n h0 h :=
  hr.recell hb (by have := congrArg List.length e; simp only [List.length_map] at this; omega) fun i a' hi => by
    have e := congrArg (fun x : List AV => x[i]?) e
    simp only [List.getElem?_map, hi, Option.map_some] at e
    rw [Option.map_eq_some_iff] at e
    obtain ⟨a, h1, h2⟩ := e
    exact ⟨a, h1, fun v hv => hv.mk_to (List.all_eq_true.1 hf a' (List.mem_of_getElem? hi)) h2⟩
end Go.Proofs.Ytdfeigkooeeeaaa
namespace Go.Proofs.Ytdfeigkooeeeaaa
open Go Go.RowKit
def Up (L : Smp) : Prop := L.Pairwise fun x y => x.1 < y.1
def plc : Smp → Int → Nat
  | [], _ => 0
  | x :: L, t => if x.1 < t then plc L t + 1 else 0
def has (L : Smp) (t : Int) : Bool := decide (plc L t < L.length ∧ tAt L (plc L t) = t)
def insF (L : Smp) (t v : Int) : Smp := L.take (plc L t) ++ (t, v) :: L.drop (plc L t)
def setF (L : Smp) (t v : Int) : Smp := L.set (plc L t) (t, v)
def mergeF (p old now : Int) : Int × Int :=
  if p = 1 then (0, 8) else if p = 2 then (old, 0) else if p = 3 then (now, 0) else if p = 4 then (min old now, 0) else if p = 5 then (max old now, 0)
  else if p = 6 then (if (0 ≤ now ∧ W64 (old + now) < old) ∨ (now < 0 ∧ old < W64 (old + now)) then (0, 9) else (W64 (old + now), 0)) else (0, 1)
def layF (size : Nat) (L M : Smp) : Smp × Int := if (encB M).length ≤ 8 * size then (M, 0) else (L, 2)
def putF (size : Nat) (L : Smp) (t v p : Int) : Smp × Int :=
  if t < 0 ∨ 1099511627776 ≤ t then (L, 1)
  else if has L t then (if (mergeF p (vAt L (plc L t)) v).2 ≠ 0 then (L, (mergeF p (vAt L (plc L t)) v).2) else layF size L (setF L t (mergeF p (vAt L (plc L t)) v).1))
  else layF size L (insF L t v)
def dropF (L : Smp) (a b : Int) : Smp := L.filter fun x => decide (x.1 < a) || decide (b < x.1)
def getF (L : Smp) (t : Int) : Int × Int := if has L t then (vAt L (plc L t), 0) else (0, 5)
/-! ### a time's place -/
theorem plc_le : ∀ (L : Smp) (t : Int), plc L t ≤ L.length
  | [], _ => Nat.le_refl _
  | x :: L, t => by
    unfold plc
    split
    · have := plc_le L t; simp only [List.length_cons]; omega
    · exact Nat.zero_le _
theorem plc_lt : ∀ {L : Smp} {t : Int} {j : Nat} (h : j < plc L t), tAt L j < t
  | [], t, j, h => by simp [plc] at h
  | x :: L, t, j, h => by
    unfold plc at h
    split at h
    · rename_i hx
      cases j with
      | zero => exact hx
      | succ j =>
        have := plc_lt (L := L) (t := t) (j := j) (by omega)
        simpa [tAt] using this
    · omega
theorem plc_at : ∀ {L : Smp} {t : Int} (_ : plc L t < L.length), t ≤ tAt L (plc L t)
  | [], t, h => by simp at h
  | x :: L, t, h => by
    unfold plc at h ⊢
    split
    · rename_i hx
      rw [if_pos hx] at h
      have := plc_at (L := L) (t := t) (by simpa using h)
      simpa [tAt] using this
    · rename_i hx
      show t ≤ x.1
      omega
theorem tAt_of {L : Smp} {i : Nat} (h : i < L.length) : tAt L i = L[i].1 := by simp [tAt, h]
theorem vAt_of {L : Smp} {i : Nat} (h : i < L.length) : vAt L i = L[i].2 := by simp [vAt, h]
theorem Up.lt {L : Smp} (h : Up L) {i j : Nat} (hi : i < j) (hj : j < L.length) : tAt L i < tAt L j := by
  rw [tAt_of hj, tAt_of (by omega)]
  exact List.pairwise_iff_getElem.1 h i j (by omega) hj hi
theorem Up.of {L : Smp} (h : ∀ i, i + 1 < L.length → tAt L i < tAt L (i + 1)) : Up L := by
  refine List.pairwise_iff_getElem.2 fun i j hi hj hij => ?_
  obtain ⟨k, rfl⟩ : ∃ k, j = i + 1 + k := ⟨j - (i + 1), by omega⟩
  clear hij
  rw [← tAt_of hi, ← tAt_of hj]
  induction k with
  | zero => exact h i hj
  | succ k ih => exact Int.lt_trans (ih (by omega)) (h (i + 1 + k) hj)
theorem has_iff {L : Smp} (h : Up L) (t : Int) : has L t = true ↔ ∃ x ∈ L, x.1 = t := by
  unfold has
  rw [decide_eq_true_eq]
  constructor
  · intro ⟨h1, h2⟩
    exact ⟨L[plc L t], List.getElem_mem h1, by rw [← tAt_of h1]; exact h2⟩
  · intro ⟨x, hx, hxt⟩
    obtain ⟨i, hi, rfl⟩ := List.mem_iff_getElem.1 hx
    rw [← tAt_of hi] at hxt
    have h1 : ¬ i < plc L t := fun q => by have := plc_lt q; omega
    have h2 : plc L t < L.length := by omega
    refine ⟨h2, ?_⟩
    have h3 := plc_at h2
    rcases Nat.lt_or_ge (plc L t) i with q | q
    · have := h.lt q hi; omega
    · have : i = plc L t := by omega
      rw [this] at hxt; exact hxt
theorem mem_val {L : Smp} (h : Up L) {t v w : Int} (h1 : (t, v) ∈ L) (h2 : (t, w) ∈ L) : v = w := by
  obtain ⟨i, hi, e1⟩ := List.mem_iff_getElem.1 h1
  obtain ⟨j, hj, e2⟩ := List.mem_iff_getElem.1 h2
  have a1 : tAt L i = t := by rw [tAt_of hi, e1]
  have a2 : tAt L j = t := by rw [tAt_of hj, e2]
  rcases Nat.lt_trichotomy i j with q | q | q
  · have := h.lt q hj; omega
  · subst q; rw [e1] at e2; exact congrArg (·.2) e2
  · have := h.lt q hi; omega
theorem has_mem {L : Smp} {t : Int} (h : has L t = true) : (t, vAt L (plc L t)) ∈ L := by
  unfold has at h
  rw [decide_eq_true_eq] at h
  have := List.getElem_mem h.1
  have e : L[plc L t] = (t, vAt L (plc L t)) := by
    rw [vAt_of h.1]
    refine Prod.ext ?_ rfl
    rw [← tAt_of h.1]; exact h.2
  rw [← e]; exact this
theorem no_has {L : Smp} (h : Up L) {t : Int} (hn : has L t = false) : ∀ x ∈ L, x.1 ≠ t := fun x hx e => by
  have := (has_iff h t).2 ⟨x, hx, e⟩
  rw [hn] at this; cases this
/-! ### what is put -/
theorem insF_len (L : Smp) (t v : Int) : (insF L t v).length = L.length + 1 := by
  have := plc_le L t
  simp [insF]; omega
theorem setF_len (L : Smp) (t v : Int) : (setF L t v).length = L.length := by simp [setF]
theorem insF_mem {L : Smp} {t v : Int} {x : Int × Int} : x ∈ insF L t v ↔ x = (t, v) ∨ x ∈ L := by
  unfold insF
  rw [List.mem_append, List.mem_cons]
  have := List.take_append_drop (plc L t) L
  constructor
  · rintro (h | h | h)
    · exact .inr (List.mem_of_mem_take h)
    · exact .inl h
    · exact .inr (List.mem_of_mem_drop h)
  · rintro (h | h)
    · exact .inr (.inl h)
    · rw [← this, List.mem_append] at h
      rcases h with h | h
      · exact .inl h
      · exact .inr (.inr h)
theorem insF_up {L : Smp} (h : Up L) {t : Int} (hn : has L t = false) (v : Int) : Up (insF L t v) := by
  have hle := plc_le L t
  refine .of fun i hi => ?_
  rw [insF_len] at hi
  have key : ∀ j, j < L.length + 1 → tAt (insF L t v) j = if j < plc L t then tAt L j else if j = plc L t then t else tAt L (j - 1) := fun j hj => by
    unfold tAt insF
    have hl : (L.take (plc L t)).length = plc L t := by simp; omega
    split
    · rename_i q
      rw [List.getElem?_append_left (by omega), List.getElem?_take, if_pos q]
    · rename_i q
      rw [List.getElem?_append_right (by omega), hl]
      split
      · rename_i q2; subst q2; simp
      · rename_i q2
        obtain ⟨m, rfl⟩ : ∃ m, j = plc L t + 1 + m := ⟨j - (plc L t + 1), by omega⟩
        rw [show plc L t + 1 + m - plc L t = m + 1 from by omega, List.getElem?_cons_succ, List.getElem?_drop, show plc L t + 1 + m - 1 = plc L t + m from by omega]
  rw [key i (by omega), key (i + 1) hi]
  have hp : plc L t < L.length → t < tAt L (plc L t) := fun q => by
    have h1 := plc_at q
    have h2 : tAt L (plc L t) ≠ t := fun e => by
      unfold has at hn
      rw [decide_eq_false_iff_not] at hn
      exact hn ⟨q, e⟩
    omega
  by_cases h1 : i + 1 < plc L t
  · rw [if_pos (by omega), if_pos h1]; exact h.lt (Nat.lt_succ_self i) (by omega)
  · rw [if_neg h1]
    by_cases h2 : i + 1 = plc L t
    · rw [if_pos h2, if_pos (by omega)]; exact plc_lt (by omega)
    · rw [if_neg h2]
      by_cases h3 : i = plc L t
      · rw [if_neg (by omega), if_pos h3, show i + 1 - 1 = plc L t from by omega]; exact hp (by omega)
      · rw [if_neg (by omega), if_neg h3]; exact h.lt (by omega) (by omega)
theorem setF_mem {L : Smp} (h : Up L) {t v : Int} (hh : has L t = true) {x : Int × Int} : x ∈ setF L t v ↔ x = (t, v) ∨ (x ∈ L ∧ x.1 ≠ t) := by
  have hh2 := hh
  unfold has at hh2
  rw [decide_eq_true_eq] at hh2
  obtain ⟨h1, h2⟩ := hh2
  unfold setF
  constructor
  · intro hx
    obtain ⟨i, hi, e⟩ := List.mem_iff_getElem.1 hx
    rw [List.length_set] at hi
    rw [List.getElem_set] at e
    split at e
    · exact .inl e.symm
    · rename_i q
      refine .inr ⟨by rw [← e]; exact List.getElem_mem hi, fun e2 => ?_⟩
      rw [← e, ← tAt_of hi] at e2
      rcases Nat.lt_or_gt_of_ne q with q | q
      · have := h.lt q hi; omega
      · have := h.lt q h1; omega
  · rintro (rfl | ⟨hx, hne⟩)
    · exact List.mem_iff_getElem.2 ⟨plc L t, by simpa using h1, by simp⟩
    · obtain ⟨i, hi, e⟩ := List.mem_iff_getElem.1 hx
      have : plc L t ≠ i := fun q => hne (by subst q; rw [← e, ← tAt_of hi]; exact h2)
      exact List.mem_iff_getElem.2 ⟨i, by simpa using hi, by rw [List.getElem_set_ne this]; exact e⟩
theorem setF_up {L : Smp} (h : Up L) {t v : Int} (hh : has L t = true) : Up (setF L t v) := by
  have hh2 := hh
  unfold has at hh2
  rw [decide_eq_true_eq] at hh2
  have key : ∀ j, tAt (setF L t v) j = tAt L j := fun j => by
    unfold setF tAt
    rw [List.getElem?_set]
    split
    · rename_i q
      subst q
      rw [if_pos hh2.1]
      have := hh2.2
      unfold tAt at this
      rw [this]; rfl
    · rfl
  refine .of fun i hi => ?_
  rw [setF_len] at hi
  rw [key, key]
  exact h.lt (Nat.lt_succ_self i) hi
/-! ### bounds -/
def Fine (L : Smp) : Prop := Up L ∧ (∀ x ∈ L, (0 ≤ x.1 ∧ x.1 < 1099511627776) ∧ In64 x.2) ∧ L.length ≤ 20000
theorem Fine.nil : Fine [] := ⟨List.Pairwise.nil, (fun x h => by cases h), Nat.zero_le _⟩
theorem Fine.in64 {L : Smp} (h : Fine L) : ∀ x ∈ L, In64 x.1 ∧ In64 x.2 := fun x hx => by
  obtain ⟨⟨h1, h2⟩, h3⟩ := h.2.1 x hx
  exact ⟨⟨by omega, by omega⟩, h3⟩
theorem Fine.sub {L M : Smp} (h : Fine L) (hs : M.Sublist L) : Fine M := ⟨h.1.sublist hs, fun x hx => h.2.1 x (hs.subset hx), Nat.le_trans hs.length_le h.2.2⟩
theorem encTo_ge (X : Smp) : ∀ i, 2 * i ≤ (encTo X i).length
  | 0 => Nat.zero_le _
  | i + 1 => by
    have h1 := encTo_ge X i
    have h2 : 2 ≤ (sampB X i).length := by
      unfold sampB
      split
      · simp [bitsOf_length]
      · rw [List.length_append]
        have := (codeB_len (dT X i)).2
        have := (codeB_len (dV X i)).2
        omega
    simp only [encTo, List.length_append]
    omega
theorem encB_ge (X : Smp) : 2 * X.length ≤ (encB X).length := encTo_ge X _
theorem W64_min {a b : Int} (h : In64 a) (k : In64 b) : In64 (min a b) := by
  rcases Int.le_total a b with q | q
  · rw [Int.min_eq_left q]; exact h
  · rw [Int.min_eq_right q]; exact k
theorem W64_max {a b : Int} (h : In64 a) (k : In64 b) : In64 (max a b) := by
  rcases Int.le_total a b with q | q
  · rw [Int.max_eq_right q]; exact k
  · rw [Int.max_eq_left q]; exact h
theorem mergeF_in {p a b : Int} (h : In64 a) (k : In64 b) : In64 (mergeF p a b).1 := by
  have z : In64 0 := ⟨by omega, by omega⟩
  unfold mergeF
  split; exact z
  split; exact h
  split; exact k
  split; exact W64_min h k
  split; exact W64_max h k
  split
  · split
    · exact z
    · exact W64_in _
  · exact z
theorem layF_fine {size : Nat} (hs : size ≤ 4096) {L M : Smp} (h : Fine L) (hu : Up M) (hm : ∀ x ∈ M, (0 ≤ x.1 ∧ x.1 < 1099511627776) ∧ In64 x.2) : Fine (layF size L M).1 := by
  unfold layF
  split
  · rename_i q
    have := encB_ge M
    exact ⟨hu, hm, by show M.length ≤ 20000; omega⟩
  · exact h
theorem putF_fine {size : Nat} (hs : size ≤ 4096) {L : Smp} (h : Fine L) {t v p : Int} (hv : In64 v) : Fine (putF size L t v p).1 := by
  unfold putF
  split
  · exact h
  · rename_i ht
    have ht : 0 ≤ t ∧ t < 1099511627776 := by omega
    split
    · rename_i hh
      have ho : In64 (vAt L (plc L t)) := (h.2.1 _ (has_mem hh)).2
      split
      · exact h
      · refine layF_fine hs h (setF_up h.1 hh) fun x hx => ?_
        rcases (setF_mem h.1 hh).1 hx with rfl | ⟨hx, _⟩
        · exact ⟨ht, mergeF_in ho hv⟩
        · exact h.2.1 x hx
    · rename_i hh
      have hh : has L t = false := by simpa using hh
      refine layF_fine hs h (insF_up h.1 hh v) fun x hx => ?_
      rcases insF_mem.1 hx with rfl | hx
      · exact ⟨ht, hv⟩
      · exact h.2.1 x hx
theorem dropF_fine {L : Smp} (h : Fine L) (a b : Int) : Fine (dropF L a b) := h.sub List.filter_sublist
/-! ### what was put last is there -/
def Held (L : Smp) (t v : Int) (is : Bool) : Prop := match is with
  | true => (t, v) ∈ L
  | false => ∀ x ∈ L, x.1 ≠ t
theorem put_held {size : Nat} {L : Smp} (h : Fine L) {t v s w : Int} {is : Bool} (hk : Held L t v is) : ((putF size L s w 3).2 = 0 → s = t → Held (putF size L s w 3).1 t w true) ∧ (¬ ((putF size L s w 3).2 = 0 ∧ s = t) → Held (putF size L s w 3).1 t v is) := by
  have m3 : ∀ a, mergeF 3 a w = (w, 0) := fun a => rfl
  have other : ∀ M : Smp, (∀ x, x.1 ≠ s → (x ∈ M ↔ x ∈ L)) → s ≠ t → Held M t v is := fun M hM hst => by
    cases is with
    | true => exact (hM (t, v) (fun e => hst e.symm)).2 hk
    | false => exact fun x hx e => hk x ((hM x (by rw [e]; exact fun q => hst q.symm)).1 hx) e
  unfold putF
  by_cases ht : s < 0 ∨ 1099511627776 ≤ s
  · rw [if_pos ht]
    exact ⟨fun q => absurd q (by simp), fun _ => hk⟩
  · rw [if_neg ht]
    by_cases hh : has L s = true
    · rw [if_pos hh, m3, if_neg (by simp)]
      unfold layF
      split
      · refine ⟨fun _ e => ?_, fun q => ?_⟩
        · subst e; exact (setF_mem h.1 hh).2 (.inl rfl)
        · have hst : s ≠ t := fun e => q ⟨rfl, e⟩
          refine other _ (fun x hx => ?_) hst
          rw [setF_mem h.1 hh]
          exact ⟨fun q => q.elim (fun e => absurd (by rw [e]) hx) (·.1), fun q => .inr ⟨q, hx⟩⟩
      · exact ⟨fun q => absurd q (by simp), fun _ => hk⟩
    · rw [if_neg hh]
      unfold layF
      split
      · refine ⟨fun _ e => ?_, fun q => ?_⟩
        · subst e; exact insF_mem.2 (.inl rfl)
        · have hst : s ≠ t := fun e => q ⟨rfl, e⟩
          refine other _ (fun x hx => ?_) hst
          rw [insF_mem]
          exact ⟨fun q => q.elim (fun e => absurd (by rw [e]) hx) id, fun q => .inr q⟩
      · exact ⟨fun q => absurd q (by simp), fun _ => hk⟩
theorem drop_held {L : Smp} {t v a b : Int} {is : Bool} (hk : Held L t v is) : Held (dropF L a b) t v (is && (decide (t < a) || decide (b < t))) := by
  cases is with
  | false => exact fun x hx => hk x (List.mem_filter.1 hx).1
  | true =>
    cases hd : (decide (t < a) || decide (b < t)) with
    | true => exact List.mem_filter.2 ⟨hk, hd⟩
    | false =>
      intro x hx e
      have := (List.mem_filter.1 hx).2
      rw [e, hd] at this; cases this
theorem get_held {L : Smp} (h : Fine L) {t v : Int} {is : Bool} (hk : Held L t v is) : ((getF L t).2 = 0 ↔ is = true) ∧ (is = true → (getF L t).1 = v) := by
  unfold getF
  cases is with
  | true =>
    have hh : has L t = true := (has_iff h.1 t).2 ⟨(t, v), hk, rfl⟩
    rw [if_pos hh]
    exact ⟨by simp, fun _ => mem_val h.1 (has_mem hh) hk⟩
  | false =>
    have hh : ¬ has L t = true := fun q => by
      obtain ⟨x, hx, e⟩ := (has_iff h.1 t).1 q
      exact hk x hx e
    rw [if_neg hh]
    exact ⟨by simp, fun q => by cases q⟩
/-! ### room for seven -/
theorem encB_len7 {L : Smp} (h : L.length ≤ 7) : (encB L).length ≤ 944 := by
  have key : ∀ i, (encTo L (i + 1)).length ≤ 128 + 136 * i := fun i => by
    induction i with
    | zero => simp [encTo, sampB, bitsOf_length]
    | succ i ih =>
      show (encTo L (i + 1) ++ sampB L (i + 1)).length ≤ _
      rw [List.length_append]
      have h2 : (sampB L (i + 1)).length ≤ 136 := by
        unfold sampB
        rw [if_neg (by omega), List.length_append]
        have := (codeB_len (dT L (i + 1))).1
        have := (codeB_len (dV L (i + 1))).1
        omega
      omega
  unfold encB
  cases hl : L.length with
  | zero => simp [encTo]
  | succ k => have := key k; omega
/-- What comes of a sample that may not be there yet. -/
theorem hold_law {size : Nat} {L : Smp} (h : Fine L) (hs : 128 ≤ size) (hu : (encB L).length ≤ 8 * size) (t v : Int) :
    ¬ ((putF size L t v 1).2 = 2 ∧ (L.length < 7 ∨ (getF L t).2 = 0)) ∧ ((putF size L t v 1).2 ≠ 0 → (putF size L t v 1).1 = L) ∧ ((putF size L t v 1).2 = 0 → (putF size L t v 1).1.length = L.length + 1) ∧
    ((putF size L t v 1).2 = 8 ↔ ((getF L t).2 = 0 ∧ 0 ≤ t ∧ t < 1099511627776)) ∧ ((putF size L t v 1).2 = 1 ↔ (t < 0 ∨ 1099511627776 ≤ t)) ∧ (encB (putF size L t v 1).1).length ≤ 8 * size := by
  have m1 : ∀ a, mergeF 1 a v = (0, 8) := fun a => rfl
  unfold putF getF
  by_cases ht : t < 0 ∨ 1099511627776 ≤ t
  · rw [if_pos ht]
    exact ⟨fun q => absurd q.1 (by simp), fun _ => rfl, fun q => absurd q (by simp), ⟨fun q => absurd q (by simp), fun q => by omega⟩, ⟨fun _ => ht, fun _ => rfl⟩, hu⟩
  · rw [if_neg ht]
    by_cases hh : has L t = true
    · rw [if_pos hh, m1, if_pos (by decide), if_pos hh]
      exact ⟨fun q => absurd q.1 (by simp), fun _ => rfl, fun q => absurd q (by simp), ⟨fun _ => ⟨rfl, by omega⟩, fun _ => rfl⟩, ⟨fun q => absurd q (by simp), fun q => absurd q ht⟩, hu⟩
    · rw [if_neg hh, if_neg hh]
      unfold layF
      split
      · rename_i q
        exact ⟨fun q => absurd q.1 (by simp), fun q => absurd rfl q, fun _ => insF_len L t v, ⟨fun q => absurd q (by simp), fun q => absurd q.1 (by simp)⟩, ⟨fun q => absurd q (by simp), fun q => absurd q ht⟩, q⟩
      · rename_i q
        refine ⟨fun q2 => ?_, fun _ => rfl, fun q => absurd q (by simp), ⟨fun q => absurd q (by simp), fun q => absurd q.1 (by simp)⟩, ⟨fun q => absurd q (by simp), fun q => absurd q ht⟩, hu⟩
        rcases q2.2 with q3 | q3
        · have := encB_len7 (L := insF L t v) (by rw [insF_len]; omega)
          omega
        · exact absurd q3 (by simp)
/-! ### two chunks -/
def lastT (L : Smp) : Int := tAt L (L.length - 1)
def meetF (L M : Smp) : Bool := decide (L ≠ []) && decide (M ≠ []) && decide (tAt M 0 ≤ lastT L)
def joinF (size : Nat) (L M : Smp) : (Smp × Smp) × Int := if meetF L M then ((L, M), 1) else if (encB (L ++ M)).length ≤ 8 * size then ((L ++ M, []), 0) else ((L, M), 2)
theorem join_fine {size : Nat} (hs : size ≤ 4096) {L M : Smp} (h : Fine L) (k : Fine M) : Fine (joinF size L M).1.1 ∧ Fine (joinF size L M).1.2 := by
  unfold joinF
  split
  · exact ⟨h, k⟩
  · rename_i hm
    split
    · rename_i hq
      refine ⟨⟨.of fun i hi => ?_, fun x hx => ?_, ?_⟩, .nil⟩
      · rw [List.length_append] at hi
        have a1 : ∀ j, j < L.length → tAt (L ++ M) j = tAt L j := fun j hj => by simp [tAt, List.getElem?_append_left hj]
        have a2 : ∀ j, L.length ≤ j → tAt (L ++ M) j = tAt M (j - L.length) := fun j hj => by simp [tAt, List.getElem?_append_right hj]
        by_cases h1 : i + 1 < L.length
        · rw [a1 i (by omega), a1 _ h1]; exact h.1.lt (Nat.lt_succ_self i) h1
        · rw [a2 (i + 1) (by omega)]
          by_cases h2 : i + 1 = L.length
          · rw [a1 i (by omega), show i + 1 - L.length = 0 from by omega]
            have hL : L ≠ [] := fun q => by subst q; simp at h2
            have hM : M ≠ [] := fun q => by subst q; simp at hi; omega
            have : ¬ tAt M 0 ≤ lastT L := fun q => hm (by simp [meetF, hL, hM, q])
            unfold lastT at this
            rw [show L.length - 1 = i from by omega] at this
            omega
          · rw [a2 i (by omega), show i + 1 - L.length = i - L.length + 1 from by omega]
            exact k.1.lt (Nat.lt_succ_self _) (by omega)
      · rcases List.mem_append.1 hx with hx | hx
        · exact h.2.1 x hx
        · exact k.2.1 x hx
      · have := encB_ge (L ++ M); show (L ++ M).length ≤ 20000; omega
    · exact ⟨h, k⟩
end Go.Proofs.Ytdfeigkooeeeaaa
