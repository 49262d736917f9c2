/- Texts of our own, joined: the engine, the machine that runs code, and what is known of the functions. -/
import Derived.Test.YtdfeigkooeeeaaaRows
import Derived.WalkKit
import Derived.Deep.Quiet
import Derived.ProofKit
import Derived.Laws.StructEq
import Derived.LaidEql
import Derived.Laws.BytesArg
import Derived.Maps.RangeRun
import Derived.Scope
import Derived.Laws.Strings
import Derived.Laws.Strings2
import Derived.Test.YtdfeigkooeeeaaaJa
import Derived.Below
import Derived.Carry
import Derived.OpenShut
set_option linter.unusedSimpArgs false
set_option linter.unusedVariables false
set_option maxHeartbeats 16000000
set_option maxRecDepth 100000
namespace Go.Proofs.Ytdfeigkooeeeaaa
open Go Go.RowKit
theorem fA {α : Type} : ∀ (l : List α) (i : Nat), nth l i = l[i]?
  | [], _ => by simp [nth]
  | _ :: _, 0 => by simp [nth]
  | _ :: l, i + 1 => by simp [nth, fA l i]
theorem aY {α : Type} {l r : List α} {o n : Nat} (h : br l o n = some r) : o + n ≤ l.length ∧ r = (l.drop o).take n := by
  unfold br at h
  split at h
  · rename_i e
    injection h with h
    exact ⟨Nat.le_of_ble_eq_true e, h.symm⟩
  · cases h
theorem eY : ∀ (l : List AV) (o : Nat) (xs r : List AV), gZ l o xs = some r → r.length = l.length ∧ o + xs.length ≤ l.length ∧ ∀ i : Nat, r[i]? = if o ≤ i ∧ i < o + xs.length then xs[i - o]? else l[i]?
  | l, 0, [], r, h => by
    have : r = l := by cases l <;> (unfold gZ at h; injection h with h; exact h.symm)
    subst this
    refine ⟨rfl, by simp, fun i => ?_⟩
    rw [if_neg (by simp only [List.length_nil]; omega)]
  | [], 0, x :: xs, r, h => by unfold gZ at h; cases h
  | [], o + 1, xs, r, h => by cases xs <;> (unfold gZ at h; cases h)
  | y :: l, 0, x :: xs, r, h => by
    simp only [gZ, Option.map_eq_some_iff] at h
    obtain ⟨t, ht, rfl⟩ := h
    obtain ⟨h1, h2, h3⟩ := eY l 0 xs t ht
    refine ⟨by simp [h1], by simp only [List.length_cons]; omega, fun i => ?_⟩
    cases i with
    | zero => simp
    | succ i =>
      simp only [List.getElem?_cons_succ, h3, List.length_cons]
      by_cases hi : i < xs.length
      · rw [if_pos (by omega), if_pos (by omega)]; simp
      · rw [if_neg (by omega), if_neg (by omega)]
  | y :: l, o + 1, xs, r, h => by
    have h : (gZ l o xs).map (y :: ·) = some r := by cases xs <;> (unfold gZ at h; exact h)
    simp only [Option.map_eq_some_iff] at h
    obtain ⟨t, ht, rfl⟩ := h
    obtain ⟨h1, h2, h3⟩ := eY l o xs t ht
    refine ⟨by simp [h1], by simp only [List.length_cons]; omega, fun i => ?_⟩
    cases i with
    | zero => simp
    | succ i =>
      simp only [List.getElem?_cons_succ, h3]
      by_cases hi : o ≤ i ∧ i < o + xs.length
      · rw [if_pos hi, if_pos (by omega)]; congr 1; omega
      · rw [if_neg hi, if_neg (by omega)]
theorem dy : ∀ (vs : List Value) (c : Array Value) (o : Nat), (dd c o vs).size = c.size
  | [], _, _ => rfl
  | v :: vs, c, o => by simp [dd, dy vs]
theorem jQ : ∀ (vs : List Value) (c : Array Value) (o i : Nat), (dd c o vs)[i]? = if o ≤ i ∧ i < o + vs.length ∧ i < c.size then vs[i - o]? else c[i]?
  | [], c, o, i => by rw [if_neg (by simp; omega)]; rfl
  | v :: vs, c, o, i => by
    simp only [dd, jQ vs, Array.size_setIfInBounds, List.length_cons]
    by_cases h : i = o
    · subst h
      rw [if_neg (by omega)]
      by_cases hi : i < c.size
      · rw [if_pos (by omega)]; simp [hi]
      · rw [if_neg (by omega)]; simp [hi]
    · by_cases h2 : o + 1 ≤ i ∧ i < o + 1 + vs.length ∧ i < c.size
      · rw [if_pos h2, if_pos (by omega)]
        obtain ⟨d, rfl⟩ : ∃ d, i = o + 1 + d := ⟨i - (o + 1), by omega⟩
        rw [show o + 1 + d - (o + 1) = d from by omega, show o + 1 + d - o = d + 1 from by omega]
        simp
      · rw [if_neg h2, if_neg (by omega)]
        simp [Array.getElem?_setIfInBounds, Ne.symm h]
def CR (φ : Ph) (c : Array Value) (s : Nat) (l : List AV) : Prop := ∀ i a, l[i]? = some a → ∃ v, c[s + i]? = some v ∧ VR φ a v
theorem CR.dq {φ ψ : Ph} (he : SLe φ ψ) {c : Array Value} {s : Nat} {l : List AV} (h : CR φ c s l) : CR ψ c s l := fun i a e =>
  let ⟨v, h1, h2⟩ := h i a e
  ⟨v, h1, VR.dq he _ _ h2⟩
theorem CR.mono {φ ψ : Ph} (he : PLe φ ψ) {c : Array Value} {s : Nat} {l : List AV} (h : CR φ c s l) : CR ψ c s l := h.dq he.s
theorem CR.cr {φ : Ph} {c : Array Value} {s : Nat} {l : List AV} (h : CR φ c s l) : ∀ (n o : Nat), o + n ≤ l.length → ∃ vs, cr c (s + o) n = some vs ∧ VRs φ ((l.drop o).take n) vs
  | 0, o, _ => ⟨[], rfl, by simpa using VRs.nil⟩
  | n + 1, o, hle => by
    obtain ⟨v, h1, h2⟩ := h o (l[o]'(by omega)) (List.getElem?_eq_getElem (by omega))
    obtain ⟨vs, h3, h4⟩ := CR.cr h n (o + 1) (by omega)
    refine ⟨v :: vs, ?_, ?_⟩
    · simp only [Go.Proofs.Ytdfeigkooeeeaaa.cr, h1]
      rw [show s + o + 1 = s + (o + 1) from by omega, h3]
    · rw [List.drop_eq_getElem_cons (by omega), List.take_succ_cons]
      exact .cons h2 h4
theorem CR.sub {φ : Ph} {c : Array Value} {s : Nat} {l r : List AV} {o n : Nat} (h : CR φ c s l) (e : br l o n = some r) : ∃ vs, Go.Proofs.Ytdfeigkooeeeaaa.cr c (s + o) n = some vs ∧ VRs φ r vs := by
  obtain ⟨h1, rfl⟩ := aY e
  exact h.cr n o h1
theorem CR.nth {φ : Ph} {c : Array Value} {s : Nat} {l : List AV} {o : Nat} {a : AV} (h : CR φ c s l) (e : Go.Proofs.Ytdfeigkooeeeaaa.nth l o = some a) : ∃ v, c[s + o]? = some v ∧ VR φ a v := h o a (by rw [← fA]; exact e)
theorem CR.set {φ : Ph} {c : Array Value} {s o : Nat} {l r xs : List AV} {vs : List Value} (h : CR φ c s l) (e : gZ l o xs = some r) (hv : VRs φ xs vs) (hs : s + l.length ≤ c.size) : CR φ (dd c (s + o) vs) s r := by
  obtain ⟨h1, h2, h3⟩ := eY l o xs r e
  intro i a hi
  have hlt : i < l.length := by
    have := (List.getElem?_eq_some_iff.1 hi).1
    omega
  rw [h3] at hi
  rw [jQ, ← hv.length]
  split at hi
  · rename_i hc
    rw [if_pos (by omega), show s + i - (s + o) = i - o from by omega]
    exact hv.at hi
  · rename_i hc
    rw [if_neg (by omega)]
    exact h i a hi
theorem CR.of {φ : Ph} {l : List AV} {vs : List Value} (h : VRs φ l vs) (r : List Value) : CR φ (vs ++ r).toArray 0 l := fun i a e => by
  obtain ⟨v, h1, h2⟩ := h.at e
  refine ⟨v, ?_, h2⟩
  have := (List.getElem?_eq_some_iff.1 h1).1
  simp [List.getElem?_append_left this, h1]
theorem CR.of' {φ : Ph} {l : List AV} {c : Array Value} (h : VRs φ l c.toList) : CR φ c 0 l := fun i a e => by
  obtain ⟨v, h1, h2⟩ := h.at e
  exact ⟨v, by simpa using h1, h2⟩
def MR (φ : Ph) : List (AV × AV) → List MapEntry → Prop
  | [], ms => ms = []
  | e :: es, ms => ∃ m us, ms = m :: us ∧ VR φ e.1 m.key ∧ VR φ e.2 m.val ∧ MR φ es us
theorem MR.dq {φ ψ : Ph} (he : SLe φ ψ) : ∀ (es : List (AV × AV)) (ms : List MapEntry), MR φ es ms → MR ψ es ms
  | [], ms, h => h
  | e :: es, ms, ⟨m, us, h1, h2, h3, h4⟩ => ⟨m, us, h1, VR.dq he _ _ h2, VR.dq he _ _ h3, MR.dq he es us h4⟩
theorem MR.length {φ : Ph} : ∀ {es : List (AV × AV)} {ms : List MapEntry}, MR φ es ms → es.length = ms.length
  | [], ms, h => by rw [show ms = [] from h]; rfl
  | e :: es, ms, ⟨m, us, h1, _, _, h4⟩ => by subst h1; simp [MR.length h4]
def qy (ms : List MapEntry) (cl : Nat) : Prop := cl = ms.length ∧ ∀ (i : Nat) (e : MapEntry), ms[i]? = some e → e.born = i
theorem qy.nil : qy [] 0 := ⟨rfl, fun i e h => by simp at h⟩
theorem qy.push {ms : List MapEntry} {cl : Nat} (h : qy ms cl) {m : MapEntry} (hm : m.born = cl) : qy (ms ++ [m]) (cl + 1) := by
  refine ⟨by simp [h.1], fun i e hi => ?_⟩
  rcases Nat.lt_trichotomy i ms.length with hl | rfl | hl
  · rw [List.getElem?_append_left hl] at hi; exact h.2 i e hi
  · rw [List.getElem?_append_right (Nat.le_refl _)] at hi
    simp at hi
    subst hi
    exact hm.trans h.1
  · rw [List.getElem?_eq_none (by simp; omega)] at hi; cases hi
def OR (φ : Ph) (p : Pl) : AO → Obj → Prop
  | .cells l z, ob => ∃ c t fz, ob = .cells c t fz ∧ l.length ≤ p.T ∧ p.s + p.T ≤ c.size ∧ pj fz p.s p.T ∧ (z = true → fz = (0, 0)) ∧ CR φ c p.s l
  | .map es, ob => ∃ ms cl, ob = .map ms cl ∧ MR φ es ms.toList ∧ qy ms.toList cl
  | .iter b m seen, ob => p.s = 0 ∧ ∃ q, φ b = some q ∧ ob = .mapIter (some q.B) m seen.toArray m
  | .ro l, ob => ∃ c t fz, ob = .cells c t fz ∧ l.length ≤ p.T ∧ p.s + p.T ≤ c.size ∧ CR φ c p.s l
  | .sep _, _ => False
def AO.En : AO → Option HP
  | .sep Q => some Q
  | _ => none
def AO.own : AO → Bool
  | .ro _ => false
  | _ => true
theorem OR.dq {φ ψ : Ph} (he : SLe φ ψ) {p : Pl} {o : AO} {ob : Obj} (h : OR φ p o ob) : OR ψ p o ob := by
  cases o with
  | cells l z => obtain ⟨c, t, fz, h1, h2, h3, h4, h5, h6⟩ := h; exact ⟨c, t, fz, h1, h2, h3, h4, h5, h6.dq he⟩
  | map es => obtain ⟨ms, cl, h1, h2, h3⟩ := h; exact ⟨ms, cl, h1, MR.dq he _ _ h2, h3⟩
  | iter b m seen => obtain ⟨h0, q, h1, h2⟩ := h; exact ⟨h0, q, he _ _ h1, h2⟩
  | ro l => obtain ⟨c, t, fz, h1, h2, h3, h4⟩ := h; exact ⟨c, t, fz, h1, h2, h3, h4.dq he⟩
  | sep Q => exact h.elim
theorem OR.mono {φ ψ : Ph} (he : PLe φ ψ) {p : Pl} {o : AO} {ob : Obj} (h : OR φ p o ob) : OR ψ p o ob := h.dq he.s
def AO.under : AO → Obj → Option Obj
  | .ro _, ob => some ob
  | _, _ => none
theorem AO.cG {o : AO} (h : o.own = true) (ob : Obj) : o.under ob = none := by cases o <;> first | rfl | cases h
def AO.void : AO → Bool
  | .cells [] _ => true
  | .ro [] => true
  | _ => false
def AO.free : AO → Bool
  | .sep _ => true
  | o => o.void
theorem AO.yJ {o : AO} (h : o.void = true) : o.free = true := by cases o <;> first | exact h | rfl
def FzR (φ : Ph) (h : Hp) (q : Fz) : Prop := (q.B < h.n ∧ q.L.all dV = true) ∧ ∃ c t fz, h.f q.B = some (.cells c t fz) ∧ q.s + q.L.length ≤ c.size ∧ CR φ c q.s q.L
theorem FzR.mono {φ ψ : Ph} (he : ∀ q, φ.z q → ψ.z q) {h : Hp} {q : Fz} (k : FzR φ h q) : FzR ψ h q := by
  obtain ⟨h0, c, t, fz, h1, h2, h3⟩ := k
  refine ⟨h0, c, t, fz, h1, h2, fun i a hi => ?_⟩
  obtain ⟨v, h4, h5⟩ := h3 i a hi
  exact ⟨v, h4, hE he (List.all_eq_true.1 h0.2 a (List.mem_of_getElem? hi)) h5⟩
theorem FzR.grow {φ : Ph} {h g : Hp} {q : Fz} (k : FzR φ h q) (hn : h.n ≤ g.n) (hf : g.f q.B = h.f q.B) : FzR φ g q := by
  obtain ⟨h0, c, t, fz, h1, h2⟩ := k
  exact ⟨⟨Nat.lt_of_lt_of_le h0.1 hn, h0.2⟩, c, t, fz, hf.trans h1, h2⟩
structure HR (φ : Ph) (H : AH) (n : Nat) (h0 h : Hp) : Prop where
  dom : ∀ b p, φ b = some p → b < n ∧ p.B < h.n
  live : ∀ b o, H.get b = some o → (φ b = none ∧ o.free = true) ∨ ∃ p ob, φ b = some p ∧ h0.f p.B = o.under ob ∧ h.f p.B = some ob ∧ OR φ p o ob
  inj : ∀ b b' o o' p p', H.get b = some o → H.get b' = some o' → o.own = true → o'.own = true → φ b = some p → φ b' = some p' → p.B = p'.B → b = b'
  base : ∀ b o, h0.f b = some o → b < h.n ∧ h.f b = some o
  size : h0.n ≤ h.n
  frz : ∀ q, φ.z q → (FzR φ h q ∧ (φ.y q ∨ h0.f q.B = none)) ∧ ∀ b' o' p', H.get b' = some o' → o'.own = true → φ b' = some p' → p'.B ≠ q.B
  sep : ∀ b Q, H.get b = some (.sep Q) → Q.P φ.z (φ.s b) h ∧ ∀ B, φ.s b B → (B < h.n ∧ h0.f B = none) ∧ (∀ b' o' p', H.get b' = some o' → o'.own = true → φ b' = some p' → p'.B ≠ B) ∧ (∀ q, φ.z q → q.B ≠ B) ∧ ∀ b' Q', H.get b' = some (.sep Q') → b' ≠ b → ¬ φ.s b' B
theorem HR.rY {φ ψ : Ph} {H H' : AH} {n : Nat} {h0 h g : Hp} (hr : HR φ H n h0 h) (hn : h.n ≤ g.n) (hH : ∀ b Q, H'.get b = some (.sep Q) → H.get b = some (.sep Q) ∧ ψ.s b = φ.s b) (hz : ∀ q, φ.z q → ψ.z q) (hz2 : ∀ q, ψ.z q → φ.z q ∨ ∀ b Q, H.get b = some (.sep Q) → ¬ φ.s b q.B)
    (hg : ∀ b Q B, H.get b = some (.sep Q) → φ.s b B → g.f B = h.f B) (ho : ∀ b' o' p', H'.get b' = some o' → o'.own = true → ψ b' = some p' → (∃ b o p, H.get b = some o ∧ o.own = true ∧ φ b = some p ∧ p.B = p'.B) ∨ h.f p'.B = none ∨ ∀ b Q, H.get b = some (.sep Q) → ¬ φ.s b p'.B) :
    ∀ b Q, H'.get b = some (.sep Q) → Q.P ψ.z (ψ.s b) g ∧ ∀ B, ψ.s b B → (B < g.n ∧ h0.f B = none) ∧ (∀ b' o' p', H'.get b' = some o' → o'.own = true → ψ b' = some p' → p'.B ≠ B) ∧ (∀ q, ψ.z q → q.B ≠ B) ∧ ∀ b' Q', H'.get b' = some (.sep Q') → b' ≠ b → ¬ ψ.s b' B := fun b Q hb => by
  obtain ⟨h1, h2⟩ := hH b Q hb
  obtain ⟨h3, h4⟩ := hr.sep b Q h1
  rw [h2]
  refine ⟨Q.mono _ _ _ _ hz (Q.loc _ _ _ _ (fun B hB => hg b Q B h1 hB) h3), fun B hB => ?_⟩
  obtain ⟨k1, k2, k3, k4⟩ := h4 B hB
  refine ⟨⟨Nat.lt_of_lt_of_le k1.1 hn, k1.2⟩, fun b' o' p' e1 e2 e3 e4 => ?_, fun q hq e => ?_, fun b' Q' e1 e2 e3 => ?_⟩
  · rcases ho b' o' p' e1 e2 e3 with ⟨c, o, p, g1, g2, g3, g4⟩ | g | g
    · exact k2 c o p g1 g2 g3 (g4.trans e4)
    · obtain ⟨x, hx⟩ := Q.ex _ _ _ B h3 hB
      rw [e4, hx] at g; cases g
    · exact g b Q h1 (e4 ▸ hB)
  · rcases hz2 q hq with g | g
    · exact k3 q g e
    · exact g b Q h1 (e ▸ hB)
  · obtain ⟨f1, f2⟩ := hH b' Q' e1
    rw [f2] at e3
    exact k4 b' Q' f1 e2 e3
theorem HR.of {φ : Ph} {H : AH} {n : Nat} {h0 h : Hp} (hr : HR φ H n h0 h) {b : Nat} {o : AO} {p : Pl} (hb : H.get b = some o) (hp : φ b = some p) : ∃ ob, h0.f p.B = o.under ob ∧ h.f p.B = some ob ∧ OR φ p o ob := by
  rcases hr.live b o hb with ⟨h1, _⟩ | ⟨q, ob, h1, h2, h3, h4⟩
  · rw [hp] at h1; cases h1
  rw [hp] at h1
  injection h1 with h1
  subst h1
  exact ⟨ob, h2, h3, h4⟩
theorem HR.put {φ : Ph} {H : AH} {n : Nat} {h0 h : Hp} (hr : HR φ H n h0 h) {b : Nat} {o o' : AO} {p : Pl} {ob' : Obj} (hb : H.get b = some o) (hp : φ b = some p) (ho : OR φ p o' ob') (d : Nat) (hw : o.own = true := by rfl) (hw' : o'.own = true := by rfl) : HR φ (H.set (some o') d b) n h0 (h.put p.B ob') := by
  obtain ⟨ob, hB, _, _⟩ := hr.of hb hp
  rw [AO.cG hw] at hB
  have nosep : ∀ x Q, (H.set (some o') d b).get x = some (.sep Q) → H.get x = some (.sep Q) := fun x Q hx => by
    rcases PM.aE d H b x _ hx with ⟨_, h2⟩ | ⟨_, h2⟩
    · injection h2 with h2; subst h2; exact ho.elim
    · exact h2
  refine ⟨hr.dom, fun x q hx => ?_, fun x y q q' px py hx hy hwx hwy hpx hpy e => ?_, fun x q hx => ?_, hr.size, fun q hq => ?_, hr.rY (Nat.le_refl _) (fun x Q hx => ⟨nosep x Q hx, rfl⟩) (fun _ h => h) (fun _ h => .inl h) (fun x Q B hx hB => dE _ _ _ _ fun e => ((hr.sep x Q hx).2 B hB).2.1 b o p hb hw hp e.symm) fun b' o1 p' e1 e2 e3 => ?_⟩
  rotate_left 4
  · rcases PM.aE d H b b' o1 e1 with ⟨rfl, _⟩ | ⟨_, h2⟩
    · exact .inl ⟨_, o, p', hb, hw, e3, rfl⟩
    · exact .inl ⟨b', o1, p', h2, e2, e3, rfl⟩
  · rcases PM.aE d H b x q hx with ⟨rfl, h2⟩ | ⟨h1, h2⟩
    · injection h2 with h2
      subst h2
      exact .inr ⟨p, ob', hp, by rw [AO.cG hw']; exact hB, il _ _ _, ho⟩
    · rcases hr.live x q h2 with hv | ⟨px, obx, h3, h4, h5, h6⟩
      · exact .inl hv
      refine .inr ⟨px, obx, h3, h4, ?_, h6⟩
      rw [dE _ _ _ _ (fun e => by
        cases hq : q.own with
        | true => exact h1 (hr.inj x b q o px p h2 hb hq hw h3 hp e)
        | false =>
          rw [e, hB] at h4
          cases q <;> first | (cases hq; done) | (simp [AO.under] at h4; done))]
      exact h5
  · have lv : ∀ z r, (H.set (some o') d b).get z = some r → r.own = true → ∃ r', H.get z = some r' ∧ r'.own = true := fun z r hz hw2 => by
      rcases PM.aE d H b z r hz with ⟨rfl, _⟩ | ⟨_, h2⟩
      · exact ⟨o, hb, hw⟩
      · exact ⟨r, h2, hw2⟩
    obtain ⟨r, hr1, hr3⟩ := lv x q hx hwx
    obtain ⟨r', hr2, hr4⟩ := lv y q' hy hwy
    exact hr.inj x y r r' px py hr1 hr2 hr3 hr4 hpx hpy e
  · obtain ⟨h1, h2⟩ := hr.base x q hx
    exact ⟨h1, by rw [dE _ _ _ _ (fun e => by subst e; rw [hB] at hx; cases hx)]; exact h2⟩
  · obtain ⟨⟨h1, h9⟩, h2⟩ := hr.frz q hq
    refine ⟨⟨h1.grow (Nat.le_refl _) (dE _ _ _ _ fun e => h2 b o p hb hw hp e.symm), h9⟩, fun y oy py hy hwy hpy => ?_⟩
    rcases PM.aE d H b y oy hy with ⟨rfl, _⟩ | ⟨_, h3⟩
    · exact h2 y o py hb hw hpy
    · exact h2 y oy py h3 hwy hpy
def fi (φ : Ph) (n : Nat) (p : Pl) : Ph := ⟨fun x => if x = n then some p else φ x, φ.z, φ.y, φ.s⟩
theorem HR.ple {φ : Ph} {H : AH} {n : Nat} {h0 h : Hp} (hr : HR φ H n h0 h) (p : Pl) : PLe φ (fi φ n p) := ⟨fun b q e => by
  show (if b = n then some p else φ b) = some q
  rw [if_neg (by have := (hr.dom b q e).1; omega)]
  exact e, fun _ h => h, fun _ h => h⟩
theorem bJ (φ : Ph) (n : Nat) (p : Pl) : fi φ n p n = some p := by simp [fi]
theorem HR.new {φ : Ph} {H : AH} {n : Nat} {h0 h : Hp} (hr : HR φ H n h0 h) {s T : Nat} {o : AO} {ob : Obj} (ho : OR (fi φ n ⟨h.n, s, T⟩) ⟨h.n, s, T⟩ o ob) (d : Nat) (hw : o.own = true := by rfl) : HR (fi φ n ⟨h.n, s, T⟩) (H.set (some o) d n) (n + 1) h0 ((h.put h.n ob).to (h.n + 1)) := by
  have old : ∀ x q, H.get x = some q → (φ x = none ∧ q.free = true) ∨ ∃ p ob', φ x = some p ∧ x < n ∧ p.B < h.n ∧ h0.f p.B = q.under ob' ∧ h.f p.B = some ob' ∧ OR φ p q ob' := fun x q hx => by
    rcases hr.live x q hx with hv | ⟨px, obx, h3, h4, h5, h6⟩
    · exact .inl hv
    exact .inr ⟨px, obx, h3, (hr.dom x px h3).1, (hr.dom x px h3).2, h4, h5, h6⟩
  have hno : h0.f h.n = none := by
    cases hx : h0.f h.n with
    | none => rfl
    | some o => exact absurd (hr.base _ _ hx).1 (Nat.lt_irrefl _)
  have nosep : ∀ x Q, (H.set (some o) d n).get x = some (.sep Q) → x ≠ n ∧ H.get x = some (.sep Q) := fun x Q hx => by
    rcases PM.aE d H n x _ hx with ⟨_, h2⟩ | h2
    · injection h2 with h2; subst h2; exact ho.elim
    · exact h2
  refine ⟨fun x q hx => ?_, fun x q hx => ?_, fun x y q q' px py hx hy hwx hwy hpx hpy e => ?_, fun x q hx => ?_, ?_, fun q hq => ?_, hr.rY (Nat.le_succ _) (fun x Q hx => ⟨(nosep x Q hx).2, rfl⟩) (fun _ h => h) (fun _ h => .inl h) (fun x Q B hx hB => ?_) fun b' o1 p' e1 e2 e3 => ?_⟩
  rotate_left 6
  · have : B < h.n := ((hr.sep x Q hx).2 B hB).1.1
    rw [zH, dE _ _ _ _ (by omega)]
  · rcases PM.aE d H n b' o1 e1 with ⟨rfl, _⟩ | ⟨h1, h2⟩
    · rw [bJ] at e3; injection e3 with e3; subst e3
      exact .inr (.inr fun x Q hx hB => by have : h.n < h.n := ((hr.sep x Q hx).2 _ hB).1.1; omega)
    · simp only [fi, if_neg h1] at e3
      exact .inl ⟨b', o1, p', h2, e2, e3, rfl⟩
  · simp only [fi] at hx
    split at hx
    · injection hx with hx; subst hx; simp only [zG]; omega
    · have := hr.dom x q hx; simp only [zG]; omega
  · rcases PM.aE d H n x q hx with ⟨rfl, h2⟩ | ⟨h1, h2⟩
    · injection h2 with h2
      subst h2
      exact .inr ⟨_, ob, bJ _ _ _, by rw [AO.cG hw]; exact hno, by rw [zH]; exact il _ _ _, ho⟩
    · rcases old x q h2 with ⟨hv, hv2⟩ | ⟨px, obx, h3, h4, h5, h6, h7, h8⟩
      · exact .inl ⟨by simp only [fi, if_neg h1]; exact hv, hv2⟩
      refine .inr ⟨px, obx, hr.ple _ _ _ h3, h6, ?_, h8.mono (hr.ple _)⟩
      rw [zH, dE _ _ _ _ (by omega)]; exact h7
  · have cs : ∀ z r pz, (H.set (some o) d n).get z = some r → fi φ n ⟨h.n, s, T⟩ z = some pz → (z = n ∧ pz.B = h.n) ∨ (z ≠ n ∧ H.get z = some r ∧ φ z = some pz ∧ pz.B < h.n) := fun z r pz hz hpz => by
      rcases PM.aE d H n z r hz with ⟨rfl, _⟩ | ⟨h1, h2⟩
      · rw [bJ] at hpz; injection hpz with hpz; subst hpz; exact .inl ⟨rfl, rfl⟩
      · simp only [fi, if_neg h1] at hpz
        exact .inr ⟨h1, h2, hpz, (hr.dom _ _ hpz).2⟩
    rcases cs x q px hx hpx with ⟨a1, a2⟩ | ⟨a1, a2, a3, a4⟩ <;> rcases cs y q' py hy hpy with ⟨b1, b2⟩ | ⟨b1, b2, b3, b4⟩
    · omega
    · omega
    · omega
    · exact hr.inj x y q q' px py a2 b2 hwx hwy a3 b3 e
  · obtain ⟨h1, h2⟩ := hr.base x q hx
    exact ⟨by simp only [zG]; omega, by rw [zH, dE _ _ _ _ (by omega)]; exact h2⟩
  · have := hr.size
    (try simp only [zG]); omega
  · obtain ⟨⟨h1, h9⟩, h2⟩ := hr.frz q hq
    have hlt := h1.1.1
    refine ⟨⟨FzR.mono (hr.ple _).z (h1.grow (g := (h.put h.n ob).to (h.n + 1)) (by simp only [zG]; omega) (by rw [zH, dE _ _ _ _ (by omega)])), h9⟩, fun y oy py hy hwy hpy => ?_⟩
    rcases PM.aE d H n y oy hy with ⟨rfl, _⟩ | ⟨h3, h4⟩
    · rw [bJ] at hpy; injection hpy with hpy; subst hpy; exact fun e => by simp only at e; omega
    · simp only [fi, if_neg h3] at hpy
      exact h2 y oy py h4 hwy hpy
theorem HR.kill {φ : Ph} {H : AH} {n : Nat} {h0 h : Hp} (hr : HR φ H n h0 h) (d b : Nat) : HR φ (H.set none d b) n h0 h := by
  have old : ∀ x q, (H.set none d b).get x = some q → H.get x = some q := fun x q hx => by
    rcases PM.aE d H b x q hx with ⟨_, h2⟩ | ⟨_, h2⟩
    · cases h2
    · exact h2
  exact ⟨hr.dom, fun x q hx => hr.live x q (old x q hx), fun x y q q' px py hx hy => hr.inj x y q q' px py (old x q hx) (old y q' hy), hr.base, hr.size, fun q hq => ⟨(hr.frz q hq).1, fun y oy py hy => (hr.frz q hq).2 y oy py (old y oy hy)⟩, hr.rY (Nat.le_refl _) (fun x Q hx => ⟨old x _ hx, rfl⟩) (fun _ h => h) (fun _ h => .inl h) (fun _ _ _ _ _ => rfl) fun b' o' p' e1 e2 e3 => .inl ⟨b', o', p', old b' o' e1, e2, e3, rfl⟩⟩
theorem HR.rename {φ : Ph} {H : AH} {n : Nat} {h0 h : Hp} (hr : HR φ H n h0 h) {b : Nat} {o o' : AO} {p q : Pl} {ob' : Obj} (hb : H.get b = some o) (hp : φ b = some p) (hq : q.B = p.B) (ho : OR (fi φ n q) q o' ob') (d d' : Nat) (hw : o.own = true := by rfl) (hw' : o'.own = true := by rfl) :
    HR (fi φ n q) ((H.set none d' b).set (some o') d n) (n + 1) h0 (h.put p.B ob') := by
  obtain ⟨ob, hB, _, _⟩ := hr.of hb hp
  rw [AO.cG hw] at hB
  have hpB := (hr.dom b p hp).2
  have old : ∀ x r, (H.set none d' b).get x = some r → x ≠ b ∧ H.get x = some r := fun x r hx => by
    rcases PM.aE d' H b x r hx with ⟨_, h2⟩ | ⟨h1, h2⟩
    · cases h2
    · exact ⟨h1, h2⟩
  refine ⟨fun x r hx => ?_, fun x r hx => ?_, fun x y r r' px py hx hy hwx hwy hpx hpy e => ?_, fun x r hx => ?_, hr.size, fun z hzq => ?_, hr.rY (Nat.le_refl _) (fun x Q hx => ?_) (fun _ h => h) (fun _ h => .inl h) (fun x Q B hx hB => dE _ _ _ _ fun e => ((hr.sep x Q hx).2 B hB).2.1 b o p hb hw hp e.symm) fun b' o1 p' e1 e2 e3 => ?_⟩
  rotate_left 5
  · rcases PM.aE d _ n x _ hx with ⟨_, h2⟩ | ⟨_, h2⟩
    · injection h2 with h2; subst h2; exact ho.elim
    · exact ⟨(old x _ h2).2, rfl⟩
  · rcases PM.aE d _ n b' o1 e1 with ⟨rfl, _⟩ | ⟨h1, h2⟩
    · rw [bJ] at e3; injection e3 with e3; subst e3
      exact .inl ⟨b, o, p, hb, hw, hp, hq.symm⟩
    · simp only [fi, if_neg h1] at e3
      exact .inl ⟨b', o1, p', (old b' o1 h2).2, e2, e3, rfl⟩
  · simp only [fi] at hx
    split at hx
    · injection hx with hx; subst hx; simp only [Bp]; omega
    · have := hr.dom x r hx; simp only [Bp]; omega
  · rcases PM.aE d _ n x r hx with ⟨rfl, h2⟩ | ⟨h1, h2⟩
    · injection h2 with h2
      subst h2
      exact .inr ⟨_, ob', bJ _ _ _, by rw [hq, AO.cG hw']; exact hB, by rw [hq]; exact il _ _ _, ho⟩
    · obtain ⟨h3, h4⟩ := old x r h2
      rcases hr.live x r h4 with ⟨hv, hv2⟩ | ⟨px, obx, h5, h6, h7, h8⟩
      · exact .inl ⟨by simp only [fi, if_neg h1]; exact hv, hv2⟩
      refine .inr ⟨px, obx, hr.ple _ _ _ h5, h6, ?_, h8.mono (hr.ple _)⟩
      rw [dE _ _ _ _ (fun e => by
        cases hq : r.own with
        | true => exact h3 (hr.inj x b r o px p h4 hb hq hw h5 hp e)
        | false =>
          rw [e, hB] at h6
          cases r <;> first | (cases hq; done) | (simp [AO.under] at h6; done))]
      exact h7
  · have cs : ∀ z r pz, ((H.set none d' b).set (some o') d n).get z = some r → fi φ n q z = some pz → (z = n ∧ pz.B = p.B) ∨ (z ≠ n ∧ z ≠ b ∧ H.get z = some r ∧ φ z = some pz) := fun z r pz hz hpz => by
      rcases PM.aE d _ n z r hz with ⟨rfl, _⟩ | ⟨h1, h2⟩
      · rw [bJ] at hpz; injection hpz with hpz; subst hpz; exact .inl ⟨rfl, hq⟩
      · simp only [fi, if_neg h1] at hpz
        obtain ⟨h3, h4⟩ := old z r h2
        exact .inr ⟨h1, h3, h4, hpz⟩
    rcases cs x r px hx hpx with ⟨a1, a2⟩ | ⟨a1, a2, a3, a4⟩ <;> rcases cs y r' py hy hpy with ⟨b1, b2⟩ | ⟨b1, b2, b3, b4⟩
    · omega
    · exact (b2 (hr.inj y b r' o py p b3 hb hwy hw b4 hp (by omega))).elim
    · exact (a2 (hr.inj x b r o px p a3 hb hwx hw a4 hp (by omega))).elim
    · exact hr.inj x y r r' px py a3 b3 hwx hwy a4 b4 e
  · obtain ⟨h1, h2⟩ := hr.base x r hx
    exact ⟨h1, by rw [dE _ _ _ _ (fun e => by subst e; rw [hB] at hx; cases hx)]; exact h2⟩
  · obtain ⟨⟨h1, h9⟩, h2⟩ := hr.frz z hzq
    refine ⟨⟨FzR.mono (hr.ple _).z (h1.grow (g := h.put p.B ob') (Nat.le_refl _) (dE _ _ _ _ fun e => h2 b o p hb hw hp e.symm)), h9⟩, fun y oy py hy hwy hpy => ?_⟩
    rcases PM.aE d _ n y oy hy with ⟨rfl, _⟩ | ⟨h3, h4⟩
    · rw [bJ] at hpy; injection hpy with hpy; subst hpy; rw [hq]; exact h2 b o p hb hw hp
    · simp only [fi, if_neg h3] at hpy
      exact h2 y oy py (old y oy h4).2 hwy hpy
def FR (φ : Ph) (σ : AE) (ρ : Env) : Prop := ∀ t a, σ.get t = some a → VR φ a (ρ t)
theorem FR.mono {φ ψ : Ph} (he : PLe φ ψ) {σ : AE} {ρ : Env} (h : FR φ σ ρ) : FR ψ σ ρ := fun t a e => VR.mono he _ _ (h t a e)
theorem FR.ev {φ : Ph} {σ : AE} {ρ : Env} (h : FR φ σ ρ) (x : Operand) : VR φ (eev σ x) (ρ.ev x) := by
  cases x with
  | tmp t =>
    simp only [eev, Env.ev]
    rcases jt cQ t σ _ rfl with e | e
    · show VR φ (aL (pathOf cQ t) σ) (ρ t)
      rw [e]; exact .bad _
    · exact h t _ e
  | const v => exact lI v
  | global g => exact .any _
  | func f => exact .fn (xs := #[]) (cs := #[]) .nil .nil
theorem FR.at {φ : Ph} {σ : AE} {ρ : Env} (h : FR φ σ ρ) (t : Nat) : VR φ (aL (pa t) σ) (ρ t) := FR.ev h (.tmp t)
theorem FR.put {φ : Ph} {σ : AE} {ρ : Env} (h : FR φ σ ρ) (d : Option Nat) {a : AV} {v : Value} (hv : VR φ a v) : FR φ (bR σ d a) (ρ.put d v) := by
  cases d with
  | none => exact h
  | some d =>
    intro t x e
    rcases ju cQ σ d t x e with ⟨rfl, h2⟩ | ⟨h1, h2⟩
    · subst h2
      rw [kG, mQ]; exact hv
    · rw [kG, Gf _ _ _ _ h1]; exact h t x h2
theorem cD (s : List Nat) : (dC s).toList = s.map UInt8.ofNat := ByteArray.toList_mk _
theorem eZ (s : List Nat) : (dC s).size = s.length := by
  show (s.map UInt8.ofNat).toArray.size = _
  simp
theorem vE (a b : List Nat) : dC a ++ dC b = dC (a ++ b) := by
  apply ByteArray.ext
  simp [dC]
theorem uo (s : List Nat) (l h : Nat) : (dC s).extract l h = dC ((s.drop l).take (h - l)) := by
  unfold dC
  rw [ByteArray.extract_mk]
  simp [List.map_take, List.map_drop]
theorem ofNat_inj {a b : Nat} (ha : a < 256) (hb : b < 256) (h : UInt8.ofNat a = UInt8.ofNat b) : a = b := by
  have := congrArg UInt8.toNat h
  simp only [UInt8.toNat_ofNat'] at this
  omega
theorem lJ : ∀ (a b : List Nat), (∀ x ∈ a, x < 256) → (∀ x ∈ b, x < 256) → bg a b = (a.map UInt8.ofNat == b.map UInt8.ofNat)
  | [], [], _, _ => by simp [bg]
  | [], _ :: _, _, _ => by simp [bg]
  | _ :: _, [], _, _ => by simp [bg]
  | a :: x, b :: y, ha, hb => by
    unfold bg
    have ih := lJ x y (fun z hz => ha z (by simp [hz])) (fun z hz => hb z (by simp [hz]))
    rw [List.map_cons, List.map_cons, List.cons_beq_cons]
    split
    · rename_i e
      have := Nat.eq_of_beq_eq_true e
      subst this
      simp [ih]
    · rename_i e
      have hne : a ≠ b := fun q => by subst q; simp at e
      have : UInt8.ofNat a ≠ UInt8.ofNat b := fun q => hne (ofNat_inj (ha a (by simp)) (hb b (by simp)) q)
      simp [this]
theorem vF : ∀ (a b : List Nat), (∀ x ∈ a, x < 256) → (∀ x ∈ b, x < 256) → ltL a b = Op.bytesLess (a.map UInt8.ofNat) (b.map UInt8.ofNat)
  | [], [], _, _ => by simp [ltL, Op.bytesLess]
  | [], _ :: _, _, _ => by simp [ltL, Op.bytesLess]
  | _ :: _, [], _, _ => by simp [ltL, Op.bytesLess]
  | a :: x, b :: y, ha, hb => by
    unfold ltL
    have ih := vF x y (fun z hz => ha z (by simp [hz])) (fun z hz => hb z (by simp [hz]))
    have ha' := ha a (by simp)
    have hb' := hb b (by simp)
    rw [List.map_cons, List.map_cons, Op.bytesLess]
    split
    · rename_i e
      have := Nat.eq_of_beq_eq_true e
      subst this
      simp [ih]
    · rename_i e
      have hne : a ≠ b := fun q => by subst q; simp at e
      have h2 : UInt8.ofNat a ≠ UInt8.ofNat b := fun q => hne (ofNat_inj ha' hb' q)
      have h3 : decide (UInt8.ofNat a < UInt8.ofNat b) = Nat.blt a b := by
        rw [Bool.eq_iff_iff, decide_eq_true_eq, UInt8.lt_iff_toNat_lt, UInt8.toNat_ofNat', UInt8.toNat_ofNat', Nat.mod_eq_of_lt ha', Nat.mod_eq_of_lt hb']
        simp [Nat.blt_eq]
      simp [h2, h3]
section
variable {P : Program} {φ : Ph} {H : AH} {n : Nat} {h0 h : Hp} {K : Value → Prop}
theorem qz {op : BinOp} {t : TypeId} {k k' : IntKind} {a b : Int} {r : AV} (e : mr op k k' a b = some r) (hk : ∀ v, VR φ r v → K v) : ir P op t (.int k a) (.int k' b) K := by
  unfold mr at e
  (try simp only [ir])
  cases op <;> simp only at e ⊢
  case shl => split at e <;> first | (injection e with e; subst e; exact ⟨by assumption, hk _ (.int _ _)⟩) | cases e
  case shr => split at e <;> first | (injection e with e; subst e; exact ⟨by assumption, hk _ (.int _ _)⟩) | cases e
  case quo =>
    split at e
    · rename_i hkk
      split at e
      · cases e
      · rename_i hb; injection e with e; subst e; exact ⟨hkk, hb, hk _ (.int _ _)⟩
    · cases e
  case rem =>
    split at e
    · rename_i hkk
      split at e
      · cases e
      · rename_i hb; injection e with e; subst e; exact ⟨hkk, hb, hk _ (.int _ _)⟩
    · cases e
  case neq =>
    split at e
    · rename_i hkk
      injection e with e; subst e
      refine ⟨hkk, ?_⟩
      have : decide (a ≠ b) = !decide (a = b) := by by_cases q : a = b <;> simp [q]
      rw [this]; exact hk _ (.bool _)
    · cases e
  all_goals
    split at e
    · rename_i hkk
      injection e with e; subst e
      exact ⟨hkk, hk _ (by first | exact .int _ _ | exact .bool _)⟩
    · cases e
theorem qA {op : BinOp} {t : TypeId} {a b : List Nat} {r : AV} (ha : ∀ x ∈ a, x < 256) (hb : ∀ x ∈ b, x < 256) (e : BL op a b = some r) (hk : ∀ v, VR φ r v → K v) : ir P op t (.string (dC a)) (.string (dC b)) K := by
  unfold BL at e
  have e1 : bg a b = ((dC a).toList == (dC b).toList) := by rw [cD, cD]; exact lJ a b ha hb
  have e2 : ltL a b = Op.bytesLess (dC a).toList (dC b).toList := by rw [cD, cD]; exact vF a b ha hb
  cases op <;> simp only at e <;> simp only [ir]
  case add =>
    split at e
    · rename_i hle
      injection e with e; subst e
      refine ⟨by rw [eZ, eZ]; exact hle, ?_⟩
      rw [vE]
      exact hk _ (.str fun x hx => (List.mem_append.1 hx).elim (ha x) (hb x))
    · cases e
  all_goals first | (cases e; done) | (injection e with e; subst e; (first | rw [← e1, ← e2] | rw [← e1] | rw [← e2]); exact hk _ (.bool _))
end
end Go.Proofs.Ytdfeigkooeeeaaa
namespace Go.Proofs.Ytdfeigkooeeeaaa
open Go Go.RowKit
theorem VRs.of {φ : Ph} : ∀ {l : List AV} {vs : List Value}, l.length = vs.length → (∀ (i : Nat) (a : AV), l[i]? = some a → ∃ v, vs[i]? = some v ∧ VR φ a v) → VRs φ l vs
  | [], [], _, _ => .nil
  | [], _ :: _, h, _ => by simp at h
  | _ :: _, [], h, _ => by simp at h
  | a :: l, v :: vs, h, k => by
    obtain ⟨u, h1, h2⟩ := k 0 a rfl
    simp only [List.getElem?_cons_zero, Option.some.injEq] at h1
    subst h1
    refine .cons h2 (VRs.of (by simpa using h) fun i b e => ?_)
    obtain ⟨w, h3, h4⟩ := k (i + 1) b (by simpa using e)
    exact ⟨w, by simpa using h3, h4⟩
theorem VRs.Jh {φ : Ph} {l : List AV} {c : Array Value} (h : VRs φ l c.toList) : CR φ c 0 l := CR.of' h
theorem CR.H3 {φ : Ph} {l : List AV} {c : Array Value} (hl : l.length = c.size) (h : CR φ c 0 l) : VRs φ l c.toList :=
  VRs.of (by simpa using hl) fun i a e => by
    obtain ⟨v, h1, h2⟩ := h i a e
    exact ⟨v, by simpa using h1, h2⟩
theorem jv (φ : Ph) (z : Value) : VRs φ (ofV z).cells z.cells.toList := by
  have h := lI (φ := φ) z
  have hc : okC (ofV z) = true := by
    unfold ofV
    split
    · rfl
    · rfl
    · rename_i h1 h2
      unfold vy
      split <;> first | rfl | (cases z <;> first | rfl | exact (h1 _ rfl).elim | exact (h2 _ rfl).elim)
  exact h.cells hc
section
variable {P : Program} {φ : Ph} {H : AH} {n : Nat} {h0 h : Hp} {K : Value → Prop}
theorem iU (hr : HR φ H n h0 h) {t : TypeId} {a r : AV} {v : Value} (ha : VR φ a v) (e : kP P t a H = some r) (hk : ∀ u, VR φ r u → K u) : fR P t v h K := by
  unfold kP at e
  split at e
  · rename_i b o
    obtain ⟨p, hp, rfl⟩ := ha.ef
    split at e
    · rename_i l z hb
      obtain ⟨ob, hB, hf, c, t', fz, rfl, h1, h2, h3, h4, h5⟩ := hr.of hb hp
      (try simp only [fR, hf])
      split at e
      · rename_i hg
        obtain ⟨v, h6, h7⟩ := h5.nth e
        (try simp only [hg, h6])
        exact hk v h7
      · rename_i hg
        split at e
        · rename_i m hm
          simp only [Option.map_eq_some_iff] at e
          obtain ⟨l', e1, rfl⟩ := e
          obtain ⟨vs, h6, h7⟩ := h5.sub e1
          (try simp only [hg, hm, h6])
          exact hk _ (.agg (by simpa using h7))
        · cases e
      · cases e
    · rename_i l hb
      obtain ⟨ob, hB, hf, c, t', fz, rfl, h1, h2, h5⟩ := hr.of hb hp
      (try simp only [fR, hf])
      split at e
      · rename_i hg
        obtain ⟨v, h6, h7⟩ := h5.nth e
        (try simp only [hg, h6])
        exact hk v h7
      · rename_i hg
        split at e
        · rename_i m hm
          simp only [Option.map_eq_some_iff] at e
          obtain ⟨l', e1, rfl⟩ := e
          obtain ⟨vs, h6, h7⟩ := h5.sub e1
          (try simp only [hg, hm, h6])
          exact hk _ (.agg (by simpa using h7))
        · cases e
      · cases e
    · cases e
  · cases e
theorem gI {op : BinOp} {q : Option Bool} {r : AV} (e : km op q = some r) : ∃ b, q = some b ∧ (op = .eql ∧ r = .bool b ∨ op = .neq ∧ r = .bool (!b)) := by
  unfold km at e
  split at e
  · cases e
  · rename_i b
    cases op <;> simp only at e <;> first | (cases e; done) | (injection e with e; subst e; exact ⟨b, rfl, by simp⟩)
theorem jR {xs ys : List AV} {vs us : Array Value} (hx : VRs φ xs vs.toList) (hy : VRs φ ys us.toList) : ∀ (l : List (Nat × Nat)) (q : Bool), ko xs ys l = some q → fp vs us l = some q
  | [], q, e => e
  | (k, o) :: l, q, e => by
    unfold ko at e
    simp only [fA] at e
    split at e
    · rename_i k1 a k2 b e1 e2
      obtain ⟨v1, g1, g2⟩ := hx.at e1
      obtain ⟨v2, g3, g4⟩ := hy.at e2
      rw [g2.bG, Array.getElem?_toList] at g1
      rw [g4.bG, Array.getElem?_toList] at g3
      split at e
      · rename_i hc
        simp only [Option.map_eq_some_iff] at e
        obtain ⟨q', e3, rfl⟩ := e
        (try simp only [fp, g1, g3])
        rw [if_pos hc, jR hx hy l q' e3]; rfl
      · cases e
    · rename_i a b e1 e2
      obtain ⟨v1, g1, g2⟩ := hx.at e1
      obtain ⟨v2, g3, g4⟩ := hy.at e2
      rw [g2.cB.1, Array.getElem?_toList] at g1
      rw [g4.cB.1, Array.getElem?_toList] at g3
      split at e
      · rename_i hc
        simp only [Option.map_eq_some_iff] at e
        obtain ⟨q', e3, rfl⟩ := e
        (try simp only [fp, g1, g3])
        rw [if_pos hc, jR hx hy l q' e3, cD, cD, lJ a b g2.cB.2 g4.cB.2]; rfl
      · cases e
    · rename_i a b e1 e2
      obtain ⟨v1, g1, g2⟩ := hx.at e1
      obtain ⟨v2, g3, g4⟩ := hy.at e2
      rw [g2.aP, Array.getElem?_toList] at g1
      rw [g4.aP, Array.getElem?_toList] at g3
      split at e
      · rename_i hc
        simp only [Option.map_eq_some_iff] at e
        obtain ⟨q', e3, rfl⟩ := e
        (try simp only [fp, g1, g3])
        rw [if_pos hc, jR hx hy l q' e3]; rfl
      · cases e
    · cases e
theorem vG {t : TypeId} (e : xo P t = true) : ∃ x, P.underlying t = some (.pointer x) := by
  unfold xo at e
  split at e
  · exact ⟨_, by assumption⟩
  · cases e
theorem xw {t : TypeId} (e : qq P t = true) : ∃ x, P.underlying t = some (.slice x) := by
  unfold qq at e
  split at e
  · exact ⟨_, by assumption⟩
  · cases e
theorem na {t : TypeId} (e : pB P t = true) : P.underlying t = some .bool := by
  unfold pB at e
  split at e
  · assumption
  · cases e
theorem oW (hr : HR φ H n h0 h) {b : Nat} {p : Pl} (hp : φ b = some p) (e : uf H b = true) : ∃ c t o, H.get b = some o ∧ o.own = true ∧ h.f p.B = some (.cells c t (0, 0)) := by
  unfold uf at e
  split at e
  · rename_i l hb
    obtain ⟨ob, hB, hf, c, t', fz, rfl, _, _, _, h4, _⟩ := hr.of hb hp
    have := h4 rfl
    subst this
    exact ⟨c, t', _, hb, rfl, hf⟩
  · cases e
theorem jS (hr : HR φ H n h0 h) {op : BinOp} {t : TypeId} {x y r : AV} {v u : Value} (hx : VR φ x v) (hy : VR φ y u) (e : po P op t x y H = some r) (hk : ∀ u, VR φ r u → K u) : gE P op t v u h K := by
  unfold po at e
  split at e
  · rename_i k a k' b
    rw [hx.bG, hy.bG]
    show ir P op t (.int k a) (.int k' b) K
    exact qz e hk
  · rename_i a b
    obtain ⟨rfl, ha⟩ := hx.cB
    obtain ⟨rfl, hb⟩ := hy.cB
    show ir P op t (.string (dC a)) (.string (dC b)) K
    exact qA ha hb e hk
  · rename_i a b
    rw [hx.aP, hy.aP]
    split at e
    · rename_i ht
      have ht := na ht
      obtain ⟨q, hq, ⟨rfl, rfl⟩ | ⟨rfl, rfl⟩⟩ := gI e
      · injection hq with hq; subst hq
        exact ⟨ht, hk _ (.bool _)⟩
      · injection hq with hq; subst hq
        exact ⟨ht, hk _ (.bool _)⟩
    · cases e
  · rename_i b o b' o'
    obtain ⟨p, hp, rfl⟩ := hx.ef
    obtain ⟨p', hp', rfl⟩ := hy.ef
    obtain ⟨q, hq, hop⟩ := gI e
    have key : ∃ el k, P.underlying t = some (.pointer el) ∧ ax P el = some (k + 1) ∧
        ((⟨p.B, p.s + o, none⟩ : Addr) = ⟨p'.B, p'.s + o', none⟩ ∨ (∃ ca ta cb tb, h.f p.B = some (.cells ca ta (0, 0)) ∧ h.f p'.B = some (.cells cb tb (0, 0)))) ∧ q = decide ((⟨p.B, p.s + o, none⟩ : Addr) = ⟨p'.B, p'.s + o', none⟩) := by
      unfold Gh at hq
      split at hq
      · rename_i el hu
        split at hq
        · rename_i k hs
          refine ⟨el, k, hu, hs, ?_⟩
          split at hq
          · rename_i hbb
            simp only [Bool.and_eq_true] at hbb
            have h1 := Nat.eq_of_beq_eq_true hbb.1
            have h2 := Nat.eq_of_beq_eq_true hbb.2
            subst h1 h2
            rw [hp] at hp'
            injection hp' with hp'
            subst hp'
            injection hq with hq
            subst hq
            exact ⟨.inl rfl, by simp⟩
          · rename_i hbb
            split at hq
            · rename_i hpl
              injection hq with hq
              subst hq
              simp only [Bool.and_eq_true] at hpl
              obtain ⟨c, ty, ob, g1, g5, g2⟩ := oW hr hp hpl.1
              obtain ⟨c', ty', ob', g3, g6, g4⟩ := oW hr hp' hpl.2
              refine ⟨.inr ⟨c, ty, c', ty', g2, g4⟩, ?_⟩
              have hne : ¬ (⟨p.B, p.s + o, none⟩ : Addr) = ⟨p'.B, p'.s + o', none⟩ := fun q => by
                injection q with q1 q2
                have := hr.inj b b' _ _ p p' g1 g3 g5 g6 hp hp' q1
                subst this
                rw [hp] at hp'
                injection hp' with hp'
                subst hp'
                have : o = o' := by omega
                subst this
                simp at hbb
              simp [hne]
            · cases hq
        · cases hq
      · cases hq
    obtain ⟨el, k, hu, hs, hc, rfl⟩ := key
    rcases hop with ⟨rfl, rfl⟩ | ⟨rfl, rfl⟩
    · (try simp only [gE, zJ, hu])
      exact ⟨⟨k, hs⟩, hc, hk _ (.bool _)⟩
    · (try simp only [gE, zJ, hu])
      exact ⟨⟨k, hs⟩, hc, hk _ (.bool _)⟩
  · rw [hy.aT]
    split at e
    · rename_i ht
      obtain ⟨el, ht⟩ := vG ht
      obtain ⟨q, hq, hop⟩ := gI e
      have key : ∃ a, v = .pointer a ∧ q = a.isNone := by
        unfold BM at hq
        split at hq
        · injection hq with hq; exact ⟨none, hx.aT, hq.symm⟩
        · obtain ⟨p, _, rfl⟩ := hx.ef
          injection hq with hq; exact ⟨_, rfl, hq.symm⟩
        · cases hq
      obtain ⟨a, rfl, rfl⟩ := key
      have hab : gE P op t (.pointer a) (.pointer none) h K = ir P op t (.pointer a) (.pointer none) K := by cases a <;> rfl
      rw [hab]
      rcases hop with ⟨rfl, rfl⟩ | ⟨rfl, rfl⟩
      · (try simp only [ir, ht]); exact hk _ (.bool _)
      · (try simp only [ir, ht]); exact hk _ (.bool _)
    · cases e
  · rw [hy.cZ]
    split at e
    · rename_i ht
      obtain ⟨el, ht⟩ := xw ht
      obtain ⟨q, hq, hop⟩ := gI e
      have key : ∃ a m c, v = .slice a m c ∧ q = a.isNone := by
        unfold BN at hq
        split at hq
        · injection hq with hq; exact ⟨none, _, _, hx.cZ, hq.symm⟩
        · obtain ⟨p, C, _, rfl, _⟩ := hx.dU
          injection hq with hq; exact ⟨_, _, _, rfl, hq.symm⟩
        · obtain ⟨p, x, C, _, rfl, _⟩ := hx.g8
          injection hq with hq; exact ⟨_, _, _, rfl, hq.symm⟩
        · cases hq
      obtain ⟨a, m, c, rfl, rfl⟩ := key
      rcases hop with ⟨rfl, rfl⟩ | ⟨rfl, rfl⟩
      · (try simp only [gE, ir, ht]); exact hk _ (.bool _)
      · (try simp only [gE, ir, ht]); exact hk _ (.bool _)
    · cases e
  · rename_i xs ys
    obtain ⟨vs, rfl, h1⟩ := hx.eK
    obtain ⟨us, rfl, h2⟩ := hy.eK
    obtain ⟨q, hq, hop⟩ := gI e
    have key : pV P t vs us = some q := by
      simp only [Option.bind_eq_some_iff] at hq
      obtain ⟨l, hl, hq⟩ := hq
      simp only [pV, hl, Option.bind_some]
      exact jR h1 h2 l q hq
    rcases hop with ⟨rfl, rfl⟩ | ⟨rfl, rfl⟩
    · (try simp only [gE, ir, key]); exact hk _ (.bool _)
    · (try simp only [gE, ir, key]); exact hk _ (.bool _)
  · cases e
theorem sG {op : UnOp} {x r : AV} {v : Value} (hx : VR φ x v) (e : eun op x = some r) (hk : ∀ u, VR φ r u → K u) : aun op v K := by
  unfold eun at e
  split at e
  · rw [hx.aP]; injection e with e; subst e; exact hk _ (.bool _)
  · rw [hx.bG]; injection e with e; subst e; exact hk _ (.int _ _)
  · rw [hx.bG]; injection e with e; subst e; exact hk _ (.int _ _)
  · cases e
theorem kR {t : TypeId} {l : List AV} {off : Nat} {r : AV} {cs : Array Value} (hl : VRs φ l cs.toList) (e : sC P t l off = some r) (hk : ∀ u, VR φ r u → K u) : jH P t cs off K := by
  unfold sC at e
  split at e
  · rename_i hg
    obtain ⟨v, h1, h2⟩ := hl.at (by rw [← fA]; exact e)
    rw [Array.getElem?_toList] at h1
    (try simp only [jH, hg, h1])
    exact hk v h2
  · rename_i hg
    split at e
    · rename_i m hm
      simp only [Option.map_eq_some_iff] at e
      obtain ⟨l', e1, rfl⟩ := e
      obtain ⟨h1, rfl⟩ := aY e1
      (try simp only [jH, hg, hm])
      refine hk _ (.agg ?_)
      have := (hl.drop off).take m
      rw [Array.toList_extract, List.extract_eq_take_drop]
      rw [show off + m - off = m from by omega]
      exact this
    · cases e
  · cases e
theorem uq {s : TypeId} {x r : AV} {i : Nat} {v : Value} (hx : VR φ x v) (e : xp P s x i = some r) (hk : ∀ u, VR φ r u → K u) : mg P s v i K := by
  unfold xp at e
  split at e
  · rename_i l t off ht
    obtain ⟨cs, rfl, h1⟩ := hx.eK
    (try simp only [mg, ht])
    exact kR h1 e hk
  · cases e
theorem oa {s : TypeId} {x r : AV} {i : Nat} {v : Value} (hx : VR φ x v) (e : jO P s x i = some r) (hk : ∀ u, VR φ r u → K u) : dT P s v i K := by
  unfold jO at e
  split at e
  · rename_i b o t off ht
    obtain ⟨p, hp, rfl⟩ := hx.ef
    injection e with e; subst e
    (try simp only [dT, ht])
    rw [Nat.add_assoc]
    exact hk _ (.ptr hp)
  · rename_i l o t off ht
    obtain ⟨q, y, hq, rfl, hl⟩ := hx.um
    injection e with e; subst e
    (try simp only [dT, ht])
    rw [Nat.add_assoc]
    exact hk _ (.fa hq hl)
  · cases e
theorem kS {ix : AV} {len i : Nat} {v : Value} (hx : VR φ ix v) (e : eix ix len = some i) : i < len ∧ ∃ k, v = .int k (i : Int) := by
  unfold eix at e
  split at e
  · rename_i k j
    split at e
    · rename_i hb
      injection e with e; subst e
      exact ⟨by simpa [Nat.blt_eq] using hb, k, hx.bG⟩
    · cases e
  · cases e
theorem oc {t : TypeId} {x ix r : AV} {v u : Value} (hx : VR φ x v) (hi : VR φ ix u) (e : fX P t x ix = some r) (hk : ∀ u, VR φ r u → K u) : ck P t v u K := by
  unfold fX at e
  split at e
  · rename_i el b o m c k hu
    obtain ⟨p, C, hp, rfl, _, _⟩ := hx.dU
    split at e
    · rename_i i es e1 e2
      obtain ⟨h1, kk, rfl⟩ := kS hi e1
      injection e with e; subst e
      (try simp only [ck, hu, e2])
      refine ⟨by omega, by omega, ?_⟩
      rw [Int.toNat_natCast, Nat.add_assoc]
      exact hk _ (.ptr hp)
    · cases e
  · rename_i len el b o hu
    obtain ⟨p, hp, rfl⟩ := hx.ef
    split at e
    · rename_i i es e1 e2
      obtain ⟨h1, kk, rfl⟩ := kS hi e1
      injection e with e; subst e
      (try simp only [ck, hu, e2])
      refine ⟨by omega, by omega, ?_⟩
      rw [Int.toNat_natCast, Nat.add_assoc]
      exact hk _ (.ptr hp)
    · cases e
  · cases e
theorem ur {t : TypeId} {x ix r : AV} {v u : Value} (hx : VR φ x v) (hi : VR φ ix u) (e : xq P t x ix = some r) (hk : ∀ u, VR φ r u → K u) : gN P t v u K := by
  unfold xq at e
  split at e
  · rename_i len el l hu
    obtain ⟨cs, rfl, hl⟩ := hx.eK
    split at e
    · rename_i i es e1 e2
      obtain ⟨h1, kk, rfl⟩ := kS hi e1
      (try simp only [gN, hu, e2])
      refine ⟨by omega, by omega, ?_⟩
      rw [Int.toNat_natCast]
      exact kR hl e hk
    · cases e
  · rename_i s hu
    obtain ⟨rfl, hs⟩ := hx.cB
    split at e
    · rename_i i e1
      obtain ⟨h1, kk, rfl⟩ := kS hi e1
      simp only [Option.map_eq_some_iff, fA] at e
      obtain ⟨c, hc, rfl⟩ := e
      have h2 := hs c (List.mem_of_getElem? hc)
      simp only [gN, hu, cD, Int.toNat_natCast, List.getElem?_map, hc, Option.map_some]
      refine ⟨by omega, hk _ ?_⟩
      have : ((UInt8.ofNat c).toNat : Int) = Int.ofNat c := by
        rw [UInt8.toNat_ofNat', Nat.mod_eq_of_lt h2]; rfl
      rw [this]; exact .int _ _
    · cases e
  · cases e
theorem qB {x r : AV} {i : Nat} {v : Value} (hx : VR φ x v) (e : m8 x i = some r) (hk : ∀ u, VR φ r u → K u) : iu v i K := by
  unfold m8 at e
  split at e
  · rename_i l
    obtain ⟨cs, rfl, hl⟩ := hx.eM
    obtain ⟨v, h1, h2⟩ := hl.at (by rw [← fA]; exact e)
    rw [Array.getElem?_toList] at h1
    (try simp only [iu, h1])
    exact hk v h2
  · cases e
theorem jT (hr : HR φ H n h0 h) {t : TypeId} {x r : AV} {v : Value} (hx : VR φ x v) (e : ug P t x H = some r) (hk : ∀ u, VR φ r u → K u) : jK P t v h K := by
  unfold ug at e
  split at e
  · rename_i s hu
    obtain ⟨rfl, _⟩ := hx.cB
    injection e with e; subst e
    (try simp only [jK, hu, eZ])
    exact hk _ (.int _ _)
  · rename_i el hu
    rw [hx.cZ]
    injection e with e; subst e
    (try simp only [jK, hu])
    exact hk _ (.int _ _)
  · rename_i el b hu
    obtain ⟨p, x, C, _, rfl, _⟩ := hx.g8
    injection e with e; subst e
    (try simp only [jK, hu])
    exact hk _ (.int _ _)
  · rename_i el b o m c k hu
    obtain ⟨p, C, hp, rfl, _, _⟩ := hx.dU
    injection e with e; subst e
    (try simp only [jK, hu])
    exact hk _ (.int _ _)
  · rename_i m el x hu
    injection e with e; subst e
    (try simp only [jK, hu])
    exact hk _ (.int _ _)
  · rename_i k el b hu
    obtain ⟨p, hp, rfl⟩ := hx.jP
    split at e
    · rename_i es hb
      obtain ⟨ob, hB, hf, ms, cl, rfl, h1, _⟩ := hr.of hb hp
      injection e with e; subst e
      have := MR.length h1
      (try simp only [jK, hu, hf])
      rw [show (ms.size : Int) = (es.length : Int) from by simp [this]]
      exact hk _ (.int _ _)
    · cases e
  · cases e
theorem od {q : Bool} {x y r : AV} {v u : Value} (hx : VR φ x v) (hy : VR φ y u) (e : emm q x y = some r) (hk : ∀ u, VR φ r u → K u) : gu q v u K := by
  unfold emm at e
  split at e
  · rw [hx.bG, hy.bG]
    injection e with e; subst e
    exact hk _ (.int _ _)
  · cases e
end
end Go.Proofs.Ytdfeigkooeeeaaa
namespace Go.Proofs.Ytdfeigkooeeeaaa
open Go Go.RowKit
section
variable {P : Program} {φ : Ph} {H : AH} {n : Nat} {h0 h : Hp} {K : Value → Prop} {σ : AE} {ρ : Env}
theorem dK (hf : FR φ σ ρ) {x : Option Operand} {d i : Nat} (e : kB (x.map (eev σ)) d = some i) (d' : Int) (hd : x = none → (i : Int) = d') : bnd (x.map ρ.ev) d' = some (i : Int) := by
  cases x with
  | none => simp only [Option.map_none, bnd]; rw [hd rfl]
  | some y =>
    simp only [Option.map_some, kB] at e
    have hy := hf.ev y
    split at e
    · rename_i q; cases q
    · rename_i k j q
      injection e with e; subst e
      injection q with q
      rw [q] at hy
      simp only [Option.map_some, hy.bG, bnd]
      rfl
    · cases e
theorem cH {d i : Nat} (e : kB none d = some i) : i = d := by injection e with e; exact e.symm
theorem isSome_map {α β : Type} (f : α → β) (x : Option α) : (x.map f).isSome = x.isSome := by cases x <;> rfl
theorem hU (B o l hh m k : Nat) : ft (some ⟨B, o, none⟩) l hh m k = .slice (some ⟨B, if m = l then o else o + l * k, none⟩) (hh - l) (m - l) := by
  unfold ft
  split
  · rfl
  · simp only [Option.map_some, iq]
theorem jU (hf : FR φ σ ρ) {t : TypeId} {x r : AV} {v : Value} {lo hi mx : Option Operand} (hx : VR φ x v) (e : iB P t x (lo.map (eev σ)) (hi.map (eev σ)) (mx.map (eev σ)) = some r) (hk : ∀ u, VR φ r u → K u) :
    cN P t v (lo.map ρ.ev) (hi.map ρ.ev) (mx.map ρ.ev) K := by
  unfold iB at e
  split at e
  ·
    rename_i s
    obtain ⟨rfl, hs⟩ := hx.cB
    split at e
    · rename_i l hh hu hmx el eh
      split at e
      · rename_i hc
        injection e with e; subst e
        have hmn : mx = none := by cases mx with | none => rfl | some y => cases hmx
        subst hmn
        have e1 := dK hf el 0 (fun q => by subst q; rw [cH el]; rfl)
        have e2 := dK hf eh ((dC s).size : Int) (fun q => by subst q; rw [cH eh, eZ])
        simp only [cN, hu, e1, e2, Option.map_none, Option.isSome_none]
        refine ⟨trivial, trivial, by omega, by omega, by rw [eZ]; omega, ?_⟩
        rw [Int.toNat_natCast, Int.toNat_natCast, uo]
        exact hk _ (.str fun x hx => hs x (List.mem_of_mem_drop (List.mem_of_mem_take hx)))
      · cases e
    · cases e
  ·
    rw [hx.cZ]
    split at e
    · rename_i el l hh m hu el' eh em
      split at e
      · rename_i hc
        obtain ⟨rfl, rfl, rfl, hmx, hsz⟩ := hc
        injection e with e; subst e
        obtain ⟨k, hsz⟩ := Option.isSome_iff_exists.1 hsz
        have e1 := dK hf el' 0 (fun q => rfl)
        have e2 := dK hf eh ((0 : Nat) : Int) (fun q => rfl)
        have e3 := dK hf em ((0 : Nat) : Int) (fun q => rfl)
        (try simp only [cN, hu, hsz, e1, e2, e3])
        rw [isSome_map, isSome_map] at hmx
        refine ⟨by rw [isSome_map, isSome_map]; exact hmx, by omega, by omega, ?_, by omega, hk _ ?_⟩
        · unfold pZ; split
          · trivial
          · omega
        · exact .nsl
      · cases e
    · cases e
  ·
    rename_i b
    obtain ⟨p, x, C, hp, rfl, hx1, hx2⟩ := hx.g8
    split at e
    · rename_i el l hh hu hmx el' eh
      split at e
      · rename_i hc
        obtain ⟨rfl, rfl, hsz⟩ := hc
        injection e with e; subst e
        obtain ⟨k, hsz⟩ := Option.isSome_iff_exists.1 hsz
        have hmn : mx = none := by cases mx with | none => rfl | some y => cases hmx
        subst hmn
        have e1 := dK hf el' 0 (fun q => rfl)
        have e2 := dK hf eh ((0 : Nat) : Int) (fun q => rfl)
        simp only [cN, hu, hsz, e1, e2, Option.map_none, qu, Option.isSome_none]
        refine ⟨fun q => (Bool.false_ne_true q).elim, by omega, by omega, ?_, by omega, hk _ ?_⟩
        · unfold pZ; split
          · trivial
          · omega
        · show VR φ (.esl b) (ft (some ⟨p.B, x, none⟩) 0 0 C k)
          rw [hU, Nat.zero_mul, Nat.add_zero, ite_self]
          exact .esl hp hx1 hx2
      · cases e
    · cases e
  ·
    rename_i b o m c k
    obtain ⟨p, C, hp, rfl, hC0, hC1⟩ := hx.dU
    split at e
    · rename_i el hu
      split at e
      · rename_i es l hh mm hs el' eh em
        split at e
        · rename_i hc
          obtain ⟨h1, h2, h3⟩ := hc
          have e1 := dK hf el' 0 (fun q => by subst q; rw [cH el']; rfl)
          have e2 := dK hf eh (m : Int) (fun q => by subst q; rw [cH eh])
          have hcC : c ≤ C := by
            by_cases q : k = 0
            · rw [hC0 q]; omega
            · exact (hC1 q).1
          have ups : ∀ M : Int, (hh : Int) ≤ M → pZ (hi.map ρ.ev) (hh : Int) M := fun M hM => by
            unfold pZ; split
            · trivial
            · exact hM
          have exact_ : (mx.isSome = true → hi.isSome = true) → (mx = none → mm = C) → K (.slice (some ⟨p.B, p.s + (if mm = l then o else o + l * es), none⟩) (hh - l) (mm - l)) → cN P t (.slice (some ⟨p.B, p.s + o, none⟩) m C) (lo.map ρ.ev) (hi.map ρ.ev) (mx.map ρ.ev) K := fun hmx hmc hK => by
            have e3 := dK hf em (C : Int) (fun q => by rw [hmc q])
            (try simp only [cN, hu, hs, e1, e2, e3])
            refine ⟨by rw [isSome_map, isSome_map]; exact hmx, by omega, by omega, ups _ (by omega), by omega, ?_⟩
            rw [Int.toNat_natCast, Int.toNat_natCast, Int.toNat_natCast, hU]
            have : (if mm = l then p.s + o else p.s + o + l * es) = p.s + (if mm = l then o else o + l * es) := by split <;> omega
            rw [this]
            exact hK
          split at e
          · rename_i hmx
            have hmn : mx = none := by cases mx with | none => rfl | some y => cases hmx
            subst hmn
            have hm := cH em
            injection e with e; subst e
            exact exact_ (fun q => by cases q) (fun _ => by rw [hm, hC0 rfl]) (hk _ (.sl hp (fun _ => rfl) (fun q => (q rfl).elim)))
          · rename_i y hmx
            split at e
            · rename_i hhi
              injection e with e; subst e
              rw [isSome_map] at hhi
              have hmn : mx ≠ none := fun q => by subst q; cases hmx
              exact exact_ (fun _ => hhi) (fun q => (hmn q).elim) (hk _ (.sl hp (fun _ => rfl) (fun q => (q rfl).elim)))
            · cases e
          · rename_i k' hmx
            have hmn : mx = none := by cases mx with | none => rfl | some y => cases hmx
            subst hmn
            obtain ⟨_, hT⟩ := hC1 (by omega)
            split at e
            · rename_i hes
              subst hes
              have hm := cH em
              have red : K (ft (some ⟨p.B, p.s + o, none⟩) l hh C (k' + 1)) → cN P t (.slice (some ⟨p.B, p.s + o, none⟩) m C) (lo.map ρ.ev) (hi.map ρ.ev) (Option.map ρ.ev none) K := fun hK => by
                simp only [cN, hu, hs, e1, e2, Option.map_none, qu]
                refine ⟨(fun q => by cases q), by omega, by omega, ups _ (by omega), by omega, ?_⟩
                rw [Int.toNat_natCast, Int.toNat_natCast, Int.toNat_natCast]
                exact hK
              refine red ?_
              rw [hU]
              split at e
              · rename_i hl
                injection e with e; subst e
                have e4 : (if C = l then p.s + o else p.s + o + l * (k' + 1)) = p.s + (o + l * (k' + 1)) := by
                  split
                  · rename_i q
                    have : l = 0 := by omega
                    subst this; omega
                  · omega
                rw [e4]
                refine hk _ (.sl hp (fun q => by omega) (fun _ => ⟨by omega, ?_⟩))
                have : l * (k' + 1) + (C - l) * (k' + 1) = C * (k' + 1) := by
                  rw [← Nat.add_mul]; congr 1; omega
                rw [Nat.add_assoc, this]; exact hT
              · rename_i hl
                injection e with e; subst e
                have : hh - l = 0 := by omega
                have hlc : l = c := by omega
                have hck : l * (k' + 1) ≤ C * (k' + 1) := Nat.mul_le_mul_right _ (by omega)
                rw [this]
                exact hk _ (.esl hp (by split <;> omega) (by rw [show C * (k' + 1) = C * k'.succ from rfl] at hck; split <;> omega))
            · cases e
          · rename_i y hmx
            split at e
            · rename_i hhi
              injection e with e; subst e
              rw [isSome_map] at hhi
              have hmn : mx ≠ none := fun q => by subst q; cases hmx
              exact exact_ (fun _ => hhi) (fun q => (hmn q).elim) (hk _ (.sl hp (fun _ => rfl) (fun q => (q rfl).elim)))
            · cases e
        · cases e
      · cases e
    · cases e
  · cases e
theorem jV {place : Nat → Option (Nat × Nat)} : ∀ (ps : List (Nat × Operand)) (cells r : List AV) (c : Array Value), FR φ σ ρ → VRs φ cells c.toList → sD place cells (ps.map fun x => (x.1, eev σ x.2)) = some r →
    ∃ r', mS place c (ps.map fun x => (x.1, ρ.ev x.2)) = some r' ∧ VRs φ r r'.toList
  | [], cells, r, c, _, hc, e => by
    injection e with e; subst e
    exact ⟨c, rfl, hc⟩
  | x :: ps, cells, r, c, hf, hc, e => by
    simp only [List.map_cons, sD] at e
    split at e
    · cases e
    · rename_i off size hp
      split at e
      · rename_i c2 hb hset
        simp only [Bool.and_eq_true] at hb
        have hlen := Nat.eq_of_beq_eq_true hb.1
        have hv := (hf.ev x.2).cells hb.2.1
        have hle := Nat.le_of_ble_eq_true hb.2.2
        have hl := hv.length
        obtain ⟨g1, g2, g3⟩ := eY _ _ _ _ hset
        have hcl := hc.length
        have hcs : cells.length = c.size := by simpa using hcl
        have hset2 := (hc.Jh).set hset hv (by omega)
        rw [Nat.zero_add] at hset2
        have := hset2.H3 (by rw [dy]; omega)
        obtain ⟨r', h1, h2⟩ := jV ps c2 r _ hf this e
        refine ⟨r', ?_, h2⟩
        simp only [List.map_cons, mS, hp]
        have hsz : x.2 = x.2 := rfl
        have h3 : (ρ.ev x.2).cells.size = size := by rw [← hlen, hl, Array.length_toList]
        rw [if_pos ⟨h3, by omega⟩]
        exact h1
      · cases e
theorem vH (hf : FR φ σ ρ) {t : TypeId} {ps : Array (Nat × Operand)} {r : List AV} (e : xr P t (ps.toList.map fun x => (x.1, eev σ x.2)) = some r) :
    ∃ r', lE P t (ps.toList.map fun x => (x.1, ρ.ev x.2)) = some r' ∧ VRs φ r r'.toList := by
  unfold xr at e
  unfold lE
  split at e
  · rename_i z hz
    (try simp only [hz])
    split at e
    · rename_i fs hu
      (try simp only [hu])
      split at e
      · rename_i hall
        rw [if_pos hall]
        exact jV _ _ _ _ hf (jv φ z) e
      · cases e
    · rename_i m el hu
      (try simp only [hu])
      split at e
      · rename_i s hs
        (try simp only [hs])
        exact jV _ _ _ _ hf (jv φ z) e
      · cases e
    · cases e
  · cases e
theorem oe {z : List AV} {zs : List Value} (hz : VRs φ z zs) : ∀ m, VRs φ (BP z m) (ct zs m)
  | 0 => .nil
  | m + 1 => hz.append (oe hz m)
theorem uu (hf : FR φ σ ρ) {t : TypeId} {len : Nat} {ps : Array (Nat × Operand)} {r : List AV} (e : uh P t len (ps.toList.map fun x => (x.1, eev σ x.2)) = some r) :
    ∃ el r', dA P t len (ps.toList.map fun x => (x.1, ρ.ev x.2)) = some (el, r') ∧ VRs φ r r'.toList := by
  unfold uh at e
  unfold dA
  split at e
  · rename_i el hu
    (try simp only [hu])
    split at e
    · rename_i s z hs hz
      (try simp only [hs, hz])
      split at e
      · rename_i hc
        rw [if_pos hc]
        obtain ⟨r', h1, h2⟩ := jV ps.toList _ _ (ct z.cells.toList len).toArray hf (by simpa using oe (jv φ z) len) e
        exact ⟨el, r', by rw [h1]; rfl, h2⟩
      · cases e
    · cases e
  · cases e
theorem qC {kd : TypeDesc} {a b : AV} {v u : Value} {q : Bool} (ha : VR φ a v) (hb : VR φ b u) (e : BO kd a b = some q) : Instr.sameNow kd v u = some q := by
  unfold BO at e
  split at e
  · rename_i k m k' m'
    rw [ha.bG, hb.bG]
    split at e
    · rename_i hk
      injection e with e; subst e
      simp only [Instr.sameNow]
      rw [if_pos hk]
      congr 1
    · cases e
  · rename_i s r
    obtain ⟨rfl, h1⟩ := ha.cB
    obtain ⟨rfl, h2⟩ := hb.cB
    injection e with e; subst e
    simp only [Instr.sameNow]
    congr 1
    rw [lJ s r h1 h2, Bool.eq_iff_iff, bytes_beq, beq_iff_eq]
    constructor
    · intro q
      have := congrArg ByteArray.toList q
      rwa [cD, cD] at this
    · intro q
      unfold dC; rw [q]
  · cases e
theorem mz {kd : TypeDesc} {k : AV} {v : Value} (hk : VR φ k v) : ∀ (es : List (AV × AV)) (ms : List MapEntry) (i : Nat) (r : Option (Nat × AV)), MR φ es ms → sE kd k es i = some r →
    ∃ r', ki kd v ms i = some r' ∧ (match r, r' with
      | none, none => True
      | some (j, a), some (j', u) => j = j' ∧ VR φ a u
      | _, _ => False)
  | [], ms, i, r, hm, e => by
    injection e with e; subst e
    rw [show ms = [] from hm]
    exact ⟨none, rfl, trivial⟩
  | x :: es, ms, i, r, ⟨m, us, h1, h2, h3, h4⟩, e => by
    subst h1
    unfold sE at e
    split at e
    · rename_i hs
      injection e with e; subst e
      have := qC hk h2 hs
      refine ⟨some (i, m.val), by simp only [ki, this], rfl, h3⟩
    · rename_i hs
      have := qC hk h2 hs
      obtain ⟨r', g1, g2⟩ := mz hk es us (i + 1) r h4 e
      exact ⟨r', by simp only [ki, this, g1], g2⟩
    · cases e
theorem eJ (hr : HR φ H n h0 h) {t : TypeId} {m k r : AV} {ok : Bool} {mv kv : Value} (hm : VR φ m mv) (hk' : VR φ k kv) (e : fy P t m k ok H = some r) (hk : ∀ u, VR φ r u → K u) : gv P t mv kv ok h K := by
  unfold fy at e
  split at e
  · rename_i b kt kd et hmk
    obtain ⟨p, hp, rfl⟩ := hm.jP
    split at e
    · rename_i es hb
      obtain ⟨ob, hB, hf, ms, cl, rfl, h1, _⟩ := hr.of hb hp
      have fin : ∀ {q}, sE kd k es 0 = some q → ∃ q', ki kd kv ms.toList 0 = some q' ∧ lG P t (.map (some p.B)) kv ok h = found (dk P et) ok q' ∧ (match q, q' with
        | none, none => True
        | some (j, a), some (j', u) => j = j' ∧ VR φ a u
        | _, _ => False) := fun {q} hq => by
        obtain ⟨q', g1, g2⟩ := mz hk' es ms.toList 0 q h1 hq
        refine ⟨q', g1, ?_, g2⟩
        simp only [lG, hmk, Option.bind_some, xf, hf, g1]
      split at e
      · rename_i j a hq
        obtain ⟨q', g1, g2, g3⟩ := fin hq
        cases q' with
        | none => exact g3.elim
        | some x =>
          obtain ⟨j', u⟩ := x
          obtain ⟨_, g3⟩ := g3
          injection e with e; subst e
          (try simp only [gv, g2, found])
          cases ok
          · exact hk _ g3
          · exact hk _ (.tup (cs := #[u, .bool true]) (.cons g3 (.cons (.bool _) .nil)))
      · rename_i hq
        obtain ⟨q', g1, g2, g3⟩ := fin hq
        cases q' with
        | some x => exact g3.elim
        | none =>
          split at e
          · rename_i z hz
            injection e with e; subst e
            simp only [gv, g2, found, hz, Option.map_some]
            cases ok
            · exact hk _ (lI z)
            · exact hk _ (.tup (cs := #[z, .bool false]) (.cons (lI z) (.cons (.bool _) .nil)))
          · cases e
      · cases e
    · cases e
  · cases e
theorem oX (hr : HR φ H n h0 h) (hf : FR φ σ ρ) {o : Op} {r : AV} (e : cv P o σ H = some r) (hk : ∀ u, VR φ r u → K u) : cX P o ρ h K := by
  unfold cv at e
  split at e
  · rename_i x
    injection e with e; subst e
    exact hk _ (hf.ev x)
  · rename_i x
    injection e with e; subst e
    exact hk _ (hf.ev x)
  · rename_i c a b
    have hc := hf.ev c
    (try simp only [cX])
    split at e
    · rename_i q
      rw [q] at hc
      rw [hc.aP]
      injection e with e; subst e
      exact hk _ (hf.ev a)
    · rename_i q
      rw [q] at hc
      rw [hc.aP]
      injection e with e; subst e
      exact hk _ (hf.ev b)
    · cases e
  · rename_i t parts
    simp only [Option.map_eq_some_iff] at e
    obtain ⟨l, e1, rfl⟩ := e
    obtain ⟨r', h1, h2⟩ := vH hf e1
    (try simp only [cX, h1])
    exact hk _ (.agg h2)
  · exact iU hr (hf.ev _) e hk
  · rename_i x
    have hx := hf.ev x
    (try simp only [cX])
    split at e
    · rename_i b o q
      rw [q] at hx
      obtain ⟨p, hp, hv⟩ := hx.ef
      injection e with e; subst e
      rw [hv]
      exact hk _ (.ptr hp)
    · rename_i f a c q
      rw [q] at hx
      obtain ⟨a', c', hv, h1, h2⟩ := hx.n8
      injection e with e; subst e
      rw [hv]
      exact hk _ (.fn h1 h2)
    · cases e
  · exact jS hr (hf.ev _) (hf.ev _) e hk
  · exact sG (hf.ev _) e hk
  · rename_i f first captured
    injection e with e; subst e
    refine hk _ (.fn ?_ ?_)
    · rw [Array.toList_map]; exact VRs.map hf.ev _
    · rw [Array.toList_map]; exact VRs.map hf.ev _
  · exact jU hf (hf.ev _) e hk
  · exact oa (hf.ev _) e hk
  · exact uq (hf.ev _) e hk
  · exact oc (hf.ev _) (hf.ev _) e hk
  · exact ur (hf.ev _) (hf.ev _) e hk
  · exact qB (hf.ev _) e hk
  · exact eJ hr (hf.ev _) (hf.ev _) e hk
  · rename_i c
    have hm := VRs.map hf.ev c.args.toList
    (try simp only [cX])
    split at e
    · rename_i t x e1 e2 e3
      rw [e3] at hm
      obtain ⟨v, us, h1, h2, h3⟩ := hm.cons_inv
      rw [h3.aT] at h1
      (try simp only [e1, e2, h1, cP])
      exact jT hr h2 e hk
    · rename_i x y e1 e3
      rw [e3] at hm
      obtain ⟨v, us, h1, h2, h3⟩ := hm.cons_inv
      obtain ⟨u, ws, h4, h5, h6⟩ := h3.cons_inv
      rw [h4, h6.aT] at h1
      (try simp only [e1, h1, cP])
      exact od h2 h5 e hk
    · rename_i x y e1 e3
      rw [e3] at hm
      obtain ⟨v, us, h1, h2, h3⟩ := hm.cons_inv
      obtain ⟨u, ws, h4, h5, h6⟩ := h3.cons_inv
      rw [h4, h6.aT] at h1
      (try simp only [e1, h1, cP])
      exact od h2 h5 e hk
    · cases e
  · cases e
end
end Go.Proofs.Ytdfeigkooeeeaaa
namespace Go.Proofs.Ytdfeigkooeeeaaa
open Go Go.RowKit
theorem z8 {φ : Ph} {a : AV} {v : Value} (h : VR φ a v) (e : m7 a = true) : v.oneCell' = true := by
  cases a <;> simp only [m7] at e
  case agg => cases e
  case tup => cases e
  case bad => cases e
  case any u => rw [h.yI]; exact e
  case si => rw [h.eR]; rfl
  case rw =>
    rcases h.fZ with ⟨_, he⟩ | ⟨p, y, C, _, rfl, _⟩
    · obtain ⟨a, rfl⟩ := he.is; rfl
    · rfl
  case fr => obtain ⟨a, C, rfl⟩ := h.BU; rfl
  case fa => obtain ⟨q, x, _, rfl, _⟩ := h.um; rfl
  case sb => rw [h.gP]; rfl
  case ss => rw [h.n9.1]; rfl
  case sy => obtain ⟨p, C, _, rfl, _⟩ := h.uk; rfl
  case int => rw [h.bG]; rfl
  case str => rw [h.cB.1]; rfl
  case bool => rw [h.aP]; rfl
  case nil => rw [h.aT]; rfl
  case ptr => obtain ⟨p, _, rfl⟩ := h.ef; rfl
  case nsl => rw [h.cZ]; rfl
  case sl => obtain ⟨p, C, _, rfl, _⟩ := h.dU; rfl
  case esl => obtain ⟨p, x, C, _, rfl, _⟩ := h.g8; rfl
  case fn => obtain ⟨p, q, rfl, _⟩ := h.n8; rfl
  case map => obtain ⟨p, _, rfl⟩ := h.jP; rfl
theorem jw {φ : Ph} : ∀ {l : List AV} {vs : List Value}, VRs φ l vs → l.all m7 = true → vs.all Value.oneCell' = true
  | [], vs, h, _ => by rw [h.aT]; rfl
  | a :: l, vs, h, e => by
    obtain ⟨v, us, rfl, h1, h2⟩ := h.cons_inv
    simp only [List.all_cons, Bool.and_eq_true] at e ⊢
    exact ⟨z8 h1 e.1, jw h2 e.2⟩
theorem CR.append {φ : Ph} {c : Array Value} {s : Nat} {l m : List AV} (h : CR φ c s l) (k : CR φ c (s + l.length) m) : CR φ c s (l ++ m) := fun i a e => by
  by_cases hi : i < l.length
  · rw [List.getElem?_append_left hi] at e; exact h i a e
  · rw [List.getElem?_append_right (by omega)] at e
    obtain ⟨v, h1, h2⟩ := k _ a e
    exact ⟨v, by rw [← h1]; congr 1; omega, h2⟩
theorem CR.drop {φ : Ph} {c : Array Value} {s o m : Nat} {l : List AV} (h : CR φ c s l) : CR φ c (s + o) ((l.drop o).take m) := fun i a e => by
  rw [List.getElem?_take] at e
  split at e
  · rw [List.getElem?_drop] at e
    obtain ⟨v, h1, h2⟩ := h _ a e
    exact ⟨v, by rw [← h1]; congr 1; omega, h2⟩
  · cases e
theorem CR.kept {φ : Ph} {c : Array Value} {s o : Nat} {l : List AV} {vs : List Value} (h : CR φ c s l) (ho : s + l.length ≤ o) : CR φ (dd c o vs) s l := fun i a e => by
  have := (List.getElem?_eq_some_iff.1 e).1
  rw [jQ, if_neg (by omega)]
  exact h i a e
theorem CR.wrote {φ : Ph} {c : Array Value} {o : Nat} {l : List AV} {vs : List Value} (h : VRs φ l vs) (ho : o + l.length ≤ c.size) : CR φ (dd c o vs) o l := fun i a e => by
  have hi := (List.getElem?_eq_some_iff.1 e).1
  obtain ⟨v, h1, h2⟩ := h.at e
  have := h.length
  refine ⟨v, ?_, h2⟩
  rw [jQ, if_pos (by omega), show o + i - o = i from by omega]
  exact h1
theorem pj.sub {fz : Nat × Nat} {o m o' m' : Nat} (h : pj fz o m) (h2 : o' + m' ≤ o + m) : pj fz o' m' := by
  unfold pj at *; omega
def nc (φ : Ph) (h0 : Hp) (v : AV) (H : AH) (n : Nat) (K : KH) : Prop := ∀ (ψ : Ph) (u : Value) (g : Hp), PLe φ ψ → HR ψ H n h0 g → VR ψ v u → K u g
section
variable {P : Program} {φ : Ph} {H H' : AH} {n n' : Nat} {h0 h : Hp} {K : KH} {σ : AE} {ρ : Env} {r : AV}
theorem qD (hr : HR φ H n h0 h) {l : List AV} {cs : Array Value} {el : TypeId} (hc : VRs φ l cs.toList) (e : Ek l H n = some (r, H', n')) (hk : nc φ h0 r H' n' K) : Bt el cs h K := by
  unfold Ek at e
  injection e with e; injection e with e1 e2; injection e2 with e2 e3
  subst e1 e2 e3
  have hl : l.length = cs.size := by simpa using hc.length
  have ho : OR (fi φ n ⟨h.n, 0, cs.size⟩) ⟨h.n, 0, cs.size⟩ (.cells l true) (.cells cs el (0, 0)) :=
    ⟨cs, el, (0, 0), rfl, by simp only; omega, by simp only; omega, ie _ _, fun _ => rfl, CR.mono (hr.ple _) (CR.of' hc)⟩
  exact hk _ _ _ (hr.ple _) (hr.new ho ag) (.ptr (bJ _ _ _))
theorem ng (hr : HR φ H n h0 h) {t : TypeId} {a x : AV} {av xv : Value} (ha : VR φ a av) (hx : VR φ x xv) (e : mu P t a x H n = some (r, H', n')) (hk : nc φ h0 r H' n' K) : kH P t av xv h K := by
  unfold mu at e
  split at e
  · rename_i b o
    obtain ⟨p, hp, rfl⟩ := ha.ef
    split at e
    · rename_i l z s hb hs
      obtain ⟨ob, hB, hf, c, ty, fz, rfl, h1, h2, h3, h4, h5⟩ := hr.of hb hp
      split at e
      · rename_i l' hq hset
        simp only [Bool.and_eq_true] at hq
        have hlen := Nat.eq_of_beq_eq_true hq.1
        have hc := hx.cells hq.2.1
        have hcl := hc.length
        have hcl2 : xv.cells.size = s := by rw [← hlen, hcl, Array.length_toList]
        obtain ⟨g1, g2, g3⟩ := eY _ _ _ _ hset
        injection e with e; injection e with e1 e2; injection e2 with e2 e3
        subst e1 e2 e3
        (try simp only [kH, hf])
        refine ⟨by rw [hs, hcl2], jw hc hq.2.2, by omega, h3.sub (by omega), ?_⟩
        refine hk _ _ _ (PLe.refl _) (hr.put hb hp ?_ ag) .undef
        exact ⟨_, ty, fz, rfl, by omega, by rw [dy]; omega, h3, h4, h5.set hset hc (by omega)⟩
      · cases e
    · cases e
  · cases e
theorem iV : ∀ (l : List AV) (s : List Nat) (vs : List Value), VRs φ l vs → fY l = some s → bytesOf vs = some (s.map UInt8.ofNat) ∧ ∀ x ∈ s, x < 256
  | [], s, vs, h, e => by
    rw [h.aT]
    injection e with e; subst e
    exact ⟨rfl, fun _ hx => by cases hx⟩
  | a :: l, s, vs, h, e => by
    unfold fY at e
    split at e
    · rename_i q; cases q
    · rename_i m l' q
      injection q with q1 q2
      subst q1 q2
      obtain ⟨v, us, rfl, g1, g2⟩ := h.cons_inv
      rw [g1.bG]
      split at e
      · rename_i hlt
        have hlt : m < 256 := by simpa [Nat.blt_eq] using hlt
        simp only [Option.map_eq_some_iff] at e
        obtain ⟨s', e1, rfl⟩ := e
        obtain ⟨i1, i2⟩ := iV l s' us g2 e1
        refine ⟨?_, fun x hx => ?_⟩
        · (try simp only [bytesOf])
          rw [if_pos (by constructor <;> simp only [Int.ofNat_eq_natCast] <;> omega), i1]
          simp
        · rcases List.mem_cons.1 hx with rfl | hx
          · exact hlt
          · exact i2 x hx
      · cases e
    · rename_i m l' q
      injection q with q1 q2
      subst q1 q2
      obtain ⟨v, us, rfl, g1, g2⟩ := h.cons_inv
      rw [g1.eR]
      split at e
      · rename_i hlt
        have hlt : m < 256 := by simpa [Nat.blt_eq] using hlt
        simp only [Option.map_eq_some_iff] at e
        obtain ⟨s', e1, rfl⟩ := e
        obtain ⟨i1, i2⟩ := iV l s' us g2 e1
        refine ⟨?_, fun x hx => ?_⟩
        · (try simp only [bytesOf])
          rw [if_pos (by constructor <;> simp only [Int.ofNat_eq_natCast] <;> omega), i1]
          simp
        · rcases List.mem_cons.1 hx with rfl | hx
          · exact hlt
          · exact i2 x hx
      · cases e
    · cases e
theorem jk {s : List Nat} (hs : ∀ x ∈ s, x < 256) : (dp (dC s)).toList = s.map fun c => .int .u8 (Int.ofNat c) := by
  simp only [dp, dC, Array.toList_map, List.map_map]
  apply List.map_congr_left
  intro c hc
  simp only [Function.comp]
  congr 1
  rw [UInt8.toNat_ofNat', Nat.mod_eq_of_lt (hs c hc)]; rfl
theorem VRs.bytes (φ : Ph) (s : List Nat) : VRs φ (s.map fun c => .int .u8 (Int.ofNat c)) (s.map fun c => .int .u8 (Int.ofNat c)) := VRs.map (fun c => .int _ _) s
theorem kT (hr : HR φ H n h0 h) {src dst : TypeId} {x : AV} {xv : Value} (hx : VR φ x xv) (e : vz P src dst x H n = some (r, H', n')) (hk : nc φ h0 r H' n' K) : eW P src dst xv h K := by
  unfold vz at e
  split at e
  · rename_i k1 k2 k a h1 h2
    rw [hx.bG]
    injection e with e; injection e with e1 e2; injection e2 with e2 e3
    subst e1 e2 e3
    (try simp only [eW, h1, h2])
    exact hk _ _ _ (PLe.refl _) hr (.int _ _)
  · rename_i s h1 h2
    obtain ⟨rfl, hs⟩ := hx.cB
    injection e with e; injection e with e1 e2; injection e2 with e2 e3
    subst e1 e2 e3
    (try simp only [eW, h1, h2])
    exact hk _ _ _ (PLe.refl _) hr (.str hs)
  · rename_i el s h1 h2
    obtain ⟨rfl, hs⟩ := hx.cB
    split at e
    · rename_i he
      injection e with e; injection e with e1 e2; injection e2 with e2 e3
      subst e1 e2 e3
      (try simp only [eW, h1, h2])
      refine ⟨he, fun cap hcap => ?_⟩
      rw [eZ] at hcap ⊢
      have hsz : (dp (dC s) ++ Array.replicate (cap - s.length) (Value.int .u8 0)).size = cap := by
        have : (dp (dC s)).size = s.length := by rw [← Array.length_toList, jk hs]; simp
        rw [Array.size_append, this, Array.size_replicate]; omega
      have ho : OR (fi φ n ⟨h.n, 0, cap⟩) ⟨h.n, 0, cap⟩ (.cells (s.map fun c => .int .u8 (Int.ofNat c)) false) (.cells (dp (dC s) ++ Array.replicate (cap - s.length) (.int .u8 0)) el (cap, cap + 1)) := by
        refine ⟨_, el, _, rfl, by simpa using hcap, by simp only [hsz]; omega, .inr (by simp only; omega), (fun q => by cases q), ?_⟩
        have := CR.of (φ := fi φ n ⟨h.n, 0, cap⟩) (VRs.bytes _ s) (Array.replicate (cap - s.length) (Value.int .u8 0)).toList
        rw [← jk hs] at this
        have e2 : ((dp (dC s)).toList ++ (Array.replicate (cap - s.length) (Value.int .u8 0)).toList).toArray = dp (dC s) ++ Array.replicate (cap - s.length) (Value.int .u8 0) := by
          apply Array.ext'; simp
        rwa [e2] at this
      have := hk _ (.slice (some ⟨h.n, 0 + 0, none⟩) s.length cap) _ (hr.ple _) (hr.new ho ag) (.sl (bJ _ _ _) (fun q => absurd q (by decide)) (fun _ => ⟨hcap, by simp⟩))
      exact this
    · cases e
  · rename_i el h1 h2
    rw [hx.cZ]
    split at e
    · rename_i he
      injection e with e; injection e with e1 e2; injection e2 with e2 e3
      subst e1 e2 e3
      (try simp only [eW, h1, h2])
      exact ⟨he, hk _ _ _ (PLe.refl _) hr (.str (s := []) (fun _ hx => by cases hx))⟩
    · cases e
  · rename_i el b o len c k h1 h2
    obtain ⟨p, C, hp, rfl, _, _⟩ := hx.dU
    split at e
    · rename_i l z he hb
      obtain ⟨ob, hB, hf, c', ty, fz, rfl, _, _, _, _, h5⟩ := hr.of hb hp
      simp only [Option.map_eq_some_iff, Option.bind_eq_some_iff, Prod.mk.injEq] at e
      obtain ⟨s, ⟨l', e1, e2⟩, rfl, rfl, rfl⟩ := e
      obtain ⟨vs, g1, g2⟩ := h5.sub e1
      obtain ⟨g3, g4⟩ := iV l' s vs g2 e2
      simp only [eW, h1, h2, hf, g1, Option.bind_some, g3]
      exact ⟨he, hk _ _ _ (PLe.refl _) hr (.str g4)⟩
    · cases e
  · cases e
theorem kU (hr : HR φ H n h0 h) {t : TypeId} {x y : AV} {xv yv : Value} (hx : VR φ x xv) (hy : VR φ y yv) (e : vA P t x y H n = some (r, H', n')) (hk : nc φ h0 r H' n' K) : p8 P t xv yv h K := by
  unfold vA at e
  split at e
  · rename_i el k1 l k2 c hu
    rw [hx.bG, hy.bG]
    split at e
    · rename_i k by' z hs hb hz
      split at e
      · rename_i hc
        obtain ⟨g1, g2, g3, g4⟩ := hc
        injection e with e; injection e with e1 e2; injection e2 with e2 e3
        subst e1 e2 e3
        (try simp only [p8, hu, hs, hb, hz])
        have hb2 : (by' : Int) * Int.ofNat c ≤ 281474976710656 := by
          have : ((by' * c : Nat) : Int) ≤ 281474976710656 := by omega
          rwa [Int.natCast_mul] at this
        refine ⟨by simp only [Int.ofNat_eq_natCast]; omega, by simp only [Int.ofNat_eq_natCast]; omega, hb2, by simp only [Int.ofNat_eq_natCast]; omega, ?_⟩
        rw [show (Int.ofNat l).toNat = l from rfl, show (Int.ofNat c).toNat = c from rfl]
        have hcp : madeCells z.cells (c * k) = (ct z.cells.toList c).toArray := by rw [← g4]; exact fV _ _
        rw [hcp]
        have hv := oe (jv φ z) c
        have hl := hv.length
        have ho : OR (fi φ n ⟨h.n, 0, (ct z.cells.toList c).length⟩) ⟨h.n, 0, (ct z.cells.toList c).length⟩ (.cells (BP (ofV z).cells c) true) (.cells (ct z.cells.toList c).toArray el (0, 0)) :=
          ⟨_, el, _, rfl, by simp only; omega, by simp, ie _ _, fun _ => rfl, CR.mono (hr.ple _) (CR.of' (by simpa using hv))⟩
        exact hk _ (.slice (some ⟨h.n, 0 + 0, none⟩) l c) _ (hr.ple _) (hr.new ho ag) (.sl (bJ _ _ _) (fun _ => rfl) (fun q => (q rfl).elim))
      · cases e
    · cases e
  · cases e
theorem sH (hr : HR φ H n h0 h) {k m : Nat} {x : AV} {xv : Value} {l : List AV} (hx : VR φ x xv) (e : El H k x = some (m, l)) : ∃ vs, bt h k xv = some (m, vs) ∧ VRs φ l vs := by
  unfold El at e
  split at e
  · rw [hx.cZ]
    injection e with e; injection e with e1 e2; subst e1 e2
    exact ⟨[], rfl, .nil⟩
  · rename_i b o m' c k'
    obtain ⟨p, C, hp, rfl, _, _⟩ := hx.dU
    split at e
    · rename_i l' z hb
      obtain ⟨ob, hB, hf, c', ty, fz, rfl, _, _, _, _, h5⟩ := hr.of hb hp
      simp only [Option.map_eq_some_iff, Prod.mk.injEq] at e
      obtain ⟨l2, e1, rfl, rfl⟩ := e
      obtain ⟨vs, g1, g2⟩ := h5.sub e1
      exact ⟨vs, by simp only [bt, hf, g1, Option.map_some], g2⟩
    · rename_i l' hb
      obtain ⟨ob, hB, hf, c', ty, fz, rfl, _, _, h5⟩ := hr.of hb hp
      simp only [Option.map_eq_some_iff, Prod.mk.injEq] at e
      obtain ⟨l2, e1, rfl, rfl⟩ := e
      obtain ⟨vs, g1, g2⟩ := h5.sub e1
      exact ⟨vs, by simp only [bt, hf, g1, Option.map_some], g2⟩
    · cases e
  · rename_i b
    obtain ⟨p, y, C, hp, rfl, _⟩ := hx.g8
    split at e
    · rename_i l' z hb
      obtain ⟨ob, hB, hf, c', ty, fz, rfl, _, _, _, _, h5⟩ := hr.of hb hp
      injection e with e; injection e with e1 e2; subst e1 e2
      exact ⟨[], by simp only [bt, hf, Nat.zero_mul, cr, Option.map_some], .nil⟩
    · cases e
  · rename_i s
    obtain ⟨rfl, hs⟩ := hx.cB
    injection e with e; injection e with e1 e2; subst e1 e2
    refine ⟨_, by simp only [bt, eZ]; rfl, ?_⟩
    rw [jk hs]
    exact VRs.bytes _ _
  · cases e
theorem jl (hr : HR φ H n h0 h) {t u : TypeId} {s x : AV} {sv xv : Value} (hs : VR φ s sv) (hx : VR φ x xv) (e : m9 P t u s x H n = some (r, H', n')) (hk : nc φ h0 r H' n' K) : fv P t u sv xv h (nY K) := by
  have wk : ∀ v g, K v g → nY K v g := fun v g k => ⟨g, Sub.refl _, k⟩
  unfold m9 at e
  split at e
  case h_2 => cases e
  rename_i el ud hu hud
  split at e
  case h_1 => cases e
  case h_3 => cases e
  rename_i ud2 _ _ _ _ k by' z hni hsz hbz hzz
  have hni' : ∀ q, ud2 ≠ .int q := fun q h => hni q h
  split at e
  case h_2 => cases e
  rename_i m new hsrc
  split at e
  case isFalse => cases e
  rename_i hc
  obtain ⟨c1, c2, c3, c4, c5⟩ := hc
  obtain ⟨nv, hn1, hn2⟩ := sH hr hx hsrc
  have hnl := hn2.length
  have hone := jw hn2 c5
  have hcpl : ∀ q, (ct z.cells.toList q).length = q * k := fun q => by rw [jj]; simp [c1]
  have grow : ∀ (old : List AV) (ov : List Value) (sn : Nat) (zz : Bool) (d : Nat) (G : AH) (ψ : Ph), ψ = φ → HR φ G n h0 h → VRs φ old ov → ov.length = sn * k → r = .sl n 0 (sn + m) (sn + m) k → H' = G.set (some (.cells (old ++ new) zz)) ag n → n' = n + 1 → yF el z (sn + m) ov nv h (nY K) := by
    intro old ov sn zz d G ψ hψ hG ho hol hre hHe hne cap hcap
    subst hre hHe hne
    refine wk _ _ ?_
    have hlen : (ov ++ (nv ++ ct z.cells.toList (cap - (sn + m)))).length = cap * k := by
      simp only [List.length_append, hol, ← hnl, c4, hcpl]
      rw [← Nat.add_mul, ← Nat.add_mul]; congr 1; omega
    have hor : OR (fi φ n ⟨h.n, 0, cap * k⟩) ⟨h.n, 0, cap * k⟩ (.cells (old ++ new) zz) (.cells (ov ++ (nv ++ ct z.cells.toList (cap - (sn + m)))).toArray el (0, 0)) := by
      refine ⟨_, el, _, rfl, ?_, by simp only [List.size_toArray, hlen]; omega, ie _ _, fun _ => rfl, ?_⟩
      · have := ho.length
        simp only [List.length_append, c4, this, hol]
        rw [← Nat.add_mul]; exact Nat.mul_le_mul_right k hcap
      · rw [← List.append_assoc]
        exact CR.mono (hG.ple _) (CR.of (ho.append hn2) _)
    have := hk _ (.slice (some ⟨h.n, 0 + 0, none⟩) (sn + m) cap) _ (hG.ple _) (hG.new hor ag) (.sl (bJ _ _ _) (fun q => by omega) (fun _ => ⟨hcap, by simp⟩))
    exact this
  have fin : ∀ {base : Option Addr} {sLen sCap : Nat}, (sLen + m ≤ sCap → p9 base k sLen m sCap nv h (nY K)) → (sCap < sLen + m → (sLen + m) * by' ≤ 140737488355328 ∧ ∃ old, bt h k (.slice base sLen sCap) = some (sLen, old) ∧ yF el z (sLen + m) old nv h (nY K)) → fv P t u (.slice base sLen sCap) xv h (nY K) := fun a b =>
    ⟨el, ud2, k, by', z, m, nv, hu, hud, hni', hsz, hbz, hzz, c1, c2, hn1, a, b⟩
  split at e
  ·
    rw [hs.cZ]
    split at e
    · injection e with e; injection e with e1 e2; injection e2 with e2 e3
      subst e1 e2 e3
      refine fin (fun _ => wk _ _ ?_) (fun q => by omega)
      exact hk _ _ _ (PLe.refl _) hr .nsl
    · rename_i hm0
      split at e
      · rename_i hby
        injection e with e; injection e with e1 e2; injection e2 with e2 e3
        refine fin (fun q => ?_) (fun _ => ⟨by simpa using hby, [], rfl, ?_⟩)
        · have : m = 0 := by omega
          exact (hm0 this).elim
        · exact grow [] [] 0 true ag H φ rfl hr .nil (by simp) (by rw [← e1]; simp) (by rw [← e2]; simp) e3.symm
      · cases e
  · rename_i b o sn c sk
    obtain ⟨p, C, hp, rfl, hC0, hC1⟩ := hs.dU
    have hcC : c ≤ C := by
      by_cases q : sk = 0
      · rw [hC0 q]; omega
      · exact (hC1 q).1
    split at e
    case h_2 => cases e
    rename_i l z' hb
    obtain ⟨ob, hB, hf, cc, ty, fz, rfl, h1, h2, h3, h4, h5⟩ := hr.of hb hp
    split at e
    · rename_i hle
      split at e
      · rename_i l' hset
        obtain ⟨g1, g2, g3⟩ := eY _ _ _ _ hset
        injection e with e; injection e with e1 e2; injection e2 with e2 e3
        subst e1 e2 e3
        refine fin (fun _ => ?_) (fun q => by omega)
        (try simp only [p9, hf])
        refine ⟨hone, by omega, h3.sub (by omega), wk _ _ ?_⟩
        refine hk _ _ _ (PLe.refl _) (hr.put hb hp ?_ ag) (.sl hp hC0 hC1)
        refine ⟨_, ty, fz, rfl, by omega, by rw [dy]; omega, h3, h4, ?_⟩
        rw [Nat.add_assoc]
        exact h5.set hset hn2 (by omega)
      · cases e
    · rename_i hgt
      split at e
      case isFalse => cases e
      rename_i hby
      split at e
      · rename_i old hold
        injection e with e; injection e with e1 e2; injection e2 with e2 e3
        obtain ⟨ov, g1, g2⟩ := h5.sub hold
        have hol : ov.length = sn * k := by
          have := g2.length
          obtain ⟨q1, rfl⟩ := aY hold
          rw [← this]; simp; omega
        have := hC0 rfl
        refine fin (fun q => by omega) (fun _ => ⟨hby, ov, by simp only [bt, hf, g1, Option.map_some], ?_⟩)
        exact grow old ov sn true ag H φ rfl hr g2 hol e1.symm e2.symm e3.symm
      · rename_i old sk' hold
        split at e
        case isFalse => cases e
        rename_i hsk
        obtain ⟨_, hT⟩ := hC1 (by omega)
        rw [hsk] at hT
        injection e with e; injection e with e1 e2; injection e2 with e2 e3
        obtain ⟨ov, g1, g2⟩ := h5.sub hold
        obtain ⟨q1, hold2⟩ := aY hold
        have hol2 : old.length = sn * k := by subst hold2; simp; omega
        have hol : ov.length = sn * k := by
          have := g2.length
          omega
        refine fin (fun hstay => ?_) (fun _ => ⟨hby, ov, by simp only [bt, hf, g1, Option.map_some], ?_⟩)
        · subst e1 e2 e3
          (try simp only [p9, hf])
          have hCk : (sn + m) * k ≤ C * k := Nat.mul_le_mul_right k hstay
          have hadd : (sn + m) * k = sn * k + m * k := Nat.add_mul _ _ _
          refine ⟨hone, by omega, h3.sub (by omega), wk _ _ ?_⟩
          have hor : OR (fi φ n ⟨p.B, p.s + o, C * k⟩) ⟨p.B, p.s + o, C * k⟩ (.cells (old ++ new) z') (.cells (dd cc (p.s + o + sn * k) nv) ty fz) := by
            refine ⟨_, ty, fz, rfl, by simp only [List.length_append]; omega, by rw [dy]; simp only; omega, h3.sub (by simp only; omega), h4, CR.mono (hr.ple _) (CR.append ?_ ?_)⟩
            · subst hold2
              exact CR.kept (CR.drop h5) (by simp only; omega)
            · simp only
              rw [hol2]
              exact CR.wrote hn2 (by omega)
          have := hk _ (.slice (some ⟨p.B, p.s + o + 0, none⟩) (sn + m) C) _ (hr.ple _) (hr.rename (q := ⟨p.B, p.s + o, C * k⟩) hb hp rfl hor ag ag) (.sl (p := ⟨p.B, p.s + o, C * k⟩) (bJ _ _ _) (fun q => by omega) (fun _ => ⟨hstay, by simp⟩))
          exact this
        · exact grow old ov sn z' ag _ φ rfl (hr.kill ag b) g2 hol e1.symm e2.symm e3.symm
      · cases e
  · cases e
theorem xx {x : AV} {v : Value} {m : Nat} (hx : VR φ x v) (e : yG x = some m) : Bv v = some m := by
  unfold yG at e
  split at e
  · rw [hx.cZ]; exact e
  · obtain ⟨p, C, _, rfl, _⟩ := hx.dU; exact e
  · obtain ⟨p, y, C, _, rfl, _⟩ := hx.g8; exact e
  · obtain ⟨rfl, _⟩ := hx.cB; simp only [Bv, eZ]; exact e
  · cases e
theorem vI (hr : HR φ H n h0 h) {k q : Nat} {x : AV} {xv : Value} {l : List AV} (hx : VR φ x xv) (e : xt H k q x = some l) : ∃ vs, iw h k q xv = some vs ∧ VRs φ l vs := by
  unfold xt at e
  split at e
  · rw [hx.cZ]
    injection e with e; subst e
    exact ⟨[], rfl, .nil⟩
  · rename_i b o m' c k'
    obtain ⟨p, C, hp, rfl, _, _⟩ := hx.dU
    split at e
    · rename_i l' z hb
      obtain ⟨ob, hB, hf, c', ty, fz, rfl, _, _, _, _, h5⟩ := hr.of hb hp
      obtain ⟨vs, g1, g2⟩ := h5.sub e
      exact ⟨vs, by simp only [iw, hf, g1], g2⟩
    · rename_i l' hb
      obtain ⟨ob, hB, hf, c', ty, fz, rfl, _, _, h5⟩ := hr.of hb hp
      obtain ⟨vs, g1, g2⟩ := h5.sub e
      exact ⟨vs, by simp only [iw, hf, g1], g2⟩
    · cases e
  · rename_i b
    obtain ⟨p, y, C, hp, rfl, _⟩ := hx.g8
    split at e
    · rename_i l' z hb
      obtain ⟨ob, hB, hf, c', ty, fz, rfl, _, _, _, _, h5⟩ := hr.of hb hp
      injection e with e; subst e
      exact ⟨[], by simp only [iw, hf, Nat.zero_mul, cr], .nil⟩
    · rename_i l' hb
      obtain ⟨ob, hB, hf, c', ty, fz, rfl, _, _, h5⟩ := hr.of hb hp
      injection e with e; subst e
      exact ⟨[], by simp only [iw, hf, Nat.zero_mul, cr], .nil⟩
    · cases e
  · rename_i s
    obtain ⟨rfl, hs⟩ := hx.cB
    injection e with e; subst e
    refine ⟨_, rfl, ?_⟩
    rw [cD, ← List.map_take, List.map_map]
    have : ((fun b : UInt8 => Value.int .u8 (b.toNat : Int)) ∘ UInt8.ofNat) = fun c : Nat => Value.int .u8 ((UInt8.ofNat c).toNat : Int) := rfl
    rw [this]
    have h2 : ((s.take q).map fun c : Nat => Value.int .u8 ((UInt8.ofNat c).toNat : Int)) = (s.take q).map fun c : Nat => Value.int .u8 (Int.ofNat c) := List.map_congr_left fun c hc => by
      rw [UInt8.toNat_ofNat', Nat.mod_eq_of_lt (hs c (List.mem_of_mem_take hc))]; rfl
    rw [h2]
    exact VRs.bytes _ _
  · cases e
theorem kV (hr : HR φ H n h0 h) {t : TypeId} {d x : AV} {dv xv : Value} (hd : VR φ d dv) (hx : VR φ x xv) (e : vB P t d x H n = some (r, H', n')) (hk : nc φ h0 r H' n' K) : kI P t dv xv h K := by
  unfold vB at e
  split at e
  · rename_i el m dn hu hm hdn
    split at e
    · rename_i k hs
      split at e
      · rename_i cells hcells
        obtain ⟨vs, g1, g2⟩ := vI hr hx hcells
        have hlx := xx hx hm
        split at e
        · have : dn = 0 := by injection hdn with hdn; exact hdn.symm
          subst this
          rw [hd.cZ]
          injection e with e; injection e with e1 e2; injection e2 with e2 e3
          subst e1 e2 e3
          (try simp only [kI, hu, hlx, hs, g1])
          exact hk _ _ _ (PLe.refl _) hr (.int _ _)
        · rename_i b
          have : dn = 0 := by injection hdn with hdn; exact hdn.symm
          subst this
          obtain ⟨p, y, C, hp, rfl, hy1, hy2⟩ := hd.g8
          split at e
          · rename_i l z hb
            obtain ⟨ob, hB, hf, cc, ty, fz, rfl, h1, h2, h3, h4, h5⟩ := hr.of hb hp
            rw [g2.aT] at g1
            injection e with e; injection e with e1 e2; injection e2 with e2 e3
            subst e1 e2 e3
            (try simp only [kI, hu, hlx, hs, g1, hf])
            refine ⟨rfl, by simp only [List.length_nil]; omega, h3.sub (by simp only [List.length_nil]; omega), ?_⟩
            exact hk _ _ _ (PLe.refl _) (hr.put hb hp (show OR φ p (.cells l z) (.cells cc ty fz) from ⟨cc, ty, fz, rfl, h1, h2, h3, h4, h5⟩) ag) (.int _ _)
          · cases e
        · rename_i b o dm c k'
          have : dn = dm := by injection hdn with hdn; exact hdn.symm
          subst this
          obtain ⟨p, C, hp, rfl, _, _⟩ := hd.dU
          split at e
          · rename_i l z hb
            obtain ⟨ob, hB, hf, cc, ty, fz, rfl, h1, h2, h3, h4, h5⟩ := hr.of hb hp
            split at e
            · rename_i l' hset hall
              obtain ⟨q1, q2, q3⟩ := eY _ _ _ _ hset
              have hgl := g2.length
              injection e with e; injection e with e1 e2; injection e2 with e2 e3
              subst e1 e2 e3
              (try simp only [kI, hu, hlx, hs, g1, hf])
              refine ⟨jw g2 hall, by omega, h3.sub (by omega), ?_⟩
              refine hk _ _ _ (PLe.refl _) (hr.put hb hp ?_ ag) (.int _ _)
              exact ⟨_, ty, fz, rfl, by omega, by rw [dy]; omega, h3, h4, h5.set hset g2 (by omega)⟩
            · cases e
          · cases e
        · cases e
      · cases e
    · cases e
  · cases e
theorem xy {k v : AV} {kv vv : Value} (hk' : VR φ k kv) (hv : VR φ v vv) : ∀ (es : List (AV × AV)) (ms : List MapEntry) (q : Option (Nat × AV)) (q' : Option (Nat × Value)) (cl : Nat), MR φ es ms → qy ms cl → (match q, q' with
      | none, none => True
      | some (j, _), some (j', _) => j = j'
      | _, _ => False) → ∃ ms' cl', Bw kv vv ms cl q' = .map ms' cl' ∧ MR φ (vC k v es q) ms'.toList ∧ qy ms'.toList cl' := by
  have app : ∀ (es : List (AV × AV)) (ms : List MapEntry) (m : MapEntry), MR φ es ms → VR φ k m.key → VR φ v m.val → MR φ (es ++ [(k, v)]) (ms ++ [m]) := by
    intro es
    induction es with
    | nil => intro ms m hm h1 h2; rw [show ms = [] from hm]; exact ⟨m, [], rfl, h1, h2, rfl⟩
    | cons x es ih =>
      intro ms m ⟨m', us, h1, h2, h3, h4⟩ h5 h6
      subst h1
      exact ⟨m', us ++ [m], rfl, h2, h3, ih us m h4 h5 h6⟩
  have chg_ : ∀ (es : List (AV × AV)) (ms : List MapEntry) (i : Nat) (u : AV), MR φ es ms → MR φ (vC k v es (some (i, u))) (chg kv vv ms i) := by
    intro es
    induction es with
    | nil => intro ms i u hm; rw [show ms = [] from hm]; cases i <;> rfl
    | cons x es ih =>
      intro ms i u ⟨m', us, h1, h2, h3, h4⟩
      subst h1
      cases i with
      | zero => exact ⟨_, us, rfl, hk', hv, h4⟩
      | succ i => exact ⟨m', _, rfl, h2, h3, ih us i u h4⟩
  have stm : ∀ (ms : List MapEntry) (i : Nat) (cl : Nat), qy ms cl → qy (chg kv vv ms i) cl := by
    intro ms i cl h
    rw [← xg]
    refine ⟨by rw [List.length_modify]; exact h.1, fun j e hj => ?_⟩
    rw [List.getElem?_modify] at hj
    cases hm : ms[j]? with
    | none => rw [hm] at hj; simp at hj
    | some m =>
      have hb := h.2 j m hm
      rw [hm] at hj
      by_cases q : i = j
      · simp [q] at hj; subst hj; exact hb
      · simp [q] at hj; subst hj; exact hb
  intro es ms q q' cl hm hst hq
  cases q with
  | none =>
    cases q' with
    | some x => exact hq.elim
    | none =>
      refine ⟨_, _, rfl, ?_, hst.push rfl⟩
      have : vC k v es none = es ++ [(k, v)] := by cases es <;> rfl
      rw [this]
      exact app es ms _ hm hk' hv
  | some y =>
    cases q' with
    | none => exact hq.elim
    | some x =>
      obtain ⟨j, a⟩ := y
      obtain ⟨j', a'⟩ := x
      have : j = j' := hq
      subst this
      exact ⟨_, _, rfl, chg_ es ms j a hm, stm ms j cl hst⟩
theorem l9 (hr : HR φ H n h0 h) {t : TypeId} {m k v : AV} {mv kv vv : Value} (hm : VR φ m mv) (hk' : VR φ k kv) (hv : VR φ v vv) (e : pC P t m k v H n = some (r, H', n')) (hk : nc φ h0 r H' n' K) : iR P t mv kv vv h K := by
  unfold pC at e
  split at e
  · rename_i b kt kd et hmk
    obtain ⟨p, hp, rfl⟩ := hm.jP
    split at e
    · rename_i es hb
      obtain ⟨ob, hB, hf, ms, cl, rfl, h1, hst⟩ := hr.of hb hp
      split at e
      · rename_i q hq
        obtain ⟨q', g1, g2⟩ := mz hk' es ms.toList 0 q h1 hq
        obtain ⟨ms', cl', g3, g4, g5⟩ := xy hk' hv es ms.toList q q' cl h1 hst (by
          cases q <;> cases q' <;> first | trivial | exact g2.elim | exact g2.1)
        injection e with e; injection e with e1 e2; injection e2 with e2 e3
        subst e1 e2 e3
        simp only [iR, tT, hf, hmk, Option.bind_some, g1, Option.map_some, g3]
        exact hk _ _ _ (PLe.refl _) (hr.put hb hp (show OR φ p (.map _) (.map ms' cl') from ⟨ms', cl', rfl, g4, g5⟩) ag) .undef
      · cases e
    · cases e
  · cases e
theorem uv (hr : HR φ H n h0 h) {t : TypeId} {x : AV} {v : Value} (hx : VR φ x v) (e : xu P t x H n = some (r, H', n')) (hk : nc φ h0 r H' n' K) : tW P t v h K := by
  unfold xu at e
  split at e
  · rename_i b
    obtain ⟨p, hp, rfl⟩ := hx.jP
    split at e
    · rename_i es hb ht
      obtain ⟨ob, hB, hf, ms, cl, rfl, h1, h2, _⟩ := hr.of hb hp
      injection e with e; injection e with e1 e2; injection e2 with e2 e3
      subst e1 e2 e3
      refine ⟨ht, ?_⟩
      (try simp only [hf])
      have hl : cl = es.length := h2.trans h1.length.symm
      subst hl
      have ho : OR (fi φ n ⟨h.n, 0, 0⟩) ⟨h.n, 0, 0⟩ (.iter b es.length []) (.mapIter (some p.B) es.length #[] es.length) := ⟨rfl, p, hr.ple _ _ _ hp, rfl⟩
      exact hk _ (.pointer (some ⟨h.n, 0 + 0, none⟩)) _ (hr.ple _) (hr.new ho ag) (.ptr (bJ _ _ _))
    · cases e
  · cases e
end
end Go.Proofs.Ytdfeigkooeeeaaa
namespace Go.Proofs.Ytdfeigkooeeeaaa
open Go Go.RowKit
def COk (P : Program) (f : FuncId) (g : List AV → AH → Nat → AR) : Prop := ∀ (args : List AV) (H : AH) (n : Nat) (v : AV) (H' : AH) (n' : Nat), g args H n = some (v, H', n') →
  ∀ (φ : Ph) (h0 h : Hp) (vs : Array Value) (K : KH), HR φ H n h0 h → VRs φ args vs.toList → nc φ h0 v H' n' K → fS P f vs h K
section
variable {P : Program} {call : AC} {φ : Ph} {H H' : AH} {n n' : Nat} {h0 h : Hp} {K : KH} {σ : AE} {ρ : Env} {r : AV}
theorem kW (hcall : ∀ f, COk P f (call f)) (hr : HR φ H n h0 h) (hf : FR φ σ ρ) {o : Op} (e : dw P call o σ H n = some (r, H', n')) (hk : nc φ h0 r H' n' K) : bp P o ρ h K := by
  have quiet : ∀ {o : Op}, aD o = false → (match cv P o σ H with
      | some v => some (v, H, n)
      | none => none) = some (r, H', n') → bp P o ρ h K := fun {o} hl e => by
    unfold bp
    rw [hl]
    simp only [Bool.false_eq_true, if_false]
    split at e
    · rename_i v hv
      injection e with e; injection e with e1 e2; injection e2 with e2 e3
      subst e1 e2 e3
      exact oX hr hf hv fun u hu => hk φ u h (PLe.refl _) hr hu
    · cases e
  unfold dw at e
  split at e
  · rename_i el
    split at e
    · rename_i z hz
      show nX P el h K
      unfold nX
      (try simp only [hz])
      exact qD hr (jv φ z) e hk
    · cases e
  · rename_i el x
    split at e
    · rename_i hc
      show Bt el (ρ.ev x).cells h K
      exact qD hr ((hf.ev x).cells hc) e hk
    · cases e
  · rename_i t len parts
    split at e
    · rename_i l hl
      obtain ⟨el, r', h1, h2⟩ := uu hf hl
      injection e with e; injection e with e1 e2; injection e2 with e2 e3
      subst e1 e2 e3
      show (match dA P t len (parts.toList.map fun x => (x.1, ρ.ev x.2)) with
        | some (e, r) => K (.slice (some ⟨h.n, 0, none⟩) len len) ((h.put h.n (.cells r e (0, 0))).to (h.n + 1))
        | none => False)
      rw [h1]
      have hll : l.length = r'.size := by simpa using h2.length
      have ho : OR (fi φ n ⟨h.n, 0, r'.size⟩) ⟨h.n, 0, r'.size⟩ (.cells l true) (.cells r' el (0, 0)) :=
        ⟨r', el, (0, 0), rfl, by simp only; omega, by simp only; omega, ie _ _, fun _ => rfl, CR.mono (hr.ple _) (CR.of' h2)⟩
      exact hk _ (.slice (some ⟨h.n, 0 + 0, none⟩) len len) _ (hr.ple _) (hr.new ho ag) (.sl (bJ _ _ _) (fun _ => rfl) (fun q => (q rfl).elim))
    · cases e
  · exact ng hr (hf.ev _) (hf.ev _) e hk
  · exact kT hr (hf.ev _) e hk
  · exact kU hr (hf.ev _) (hf.ev _) e hk
  · rename_i t
    injection e with e; injection e with e1 e2; injection e2 with e2 e3
    subst e1 e2 e3
    show K (.map (some h.n)) ((h.put h.n (.map #[] 0)).to (h.n + 1))
    have ho : OR (fi φ n ⟨h.n, 0, 0⟩) ⟨h.n, 0, 0⟩ (.map []) (.map #[] 0) := ⟨#[], 0, rfl, rfl, .nil⟩
    exact hk _ _ _ (hr.ple _) (hr.new ho ag) (.map (bJ _ _ _))
  · exact l9 hr (hf.ev _) (hf.ev _) (hf.ev _) e hk
  · exact l9 hr (hf.ev _) (hf.ev _) (hf.ev _) e hk
  · exact uv hr (hf.ev _) e hk
  · rename_i c
    have hm := VRs.map hf.ev c.args.toList
    obtain ⟨callee, args, ats⟩ := c
    dsimp only at e hm
    split at e
    · rename_i f
      have hfv := hf.ev f
      split at e
      · rename_i g a cs q
        rw [q] at hfv
        obtain ⟨a', c', hv, h1, h2⟩ := hfv.n8
        show sx P (ρ.ev f) (args.map ρ.ev) h K
        rw [hv]
        show fS P g (a' ++ args.map ρ.ev ++ c') h K
        refine hcall g _ _ _ _ _ _ e φ h0 h _ K hr ?_ hk
        rw [Array.toList_append, Array.toList_append, Array.toList_map]
        exact (h1.append hm).append h2
      · cases e
    · show iy P .append ats.toList (args.toList.map ρ.ev) h K
      split at e
      · rename_i t u s x e1 e2
        rw [e2] at hm
        obtain ⟨v1, us, h1, h2, h3⟩ := hm.cons_inv
        obtain ⟨v2, ws, h4, h5, h6⟩ := h3.cons_inv
        rw [h4, h6.aT] at h1
        rw [e1, h1]
        exact jl hr h2 h5 e hk
      · cases e
    · show iy P .copy ats.toList (args.toList.map ρ.ev) h K
      split at e
      · rename_i t u s x e1 e2
        rw [e2] at hm
        obtain ⟨v1, us, h1, h2, h3⟩ := hm.cons_inv
        obtain ⟨v2, ws, h4, h5, h6⟩ := h3.cons_inv
        rw [h4, h6.aT] at h1
        rw [e1, h1]
        exact kV hr h2 h5 e hk
      · cases e
    · rename_i q1 q2 q3
      refine quiet ?_ e
      cases callee with
      | value f => exact (q1 f rfl).elim
      | invoke _ _ => rfl
      | builtin b => cases b <;> first | rfl | exact (q2 rfl).elim | exact (q3 rfl).elim
  · rename_i q1 q2 q3 q4 q5 q6 q7 q8 q9 q11 q10
    cases o
    case alloc => exact (q1 _ rfl).elim
    case box => exact (q2 _ _ rfl).elim
    case buildSlice => exact (q3 _ _ _ rfl).elim
    case store => exact (q4 _ _ _ rfl).elim
    case convert => exact (q5 _ _ _ rfl).elim
    case makeSlice => exact (q6 _ _ _ rfl).elim
    case mapUpdate => exact (q8 _ _ _ _ rfl).elim
    case insert => exact (q9 _ _ _ _ rfl).elim
    case range => exact (q11 _ _ rfl).elim
    case next => simp only [cv] at e; cases e
    case call => exact (q10 _ rfl).elim
    case makeMap t x =>
      cases x with
      | none => exact (q7 _ rfl).elim
      | some y => simp only [cv] at e; cases e
    all_goals exact quiet rfl e
theorem sI {ops : Array Oper} : ∀ (l : List Oper) (σ : AE) (H : AH) (n : Nat) (y : EX × AE × AH × Nat), ui P call ops l σ H n = some y → y.1 = .norm
  | [], σ, H, n, y, e => by
    replace e : some (EX.norm, σ, H, n) = some y := e
    injection e with e; subst e; rfl
  | o :: l, σ, H, n, y, e => by
    replace e : eop P call ops o (ui P call ops l) σ H n = some y := e
    have ih := sI (ops := ops) l
    unfold eop at e
    repeat' (split at e)
    all_goals first | (cases e; done) | exact ih _ _ _ _ e
theorem qE (hcall : ∀ f, COk P f (call f)) {ops : Array Oper} {N : Env → Hp → Prop} (h0 : Hp) : ∀ (l : List Oper) (φ : Ph) (σ σ' : AE) (H H' : AH) (n n' : Nat) (ρ : Env) (h : Hp) (x : EX), HR φ H n h0 h → FR φ σ ρ →
    ui P call ops l σ H n = some (x, σ', H', n') → (∀ ψ ρ' h', PLe φ ψ → HR ψ H' n' h0 h' → FR ψ σ' ρ' → N ρ' h') → fg P ops l ρ h N
  | [], φ, σ, σ', H, H', n, n', ρ, h, x, hr, hf, e, hN => by
    replace e : some (EX.norm, σ, H, n) = some (x, σ', H', n') := e
    injection e with e; injection e with e0 e; injection e with e1 e; injection e with e2 e3
    subst e0 e1 e2 e3
    exact hN φ ρ h (PLe.refl _) hr hf
  | o :: l, φ, σ, σ', H, H', n, n', ρ, h, x, hr, hf, e, hN => by
    replace e : eop P call ops o (ui P call ops l) σ H n = some (x, σ', H', n') := e
    have ih := fun φ σ H n ρ h hr hf e hN => qE hcall (ops := ops) (N := N) h0 l φ σ σ' H H' n n' ρ h x hr hf e hN
    have did : (match dw P call o.op σ H n with
        | some (v, G, m) => ui P call ops l (bR σ o.dst v) G m
        | none => none) = some (x, σ', H', n') → bp P o.op ρ h fun v h' => fg P ops l (ρ.put o.dst v) h' N := fun e => by
      split at e
      · rename_i v G m hst
        exact kW hcall hr hf hst fun ψ u g hp hg hu =>
          ih ψ (bR σ o.dst v) G m _ g hg ((hf.mono hp).put o.dst hu) e fun χ ρ' h' h1 h2 h3 => hN χ ρ' h' (hp.trans h1) h2 h3
      · cases e
    have skip : ui P call ops l (bR σ o.dst aV) H n = some (x, σ', H', n') → fg P ops l (ρ.put o.dst undef) h N := fun e =>
      ih φ _ H n _ h hr (hf.put o.dst .undef) e hN
    unfold eop at e
    unfold fg
    split at e
    · rename_i hg
      (try simp only [hg])
      exact did e
    · rename_i j want hg
      (try simp only [hg])
      split at e
      · cases e
      · rename_i t ht
        (try simp only [ht])
        split at e
        · rename_i q hq
          have hv := (hq ▸ hf.at t).aP
          (try simp only [hv])
          split at e
          · rename_i hqw
            have hqw2 : q = want := by simpa using hqw
            subst hqw2
            refine ⟨fun _ => ?_, (fun k => by rw [hqw] at k; cases k)⟩
            rw [fx hv]
            exact did e
          · rename_i hqw
            have hqw2 : (!want) = q := by cases q <;> cases want <;> simp_all
            refine ⟨(fun k => by rw [hqw] at k; cases k), fun _ => ?_⟩
            rw [fx (by rw [hv, hqw2])]
            exact skip e
        · rename_i us hq
          obtain ⟨cs, hv, _⟩ := (hq ▸ hf.at t).eM
          (try simp only [hv])
          exact skip e
        · cases e
end
end Go.Proofs.Ytdfeigkooeeeaaa
namespace Go.Proofs.Ytdfeigkooeeeaaa
open Go Go.RowKit
theorem BV {a b : AV} (h : eqV a b = true) : a = b := by
  unfold eqV at h
  split at h
  · simp only [Bool.and_eq_true, decide_eq_true_eq] at h; rw [h.1, h.2]
  · rename_i s r
    have : ∀ s r : List Nat, bg s r = true → s = r := fun s => by
      induction s with
      | nil => intro r h; cases r with
        | nil => rfl
        | cons _ _ => cases h
      | cons x s ih => intro r h; cases r with
        | nil => cases h
        | cons y r =>
          unfold bg at h
          split at h
          · rename_i e
            rw [Nat.eq_of_beq_eq_true e, ih r h]
          · cases h
    rw [this s r h]
  · rw [beq_iff_eq] at h; rw [h]
  · rfl
  · simp only [Bool.and_eq_true, decide_eq_true_eq] at h; rw [h.1, h.2]
  · rfl
  · simp only [Bool.and_eq_true, decide_eq_true_eq] at h; rw [h.1, h.2.1, h.2.2.1, h.2.2.2.1, h.2.2.2.2]
  · simp only [decide_eq_true_eq] at h; rw [h]
  · simp only [decide_eq_true_eq] at h; rw [h]
  · cases h
theorem yK : ∀ {l m : List AV}, Em l m = true → l = m
  | [], [], _ => rfl
  | [], _ :: _, h => by cases h
  | _ :: _, [], h => by cases h
  | a :: l, b :: m, h => by
    simp only [Em, Bool.and_eq_true] at h
    rw [BV h.1, yK h.2]
theorem Eo {a b : AV} (h : Gi a b = true) : a = b := by
  unfold Gi at h
  split at h
  · rw [yK h]
  · exact BV h
section
variable {P : Program} {call : AC} {φ : Ph} {H H' : AH} {n n' : Nat} {h0 h : Hp} {σ : AE} {ρ : Env}
theorem qG : ∀ (ts : List Nat) (σ : AE) (t : Nat) (a : AV), (zY σ ts).get t = some a → t ∈ ts ∧ σ.get t = some a
  | [], σ, t, a, h => by cases h
  | s :: ts, σ, t, a, h => by
    unfold zY at h
    split at h
    · rename_i b hb
      rcases PM.aE cQ _ s t a h with ⟨rfl, h2⟩ | ⟨_, h2⟩
      · injection h2 with h2; subst h2
        exact ⟨by simp, hb⟩
      · have := qG ts σ t a h2
        exact ⟨by simp [this.1], this.2⟩
    · have := qG ts σ t a h
      exact ⟨by simp [this.1], this.2⟩
theorem oY {o : Op} {v : AV} (hs : aD o = false) (e : dw P call o σ H n = some (v, H', n')) : cv P o σ H = some v ∧ H' = H ∧ n' = n := by
  have key : ∀ {x : Option AV}, (match x with
      | some v => some (v, H, n)
      | none => none) = some (v, H', n') → x = some v ∧ H' = H ∧ n' = n := fun {x} e => by
    cases x with
    | none => cases e
    | some u =>
      injection e with e; injection e with e1 e2; injection e2 with e2 e3
      subst e1 e2 e3
      exact ⟨rfl, rfl, rfl⟩
  cases o <;> first | (cases hs; done) | exact key e | skip
  case call c =>
    obtain ⟨callee, args, ats⟩ := c
    cases callee with
    | value f => cases hs
    | invoke _ _ => exact key e
    | builtin b => cases b <;> first | (cases hs; done) | exact key e
theorem qH {o : Op} {v : AV} (hs : aD o = false) (e : cv P o σ H = some v) : dw P call o σ H n = some (v, H, n) := by
  have key : (match cv P o σ H with
      | some v => some (v, H, n)
      | none => none) = some (v, H, n) := by rw [e]
  cases o <;> first | (cases hs; done) | exact key | skip
  case call c =>
    obtain ⟨callee, args, ats⟩ := c
    cases callee with
    | value f => cases hs
    | invoke _ _ => exact key
    | builtin b => cases b <;> first | (cases hs; done) | exact key
theorem qI {op : BinOp} {q : Option Bool} (h : Eh op = false) : km op q = none := by
  cases q <;> cases op <;> first | rfl | cases h
theorem xz {o : Op} (hc : gO P o = true) (G : AH) : cv P o σ G = cv P o σ H := by
  cases o <;> first | (cases hc; done) | rfl | skip
  case makeFunc fn a c => cases fn <;> rfl
  case binOp op t x y t' =>
    (try simp only [cv])
    unfold po
    split <;> try rfl
    simp only [gO, Bool.not_eq_true'] at hc
    rename_i b o b' o' _ _
    unfold Gh
    split
    · rename_i el hu
      have hp : mn P t = true := by unfold mn; rw [hu]
      rw [hp, Bool.and_true] at hc
      rw [qI hc, qI hc]
    · rfl
  case call c =>
    obtain ⟨callee, args, ats⟩ := c
    cases callee with
    | builtin b => cases b <;> first | (cases hc; done) | skip
                   case len =>
                     have hc : mW P ats = true := hc
                     (try simp only [cv])
                     unfold mW at hc
                     split at hc
                     · rename_i t ht
                       rw [ht]
                       rcases args.toList.map (eev σ) with _ | ⟨x, _ | ⟨y, r⟩⟩
                       · rfl
                       · show ug P t x G = ug P t x H
                         unfold ug
                         split at hc
                         · cases hc
                         · rename_i hnm
                           split <;> first | rfl | (rename_i e1; exact (hnm _ _ e1).elim) | (rename_i e1 _; exact (hnm _ _ e1).elim) | (rename_i e1 _ _; exact (hnm _ _ e1).elim)
                       · rfl
                     · cases hc
                   all_goals (simp only [cv]; split <;> first | rfl | (rename_i hh _ _; cases hh) | (rename_i hh _; cases hh) | (rename_i hh; cases hh))
    | _ => cases hc
theorem sJ (hcall : ∀ f, COk P f (call f)) {ops : Array Oper} {o : Oper} {v : AV} {did : Bool} {K : Env → Hp → Prop} (hr : HR φ H n h0 h) (hf : FR φ σ ρ) (e : edo P call ops o σ H n = some (v, did, H', n'))
    (hk : ∀ ψ u g, PLe φ ψ → HR ψ H' n' h0 g → VR ψ v u → K (ρ.put o.dst u) g) : aK P ops o ρ h K := by
  have did_ : (dw P call o.op σ H n).map (fun r => (r.1, true, r.2)) = some (v, did, H', n') → bp P o.op ρ h fun u g => K (ρ.put o.dst u) g := fun e => by
    simp only [Option.map_eq_some_iff] at e
    obtain ⟨⟨v1, H1, n1⟩, e1, e2⟩ := e
    injection e2 with e2 e3; injection e3 with e3 e4; injection e4 with e4 e5
    subst e2 e3 e4 e5
    exact kW hcall hr hf e1 fun ψ u g hp hg hu => hk ψ u g hp hg hu
  have skip_ : some (aV, false, H, n) = some (v, did, H', n') → K (ρ.put o.dst undef) h := fun e => by
    injection e with e; injection e with e2 e3; injection e3 with e3 e4; injection e4 with e4 e5
    subst e2 e3 e4 e5
    exact hk φ undef h (PLe.refl _) hr .undef
  unfold edo at e
  unfold aK
  split at e
  · rename_i hg
    try simp only [hg]
    exact did_ e
  · rename_i j want hg
    try simp only [hg]
    split at e
    · cases e
    · rename_i t ht
      try simp only [ht]
      split at e
      · rename_i q hq
        have hv := (hq ▸ hf.at t).aP
        try simp only [hv]
        split at e
        · rename_i hqw
          rw [if_pos (by simpa using hqw)]
          exact did_ e
        · rename_i hqw
          rw [if_neg (by simpa using hqw)]
          exact skip_ e
      · rename_i us hq
        obtain ⟨cs, hv, _⟩ := (hq ▸ hf.at t).eM
        try simp only [hv]
        exact skip_ e
      · cases e
theorem sK {ops : Array Oper} {o : Oper} {v : AV} {did : Bool} (hs : aD o.op = false) (e : edo P call ops o σ H n = some (v, did, H', n')) : H' = H ∧ n' = n ∧
    ∀ (G : AH) (m : Nat), (did = true → cv P o.op σ G = some v) → edo P call ops o σ G m = some (v, did, G, m) := by
  have did_ : (dw P call o.op σ H n).map (fun r => (r.1, true, r.2)) = some (v, did, H', n') → H' = H ∧ n' = n ∧ did = true ∧ ∀ (G : AH) (m : Nat), (did = true → cv P o.op σ G = some v) → (dw P call o.op σ G m).map (fun r => (r.1, true, r.2)) = some (v, did, G, m) := fun e => by
    simp only [Option.map_eq_some_iff] at e
    obtain ⟨⟨v1, H1, n1⟩, e1, e2⟩ := e
    injection e2 with e2 e3; injection e3 with e3 e4; injection e4 with e4 e5
    subst e2 e3 e4 e5
    obtain ⟨_, h2, h3⟩ := oY hs e1
    exact ⟨h2, h3, rfl, fun G m hG => by rw [qH hs (hG rfl)]; rfl⟩
  unfold edo at e
  split at e
  · rename_i hg
    obtain ⟨h1, h2, _, h4⟩ := did_ e
    exact ⟨h1, h2, fun G m hG => by unfold edo; simp only [hg]; exact h4 G m hG⟩
  · rename_i j want hg
    split at e
    · cases e
    · rename_i t ht
      split at e
      · rename_i q hq
        split at e
        · rename_i hqw
          obtain ⟨h1, h2, _, h4⟩ := did_ e
          exact ⟨h1, h2, fun G m hG => by unfold edo; simp only [hg, ht, hq, hqw]; exact h4 G m hG⟩
        · rename_i hqw
          injection e with e; injection e with e2 e3; injection e3 with e3 e4; injection e4 with e4 e5
          subst e2 e3 e4 e5
          exact ⟨rfl, rfl, fun G m hG => by unfold edo; simp only [hg, ht, hq, hqw]⟩
      · rename_i us hq
        injection e with e; injection e with e2 e3; injection e3 with e3 e4; injection e4 with e4 e5
        subst e2 e3 e4 e5
        exact ⟨rfl, rfl, fun G m hG => by unfold edo; simp only [hg, ht, hq]⟩
      · cases e
theorem BW {ops : Array Oper} {o : Oper} {v : AV} {did : Bool} (hs : aD o.op = false) (e : edo P call ops o σ H n = some (v, did, H', n')) (hd : did = true) : cv P o.op σ H = some v := by
  have did_ : (dw P call o.op σ H n).map (fun r => (r.1, true, r.2)) = some (v, did, H', n') → cv P o.op σ H = some v := fun e => by
    simp only [Option.map_eq_some_iff] at e
    obtain ⟨⟨v1, H1, n1⟩, e1, e2⟩ := e
    injection e2 with e2 e3
    subst e2
    exact (oY hs e1).1
  subst hd
  unfold edo at e
  repeat' split at e
  all_goals first | exact did_ e | (cases e; done) | (injection e with e; injection e with e2 e3; injection e3 with e3 e4; cases e3)
def ep (ops : Array Oper) (j : Nat) : Option Nat := (ops[j]?).bind (·.dst)
noncomputable def dO (ops : Array Oper) (val : Nat → AV) (σ : AE) (L : Nat → Bool) : Nat → Nat → Option AV
  | 0, t => σ.get t
  | k + 1, t => if L k = true ∧ ep ops k = some t then some (val k) else dO ops val σ L k t
theorem dD {ops : Array Oper} {val : Nat → AV} {L L' : Nat → Bool} {t : Nat} : ∀ k, (∀ j, j < k → ep ops j = some t → L j = L' j) → dO ops val σ L k t = dO ops val σ L' k t
  | 0, _ => rfl
  | k + 1, h => by
    (try simp only [dO])
    rw [dD k fun j hj => h j (by omega)]
    by_cases hd : ep ops k = some t
    · rw [h k (by omega) hd]
    · rw [if_neg (fun q => hd q.2), if_neg (fun q => hd q.2)]
theorem kX {ops : Array Oper} {val : Nat → AV} {i t : Nat} : ∀ k, i ≤ k → dO ops val σ (fun j => decide (j < i)) k t = dO ops val σ (fun _ => true) i t
  | 0, h => by
    have : i = 0 := by omega
    subst this; rfl
  | k + 1, h => by
    by_cases hk : i = k + 1
    · subst hk
      exact dD (k + 1) fun j hj _ => by simp [hj]
    · (try simp only [dO])
      rw [if_neg (by simp; omega)]
      exact kX k (by omega)
theorem qJ {ops : Array Oper} {val : Nat → AV} {L L' : Nat → Bool} {i t : Nat} (hne : ∀ j, j ≠ i → L' j = L j) (hi : L' i = true) : ∀ k, i < k → (∀ j, i < j → j < k → ep ops i = some t → ep ops j = some t → L j = false) →
    dO ops val σ L' k t = if ep ops i = some t then some (val i) else dO ops val σ L k t
  | 0, h, _ => by omega
  | k + 1, h, hc => by
    (try simp only [dO])
    by_cases hk : k = i
    · subst hk
      by_cases hd : ep ops k = some t
      · rw [if_pos ⟨hi, hd⟩, if_pos hd]
      · rw [if_neg (fun q => hd q.2), if_neg hd, if_neg (fun q => hd q.2)]
        exact dD k fun j hj _ => hne j (by omega)
    · have ih : dO ops val σ L' k t = if ep ops i = some t then some (val i) else dO ops val σ L k t := qJ hne hi k (by omega) fun j h1 h2 => hc j h1 (by omega)
      rw [hne k hk, ih]
      by_cases hd : ep ops i = some t
      · by_cases hd2 : ep ops k = some t
        · have := hc k (by omega) (by omega) hd hd2
          rw [this]; simp
        · rw [if_neg (fun q => hd2 q.2), if_pos hd]; simp [hd]
      · rw [if_neg hd, if_neg hd]
structure Told (P : Program) (call : AC) (ops : Array Oper) (σ0 : AE) (val : Nat → AV) (did : Nat → Bool) (sf : Nat → AE) (Hs : Nat → AH) (ns : Nat → Nat) (k m : Nat) : Prop where
  step : ∀ i o, k ≤ i → i < m → ops[i]? = some o → edo P call ops o (sf i) (Hs i) (ns i) = some (val i, did i, Hs (i + 1), ns (i + 1))
  look : ∀ i o, k ≤ i → i < m → ops[i]? = some o → ∀ t a, (sf i).get t = some a → t ∈ looks ops o ∧ dO ops val σ0 (fun _ => true) i t = some a
theorem vJ {ops : Array Oper} {σ0 : AE} {val : Nat → AV} {did : Nat → Bool} {sf : Nat → AE} {Hs : Nat → AH} {ns : Nat → Nat} : ∀ (l : List Oper) (k : Nat) (σ σ' : AE) (H' : AH) (n' : Nat) (tr : List TE), (∀ j, l[j]? = ops[k + j]?) → (∀ t a, σ.get t = some a → dO ops val σ0 (fun _ => true) k t = some a) →
    etr P call ops l σ (Hs k) (ns k) = some (tr, σ', H', n') → (∀ j e, tr[j]? = some e → val (k + j) = e.v ∧ did (k + j) = e.did ∧ sf (k + j) = e.σ ∧ Hs (k + j) = e.H ∧ ns (k + j) = e.n) → Hs (k + l.length) = H' → ns (k + l.length) = n' →
    Told P call ops σ0 val did sf Hs ns k (k + l.length) ∧ tr.length = l.length ∧ ∀ t a, σ'.get t = some a → dO ops val σ0 (fun _ => true) (k + l.length) t = some a
  | [], k, σ, σ', H', n', tr, hl, hσ, e, htr, hH, hn => by
    have e : some ([], σ, Hs k, ns k) = some (tr, σ', H', n') := e
    injection e with e; injection e with e1 e2; injection e2 with e2 e3
    subst e1 e2
    exact ⟨⟨fun i o h1 h2 => by simp at h2; omega, fun i o h1 h2 => by simp at h2; omega⟩, rfl, hσ⟩
  | o :: l, k, σ, σ', H', n', tr, hl, hσ, e, htr, hH, hn => by
    have h0 : ops[k]? = some o := by simpa using (hl 0).symm
    simp only [etr] at e
    split at e
    · rename_i v d H1 n1 hdo
      simp only [Option.map_eq_some_iff] at e
      obtain ⟨⟨tr1, σ1, H2, n2⟩, e1, e2⟩ := e
      injection e2 with e2 e3; injection e3 with e3 e4; injection e4 with e4 e5
      subst e2 e3 e4 e5
      obtain ⟨t1, t2, t3, t4, t5⟩ := htr 0 _ rfl
      simp only [Nat.add_zero] at t1 t2 t3 t4 t5
      have hH1 : Hs (k + 1) = H1 ∧ ns (k + 1) = n1 := by
        cases l with
        | nil =>
          have e1 : some ([], bR σ o.dst v, H1, n1) = some (tr1, σ1, H2, n2) := e1
          injection e1 with e1; injection e1 with _ e1; injection e1 with _ e1; injection e1 with e1 e6
          subst e1 e6
          exact ⟨by simpa using hH, by simpa using hn⟩
        | cons o2 l =>
          simp only [etr] at e1
          split at e1
          · simp only [Option.map_eq_some_iff] at e1
            obtain ⟨⟨tr2, r2⟩, _, e7⟩ := e1
            injection e7 with e7 _
            subst e7
            obtain ⟨_, _, _, q4, q5⟩ := htr 1 _ rfl
            exact ⟨q4, q5⟩
          · cases e1
      have hσ1 : ∀ t a, (bR σ o.dst v).get t = some a → dO ops val σ0 (fun _ => true) (k + 1) t = some a := fun t a hg => by
        simp only [dO, ep, h0, Option.bind_some, true_and]
        cases hd : o.dst with
        | none => rw [hd] at hg; rw [if_neg (by simp)]; exact hσ t a hg
        | some d =>
          rw [hd] at hg
          rcases ju cQ σ d t a hg with ⟨rfl, h2⟩ | ⟨h1, h2⟩
          · rw [if_pos rfl, t1, h2]
          · rw [if_neg (by simpa using Ne.symm h1)]; exact hσ t a h2
      obtain ⟨r1, r2, r3⟩ := vJ (val := val) (did := did) (sf := sf) (Hs := Hs) (ns := ns) l (k + 1) _ σ1 H2 n2 tr1 (fun j => by have := hl (j + 1); simpa [Nat.add_assoc, Nat.add_comm 1 j] using this) hσ1 (by rw [hH1.1, hH1.2]; exact e1)
        (fun j e he => by
          have := htr (j + 1) e (by simpa using he)
          rwa [show k + (j + 1) = k + 1 + j from by omega] at this)
        (by rw [← hH]; congr 1; simp; omega) (by rw [← hn]; congr 1; simp; omega)
      have hlen : k + (o :: l).length = k + 1 + l.length := by simp; omega
      rw [hlen]
      refine ⟨⟨fun i o' h1 h2 ho => ?_, fun i o' h1 h2 ho => ?_⟩, by simp [r2], r3⟩
      · by_cases hi : i = k
        · subst hi
          rw [h0] at ho; injection ho with ho; subst ho
          rw [t1, t2, t3, hH1.1, hH1.2]
          exact hdo
        · exact r1.step i o' (by omega) h2 ho
      · by_cases hi : i = k
        · subst hi
          rw [h0] at ho; injection ho with ho; subst ho
          intro t a hg
          rw [t3] at hg
          obtain ⟨g1, g2⟩ := qG _ _ _ _ hg
          exact ⟨g1, hσ t a g2⟩
        · exact r1.look i o' (by omega) h2 ho
    · cases e
theorem jW {ops : Array Oper} {σ0 : AE} {val : Nat → AV} {did : Nat → Bool} {sf : Nat → AE} {Hs : Nat → AH} {ns : Nat → Nat} {m : Nat} (ht : Told P call ops σ0 val did sf Hs ns 0 m) (hm : m = ops.size) : ∀ (d p : Nat), p + d ≤ m →
    (∀ j o, p ≤ j → j < p + d → ops[j]? = some o → aD o.op = false) → Hs (p + d) = Hs p ∧ ns (p + d) = ns p
  | 0, _, _, _ => ⟨rfl, rfl⟩
  | d + 1, p, hle, hq => by
    obtain ⟨h1, h2⟩ := jW ht hm d p (by omega) fun j o a b => hq j o a (by omega)
    have hlt : p + d < ops.size := by omega
    have ho := Array.getElem?_eq_getElem hlt
    have hs := ht.step (p + d) _ (by omega) (by omega) ho
    obtain ⟨g1, g2, _⟩ := sK (hq (p + d) _ (by omega) (by omega) ho) hs
    exact ⟨by rw [← h1]; exact g1, by rw [← h2]; exact g2⟩
theorem qK (ops : Array Oper) : ∀ (d p : Nat), (∀ j o, p ≤ j → j < p + d → ops[j]? = some o → aD o.op = false) ∨ ∃ j o, p ≤ j ∧ j < p + d ∧ ops[j]? = some o ∧ aD o.op = true ∧ ∀ k o', p ≤ k → k < j → ops[k]? = some o' → aD o'.op = false
  | 0, p => .inl fun j o a b => by omega
  | d + 1, p => by
    rcases qK ops d p with h | ⟨j, o, h1, h2, h3⟩
    · cases ho : ops[p + d]? with
      | none =>
        exact .inl fun j o a b e => by
          by_cases hj : j = p + d
          · subst hj; rw [ho] at e; cases e
          · exact h j o a (by omega) e
      | some o =>
        cases hl : aD o.op with
        | true => exact .inr ⟨p + d, o, by omega, by omega, ho, hl, fun k o' a b => h k o' a b⟩
        | false =>
          exact .inl fun j o' a b e => by
            by_cases hj : j = p + d
            · subst hj; rw [ho] at e; injection e with e; subst e; exact hl
            · exact h j o' a (by omega) e
    · exact .inr ⟨j, o, h1, by omega, h3⟩
theorem og (ops : Array Oper) : ∀ (d p : Nat), (∀ j o, p ≤ j → j < p + d → ops[j]? = some o → aD o.op = false) ∨ ∃ j o, p ≤ j ∧ j < p + d ∧ ops[j]? = some o ∧ aD o.op = true ∧ ∀ k o', j < k → k < p + d → ops[k]? = some o' → aD o'.op = false
  | 0, p => .inl fun j o a b => by omega
  | d + 1, p => by
    cases ho : ops[p + d]? with
    | none =>
      rcases og ops d p with h | ⟨j, o, h1, h2, h3, h4, h5⟩
      · exact .inl fun j o a b e => by
          by_cases hj : j = p + d
          · subst hj; rw [ho] at e; cases e
          · exact h j o a (by omega) e
      · exact .inr ⟨j, o, h1, by omega, h3, h4, fun k o' a b e => by
          by_cases hj : k = p + d
          · subst hj; rw [ho] at e; cases e
          · exact h5 k o' a (by omega) e⟩
    | some o =>
      cases hl : aD o.op with
      | true => exact .inr ⟨p + d, o, by omega, by omega, ho, hl, fun k o' a b => by omega⟩
      | false =>
        rcases og ops d p with h | ⟨j, o', h1, h2, h3, h4, h5⟩
        · exact .inl fun j o' a b e => by
            by_cases hj : j = p + d
            · subst hj; rw [ho] at e; injection e with e; subst e; exact hl
            · exact h j o' a (by omega) e
        · exact .inr ⟨j, o', h1, by omega, h3, h4, fun k o2 a b e => by
            by_cases hj : k = p + d
            · subst hj; rw [ho] at e; injection e with e; subst e; exact hl
            · exact h5 k o2 a (by omega) e⟩
theorem Ep (hcall : ∀ f, COk P f (call f)) {ops : Array Oper} {σ0 σ' : AE} {val : Nat → AV} {did : Nat → Bool} {sf : Nat → AE} {Hs : Nat → AH} {ns : Nat → Nat} {N : Env → Hp → Prop}
    (ht : Told P call ops σ0 val did sf Hs ns 0 ops.size) (hst : n6 ops = true) (hσ' : ∀ t a, σ'.get t = some a → dO ops val σ0 (fun _ => true) ops.size t = some a)
    (hck : ∀ i j a b, i < ops.size → j < ops.size → ops[i]? = some a → ops[j]? = some b → aD b.op = true → aD a.op = false → gO P a.op = false → did i = true →
      if i < j then gG ops 4 i j = true ∨ cv P a.op (sf i) (Hs (j + 1)) = some (val i) else gG ops 4 j i = true ∨ cv P a.op (sf i) (Hs j) = some (val i))
    (hr : HR φ (Hs 0) (ns 0) h0 h) (hf : FR φ σ0 ρ) (hN : ∀ ψ ρ' h', PLe φ ψ → HR ψ (Hs ops.size) (ns ops.size) h0 h' → FR ψ σ' ρ' → N ρ' h') : ub P ops ρ h N := by
  simp only [n6, Bool.and_eq_true] at hst
  obtain ⟨hed, hst⟩ := hst
  have pair : ∀ i j a b, j < i → ops[i]? = some b → ops[j]? = some a → (a.apart ops b = true ∧ (aD a.op = false ∨ aD b.op = false)) ∨ gG ops 4 j i = true := fun i j a b hlt hi hj => by
    have hisz := (Array.getElem?_eq_some_iff.1 hi).1
    have h1 := List.all_eq_true.1 hst i (by simpa using hisz)
    have h2 := List.all_eq_true.1 h1 j (by simpa using hlt)
    simp only [hi, hj, Bool.or_eq_true, Bool.and_eq_true, cY, Bool.not_eq_true'] at h2
    exact h2
  refine ⟨hed, fun listed ρ1 h1 => ∃ ψ p, PLe φ ψ ∧ p ≤ ops.size ∧ HR ψ (Hs p) (ns p) h0 h1 ∧ (∀ j o, ops[j]? = some o → aD o.op = true → (listed.getD j false = true ↔ j < p)) ∧
      ∀ t a, dO ops val σ0 (fun j => listed.getD j false) ops.size t = some a → VR ψ a (ρ1 t), ?_, ?_, ?_⟩
  · refine ⟨φ, 0, PLe.refl _, Nat.zero_le _, hr, fun j o hj _ => ?_, fun t a e => ?_⟩
    · have : (Array.replicate ops.size false).getD j false = false := by simp [Array.getD]
      rw [this]; simp
    · have : dO ops val σ0 (fun j => (Array.replicate ops.size false).getD j false) ops.size t = dO ops val σ0 (fun j => decide (j < 0)) ops.size t :=
        dD _ fun j _ _ => by simp [Array.getD]
      rw [this, kX _ (Nat.zero_le _)] at e
      exact hf t a e
  · intro listed i o ρ1 h1 hsz hdn ho hun hedge ⟨ψ, p, hp, hple, hr1, hlo, henv⟩ _
    have hi : i < ops.size := (Array.getElem?_eq_some_iff.1 ho).1
    have before : ∀ j, gG ops 4 j i = true → listed.getD j false = true := fun j hb => du hdn 4 i (fun o' ho' e he hb' => by
      rw [ho] at ho'; injection ho' with ho'; subst ho'
      exact hedge e he hb') hb
    have behind : ∀ j, gG ops 4 i j = true → listed.getD j false = false := fun j hb => by
      cases hl : listed.getD j false with
      | false => rfl
      | true =>
        have := du hdn 4 j (fun o' ho' e he hb' => hdn j o' ho' hl e he hb') hb
        rw [hun] at this; cases this
    have hlook : ∀ t, t ∈ looks ops o → dO ops val σ0 (fun j => listed.getD j false) ops.size t = dO ops val σ0 (fun _ => true) i t := fun t htl => by
      rw [← kX (val := val) ops.size (Nat.le_of_lt hi)]
      refine dD _ fun j hj hd => ?_
      have hjo := Array.getElem?_eq_getElem hj
      have hd2 : ops[j].dst = some t := by simpa [ep, hjo] using hd
      by_cases hji : j = i
      · subst hji; simp [hun]
      · by_cases hlt : j < i
        · rcases pair i j _ _ hlt ho hjo with ⟨ha, _⟩ | hb
          · exact absurd htl ((Oper.apart_spec ha).1 t hd2)
          · rw [before j hb]; simp [hlt]
        · rcases pair j i _ _ (by omega) hjo ho with ⟨ha, _⟩ | hb
          · exact absurd htl ((Oper.apart_spec ha).2.2 t hd2)
          · rw [behind j hb]; simp [hlt]
    have hfi : FR ψ (sf i) ρ1 := fun t a e => by
      obtain ⟨g1, g2⟩ := ht.look i o (Nat.zero_le _) hi ho t a e
      exact henv t a (by rw [hlook t g1]; exact g2)
    have hdo := ht.step i o (Nat.zero_le _) hi ho
    have hset : ∀ j, (listed.setIfInBounds i true).getD j false = if j = i then true else listed.getD j false := fun j => iz (by omega)
    have henv2 : ∀ {χ : Ph} {u : Value}, PLe ψ χ → VR χ (val i) u → ∀ t a, dO ops val σ0 (fun j => (listed.setIfInBounds i true).getD j false) ops.size t = some a → VR χ a ((ρ1.put o.dst u) t) := fun {χ u} hpχ hu t a e => by
      rw [qJ (L := fun j => listed.getD j false) (i := i) (fun j hj => by simp only [hset, if_neg hj]) (by simp only [hset, if_true]) ops.size hi (fun j h1 h2 hd1 hd2 => by
        have hjo := Array.getElem?_eq_getElem h2
        have e1 : o.dst = some t := by simpa [ep, ho] using hd1
        have e2 : ops[j].dst = some t := by simpa [ep, hjo] using hd2
        rcases pair j i _ _ h1 hjo ho with ⟨ha, _⟩ | hb
        · exact absurd e2 ((Oper.apart_spec ha).2.1 t e1)
        · exact behind j hb)] at e
      by_cases hd : o.dst = some t
      · rw [if_pos (by simpa [ep, ho] using hd)] at e
        injection e with e
        subst e
        rw [hd, kG, mQ]; exact hu
      · rw [if_neg (by simpa [ep, ho] using hd)] at e
        have := VR.mono hpχ _ _ (henv t a e)
        rwa [ij (fun x hx => by intro q; exact hd (by rw [hx, q]))]
    cases hl : aD o.op with
    | true =>
      have hpi : p ≤ i := by
        have := (hlo i o ho hl)
        rw [hun] at this
        by_cases hc : i < p
        · have := this.2 hc; cases this
        · omega
      have hnol : ∀ j o', p ≤ j → j < p + (i - p) → ops[j]? = some o' → aD o'.op = false := fun j o' h1 h2 hj => by
        cases hlj : aD o'.op with
        | false => rfl
        | true =>
          rcases pair i j _ _ (by omega) ho hj with ⟨_, hx⟩ | hb
          · rcases hx with hx | hx
            · rw [hlj] at hx; cases hx
            · rw [hl] at hx; cases hx
          · have := (hlo j o' hj hlj).1 (before j hb)
            omega
      obtain ⟨c1, c2⟩ := jW ht rfl (i - p) p (by omega) hnol
      rw [show p + (i - p) = i from by omega] at c1 c2
      rw [← c1, ← c2] at hr1
      refine sJ hcall hr1 hfi hdo fun χ u g hpχ hg hu => ⟨χ, i + 1, hp.trans hpχ, hi, hg, fun j o' hj hlj => ?_, henv2 hpχ hu⟩
      rw [hset]
      by_cases hji : j = i
      · subst hji; simp
      · rw [if_neg hji]
        have hjsz := (Array.getElem?_eq_some_iff.1 hj).1
        by_cases hlt : j < i
        · have : listed.getD j false = true := by
            rcases pair i j _ _ hlt ho hj with ⟨_, hx⟩ | hb
            · rcases hx with hx | hx
              · rw [hlj] at hx; cases hx
              · rw [hl] at hx; cases hx
            · exact before j hb
          rw [this]; simp; omega
        · have : listed.getD j false = false := by
            rcases pair j i _ _ (by omega) hj ho with ⟨_, hx⟩ | hb
            · rcases hx with hx | hx
              · rw [hl] at hx; cases hx
              · rw [hlj] at hx; cases hx
            · exact behind j hb
          rw [this]; simp; omega
    | false =>
      obtain ⟨s1, s2, s3⟩ := sK hl hdo
      have hsame : did i = true → cv P o.op (sf i) (Hs p) = some (val i) := fun hdi => by
        have hit := BW hl hdo hdi
        cases hcm : gO P o.op with
        | true => rw [xz hcm (H := Hs i)]; exact hit
        | false =>
          by_cases hpi : p ≤ i
          · rcases qK ops (i - p) p with hno | ⟨j, o', j1, j2, j3, j4, j5⟩
            · obtain ⟨c1, _⟩ := jW ht rfl (i - p) p (by omega) hno
              rw [show p + (i - p) = i from by omega] at c1
              rw [← c1]; exact hit
            · obtain ⟨c1, _⟩ := jW ht rfl (j - p) p (by omega) fun k o2 a b => j5 k o2 a (by omega)
              rw [show p + (j - p) = j from by omega] at c1
              have hjsz := (Array.getElem?_eq_some_iff.1 j3).1
              have hk := hck i j o o' hi hjsz ho j3 j4 hl hcm hdi
              rw [if_neg (by omega)] at hk
              rcases hk with hk | hk
              · have := (hlo j o' j3 j4).1 (before j hk)
                omega
              · rw [← c1]; exact hk
          · rcases og ops (p - i) i with hno | ⟨j, o', j1, j2, j3, j4, j5⟩
            · obtain ⟨c1, _⟩ := jW ht rfl (p - i) i (by omega) hno
              rw [show i + (p - i) = p from by omega] at c1
              rw [c1]; exact hit
            · have hji : j ≠ i := fun q => by subst q; rw [ho] at j3; injection j3 with j3; subst j3; rw [hl] at j4; cases j4
              obtain ⟨c1, _⟩ := jW ht rfl (p - (j + 1)) (j + 1) (by omega) fun k o2 a b => j5 k o2 (by omega) (by omega)
              rw [show j + 1 + (p - (j + 1)) = p from by omega] at c1
              have hjsz := (Array.getElem?_eq_some_iff.1 j3).1
              have hk := hck i j o o' hi hjsz ho j3 j4 hl hcm hdi
              rw [if_pos (by omega)] at hk
              rcases hk with hk | hk
              · have := (hlo j o' j3 j4).2 (by omega)
                rw [behind j hk] at this; cases this
              · rw [c1]; exact hk
      refine sJ hcall hr1 hfi (s3 (Hs p) (ns p) hsame) fun χ u g hpχ hg hu => ⟨χ, p, hp.trans hpχ, hple, hg, fun j o' hj hlj => ?_, henv2 hpχ hu⟩
      rw [hset]
      by_cases hji : j = i
      · subst hji; rw [ho] at hj; injection hj with hj; subst hj; rw [hl] at hlj; cases hlj
      · rw [if_neg hji]; exact hlo j o' hj hlj
  · intro listed ρ1 h1 hsz hall ⟨ψ, p, hp, hple, hr1, hlo, henv⟩
    obtain ⟨c1, c2⟩ := jW ht rfl (ops.size - p) p (by omega) fun j o a b hj => by
      cases hl : aD o.op with
      | false => rfl
      | true =>
        have := (hlo j o hj hl).1 (hall j (by omega))
        omega
    rw [show p + (ops.size - p) = ops.size from by omega] at c1 c2
    rw [← c1, ← c2] at hr1
    refine hN ψ ρ1 h1 hp hr1 fun t a e => henv t a ?_
    rw [← hσ' t a e]
    exact dD _ fun j hj _ => hall j hj
theorem xA (hcall : ∀ f, COk P f (call f)) {ops : Array Oper} {σ' : AE} {x : EX} {N : Env → Hp → Prop} (hr : HR φ H n h0 h) (hf : FR φ σ ρ) (e : vD P call ops σ H n = some (x, σ', H', n'))
    (hN : ∀ ψ ρ' h', PLe φ ψ → HR ψ H' n' h0 h' → FR ψ σ' ρ' → N ρ' h') : x = .norm ∧ ub P ops ρ h N := by
  unfold vD at e
  split at e
  · rename_i tr σ1 H1 n1 he
    split at e
    · rename_i hck
      injection e with e; injection e with e0 e; injection e with e1 e; injection e with e2 e3
      subst e0 e1 e2 e3
      refine ⟨rfl, ?_⟩
      simp only [Bool.and_eq_true] at hck
      obtain ⟨hst, hck⟩ := hck
      let dflt : TE := ⟨.bad, false, .nil, H1, n1⟩
      let at_ : Nat → TE := fun j => (tr[j]?).getD dflt
      have hat : ∀ j e, tr[j]? = some e → at_ j = e := fun j e hj => by simp only [at_, hj, Option.getD_some]
      have hsize : ops.toList.length = ops.size := Array.length_toList
      have hstart : (if tr.length = 0 then H1 else (at_ 0).H) = H ∧ (if tr.length = 0 then n1 else (at_ 0).n) = n := by
        cases hl : ops.toList with
        | nil =>
          rw [hl] at he
          have he : some ([], σ, H, n) = some (tr, σ1, H1, n1) := he
          injection he with he; injection he with q1 he; injection he with q2 he; injection he with q3 q4
          subst q1 q2 q3 q4
          exact ⟨rfl, rfl⟩
        | cons o l =>
          rw [hl] at he
          simp only [etr] at he
          split at he
          · simp only [Option.map_eq_some_iff] at he
            obtain ⟨⟨tr2, r2⟩, _, q⟩ := he
            injection q with q _
            subst q
            exact ⟨rfl, rfl⟩
          · cases he
      let Hs : Nat → AH := fun j => if j < tr.length then (at_ j).H else H1
      let ns : Nat → Nat := fun j => if j < tr.length then (at_ j).n else n1
      have hs0 : Hs 0 = H ∧ ns 0 = n := by
        refine ⟨?_, ?_⟩
        · rw [← hstart.1]; simp only [Hs]
          by_cases q : tr.length = 0
          · rw [if_neg (by omega), if_pos q]
          · rw [if_pos (by omega), if_neg q]
        · rw [← hstart.2]; simp only [ns]
          by_cases q : tr.length = 0
          · rw [if_neg (by omega), if_pos q]
          · rw [if_pos (by omega), if_neg q]
      have hlen : tr.length = ops.size := by
        have : ∀ (l : List Oper) (σ : AE) (H : AH) (n : Nat) (tr : List TE) (r : AE × AH × Nat), etr P call ops l σ H n = some (tr, r) → tr.length = l.length := fun l => by
          induction l with
          | nil => intro σ H n tr r he; injection he with he; injection he with q _; subst q; rfl
          | cons o l ih =>
            intro σ H n tr r he
            simp only [etr] at he
            split at he
            · simp only [Option.map_eq_some_iff] at he
              obtain ⟨⟨tr2, r2⟩, q1, q2⟩ := he
              injection q2 with q2 _
              subst q2
              simp [ih _ _ _ _ _ q1]
            · cases he
        rw [← hsize]; exact this _ _ _ _ _ _ he
      obtain ⟨told, _, hfin⟩ := vJ (ops := ops) (σ0 := σ) (val := fun j => (at_ j).v) (did := fun j => (at_ j).did) (sf := fun j => (at_ j).σ) (Hs := Hs) (ns := ns) ops.toList 0 σ σ1 H1 n1 tr (fun j => by rw [Nat.zero_add, Array.getElem?_toList]) (fun t a q => q)
        (by rw [hs0.1, hs0.2]; exact he)
        (fun j e hj => by
          have hjl := (List.getElem?_eq_some_iff.1 hj).1
          rw [Nat.zero_add]
          refine ⟨by rw [hat j e hj], by rw [hat j e hj], by rw [hat j e hj], ?_, ?_⟩
          · (try simp only [Hs]); rw [if_pos hjl, hat j e hj]
          · (try simp only [ns]); rw [if_pos hjl, hat j e hj])
        (by simp only [Hs]; rw [if_neg (by rw [hlen, hsize]; omega)])
        (by simp only [ns]; rw [if_neg (by rw [hlen, hsize]; omega)])
      rw [Nat.zero_add, hsize] at told hfin
      have hend : Hs ops.size = H1 ∧ ns ops.size = n1 := ⟨by simp only [Hs]; rw [if_neg (by omega)], by simp only [ns]; rw [if_neg (by omega)]⟩
      refine Ep hcall told hst hfin ?_ (by rw [hs0.1, hs0.2]; exact hr) hf (by rw [hend.1, hend.2]; exact hN)
      intro i j a b hi hj ha hb hlb hla hca hdi
      have h1 := List.all_eq_true.1 hck i (by simpa using hi)
      have h2 := List.all_eq_true.1 h1 j (by simpa using hj)
      have hti : tr[i]? = some (at_ i) := by
        rw [List.getElem?_eq_getElem (by omega)]
        exact congrArg some (hat i _ (List.getElem?_eq_getElem (by omega))).symm
      have htj : tr[j]? = some (at_ j) := by
        rw [List.getElem?_eq_getElem (by omega)]
        exact congrArg some (hat j _ (List.getElem?_eq_getElem (by omega))).symm
      simp only [yH, ha, hb, hti, htj] at h2
      rw [if_pos ⟨hlb, by simp [cY, hla], hca, hdi⟩] at h2
      have sm : ∀ G, sameAt P a (at_ i) G = true → cv P a.op (at_ i).σ G = some (at_ i).v := fun G hG => by
        unfold sameAt at hG
        split at hG
        · rename_i v hv
          rw [hv, Eo hG]
        · cases hG
      by_cases hij : i < j
      · rw [if_pos hij] at h2 ⊢
        simp only [Bool.or_eq_true] at h2
        refine h2.imp id fun q => ?_
        have hHs : Hs (j + 1) = (match tr[j + 1]? with
            | some g => g.H
            | none => H1) := by
          (try simp only [Hs])
          by_cases hq : j + 1 < tr.length
          · rw [if_pos hq, List.getElem?_eq_getElem hq]
            dsimp only
            rw [hat (j + 1) _ (List.getElem?_eq_getElem hq)]
          · rw [if_neg hq, List.getElem?_eq_none (by omega)]
        rw [hHs]
        exact sm _ q
      · rw [if_neg hij] at h2 ⊢
        simp only [Bool.or_eq_true] at h2
        refine h2.imp id fun q => ?_
        have hHs : Hs j = (at_ j).H := by simp only [Hs]; rw [if_pos (by omega)]
        rw [hHs]
        exact sm _ q
    · cases e
  · cases e
end
end Go.Proofs.Ytdfeigkooeeeaaa
namespace Go.Proofs.Ytdfeigkooeeeaaa
open Go Go.RowKit
section
variable {P : Program} {call : AC} {φ : Ph} {H H' : AH} {n n' : Nat} {h0 h : Hp} {K : KH} {σ : AE} {ρ : Env} {r : AV}
theorem least {p : Nat → Prop} : ∀ n, p n → ∃ m, p m ∧ ∀ k, p k → m ≤ k := by
  intro n
  induction n using Nat.strongRecOn with
  | _ n ih =>
    intro hn
    by_cases h : ∃ k, k < n ∧ p k
    · obtain ⟨k, hk, hp⟩ := h
      exact ih k hk hp
    · exact ⟨n, hn, fun k hk => Nat.le_of_not_lt fun hlt => h ⟨k, hlt, hk⟩⟩
def Er (h0 : Hp) (φ : Ph) (x : EX) (σ' : AE) (H' : AH) (n' : Nat) (N R : EH) (X : Nat → EH) : Prop := ∀ ψ ρ' h', PLe φ ψ → HR ψ H' n' h0 h' → FR ψ σ' ρ' → match x with
  | .norm => N ρ' h'
  | .ret => R ρ' h'
  | .exit i => X i ρ' h'
theorem Er.mono {h0 : Hp} {φ ψ : Ph} {x : EX} {σ' : AE} {H' : AH} {n' : Nat} {N R : EH} {X : Nat → EH} (hw : Er h0 φ x σ' H' n' N R X) (hp : PLe φ ψ) : Er h0 ψ x σ' H' n' N R X :=
  fun χ ρ' h' h1 h2 h3 => hw χ ρ' h' (hp.trans h1) h2 h3
theorem xB (hcall : ∀ f, COk P f (call f)) (h0 : Hp) : ∀ (f : Nat) (c : Code) (φ : Ph) (σ σ' : AE) (H H' : AH) (n n' : Nat) (ρ : Env) (h : Hp) (x : EX) (N R : EH) (X : Nat → EH), HR φ H n h0 h → FR φ σ ρ →
    exec P call f c σ H n = some (x, σ', H', n') → Er h0 φ x σ' H' n' N R X → avc P c N R X ρ h := by
  intro f
  induction f using Nat.strongRecOn with
  | _ f ih =>
    intro c φ σ σ' H H' n n' ρ h x N R X hr hf e hw
    cases f with
    | zero => cases e
    | succ f =>
      replace e : cw P call (exec P call f) c σ H n = some (x, σ', H', n') := e
      have ih1 := ih f (Nat.lt_succ_self f)
      unfold cw at e
      split at e
      ·
        injection e with e; injection e with e0 e; injection e with e1 e; injection e with e2 e3
        subst e0 e1 e2 e3
        exact hw φ ρ h (PLe.refl _) hr hf
      ·
        rename_i id ops draw
        split at e
        · rename_i hd
          have hx := sI _ _ _ _ _ e
          dsimp only at hx
          subst hx
          have hs := qE hcall h0 _ φ σ σ' H H' n n' ρ h _ hr hf e hw
          unfold avc
          split
          · rename_i hdr
            subst hdr
            exact .inr (.inl ⟨by simpa using hd, hs⟩)
          · exact hs
        · rename_i hd
          simp only [Bool.and_eq_true] at hd
          have hx : x = .norm := by
            unfold vD at e
            split at e
            · split at e
              · injection e with e; injection e with e0 e; exact e0.symm
              · cases e
            · cases e
          subst hx
          have hs := (xA hcall hr hf e hw).2
          unfold avc
          rw [if_pos hd.1]
          exact .inr (.inr hs)
      ·
        rename_i a b
        split at e
        · rename_i σ1 H1 n1 e1
          refine ih1 a φ σ σ1 H H1 n n1 ρ h .norm _ R X hr hf e1 fun ψ ρ1 h1 hp hr1 hf1 => ?_
          exact ih1 b ψ σ1 σ' H1 H' n1 n' ρ1 h1 x N R X hr1 hf1 e (hw.mono hp)
        · rename_i hne
          refine ih1 a φ σ σ' H H' n n' ρ h x _ R X hr hf e fun ψ ρ1 h1 hp hr1 hf1 => ?_
          have := hw ψ ρ1 h1 hp hr1 hf1
          cases x with
          | norm => exact (hne _ _ _ e).elim
          | ret => exact this
          | exit i => exact this
      ·
        rename_i cd a b
        have hc := hf.ev cd
        unfold avc
        split at e
        · rename_i q
          rw [q] at hc
          rw [hc.aP]
          exact ⟨fun _ => ih1 a φ σ σ' H H' n n' ρ h x N R X hr hf e hw, (fun k => by cases k)⟩
        · rename_i q
          rw [q] at hc
          rw [hc.aP]
          exact ⟨(fun k => by cases k), fun _ => ih1 b φ σ σ' H H' n n' ρ h x N R X hr hf e hw⟩
        · cases e
      ·
        rename_i id b
        unfold avc
        split at e
        · rename_i i σ1 H1 n1 e1
          split at e
          · rename_i hi
            have hi := Nat.eq_of_beq_eq_true hi
            subst hi
            injection e with e; injection e with e0 e; injection e with e1' e; injection e with e2 e3
            subst e0 e1' e2 e3
            refine ih1 b φ σ σ1 H H1 n n1 ρ h (.exit i) N R _ hr hf e1 fun ψ ρ1 h1 hp hr1 hf1 => ?_
            (try simp only [if_true])
            exact hw ψ ρ1 h1 hp hr1 hf1
          · rename_i hi
            injection e with e; injection e with e0 e; injection e with e1' e; injection e with e2 e3
            subst e0 e1' e2 e3
            refine ih1 b φ σ σ1 H H1 n n1 ρ h (.exit i) N R _ hr hf e1 fun ψ ρ1 h1 hp hr1 hf1 => ?_
            have hne : ¬ i = id := fun q => by subst q; simp at hi
            (try simp only [if_neg hne])
            exact hw ψ ρ1 h1 hp hr1 hf1
        · rename_i hne
          refine ih1 b φ σ σ' H H' n n' ρ h x N R _ hr hf e fun ψ ρ1 h1 hp hr1 hf1 => ?_
          have := hw ψ ρ1 h1 hp hr1 hf1
          cases x with
          | norm => exact this
          | ret => exact this
          | exit i => exact (hne _ _ _ _ e).elim
      ·
        rename_i b
        let Q : Env → Hp → Nat → Prop := fun ρ1 h1 f1 => f1 ≤ f + 1 ∧ ∃ ψ σ1 H1 n1, PLe φ ψ ∧ HR ψ H1 n1 h0 h1 ∧ FR ψ σ1 ρ1 ∧ exec P call f1 (.loop b) σ1 H1 n1 = some (x, σ', H', n')
        have hQ0 : Q ρ h (f + 1) := ⟨Nat.le_refl _, φ, σ, H, n, PLe.refl _, hr, hf, e⟩
        have hμ : ∀ ρ1 h1 g, Q ρ1 h1 g → ∃ m, Q ρ1 h1 m ∧ ∀ k, Q ρ1 h1 k → m ≤ k := fun ρ1 h1 g hg => least g hg
        refine ⟨fun ρ1 h1 => ∃ g, Q ρ1 h1 g, fun ρ1 h1 => Classical.epsilon fun m => Q ρ1 h1 m ∧ ∀ k, Q ρ1 h1 k → m ≤ k, ⟨_, hQ0⟩, fun ρ1 h1 ⟨g, hg⟩ _ _ => ?_⟩
        have hsp := Classical.epsilon_spec (hμ ρ1 h1 g hg)
        obtain ⟨m, hm⟩ : ∃ m, (Classical.epsilon fun m => Q ρ1 h1 m ∧ ∀ k, Q ρ1 h1 k → m ≤ k) = m := ⟨_, rfl⟩
        rw [hm] at hsp
        obtain ⟨⟨hmle, ψ, σ1, H1, n1, hp, hr1, hf1, e1⟩, _⟩ := hsp
        cases m with
        | zero => cases e1
        | succ m =>
          replace e1 : cw P call (exec P call m) (.loop b) σ1 H1 n1 = some (x, σ', H', n') := e1
          have ih2 := ih m (by omega)
          simp only [cw] at e1
          split at e1
          · rename_i σ2 H2 n2 e2
            refine ih2 b ψ σ1 σ2 H1 H2 n1 n2 ρ1 h1 .norm _ R X hr1 hf1 e2 fun χ ρ2 h2 hp2 hr2 hf2 => ?_
            have hQ2 : Q ρ2 h2 m := ⟨by omega, χ, σ2, H2, n2, hp.trans hp2, hr2, hf2, e1⟩
            refine ⟨h2, Sub.refl _, ⟨m, hQ2⟩, ?_⟩
            have hsp2 := Classical.epsilon_spec (hμ ρ2 h2 m hQ2)
            have := hsp2.2 m hQ2
            (try simp only [hm])
            omega
          · rename_i hne
            refine ih2 b ψ σ1 σ' H1 H' n1 n' ρ1 h1 x _ R X hr1 hf1 e1 fun χ ρ2 h2 hp2 hr2 hf2 => ?_
            have := hw χ ρ2 h2 (hp.trans hp2) hr2 hf2
            cases x with
            | norm => exact (hne _ _ _ e1).elim
            | ret => exact this
            | exit i => exact this
      ·
        injection e with e; injection e with e0 e; injection e with e1 e; injection e with e2 e3
        subst e0 e1 e2 e3
        exact hw φ ρ h (PLe.refl _) hr hf
      ·
        rename_i b
        exact ih1 b φ σ σ' H H' n n' ρ h x N R X hr hf e hw
      ·
        injection e with e; injection e with e0 e; injection e with e1 e; injection e with e2 e3
        subst e0 e1 e2 e3
        exact hw φ ρ h (PLe.refl _) hr hf
      ·
        injection e with e; injection e with e0 e; injection e with e1 e; injection e with e2 e3
        subst e0 e1 e2 e3
        exact hw φ ρ h (PLe.refl _) hr hf
      · cases e
theorem qL : ∀ (l : List AV) (k : Nat) (σ : AE) (t : Nat) (a : AV), (mw l k σ).get t = some a → (k ≤ t ∧ l[t - k]? = some a) ∨ σ.get t = some a
  | [], k, σ, t, a, e => .inr e
  | v :: l, k, σ, t, a, e => by
    rcases qL l (k + 1) _ t a e with ⟨h1, h2⟩ | h
    · refine .inl ⟨by omega, ?_⟩
      obtain ⟨d, rfl⟩ : ∃ d, t = k + 1 + d := ⟨t - (k + 1), by omega⟩
      rw [show k + 1 + d - (k + 1) = d from by omega] at h2
      rw [show k + 1 + d - k = d + 1 from by omega]
      simpa using h2
    · rcases PM.aE cQ σ k t a h with ⟨rfl, h2⟩ | ⟨_, h2⟩
      · exact .inl ⟨Nat.le_refl _, by simpa using h2⟩
      · exact .inr h2
theorem vK {args : List AV} {vs : Array Value} (h : VRs φ args vs.toList) : FR φ (mw args 0 .nil) (iA vs.toList 0) := fun t a e => by
  rcases qL args 0 .nil t a e with ⟨_, h2⟩ | h2
  · obtain ⟨v, h3, h4⟩ := h.at h2
    rw [kO, if_pos (Nat.zero_le _)]
    rw [Nat.sub_zero] at h3 ⊢
    rw [h3]
    exact h4
  · cases h2
theorem mA (hr : HR φ H n h0 h) (hf : FR φ σ ρ) : ∀ (rs : List ResultVar) (vs : List AV) (acc : List Value), uj P σ H rs = some vs → (∀ us, VRs φ vs us → Fin K (sB (acc.reverse ++ us)) h) → m0 P rs acc ρ h K
  | [], vs, acc, e, hk => by
    injection e with e; subst e
    have := hk [] .nil
    simpa [m0] using this
  | .tmp t :: rs, vs, acc, e, hk => by
    simp only [uj, Option.map_eq_some_iff] at e
    obtain ⟨vs', e1, rfl⟩ := e
    refine mA hr hf rs vs' (ρ t :: acc) e1 fun us hus => ?_
    have := hk (ρ t :: us) (.cons (hf.ev (.tmp t)) hus)
    simpa using this
  | .cell a t :: rs, vs, acc, e, hk => by
    simp only [uj] at e
    split at e
    · rename_i v hv
      simp only [Option.map_eq_some_iff] at e
      obtain ⟨vs', e1, rfl⟩ := e
      refine iU hr (hf.ev (.tmp a)) hv fun u hu => ?_
      refine mA hr hf rs vs' (u :: acc) e1 fun us hus => ?_
      have := hk (u :: us) (.cons hu hus)
      simpa using this
    · cases e
theorem vL {vs : List AV} {us : List Value} (h : VRs φ vs us) : VR φ (kQ vs) (sB us) := by
  match vs, us, h with
  | [], us, h => rw [h.aT]; exact .tup (cs := #[]) .nil
  | [a], us, h =>
    obtain ⟨v, ws, rfl, h1, h2⟩ := h.cons_inv
    rw [h2.aT]; exact h1
  | a :: b :: l, us, h =>
    obtain ⟨v, ws, h0, h1, h2⟩ := h.cons_inv
    obtain ⟨v2, ws2, h3, h4, h5⟩ := h2.cons_inv
    subst h0 h3
    exact .tup (cs := (v :: v2 :: ws2).toArray) (by simpa using h)
def vM (P : Program) (f : FuncId) : Bool := eD P f && (match P.funcs[f]? with
  | some fn => (match fn.body with
    | some c => (bh c).all fun t => decide (t < fn.ntmps)
    | none => false)
  | none => false)
end
end Go.Proofs.Ytdfeigkooeeeaaa
namespace Go.Proofs.Ytdfeigkooeeeaaa
open Go Go.RowKit
def eO (w : World) : Hp := ⟨fun b => w.heap[b]?, w.heap.size⟩
theorem xC (w : World) : Is w (eO w) := ⟨rfl, fun _ _ h => h⟩
open Go.ChangeShapes Go.WideShapes Go.ChangeAt
section
variable {H : Type} {enc : TypeId × Value → H} {P : Program} {W W' : World}
theorem sL (hl : laidOutB P = true) (hb : Below W.heap.size W W') : ∀ (ts : List TypeId) (vs : List Value) (ds : List (DataW H)) (ps : List MemPlace), (ts.all fun t => P.readableRec t && decide (t < P.types.size)) = true →
    DataW.TrodAll enc P W 0 (fun _ => true) true ts vs ds ps → (∀ x ∈ ps, x.block < W.heap.size) → DataW.TrodAll enc P W' 0 (fun b => decide (b < W.heap.size)) true ts vs ds ps
  | [], vs, ds, ps, _, h, _ => by
    obtain ⟨rfl, rfl, rfl⟩ := trodAll_nil h
    exact h
  | t :: ts, vs, ds, ps, hr, h, hlt => by
    obtain ⟨v, vs', d, ds', p, q, rfl, rfl, rfl, h1, h2⟩ := trodAll_cons h
    simp only [List.all_cons, Bool.and_eq_true, decide_eq_true_eq] at hr
    exact trodAll_cons_mk (Below.trod hl hr.1.1 hr.1.2 h1 hb fun x hx => hlt x (List.mem_append_left _ hx)) (sL hl hb ts vs' ds' q hr.2 h2 fun x hx => hlt x (List.mem_append_right _ hx))
theorem BX {f : Func} {s : ChangeSpec} {apart fresh handsOn : Bool} {args : Array Value} {ds gs : List (DataW H)} {before : List MemPlace} {tb : TypeId} (hl : laidOutB P = true)
    (hr : (f.params.toList.all fun t => P.readableRec t && decide (t < P.types.size)) = true) (hres : f.resultTypes = #[tb]) (hub : P.underlying tb = some .bool) (hv : s.vars = [])
    (hfn : s.fn H (ds ++ gs) = { results := [.lit (.bool true)], args := ds }) (hW : DataW.Whole enc P f.params.toList s.vars apart W args.toList ds gs before) (hb : Below W.heap.size W W') :
    s.post enc P f apart fresh handsOn false W args (.bool true) W' := by
  have hlt := hW.lt
  have hW2 := hW
  obtain ⟨p, q, h1, h2, rfl, _, _⟩ := hW2
  refine ⟨ds, gs, p ++ q, [], p, [], hW, ?_, ?_, ?_, hb.frame _, fun k => by cases k⟩
  · rw [hfn, hres]
    exact trodAll_mk1 (shut_bool hub true)
  · rw [hfn]
    exact sL hl hb _ _ _ _ hr h1 fun x hx => hlt x (List.mem_append_left _ hx)
  · rw [hfn, hv]
    rfl
end
end Go.Proofs.Ytdfeigkooeeeaaa
namespace Go.Proofs.Ytdfeigkooeeeaaa
open Go Go.RowKit
abbrev KA := AV → AH → Nat → AR
abbrev CQ := FuncId → List AV → AH → Nat → KA → AR
noncomputable def evq (x : Operand) : AE → AV :=
  Operand.rec (fun t σ => aL (pa t) σ) (fun v _ => ofV v) (fun g _ => .any (.pointer (some ⟨g, 0, none⟩))) (fun f _ => .fn f [] []) x
noncomputable def z9 (l : List Operand) : AE → List AV := List.rec (fun _ => []) (fun x _ ih σ => evq x σ :: ih σ) l
noncomputable def vN (a : AV) : (Bool → AR) → AR := AV.rec (motive_1 := fun _ => (Bool → AR) → AR) (motive_2 := fun _ => Unit)
  (fun _ _ _ => none) (fun _ _ => none) (fun b k => k b) (fun _ => none) (fun _ _ _ => none) (fun _ => none) (fun _ _ _ _ _ _ => none) (fun _ _ => none) (fun _ _ _ => none) (fun _ _ _ => none) (fun _ _ _ _ _ _ => none) (fun _ _ => none) (fun _ _ => none) (fun _ => none) (fun _ _ _ => none) (fun _ _ => none) (fun _ _ => none) (fun _ _ _ _ _ _ => none) (fun _ _ _ _ _ _ => none) (fun _ _ _ _ _ => none) (fun _ _ _ _ => none) () (fun _ _ _ _ => ()) a
noncomputable def uw (a : AV) : (IntKind → Int → AR) → AR → AR := AV.rec (motive_1 := fun _ => (IntKind → Int → AR) → AR → AR) (motive_2 := fun _ => Unit)
  (fun i n k _ => k i n) (fun _ _ s => s) (fun _ _ s => s) (fun _ s => s) (fun _ _ _ s => s) (fun _ s => s) (fun _ _ _ _ _ _ s => s) (fun _ _ s => s) (fun _ _ _ s => s) (fun _ _ _ s => s) (fun _ _ _ _ _ _ s => s) (fun _ _ s => s) (fun _ _ s => s) (fun _ s => s) (fun _ _ _ s => s) (fun _ _ s => s) (fun _ _ s => s) (fun _ _ _ _ _ _ s => s) (fun _ _ _ _ _ _ s => s) (fun _ _ _ _ _ s => s) (fun _ _ _ _ s => s) () (fun _ _ _ _ => ()) a
noncomputable def rZ (a : AV) : (Nat → Nat → AR) → AR := AV.rec (motive_1 := fun _ => (Nat → Nat → AR) → AR) (motive_2 := fun _ => Unit)
  (fun _ _ _ => none) (fun _ _ => none) (fun _ _ => none) (fun _ => none) (fun b o k => k b o) (fun _ => none) (fun _ _ _ _ _ _ => none) (fun _ _ => none) (fun _ _ _ => none) (fun _ _ _ => none) (fun _ _ _ _ _ _ => none) (fun _ _ => none) (fun _ _ => none) (fun _ => none) (fun _ _ _ => none) (fun _ _ => none) (fun _ _ => none) (fun _ _ _ _ _ _ => none) (fun _ _ _ _ _ _ => none) (fun _ _ _ _ _ => none) (fun _ _ _ _ => none) () (fun _ _ _ _ => ()) a
noncomputable def Es (a : AV) : (List AV → AR) → AR := AV.rec (motive_1 := fun _ => (List AV → AR) → AR) (motive_2 := fun _ => Unit)
  (fun _ _ _ => none) (fun _ _ => none) (fun _ _ => none) (fun _ => none) (fun _ _ _ => none) (fun _ => none) (fun _ _ _ _ _ _ => none) (fun _ _ => none) (fun _ _ _ => none) (fun l _ k => k l) (fun _ _ _ _ _ _ => none) (fun _ _ => none) (fun _ _ => none) (fun _ => none) (fun _ _ _ => none) (fun _ _ => none) (fun _ _ => none) (fun _ _ _ _ _ _ => none) (fun _ _ _ _ _ _ => none) (fun _ _ _ _ _ => none) (fun _ _ _ _ => none) () (fun _ _ _ _ => ()) a
noncomputable def fnq (a : AV) : (Nat → List AV → List AV → AR) → AR := AV.rec (motive_1 := fun _ => (Nat → List AV → List AV → AR) → AR) (motive_2 := fun _ => Unit)
  (fun _ _ _ => none) (fun _ _ => none) (fun _ _ => none) (fun _ => none) (fun _ _ _ => none) (fun _ => none) (fun _ _ _ _ _ _ => none) (fun _ _ => none) (fun _ _ _ => none) (fun _ _ _ => none) (fun f a c _ _ k => k f a c) (fun _ _ => none) (fun _ _ => none) (fun _ => none) (fun _ _ _ => none) (fun _ _ => none) (fun _ _ => none) (fun _ _ _ _ _ _ => none) (fun _ _ _ _ _ _ => none) (fun _ _ _ _ _ => none) (fun _ _ _ _ => none) () (fun _ _ _ _ => ()) a
noncomputable def jX (o : Option AO) : (List AV → Bool → AR) → AR := Option.rec (fun _ => none) (fun o => AO.rec (fun l z k => k l z) (fun _ _ => none) (fun _ _ => none) (fun _ _ _ _ => none) (fun _ _ => none) o) o
noncomputable def fO {α : Type} (o : Option α) : (α → AR) → AR := Option.rec (fun _ => none) (fun a k => k a) o
noncomputable def Et (b : Bool) : AR → AR → AR := Bool.rec (fun _ e => e) (fun t _ => t) b
noncomputable def vO {α : Type} (l : List α) : Nat → (α → AR) → AR := List.rec (fun _ _ => none) (fun x _ ih n k => Nat.rec (k x) (fun m _ => ih m k) n) l
noncomputable def sM (k j : IntKind) : Bool := IntKind.rec (IntKind.rec true false false false false false false false j) (IntKind.rec false true false false false false false false j) (IntKind.rec false false true false false false false false j) (IntKind.rec false false false true false false false false j)
  (IntKind.rec false false false false true false false false j) (IntKind.rec false false false false false true false false j) (IntKind.rec false false false false false false true false j) (IntKind.rec false false false false false false false true j) k
noncomputable def ltq (a b : Int) : Bool := Int.rec (fun m => Int.rec (fun n => Nat.blt m n) (fun _ => false) b) (fun m => Int.rec (fun _ => true) (fun n => Nat.blt n m) b) a
noncomputable def eqq (a b : Int) : Bool := Int.rec (fun m => Int.rec (fun n => Nat.beq m n) (fun _ => false) b) (fun m => Int.rec (fun _ => false) (fun n => Nat.beq m n) b) a
noncomputable def xD (b : Bool) : Bool := Bool.rec true false b
noncomputable def Ji (x : Int) : Int := Int.rec (fun m => Bool.rec (IntKind.i64.wrap (.ofNat m)) (.ofNat m) (Nat.blt m 9223372036854775808)) (fun m => Bool.rec (IntKind.i64.wrap (.negSucc m)) (.negSucc m) (Nat.blt m 9223372036854775808)) x
noncomputable def Jj (x : Int) : Int := Int.rec (fun m => Bool.rec (IntKind.u64.wrap (.ofNat m)) (.ofNat m) (Nat.blt m 18446744073709551616)) (fun m => IntKind.u64.wrap (.negSucc m)) x
noncomputable def u8q (x : Int) : Int := Int.rec (fun m => Bool.rec (IntKind.u8.wrap (.ofNat m)) (.ofNat m) (Nat.blt m 256)) (fun m => IntKind.u8.wrap (.negSucc m)) x
noncomputable def vP (k : IntKind) : Int → Int := IntKind.rec IntKind.i8.wrap IntKind.i16.wrap IntKind.i32.wrap Ji u8q IntKind.u16.wrap IntKind.u32.wrap Jj k
noncomputable def kp (op : BinOp) (k j : IntKind) (a b : Int) (κ : AV → AR) : AR := fO (mr op k j a b) κ
noncomputable def Gj (k j : IntKind) (a b : Int) (κ : AV → AR) : AR := Et (sM k j) (κ (.int k (vP k (Int.add a b)))) none
noncomputable def Gk (k j : IntKind) (a b : Int) (κ : AV → AR) : AR := Et (sM k j) (κ (.int k (vP k (Int.sub a b)))) none
noncomputable def ux (f : Int → Int → Bool) (k j : IntKind) (a b : Int) (κ : AV → AR) : AR := Et (sM k j) (κ (.bool (f a b))) none
noncomputable def oh (op : BinOp) : IntKind → IntKind → Int → Int → (AV → AR) → AR :=
  BinOp.rec (motive := fun _ => IntKind → IntKind → Int → Int → (AV → AR) → AR) Gj Gk (kp .mul) (kp .quo) (kp .rem) (kp .and) (kp .or) (kp .xor) (kp .shl) (kp .shr) (kp .andNot)
    (ux eqq) (ux fun a b => xD (eqq a b)) (ux ltq) (ux fun a b => xD (ltq b a)) (ux fun a b => ltq b a) (ux fun a b => xD (ltq a b)) op
noncomputable def uy : AC := fun _ _ _ _ => none
abbrev SQ := CQ → AE → AH → Nat → KA → AR
noncomputable def BY (κ : KA) (r : AV × AH × Nat) : AR := Prod.rec (fun v p => Prod.rec (fun H n => κ v H n) p) r
noncomputable def cE (o : Op) : SQ := fun _ σ H n κ => fO (dw Try.prog uy o σ H n) (BY κ)
noncomputable def FQ (x : Operand) : SQ := fun _ σ H n κ => κ (evq x σ) H n
noncomputable def vQ (c a b : Operand) : SQ := fun _ σ H n κ => vN (evq c σ) fun q => Bool.rec (κ (evq b σ) H n) (κ (evq a σ) H n) q
noncomputable def iC (t : TypeId) : Nat := match im Try.prog t with
  | some false => 1
  | some true => (match ax Try.prog t with
    | some n => n + 2
    | none => 0)
  | none => 0
noncomputable def sN (l : List AV) (o : Nat) (k : Nat) (κ : AV → AR) : AR := Nat.rec none (fun k' _ => Nat.rec (vO l o κ) (fun m _ => fO (br l o m) fun r => κ (.agg r)) k') k
noncomputable def H4 (t : TypeId) (a : Operand) : SQ := fun _ σ H n κ => rZ (evq a σ) fun b o => jX (H.get b) fun l _ => sN l o (iC t) fun v => κ v H n
noncomputable def nh (a : AV) : Bool := AV.rec (motive_1 := fun _ => Bool) (motive_2 := fun _ => Unit)
  (fun _ _ => true) (fun _ => true) (fun _ => true) true (fun _ _ => true) true (fun _ _ _ _ _ => true) (fun _ => true) (fun _ _ => false) (fun _ _ => false) (fun _ _ _ _ _ => true) (fun _ => true) (fun _ => false) false (fun _ _ => false) (fun _ => false) (fun _ => false) (fun _ _ _ _ _ => false) (fun _ _ _ _ _ => false) (fun _ _ _ _ => false) (fun _ _ _ => false) () (fun _ _ _ _ => ()) a
noncomputable def oZ (l : List AV) : Nat → AV → (List AV → AR) → AR := List.rec (fun _ _ _ => none) (fun y t ih o v k => Nat.rec (k (v :: t)) (fun m _ => ih m v fun r => k (y :: r)) o) l
noncomputable def ni (t : TypeId) : Bool := match ax Try.prog t with
  | some 1 => true
  | _ => false
noncomputable def uz (t : TypeId) (a x : Operand) : SQ := fun _ σ H n κ => Bool.rec (fO (mu Try.prog t (evq a σ) (evq x σ) H n) (BY κ))
  (rZ (evq a σ) fun b o => jX (H.get b) fun l z => oZ l o (evq x σ) fun r => κ aV (H.set (some (.cells r z)) ag b) n) (Bool.rec false (nh (evq x σ)) (ni t))
noncomputable def BZ (a : AV) : (AV → AR) → AR := AV.rec (motive_1 := fun _ => (AV → AR) → AR) (motive_2 := fun _ => Unit)
  (fun _ _ _ => none) (fun _ _ => none) (fun _ _ => none) (fun _ => none) (fun b o k => k (.ptr b o)) (fun _ => none) (fun _ _ _ _ _ _ => none) (fun _ _ => none) (fun _ _ _ => none) (fun _ _ _ => none) (fun f a c _ _ k => k (.fn f a c)) (fun _ _ => none) (fun _ _ => none) (fun _ => none) (fun _ _ _ => none) (fun _ _ => none) (fun _ _ => none) (fun _ _ _ _ _ _ => none) (fun _ _ _ _ _ _ => none) (fun _ _ _ _ _ => none) (fun _ _ _ _ => none) () (fun _ _ _ _ => ()) a
noncomputable def Jk (x : Operand) : SQ := fun _ σ H n κ => BZ (evq x σ) fun v => κ v H n
noncomputable def Jl (op : BinOp) (t : TypeId) (x y : Operand) (_ : TypeId) : SQ := fun _ σ H n κ => uw (evq x σ) (fun k a => uw (evq y σ) (fun j b => oh op k j a b fun v => κ v H n) none) (fO (po Try.prog op t (evq x σ) (evq y σ) H) fun v => κ v H n)
noncomputable def unS (op : UnOp) (_ : TypeId) (x : Operand) : SQ := fun _ σ H n κ => fO (eun op (evq x σ)) fun v => κ v H n
noncomputable def xE (s : TypeId) (x : Operand) (i : Nat) : SQ := fun _ σ H n κ => rZ (evq x σ) fun b o => fO (gq Try.prog s i) fun p => κ (.ptr b (Nat.add o p.2)) H n
noncomputable def xF (t : TypeId) (x ix : Operand) : SQ := fun _ σ H n κ => fO (fX Try.prog t (evq x σ) (evq ix σ)) fun v => κ v H n
noncomputable def B0 (x : Operand) (i : Nat) : SQ := fun _ σ H n κ => Es (evq x σ) fun l => vO l i fun v => κ v H n
noncomputable def H5 (args : Array Operand) (f : Operand) : SQ := fun call σ H n κ => fnq (evq f σ) fun g a cs => call g (a ++ (z9 args.toList σ ++ cs)) H n κ
noncomputable def H6 (c : Call) : SQ := Callee.rec (fun f => H5 c.args f) (fun _ _ => fun _ _ _ _ _ => none) (fun _ => cE (.call c)) c.callee
noncomputable def vR (o : Op) : SQ := Op.rec (motive := fun _ => SQ)
  FQ
  FQ
  vQ
  (fun a => cE (.alloc a))
  (fun a b => cE (.box a b))
  (fun a b => cE (.build a b))
  (fun a b c => cE (.buildSlice a b c))
  (fun a b c d => cE (.insert a b c d))
  H4
  uz
  (fun a => cE (.ready a))
  (fun a => cE (.waits a))
  Jk
  Jl
  unS
  (fun a b c => cE (.convert a b c))
  (fun a b => cE (.sliceToArrayPointer a b))
  (fun a b => cE (.makeInterface a b))
  (fun a b c => cE (.makeFunc a b c))
  (fun a b => cE (.makeMap a b))
  (fun a b => cE (.makeChan a b))
  (fun a b c => cE (.makeSlice a b c))
  (fun a b c d e => cE (.slice a b c d e))
  xE
  (fun a b c => cE (.field a b c))
  xF
  (fun a b c => cE (.index a b c))
  (fun a b c d => cE (.lookup a b c d))
  (fun a b c d => cE (.mapUpdate a b c d))
  (fun a b c => cE (.mapEntry a b c))
  (fun a b c d => cE (.entryStore a b c d))
  (fun a b => cE (.range a b))
  (fun a b => cE (.next a b))
  (fun a => cE (.entry a))
  (fun a b c d => cE (.typeAssert a b c d))
  B0
  H6
  (fun a => cE (.go a))
  (fun a => cE (.defer a))
  (fun a => cE (.panic a))
  (fun a b => cE (.send a b))
  (fun a b c => cE (.recv a b c))
  (fun a b => cE (.select a b)) o
abbrev KS := AE → AH → Nat → AR
noncomputable def doq (o : Op) (d : Option Nat) : CQ → AE → AH → Nat → KS → AR := fun call σ H n k => vR o call σ H n fun v H n => k (rX d v σ) H n
noncomputable def qM (a : AV) (want : Bool) : AR → AR → AR := AV.rec (motive_1 := fun _ => AR → AR → AR) (motive_2 := fun _ => Unit)
  (fun _ _ _ _ => none) (fun _ _ _ => none) (fun q d s => Bool.rec (Bool.rec d s want) (Bool.rec s d want) q) (fun _ _ => none) (fun _ _ _ _ => none) (fun _ _ => none) (fun _ _ _ _ _ _ _ => none) (fun _ _ _ => none) (fun _ _ _ _ => none) (fun _ _ _ s => s) (fun _ _ _ _ _ _ _ => none) (fun _ _ _ => none) (fun _ _ _ => none) (fun _ _ => none) (fun _ _ _ _ => none) (fun _ _ _ => none) (fun _ _ _ => none) (fun _ _ _ _ _ _ _ => none) (fun _ _ _ _ _ _ _ => none) (fun _ _ _ _ _ _ => none) (fun _ _ _ _ _ => none) () (fun _ _ _ _ => ()) a
noncomputable def Aa (ops : Array Oper) (o : Oper) : CQ → AE → AH → Nat → KS → AR := Option.rec (doq o.op o.dst)
  (fun g call σ H n k => fO (eH ops g.1) fun t => qM (aL (pa t) σ) g.2 (doq o.op o.dst call σ H n k) (k (rX o.dst aV σ) H n)) o.guard
noncomputable def uA (ops : Array Oper) (l : List Oper) : CQ → AE → AH → Nat → KS → AR :=
  List.rec (fun _ σ H n k => k σ H n) (fun o _ ih call σ H n k => Aa ops o call σ H n fun σ H n => ih call σ H n k) l
abbrev XQ := CQ → AE → AH → Nat → KS → (Nat → KS) → KS → AR
noncomputable def H7 (c : Operand) (a b : XQ) : XQ := fun call σ H n kn kx kr => vN (evq c σ) fun q => Bool.rec (b call σ H n kn kx kr) (a call σ H n kn kx kr) q
noncomputable def Gl (id : Nat) (b : XQ) : XQ := fun call σ H n kn kx kr => b call σ H n kn (fun i σ H n => Bool.rec (kx i σ H n) (kn σ H n) (Nat.beq i id)) kr
noncomputable def sO (b : XQ) (f : Nat) : XQ := Nat.rec (fun _ _ _ _ _ _ _ => none) (fun _ ih call σ H n kn kx kr => b call σ H n (fun σ H n => ih call σ H n kn kx kr) kx kr) f
noncomputable def mB (v : AV) (H : AH) (n : Nat) : AR := some (v, H, n)
noncomputable def bz (call : CQ) : AC := fun f args H n => call f args H n mB
noncomputable def H8 (ops : Array Oper) : XQ := fun call σ H n kn _ _ => fO (vD Try.prog (bz call) ops σ H n) fun y => kn y.2.1 y.2.2.1 y.2.2.2
noncomputable def dW (c : Code) : XQ := Code.rec (motive := fun _ => XQ)
  (fun _ σ H n kn _ _ => kn σ H n)
  (fun _ ops draw => Bool.rec (fun call σ H n kn _ _ => uA ops ops.toList call σ H n kn) (Bool.rec (H8 ops) (fun call σ H n kn _ _ => uA ops ops.toList call σ H n kn) (mY Try.prog ops)) draw)
  (fun _ _ a b call σ H n kn kx kr => a call σ H n (fun σ H n => b call σ H n kn kx kr) kx kr)
  (fun c _ _ a b => H7 c a b)
  (fun id _ b => Gl id b)
  (fun _ b => sO b FP)
  (fun _ _ _ _ _ _ _ _ _ _ _ _ _ => none)
  (fun i _ σ H n _ kx _ => kx i σ H n)
  (fun _ b call σ H n kn kx kr => b call σ H n kn kx kr)
  (fun _ _ σ H n kn _ _ => kn σ H n)
  (fun _ _ _ _ _ _ _ _ => none)
  (fun _ σ H n _ _ kr => kr σ H n)
  (fun _ _ _ _ _ _ _ _ => none) c
inductive EQ where
  | no
  | run (c : Code) (rs : List ResultVar) (k : Nat)
  | nat (g : List AV → AH → Nat → KA → AR)
noncomputable def pq (rs : List ResultVar) : AE → AH → (List AV → AR) → AR := List.rec (fun _ _ k => k []) (fun r _ ih σ H k => fO (ResultVar.rec (fun t => some (aL (pa t) σ)) (fun a t => kP Try.prog t (aL (pa a) σ) H) r) fun v => ih σ H fun vs => k (v :: vs)) rs
noncomputable def uB (call : CQ) (c : Code) (rs : List ResultVar) (k : Nat) (args : List AV) (H : AH) (n : Nat) (κ : KA) : AR :=
  Bool.rec none (dW c call (mw args 0 .nil) H n (fun σ H n => pq rs σ H fun vs => κ (kQ vs) H n) (fun _ _ _ _ => none) (fun σ H n => pq rs σ H fun vs => κ (kQ vs) H n)) (Nat.ble args.length k)
noncomputable def nj (F : FuncId → EQ) (d : Nat) : CQ := Nat.rec (fun _ _ _ _ _ => none) (fun _ ih f args H n κ => EQ.rec (fun _ _ _ _ => none) (fun c rs k => uB ih c rs k) (fun g => g) (F f) args H n κ) d
noncomputable def yL (f : FuncId) : Bool := eD Try.prog f && (match Try.prog.funcs[f]? with
  | some fn => (match fn.body with
    | some c => (bh c).all fun t => decide (t < fn.ntmps)
    | none => false)
  | none => false)
noncomputable def B1 (f : FuncId) : EQ := match Try.prog.funcs[f]? with
  | some fn => (match fn.body with
    | some c => .run c fn.results.toList fn.ntmps
    | none => .no)
  | none => .no
noncomputable def evQ (f : FuncId) : EQ := Bool.rec .no (B1 f) (yL f)
end Go.Proofs.Ytdfeigkooeeeaaa
namespace Go.Proofs.Ytdfeigkooeeeaaa
open Go Go.RowKit
section
variable {r : AV × AH × Nat} {σ : AE} {H : AH} {n : Nat} {call : CQ}
theorem cR (x : Operand) (σ : AE) : evq x σ = eev σ x := by cases x <;> rfl
theorem uC : ∀ (l : List Operand) (σ : AE), z9 l σ = l.map (eev σ)
  | [], _ => rfl
  | x :: l, σ => by
    show evq x σ :: z9 l σ = _
    rw [cR, uC l]; rfl
theorem dX {α : Type} {o : Option α} {k : α → AR} (h : fO o k = some r) : ∃ a, o = some a := by
  cases o with
  | none => cases h
  | some a => exact ⟨a, rfl⟩
theorem sP {a : AV} {k : Bool → AR} (h : vN a k = some r) : ∃ q, a = .bool q := by
  cases a <;> first | exact ⟨_, rfl⟩ | cases h
theorem qN {a : AV} {k : Nat → Nat → AR} (h : rZ a k = some r) : ∃ b o, a = .ptr b o := by
  cases a <;> first | exact ⟨_, _, rfl⟩ | cases h
theorem B3 {a : AV} {k : List AV → AR} (h : Es a k = some r) : ∃ l, a = .tup l := by
  cases a <;> first | exact ⟨_, rfl⟩ | cases h
theorem Eu {a : AV} {k : Nat → List AV → List AV → AR} (h : fnq a k = some r) : ∃ f b c, a = .fn f b c := by
  cases a <;> first | exact ⟨_, _, _, rfl⟩ | cases h
theorem qO {o : Option AO} {k : List AV → Bool → AR} (h : jX o k = some r) : ∃ l z, o = some (.cells l z) := by
  cases o with
  | none => cases h
  | some o => cases o <;> first | exact ⟨_, _, rfl⟩ | cases h
theorem qQ (a : AV) : (∃ k i, a = .int k i) ∨ ∀ f s, uw a f s = s := by
  cases a <;> first | exact .inl ⟨_, _, rfl⟩ | exact .inr fun _ _ => rfl
theorem qR {α : Type} : ∀ {l : List α} {i : Nat} {k : α → AR}, vO l i k = some r → ∃ a, nth l i = some a ∧ ∀ k', vO l i k' = k' a
  | [], i, k, h => by cases h
  | x :: l, 0, k, h => ⟨x, rfl, fun _ => rfl⟩
  | x :: l, i + 1, k, h => by
    have h : vO l i k = some r := h
    obtain ⟨a, h1, h2⟩ := qR h
    exact ⟨a, h1, h2⟩
theorem np (k j : IntKind) : sM k j = decide (k = j) := by cases k <;> cases j <;> rfl
theorem oi (a b : Int) : ltq a b = decide (a < b) := by
  cases a with
  | ofNat m =>
    cases b with
    | ofNat n =>
      show Nat.blt m n = _
      rw [Bool.eq_iff_iff, Nat.blt_eq, decide_eq_true_eq]
      simp only [Int.ofNat_eq_natCast]; omega
    | negSucc n =>
      show false = _
      symm; rw [decide_eq_false_iff_not]
      simp only [Int.ofNat_eq_natCast, Int.negSucc_eq]; omega
  | negSucc m =>
    cases b with
    | ofNat n =>
      show true = _
      symm; rw [decide_eq_true_eq]
      simp only [Int.ofNat_eq_natCast, Int.negSucc_eq]; omega
    | negSucc n =>
      show Nat.blt n m = _
      rw [Bool.eq_iff_iff, Nat.blt_eq, decide_eq_true_eq]
      simp only [Int.negSucc_eq]; omega
theorem uD (a b : Int) : eqq a b = decide (a = b) := by
  cases a with
  | ofNat m =>
    cases b with
    | ofNat n =>
      show Nat.beq m n = _
      rw [Bool.eq_iff_iff, Nat.beq_eq, decide_eq_true_eq]
      simp only [Int.ofNat_eq_natCast]; omega
    | negSucc n =>
      show false = _
      symm; rw [decide_eq_false_iff_not]
      simp only [Int.ofNat_eq_natCast, Int.negSucc_eq]; omega
  | negSucc m =>
    cases b with
    | ofNat n =>
      show false = _
      symm; rw [decide_eq_false_iff_not]
      simp only [Int.ofNat_eq_natCast, Int.negSucc_eq]; omega
    | negSucc n =>
      show Nat.beq m n = _
      rw [Bool.eq_iff_iff, Nat.beq_eq, decide_eq_true_eq]
      simp only [Int.negSucc_eq]; omega
theorem uE (b : Bool) : xD b = !b := by cases b <;> rfl
theorem vS (k : IntKind) (x : Int) : vP k x = k.wrap x := by
  have pick : ∀ {b : Bool} {u v : Int}, (b = true → v = u) → (Bool.rec u v b : Int) = u := fun {b u v} h => by
    cases b with
    | false => rfl
    | true => exact h rfl
  cases k <;> try rfl
  case i64 =>
    cases x with
    | ofNat m =>
      refine pick fun h => ?_
      rw [Nat.blt_eq] at h
      rw [IntKind.wrap_i64]; simp only [Int.ofNat_eq_natCast]; omega
    | negSucc m =>
      refine pick fun h => ?_
      rw [Nat.blt_eq] at h
      rw [IntKind.wrap_i64]; simp only [Int.negSucc_eq]; omega
  case u8 =>
    cases x with
    | ofNat m =>
      refine pick fun h => ?_
      rw [Nat.blt_eq] at h
      rw [IntKind.wrap_u8]; simp only [Int.ofNat_eq_natCast]; omega
    | negSucc m => rfl
  case u64 =>
    cases x with
    | ofNat m =>
      refine pick fun h => ?_
      rw [Nat.blt_eq] at h
      rw [IntKind.wrap_u64]; simp only [Int.ofNat_eq_natCast]; omega
    | negSucc m => rfl
theorem qS {b : Bool} {t : AR} (h : Et b t none = some r) : b = true := by
  cases b with
  | true => rfl
  | false => cases h
theorem vT {op : BinOp} {k j : IntKind} {a b : Int} {κ : AV → AR} (h : oh op k j a b κ = some r) : ∃ v, mr op k j a b = some v ∧ ∀ κ', oh op k j a b κ' = κ' v := by
  have slow : ∀ {op}, kp op k j a b κ = some r → ∃ v, mr op k j a b = some v ∧ ∀ κ', kp op k j a b κ' = κ' v := fun {op} h => by
    obtain ⟨v, hv⟩ := dX h
    exact ⟨v, hv, fun κ' => by unfold kp; rw [hv]; rfl⟩
  have cmp : ∀ {f : Int → Int → Bool}, ux f k j a b κ = some r → k = j ∧ ∀ κ', ux f k j a b κ' = κ' (.bool (f a b)) := fun {f} h => by
    have hb := qS h
    refine ⟨by rw [np] at hb; simpa using hb, fun κ' => ?_⟩
    unfold ux; rw [hb]; rfl
  cases op <;> first | exact slow h | skip
  case add =>
    have hb := qS h
    have hk : k = j := by rw [np] at hb; simpa using hb
    refine ⟨.int k (vP k (Int.add a b)), ?_, fun κ' => ?_⟩
    · (try simp only [mr, if_pos hk, vS]); rfl
    · show Gj k j a b κ' = _
      unfold Gj; rw [hb]; rfl
  case sub =>
    have hb := qS h
    have hk : k = j := by rw [np] at hb; simpa using hb
    refine ⟨.int k (vP k (Int.sub a b)), ?_, fun κ' => ?_⟩
    · (try simp only [mr, if_pos hk, vS]); rfl
    · show Gk k j a b κ' = _
      unfold Gk; rw [hb]; rfl
  case eql =>
    obtain ⟨hk, h2⟩ := cmp (f := eqq) h
    exact ⟨_, by simp only [mr, if_pos hk, uD], h2⟩
  case neq =>
    obtain ⟨hk, h2⟩ := cmp (f := fun a b => xD (eqq a b)) h
    exact ⟨_, by simp only [mr, if_pos hk, uD, uE], h2⟩
  case lss =>
    obtain ⟨hk, h2⟩ := cmp (f := ltq) h
    exact ⟨_, by simp only [mr, if_pos hk, oi], h2⟩
  case leq =>
    obtain ⟨hk, h2⟩ := cmp (f := fun a b => xD (ltq b a)) h
    refine ⟨_, ?_, h2⟩
    (try simp only [mr, if_pos hk, oi, uE])
    congr 2; rw [Bool.eq_iff_iff]; simp
  case gtr =>
    obtain ⟨hk, h2⟩ := cmp (f := fun a b => ltq b a) h
    exact ⟨_, by simp only [mr, if_pos hk, oi], h2⟩
  case geq =>
    obtain ⟨hk, h2⟩ := cmp (f := fun a b => xD (ltq a b)) h
    refine ⟨_, ?_, h2⟩
    (try simp only [mr, if_pos hk, oi, uE])
    congr 2; rw [Bool.eq_iff_iff]; simp
def CQN (call : CQ) : Prop := ∀ f args H n κ r, call f args H n κ = some r → ∃ v H' n', ∀ κ', call f args H n κ' = κ' v H' n'
theorem uF {P : Program} {c : AC} {o : Op} {y : AV × AH × Nat} (h : dw P uy o σ H n = some y) : dw P c o σ H n = some y := by
  cases o <;> try exact h
  case makeMap t x => cases x <;> exact h
  case call cl =>
    obtain ⟨callee, args, ats⟩ := cl
    cases callee with
    | value f =>
      simp only [dw] at h
      split at h <;> cases h
    | invoke _ _ => exact h
    | builtin b => cases b <;> exact h
theorem qT {o : Op} {κ : KA} (h : cE o call σ H n κ = some r) : ∃ v H' n', dw Try.prog (bz call) o σ H n = some (v, H', n') ∧ ∀ κ', cE o call σ H n κ' = κ' v H' n' := by
  obtain ⟨⟨v, H', n'⟩, hy⟩ := dX h
  refine ⟨v, H', n', uF hy, fun κ' => ?_⟩
  unfold cE; rw [hy]; rfl
theorem dL {o : Op} {v : AV} (hs : aD o = false) (h : cv Try.prog o σ H = some v) : dw Try.prog (bz call) o σ H n = some (v, H, n) := qH hs h
theorem xG {t : TypeId} {l : List AV} {o : Nat} {κ : AV → AR} (h : sN l o (iC t) κ = some r) : ∃ v, (match im Try.prog t with
      | some false => nth l o
      | some true => (match ax Try.prog t with
        | some n => (br l o n).map .agg
        | none => none)
      | none => none) = some v ∧ ∀ κ', sN l o (iC t) κ' = κ' v := by
  unfold iC at h ⊢
  cases hg : im Try.prog t with
  | none => rw [hg] at h; cases h
  | some q =>
    rw [hg] at h
    cases q with
    | false =>
      have h : vO l o κ = some r := h
      obtain ⟨v, h1, h2⟩ := qR h
      exact ⟨v, h1, h2⟩
    | true =>
      dsimp only at h ⊢
      cases hz : ax Try.prog t with
      | none => rw [hz] at h; cases h
      | some m =>
        rw [hz] at h
        have h : fO (br l o m) (fun x => κ (.agg x)) = some r := h
        obtain ⟨x, hx⟩ := dX h
        refine ⟨.agg x, by dsimp only; rw [hx]; rfl, fun κ' => ?_⟩
        show fO (br l o m) (fun x => κ' (.agg x)) = _
        rw [hx]; rfl
theorem qU {v : AV} : ∀ {l : List AV} {o : Nat} {k : List AV → AR}, oZ l o v k = some r → ∃ l', gZ l o [v] = some l' ∧ ∀ k', oZ l o v k' = k' l'
  | [], o, k, h => by cases h
  | y :: t, 0, k, h => ⟨v :: t, by simp only [gZ]; cases t <;> rfl, fun _ => rfl⟩
  | y :: t, o + 1, k, h => by
    have h : oZ t o v (fun x => k (y :: x)) = some r := h
    obtain ⟨l', h1, h2⟩ := qU h
    refine ⟨y :: l', by simp only [gZ, h1]; rfl, fun k' => ?_⟩
    show oZ t o v (fun x => k' (y :: x)) = _
    rw [h2]
theorem r8 {v : AV} (h : nh v = true) : v.cells = [v] ∧ okC v = true ∧ m7 v = true := by
  cases v <;> first | exact ⟨rfl, rfl, rfl⟩ | cases h
theorem vU {t : TypeId} {a x : Operand} {κ : KA} (h : uz t a x call σ H n κ = some r) : ∃ v H' n', dw Try.prog (bz call) (.store t a x) σ H n = some (v, H', n') ∧ ∀ κ', uz t a x call σ H n κ' = κ' v H' n' := by
  show ∃ v H' n', mu Try.prog t (eev σ a) (eev σ x) H n = some (v, H', n') ∧ _
  unfold uz at h ⊢
  cases hc : (Bool.rec false (nh (evq x σ)) (ni t) : Bool) with
  | false =>
    rw [hc] at h
    obtain ⟨⟨v, H', n'⟩, hy⟩ := dX h
    refine ⟨v, H', n', by rw [← cR, ← cR]; exact hy, fun κ' => ?_⟩
    show fO _ (BY κ') = _
    rw [hy]; rfl
  | true =>
    rw [hc] at h
    have hs : ni t = true := by cases hz : ni t with
      | true => rfl
      | false => rw [hz] at hc; cases hc
    rw [hs] at hc
    have hc : nh (evq x σ) = true := hc
    obtain ⟨c1, c2, c3⟩ := r8 hc
    have hsz : ax Try.prog t = some 1 := by
      unfold ni at hs
      split at hs
      · assumption
      · cases hs
    have h : rZ (evq a σ) (fun b o => jX (H.get b) fun l z => oZ l o (evq x σ) fun x => κ aV (H.set (some (.cells x z)) ag b) n) = some r := h
    obtain ⟨b, o, hp⟩ := qN h
    rw [hp] at h
    have h : jX (H.get b) (fun l z => oZ l o (evq x σ) fun x => κ aV (H.set (some (.cells x z)) ag b) n) = some r := h
    obtain ⟨l, z, hl⟩ := qO h
    rw [hl] at h
    have h : oZ l o (evq x σ) (fun x => κ aV (H.set (some (.cells x z)) ag b) n) = some r := h
    obtain ⟨l', s1, s2⟩ := qU h
    refine ⟨aV, H.set (some (.cells l' z)) ag b, n, ?_, fun κ' => ?_⟩
    · rw [← cR, ← cR, hp]
      (try simp only [mu, hl, hsz, c1, c2, s1])
      simp [c3]
    · show rZ (evq a σ) _ = _
      rw [hp]
      show jX (H.get b) _ = _
      rw [hl]
      exact s2 _
theorem B4 {a : AV} {k : AV → AR} (h : BZ a k = some r) : (∃ b o, a = .ptr b o) ∨ ∃ f b c, a = .fn f b c := by
  cases a <;> first | exact .inl ⟨_, _, rfl⟩ | exact .inr ⟨_, _, _, rfl⟩ | cases h
theorem xH (hc : CQN call) {o : Op} {κ : KA} (h : vR o call σ H n κ = some r) : ∃ v H' n', dw Try.prog (bz call) o σ H n = some (v, H', n') ∧ ∀ κ', vR o call σ H n κ' = κ' v H' n' := by
  cases o <;> first | exact qT h | skip
  case move x => exact ⟨eev σ x, H, n, rfl, fun κ' => by rw [← cR]; rfl⟩
  case assign x => exact ⟨eev σ x, H, n, rfl, fun κ' => by rw [← cR]; rfl⟩
  case pick c a b =>
    have h : vQ c a b call σ H n κ = some r := h
    unfold vQ at h
    obtain ⟨q, hq⟩ := sP h
    have key : ∀ κ', vR (.pick c a b) call σ H n κ' = (Bool.rec (κ' (evq b σ) H n) (κ' (evq a σ) H n) q : AR) := fun κ' => by
      show vQ c a b call σ H n κ' = _
      unfold vQ; rw [hq]; rfl
    cases q with
    | true => exact ⟨eev σ a, H, n, dL rfl (by simp only [cv, ← cR c, hq]), fun κ' => by rw [key, ← cR]⟩
    | false => exact ⟨eev σ b, H, n, dL rfl (by simp only [cv, ← cR c, hq]), fun κ' => by rw [key, ← cR]⟩
  case load t a =>
    have h : rZ (evq a σ) (fun b o => jX (H.get b) fun l _ => sN l o (iC t) fun v => κ v H n) = some r := h
    obtain ⟨b, o, hp⟩ := qN h
    rw [hp] at h
    have h : jX (H.get b) (fun l _ => sN l o (iC t) fun v => κ v H n) = some r := h
    obtain ⟨l, z, hl⟩ := qO h
    rw [hl] at h
    have h : sN l o (iC t) (fun v => κ v H n) = some r := h
    obtain ⟨v, h1, h2⟩ := xG h
    refine ⟨v, H, n, dL rfl ?_, fun κ' => ?_⟩
    · simp only [cv, ← cR, hp, kP, hl]; exact h1
    · show rZ (evq a σ) _ = _
      rw [hp]
      show jX (H.get b) _ = _
      rw [hl]
      exact h2 _
  case store t a x => exact vU h
  case nilCheck x =>
    have h : BZ (evq x σ) (fun v => κ v H n) = some r := h
    rcases B4 h with ⟨b, o, hp⟩ | ⟨f, b, c, hp⟩
    · exact ⟨.ptr b o, H, n, dL rfl (by simp only [cv, ← cR, hp]), fun κ' => by
        show BZ (evq x σ) _ = _
        rw [hp]; rfl⟩
    · exact ⟨.fn f b c, H, n, dL rfl (by simp only [cv, ← cR, hp]), fun κ' => by
        show BZ (evq x σ) _ = _
        rw [hp]; rfl⟩
  case binOp op t x y t' =>
    have h : uw (evq x σ) (fun k a => uw (evq y σ) (fun j b => oh op k j a b fun v => κ v H n) none) (fO (po Try.prog op t (evq x σ) (evq y σ) H) fun v => κ v H n) = some r := h
    have e0 : ∀ v, po Try.prog op t (evq x σ) (evq y σ) H = some v → dw Try.prog (bz call) (.binOp op t x y t') σ H n = some (v, H, n) := fun v hv => dL rfl (by simp only [cv, ← cR]; exact hv)
    rcases qQ (evq x σ) with ⟨k, i, hx⟩ | hx
    · rw [hx] at h
      have h : uw (evq y σ) (fun j b => oh op k j i b fun v => κ v H n) none = some r := h
      rcases qQ (evq y σ) with ⟨j, i2, hy⟩ | hy
      · rw [hy] at h
        have h : oh op k j i i2 (fun v => κ v H n) = some r := h
        obtain ⟨v, h1, h2⟩ := vT h
        refine ⟨v, H, n, e0 v (by rw [hx, hy]; exact h1), fun κ' => ?_⟩
        show uw (evq x σ) _ _ = _
        rw [hx]
        show uw (evq y σ) _ _ = _
        rw [hy]
        exact h2 _
      · rw [hy] at h; cases h
    · rw [hx] at h
      obtain ⟨v, hv⟩ := dX h
      refine ⟨v, H, n, e0 v hv, fun κ' => ?_⟩
      show uw (evq x σ) _ _ = _
      rw [hx, hv]; rfl
  case unOp op t x =>
    have h : fO (eun op (evq x σ)) (fun v => κ v H n) = some r := h
    obtain ⟨v, hv⟩ := dX h
    refine ⟨v, H, n, dL rfl (by simp only [cv, ← cR]; exact hv), fun κ' => ?_⟩
    show fO (eun op (evq x σ)) _ = _
    rw [hv]; rfl
  case fieldAddr s x i =>
    have h : rZ (evq x σ) (fun b o => fO (gq Try.prog s i) fun p => κ (.ptr b (Nat.add o p.2)) H n) = some r := h
    obtain ⟨b, o, hp⟩ := qN h
    rw [hp] at h
    have h : fO (gq Try.prog s i) (fun p => κ (.ptr b (Nat.add o p.2)) H n) = some r := h
    obtain ⟨⟨t, off⟩, ht⟩ := dX h
    refine ⟨.ptr b (o + off), H, n, dL rfl (by simp only [cv, ← cR, hp, jO, ht]), fun κ' => ?_⟩
    show rZ (evq x σ) _ = _
    rw [hp]
    show fO (gq Try.prog s i) _ = _
    rw [ht]; rfl
  case indexAddr t x ix =>
    have h : fO (fX Try.prog t (evq x σ) (evq ix σ)) (fun v => κ v H n) = some r := h
    obtain ⟨v, hv⟩ := dX h
    refine ⟨v, H, n, dL rfl (by simp only [cv, ← cR]; exact hv), fun κ' => ?_⟩
    show fO (fX Try.prog t (evq x σ) (evq ix σ)) _ = _
    rw [hv]; rfl
  case extract x i =>
    have h : Es (evq x σ) (fun l => vO l i fun v => κ v H n) = some r := h
    obtain ⟨l, hl⟩ := B3 h
    rw [hl] at h
    have h : vO l i (fun v => κ v H n) = some r := h
    obtain ⟨v, h1, h2⟩ := qR h
    refine ⟨v, H, n, dL rfl (by simp only [cv, ← cR, hl, m8]; exact h1), fun κ' => ?_⟩
    show Es (evq x σ) _ = _
    rw [hl]
    exact h2 _
  case call c =>
    obtain ⟨callee, args, ats⟩ := c
    cases callee with
    | invoke _ _ => cases h
    | builtin b => exact qT (o := .call ⟨.builtin b, args, ats⟩) h
    | value f =>
      have h : fnq (evq f σ) (fun g a cs => call g (a ++ (z9 args.toList σ ++ cs)) H n κ) = some r := h
      obtain ⟨g, a, cs, hf⟩ := Eu h
      rw [hf] at h
      have h : call g (a ++ (z9 args.toList σ ++ cs)) H n κ = some r := h
      obtain ⟨v, H', n', hv⟩ := hc _ _ _ _ _ _ h
      refine ⟨v, H', n', ?_, fun κ' => ?_⟩
      · simp only [dw, ← cR, hf, bz]
        rw [List.append_assoc]
        have e : args.toList.map (fun x => evq x σ) = z9 args.toList σ := by
          rw [uC]; exact List.map_congr_left fun x _ => cR x σ
        first
          | (rw [e, hv]; rfl)
          | (rw [← uC, hv]; rfl)
      · show fnq (evq f σ) _ = _
        rw [hf]
        exact hv κ'
theorem vV (hc : CQN call) {o : Op} {d : Option Nat} {k : KS} (h : doq o d call σ H n k = some r) : ∃ v H' n', dw Try.prog (bz call) o σ H n = some (v, H', n') ∧ ∀ k', doq o d call σ H n k' = k' (rX d v σ) H' n' := by
  have h : vR o call σ H n (fun v H n => k (rX d v σ) H n) = some r := h
  obtain ⟨v, H', n', h1, h2⟩ := xH hc h
  exact ⟨v, H', n', h1, fun k' => h2 _⟩
theorem Ab {a : AV} {want : Bool} {d s : AR} (h : qM a want d s = some r) : (∃ q, a = .bool q) ∨ ∃ l, a = .tup l := by
  cases a <;> first | exact .inl ⟨_, rfl⟩ | exact .inr ⟨_, rfl⟩ | cases h
theorem Ac (hc : CQN call) {ops : Array Oper} {o : Oper} {k : KS} (h : Aa ops o call σ H n k = some r) : ∃ σ1 H1 n1, (∀ k', Aa ops o call σ H n k' = k' σ1 H1 n1) ∧ ∀ kk : AE → AH → Nat → AS, eop Try.prog (bz call) ops o kk σ H n = kk σ1 H1 n1 := by
  unfold Aa at h ⊢
  unfold eop
  cases hg : o.guard with
  | none =>
    rw [hg] at h
    obtain ⟨v, H', n', h1, h2⟩ := vV hc h
    exact ⟨_, _, _, h2, fun kk => by simp only [h1, bR]⟩
  | some g =>
    obtain ⟨j, want⟩ := g
    rw [hg] at h
    have h : fO (eH ops j) (fun t => qM (aL (pa t) σ) want (doq o.op o.dst call σ H n k) (k (rX o.dst aV σ) H n)) = some r := h
    obtain ⟨t, ht⟩ := dX h
    rw [ht] at h
    have h : qM (aL (pa t) σ) want (doq o.op o.dst call σ H n k) (k (rX o.dst aV σ) H n) = some r := h
    (try simp only [ht])
    rcases Ab h with ⟨q, hq⟩ | ⟨l, hq⟩
    · rw [hq] at h
      by_cases hw : q = want
      · subst hw
        have h : doq o.op o.dst call σ H n k = some r := by cases q <;> exact h
        obtain ⟨v, H', n', h1, h2⟩ := vV hc h
        refine ⟨rX o.dst v σ, H', n', fun k' => ?_, fun kk => ?_⟩
        · show qM (aL (pa t) σ) _ _ _ = _
          rw [hq]; refine Eq.trans ?_ (h2 k'); cases q <;> rfl
        · (try simp only [hq, beq_self_eq_true, h1, bR])
      · refine ⟨rX o.dst aV σ, H, n, fun k' => ?_, fun kk => ?_⟩
        · show qM (aL (pa t) σ) _ _ _ = _
          rw [hq]; cases q <;> cases want <;> first | rfl | exact absurd rfl hw
        · have : (q == want) = false := by simpa using hw
          (try simp only [hq, this, bR])
    · refine ⟨rX o.dst aV σ, H, n, fun k' => ?_, fun kk => ?_⟩
      · show qM (aL (pa t) σ) _ _ _ = _
        rw [hq]; rfl
      · (try simp only [hq, bR])
theorem oj (hc : CQN call) {ops : Array Oper} : ∀ {l : List Oper} {σ : AE} {H : AH} {n : Nat} {k : KS}, uA ops l call σ H n k = some r → ∃ σ' H' n', ui Try.prog (bz call) ops l σ H n = some (.norm, σ', H', n') ∧ ∀ k', uA ops l call σ H n k' = k' σ' H' n'
  | [], σ, H, n, k, h => ⟨σ, H, n, rfl, fun _ => rfl⟩
  | o :: l, σ, H, n, k, h => by
    have h : Aa ops o call σ H n (fun σ H n => uA ops l call σ H n k) = some r := h
    obtain ⟨σ1, H1, n1, h1, h2⟩ := Ac hc h
    rw [h1] at h
    obtain ⟨σ', H', n', h3, h4⟩ := oj hc h
    refine ⟨σ', H', n', ?_, fun k' => ?_⟩
    · show eop Try.prog (bz call) ops o (ui Try.prog (bz call) ops l) σ H n = _
      rw [h2]; exact h3
    · show Aa ops o call σ H n (fun σ H n => uA ops l call σ H n k') = _
      rw [h1, h4]
theorem xI {P : Program} {c : AC} {ih ih' : Code → AE → AH → Nat → AS} (hi : ∀ c σ H n y, ih c σ H n = some y → ih' c σ H n = some y) (cd : Code) (σ : AE) (H : AH) (n : Nat) (y : EX × AE × AH × Nat) (h : cw P c ih cd σ H n = some y) : cw P c ih' cd σ H n = some y := by
  cases cd <;> simp only [cw] at h ⊢ <;> try exact h
  case scope b => exact hi _ _ _ _ _ h
  case seq a b =>
    split at h
    · rename_i σ1 H1 n1 e1
      rw [hi _ _ _ _ _ e1]
      exact hi _ _ _ _ _ h
    · rename_i hne
      rw [hi _ _ _ _ _ h]
      obtain ⟨e, σ1, H1, n1⟩ := y
      cases e with
      | norm => exact (hne _ _ _ h).elim
      | ret => rfl
      | exit i => rfl
  case cond cd a b =>
    split at h
    · exact hi _ _ _ _ _ h
    · exact hi _ _ _ _ _ h
    · cases h
  case block id b =>
    split at h
    · rename_i i σ1 H1 n1 e1
      rw [hi _ _ _ _ _ e1]
      exact h
    · rename_i hne
      rw [hi _ _ _ _ _ h]
      obtain ⟨e, σ1, H1, n1⟩ := y
      cases e with
      | norm => rfl
      | ret => rfl
      | exit i => exact (hne _ _ _ _ h).elim
  case loop b =>
    split at h
    · rename_i σ1 H1 n1 e1
      rw [hi _ _ _ _ _ e1]
      exact hi _ _ _ _ _ h
    · rename_i hne
      rw [hi _ _ _ _ _ h]
      obtain ⟨e, σ1, H1, n1⟩ := y
      cases e with
      | norm => exact (hne _ _ _ h).elim
      | ret => rfl
      | exit i => rfl
theorem sR {P : Program} {c : AC} : ∀ (f : Nat) (cd : Code) (σ : AE) (H : AH) (n : Nat) (y : EX × AE × AH × Nat), exec P c f cd σ H n = some y → exec P c (f + 1) cd σ H n = some y
  | 0, _, _, _, _, _, h => by cases h
  | f + 1, cd, σ, H, n, y, h => by
    have h : cw P c (exec P c f) cd σ H n = some y := h
    exact xI (sR f) cd σ H n y h
theorem pD {P : Program} {c : AC} {f g : Nat} (hle : f ≤ g) {cd : Code} {y : EX × AE × AH × Nat} (h : exec P c f cd σ H n = some y) : exec P c g cd σ H n = some y := by
  induction hle with
  | refl => exact h
  | step _ ih => exact sR _ _ _ _ _ _ ih
def sS (kn : KS) (kx : Nat → KS) (kr : KS) : EX → KS
  | .norm => kn
  | .exit i => kx i
  | .ret => kr
def FT (b : XQ) (c : Code) (call : CQ) : Prop := ∀ (σ : AE) (H : AH) (n : Nat) (kn : KS) (kx : Nat → KS) (kr : KS) (r : AV × AH × Nat), b call σ H n kn kx kr = some r →
  ∃ e σ' H' n', (∃ f, exec Try.prog (bz call) f c σ H n = some (e, σ', H', n')) ∧ ∀ kn kx kr, b call σ H n kn kx kr = sS kn kx kr e σ' H' n'
theorem xJ (hc : CQN call) (c : Code) : FT (dW c) c call := by
  induction c with
  | skip => exact fun σ H n kn kx kr r h => ⟨.norm, σ, H, n, ⟨1, rfl⟩, fun _ _ _ => rfl⟩
  | region id ops draw =>
    intro σ H n kn kx kr r h
    cases hd : draw with
    | false =>
      subst hd
      have h : uA ops ops.toList call σ H n kn = some r := h
      obtain ⟨σ', H', n', h1, h2⟩ := oj hc h
      exact ⟨.norm, σ', H', n', ⟨1, h1⟩, fun kn kx kr => h2 kn⟩
    | true =>
      subst hd
      have red : ∀ kn kx kr, dW (.region id ops true) call σ H n kn kx kr = (Bool.rec (H8 ops) (fun call σ H n kn _ _ => uA ops ops.toList call σ H n kn) (mY Try.prog ops) : XQ) call σ H n kn kx kr := fun _ _ _ => rfl
      cases hs : mY Try.prog ops with
      | true =>
        rw [red, hs] at h
        have h : uA ops ops.toList call σ H n kn = some r := h
        obtain ⟨σ', H', n', h1, h2⟩ := oj hc h
        refine ⟨.norm, σ', H', n', ⟨1, ?_⟩, fun kn kx kr => ?_⟩
        · show cw Try.prog (bz call) (exec Try.prog (bz call) 0) (.region id ops true) σ H n = _
          simp only [cw, hs, Bool.not_true, Bool.and_false]; exact h1
        · rw [red, hs]; exact h2 kn
      | false =>
        rw [red, hs] at h
        have h : fO (vD Try.prog (bz call) ops σ H n) (fun y => kn y.2.1 y.2.2.1 y.2.2.2) = some r := h
        obtain ⟨⟨e, σ', H', n'⟩, hy⟩ := dX h
        have he : e = .norm := by
          unfold vD at hy
          split at hy
          · split at hy
            · injection hy with hy; injection hy with hy; exact hy.symm
            · cases hy
          · cases hy
        subst he
        refine ⟨.norm, σ', H', n', ⟨1, ?_⟩, fun kn kx kr => ?_⟩
        · show cw Try.prog (bz call) (exec Try.prog (bz call) 0) (.region id ops true) σ H n = _
          simp only [cw, hs, Bool.not_false, Bool.and_true]; exact hy
        · rw [red, hs]
          show fO (vD Try.prog (bz call) ops σ H n) _ = _
          rw [hy]; rfl
  | seq a b iha ihb =>
    intro σ H n kn kx kr r h
    have h : dW a call σ H n (fun σ H n => dW b call σ H n kn kx kr) kx kr = some r := h
    obtain ⟨e, σ1, H1, n1, ⟨f1, h1⟩, h2⟩ := iha _ _ _ _ _ _ _ h
    have red : ∀ kn kx kr, dW (.seq a b) call σ H n kn kx kr = sS (fun σ H n => dW b call σ H n kn kx kr) kx kr e σ1 H1 n1 := fun kn kx kr => h2 _ _ _
    rw [h2] at h
    cases e with
    | norm =>
      have h : dW b call σ1 H1 n1 kn kx kr = some r := h
      obtain ⟨e', σ', H', n', ⟨f2, h3⟩, h4⟩ := ihb _ _ _ _ _ _ _ h
      refine ⟨e', σ', H', n', ⟨max f1 f2 + 1, ?_⟩, fun kn kx kr => (red kn kx kr).trans (h4 kn kx kr)⟩
      show cw Try.prog (bz call) (exec Try.prog (bz call) (max f1 f2)) (.seq a b) σ H n = _
      simp only [cw, pD (Nat.le_max_left f1 f2) h1, pD (Nat.le_max_right f1 f2) h3]
    | ret =>
      refine ⟨.ret, σ1, H1, n1, ⟨f1 + 1, ?_⟩, fun kn kx kr => red kn kx kr⟩
      show cw Try.prog (bz call) (exec Try.prog (bz call) f1) (.seq a b) σ H n = _
      (try simp only [cw, h1])
    | exit i =>
      refine ⟨.exit i, σ1, H1, n1, ⟨f1 + 1, ?_⟩, fun kn kx kr => red kn kx kr⟩
      show cw Try.prog (bz call) (exec Try.prog (bz call) f1) (.seq a b) σ H n = _
      (try simp only [cw, h1])
  | cond cd a b iha ihb =>
    intro σ H n kn kx kr r h
    have h : vN (evq cd σ) (fun q => (Bool.rec (dW b call σ H n kn kx kr) (dW a call σ H n kn kx kr) q : AR)) = some r := h
    obtain ⟨q, hq⟩ := sP h
    rw [hq] at h
    have red : ∀ kn kx kr, dW (.cond cd a b) call σ H n kn kx kr = (Bool.rec (dW b call σ H n kn kx kr) (dW a call σ H n kn kx kr) q : AR) := fun kn kx kr => by
      show vN (evq cd σ) _ = _
      rw [hq]; rfl
    cases q with
    | true =>
      obtain ⟨e, σ1, H1, n1, ⟨f1, h1⟩, h2⟩ := iha _ _ _ _ _ _ _ h
      refine ⟨e, σ1, H1, n1, ⟨f1 + 1, ?_⟩, fun kn kx kr => (red kn kx kr).trans (h2 kn kx kr)⟩
      show cw Try.prog (bz call) (exec Try.prog (bz call) f1) (.cond cd a b) σ H n = _
      simp only [cw, ← cR, hq, h1]
    | false =>
      obtain ⟨e, σ1, H1, n1, ⟨f1, h1⟩, h2⟩ := ihb _ _ _ _ _ _ _ h
      refine ⟨e, σ1, H1, n1, ⟨f1 + 1, ?_⟩, fun kn kx kr => (red kn kx kr).trans (h2 kn kx kr)⟩
      show cw Try.prog (bz call) (exec Try.prog (bz call) f1) (.cond cd a b) σ H n = _
      simp only [cw, ← cR, hq, h1]
  | block id b ih =>
    intro σ H n kn kx kr r h
    have h : dW b call σ H n kn (fun i σ H n => (Bool.rec (kx i σ H n) (kn σ H n) (Nat.beq i id) : AR)) kr = some r := h
    obtain ⟨e, σ1, H1, n1, ⟨f1, h1⟩, h2⟩ := ih _ _ _ _ _ _ _ h
    have red : ∀ kn kx kr, dW (.block id b) call σ H n kn kx kr = sS kn (fun i σ H n => (Bool.rec (kx i σ H n) (kn σ H n) (Nat.beq i id) : AR)) kr e σ1 H1 n1 := fun kn kx kr => h2 _ _ _
    cases e with
    | norm =>
      refine ⟨.norm, σ1, H1, n1, ⟨f1 + 1, ?_⟩, fun kn kx kr => red kn kx kr⟩
      show cw Try.prog (bz call) (exec Try.prog (bz call) f1) (.block id b) σ H n = _
      (try simp only [cw, h1])
    | ret =>
      refine ⟨.ret, σ1, H1, n1, ⟨f1 + 1, ?_⟩, fun kn kx kr => red kn kx kr⟩
      show cw Try.prog (bz call) (exec Try.prog (bz call) f1) (.block id b) σ H n = _
      (try simp only [cw, h1])
    | exit i =>
      cases hb : Nat.beq i id with
      | true =>
        refine ⟨.norm, σ1, H1, n1, ⟨f1 + 1, ?_⟩, fun kn kx kr => (red kn kx kr).trans (by simp only [sS, hb])⟩
        show cw Try.prog (bz call) (exec Try.prog (bz call) f1) (.block id b) σ H n = _
        (try simp only [cw, h1, hb])
      | false =>
        refine ⟨.exit i, σ1, H1, n1, ⟨f1 + 1, ?_⟩, fun kn kx kr => (red kn kx kr).trans (by simp only [sS, hb])⟩
        show cw Try.prog (bz call) (exec Try.prog (bz call) f1) (.block id b) σ H n = _
        (try simp only [cw, h1, hb])
  | loop b ih =>
    have key : ∀ F, FT (sO (dW b) F) (.loop b) call := by
      intro F
      induction F with
      | zero => intro σ H n kn kx kr r h; cases h
      | succ F ihF =>
        intro σ H n kn kx kr r h
        have h : dW b call σ H n (fun σ H n => sO (dW b) F call σ H n kn kx kr) kx kr = some r := h
        obtain ⟨e, σ1, H1, n1, ⟨f1, h1⟩, h2⟩ := ih _ _ _ _ _ _ _ h
        have red : ∀ kn kx kr, sO (dW b) (F + 1) call σ H n kn kx kr = sS (fun σ H n => sO (dW b) F call σ H n kn kx kr) kx kr e σ1 H1 n1 := fun kn kx kr => h2 _ _ _
        rw [h2] at h
        cases e with
        | norm =>
          have h : sO (dW b) F call σ1 H1 n1 kn kx kr = some r := h
          obtain ⟨e', σ', H', n', ⟨f2, h3⟩, h4⟩ := ihF _ _ _ _ _ _ _ h
          refine ⟨e', σ', H', n', ⟨max f1 f2 + 1, ?_⟩, fun kn kx kr => (red kn kx kr).trans (h4 kn kx kr)⟩
          show cw Try.prog (bz call) (exec Try.prog (bz call) (max f1 f2)) (.loop b) σ H n = _
          simp only [cw, pD (Nat.le_max_left f1 f2) h1, pD (Nat.le_max_right f1 f2) h3]
        | ret =>
          refine ⟨.ret, σ1, H1, n1, ⟨f1 + 1, ?_⟩, fun kn kx kr => red kn kx kr⟩
          show cw Try.prog (bz call) (exec Try.prog (bz call) f1) (.loop b) σ H n = _
          (try simp only [cw, h1])
        | exit i =>
          refine ⟨.exit i, σ1, H1, n1, ⟨f1 + 1, ?_⟩, fun kn kx kr => red kn kx kr⟩
          show cw Try.prog (bz call) (exec Try.prog (bz call) f1) (.loop b) σ H n = _
          (try simp only [cw, h1])
    exact fun σ H n kn kx kr r h => key FP σ H n kn kx kr r h
  | exit i => exact fun σ H n kn kx kr r h => ⟨.exit i, σ, H, n, ⟨1, rfl⟩, fun _ _ _ => rfl⟩
  | ret => exact fun σ H n kn kx kr r h => ⟨.ret, σ, H, n, ⟨1, rfl⟩, fun _ _ _ => rfl⟩
  | label l => exact fun σ H n kn kx kr r h => ⟨.norm, σ, H, n, ⟨1, rfl⟩, fun _ _ _ => rfl⟩
  | scope b ih =>
    intro σ H n kn kx kr r h
    have h : dW b call σ H n kn kx kr = some r := h
    obtain ⟨e, σ1, H1, n1, ⟨f1, h1⟩, h2⟩ := ih _ _ _ _ _ _ _ h
    exact ⟨e, σ1, H1, n1, ⟨f1 + 1, h1⟩, fun kn kx kr => h2 kn kx kr⟩
  | _ => intro σ H n kn kx kr r h; cases h
theorem om : ∀ {rs : List ResultVar} {σ : AE} {H : AH} {k : List AV → AR}, pq rs σ H k = some r → ∃ vs, uj Try.prog σ H rs = some vs ∧ ∀ k', pq rs σ H k' = k' vs
  | [], σ, H, k, h => ⟨[], rfl, fun _ => rfl⟩
  | .tmp t :: rs, σ, H, k, h => by
    have h : pq rs σ H (fun vs => k (aL (pa t) σ :: vs)) = some r := h
    obtain ⟨vs, h1, h2⟩ := om h
    refine ⟨aL (pa t) σ :: vs, by simp only [uj, h1]; rfl, fun k' => ?_⟩
    show pq rs σ H (fun vs => k' (aL (pa t) σ :: vs)) = _
    rw [h2]
  | .cell a t :: rs, σ, H, k, h => by
    have h : fO (kP Try.prog t (aL (pa a) σ) H) (fun v => pq rs σ H fun vs => k (v :: vs)) = some r := h
    obtain ⟨v, hv⟩ := dX h
    rw [hv] at h
    have h : pq rs σ H (fun vs => k (v :: vs)) = some r := h
    obtain ⟨vs, h1, h2⟩ := om h
    refine ⟨v :: vs, by simp only [uj, show eev σ (.tmp a) = aL (pa a) σ from rfl, hv, h1]; rfl, fun k' => ?_⟩
    show fO (kP Try.prog t (aL (pa a) σ) H) (fun v => pq rs σ H fun vs => k' (v :: vs)) = _
    rw [hv]
    exact h2 _
theorem sT (hc : CQN call) {c : Code} {rs : List ResultVar} {m : Nat} {args : List AV} {κ : KA} (h : uB call c rs m args H n κ = some r) :
    args.length ≤ m ∧ ∃ f e σ' H' n' vs, exec Try.prog (bz call) f c (mw args 0 .nil) H n = some (e, σ', H', n') ∧ (∀ i, e ≠ .exit i) ∧ uj Try.prog σ' H' rs = some vs ∧ ∀ κ', uB call c rs m args H n κ' = κ' (kQ vs) H' n' := by
  cases hb : Nat.ble args.length m with
  | false =>
    unfold uB at h
    rw [hb] at h; cases h
  | true =>
    have red : ∀ κ', uB call c rs m args H n κ' = dW c call (mw args 0 .nil) H n (fun σ H n => pq rs σ H fun vs => κ' (kQ vs) H n) (fun _ _ _ _ => none) (fun σ H n => pq rs σ H fun vs => κ' (kQ vs) H n) := fun κ' => by
      unfold uB; rw [hb]
    rw [red] at h
    obtain ⟨e, σ', H', n', ⟨f, h1⟩, h2⟩ := xJ hc c _ _ _ _ _ _ _ h
    rw [h2] at h
    have hne : ∀ i, e ≠ .exit i := fun i q => by subst q; cases h
    have h : pq rs σ' H' (fun vs => κ (kQ vs) H' n') = some r := by
      cases e with
      | norm => exact h
      | ret => exact h
      | exit i => exact (hne i rfl).elim
    obtain ⟨vs, h3, h4⟩ := om h
    refine ⟨Nat.le_of_ble_eq_true hb, f, e, σ', H', n', vs, h1, hne, h3, fun κ' => ?_⟩
    rw [red, h2]
    cases e with
    | norm => exact h4 _
    | ret => exact h4 _
    | exit i => exact (hne i rfl).elim
def Ev (g : List AV → AH → Nat → KA → AR) : Prop := ∀ args H n κ r, g args H n κ = some r → ∃ v H' n', ∀ κ', g args H n κ' = κ' v H' n'
def xK (F : FuncId → EQ) : Prop := ∀ f, match F f with
  | .no => True
  | .run c rs m => vM Try.prog f = true ∧ ∃ fn, Try.prog.funcs[f]? = some fn ∧ fn.body = some c ∧ fn.results.toList = rs ∧ fn.ntmps = m
  | .nat g => Ev g ∧ COk Try.prog f fun args H n => g args H n mB
theorem mC {F : FuncId → EQ} (d : Nat) {f : FuncId} {args : List AV} {κ : KA} : nj F (d + 1) f args H n κ = (EQ.rec (fun _ _ _ _ => none) (fun c rs k => uB (nj F d) c rs k) (fun g => g) (F f) : List AV → AH → Nat → KA → AR) args H n κ := rfl
theorem sU {F : FuncId → EQ} (hF : xK F) : ∀ d, CQN (nj F d)
  | 0 => fun f args H n κ r h => by cases h
  | d + 1 => fun f args H n κ r h => by
    have hf := hF f
    rw [mC] at h
    (try simp only [mC])
    cases hFf : F f with
    | no => rw [hFf] at h; cases h
    | run c rs m =>
      rw [hFf] at h
      have h : uB (nj F d) c rs m args H n κ = some r := h
      obtain ⟨_, fu, e, σ', H', n', vs, _, _, _, h4⟩ := sT (sU hF d) h
      exact ⟨_, _, _, h4⟩
    | nat g =>
      rw [hFf] at h hf
      exact hf.1 args H n κ r h
theorem o0 {F : FuncId → EQ} (hm : Try.prog.follows .mixedOrders = true) (hF : xK F) : ∀ d f, COk Try.prog f (bz (nj F d) f)
  | 0, f => fun args H n v H' n' e => by cases e
  | d + 1, f => fun args H n v H' n' e φ h0 h vs K hr hargs hk => by
    have hf := hF f
    have e : nj F (d + 1) f args H n mB = some (v, H', n') := e
    rw [mC] at e
    cases hFf : F f with
    | no => rw [hFf] at e; cases e
    | nat g =>
      rw [hFf] at e hf
      exact hf.2 args H n v H' n' e φ h0 h vs K hr hargs hk
    | run c rs m =>
      rw [hFf] at e hf
      have e : uB (nj F d) c rs m args H n mB = some (v, H', n') := e
      obtain ⟨hle, fu, x, σ', G, p, us, h1, h2, h3, h4⟩ := sT (sU hF d) e
      rw [h4] at e
      have e : some (kQ us, G, p) = some (v, H', n') := e
      injection e with e; injection e with e1 e2; injection e2 with e2 e3
      subst e1 e2 e3
      obtain ⟨hok, fn, hfn, hb, hrs, hnt⟩ := hf
      subst hrs hnt
      simp only [vM, hfn, hb, Bool.and_eq_true] at hok
      obtain ⟨hic, hds⟩ := hok
      have hal := hargs.length
      refine ⟨hic, vx hm hfn hb rfl rfl hds (by simpa [hal] using hle) fun _ => ?_⟩
      refine xB (o0 hm hF d) h0 fu c φ _ σ' H G n p _ h x _ _ _ hr (vK hargs) h1 fun ψ ρ' h' hp hr' hf' => ?_
      have fin : m0 Try.prog fn.results.toList [] ρ' h' K := mA hr' hf' fn.results.toList us [] h3 fun ws hws => .here (hk ψ _ h' hp hr' (by simpa using vL hws))
      cases x with
      | norm => exact fin
      | ret => exact fin
      | exit i => exact (h2 i rfl).elim
theorem Gm : xK evQ := fun f => by
  unfold evQ
  cases h : yL f with
  | false => trivial
  | true =>
    show match B1 f with
      | .no => True
      | .run c rs m => vM Try.prog f = true ∧ ∃ fn, Try.prog.funcs[f]? = some fn ∧ fn.body = some c ∧ fn.results.toList = rs ∧ fn.ntmps = m
      | .nat g => Ev g ∧ COk Try.prog f fun args H n => g args H n mB
    unfold B1
    split
    · trivial
    · rename_i c rs m hb
      split at hb
      · rename_i fn hfn
        split at hb
        · rename_i c' hc'
          injection hb with q1 q2 q3
          subst q1 q2 q3
          exact ⟨h, fn, hfn, hc', rfl, rfl⟩
        · cases hb
      · cases hb
    · rename_i g hb
      split at hb
      · split at hb <;> cases hb
      · cases hb
end
end Go.Proofs.Ytdfeigkooeeeaaa
namespace Go.Proofs.Ytdfeigkooeeeaaa
open Go Go.RowKit
theorem HR.grow {φ : Ph} {H : AH} {n : Nat} {h0 h g : Hp} (hr : HR φ H n h0 h) (hs : ∀ b o, h.f b = some o → g.f b = some o) (hn : h.n ≤ g.n) : HR φ H n h0 g :=
  ⟨fun b p e => ⟨(hr.dom b p e).1, Nat.lt_of_lt_of_le (hr.dom b p e).2 hn⟩, fun b o e =>
    (hr.live b o e).imp id fun ⟨p, ob, h1, h2, h3, h4⟩ => ⟨p, ob, h1, h2, hs _ _ h3, h4⟩, hr.inj, fun b o e => ⟨Nat.lt_of_lt_of_le (hr.base b o e).1 hn, hs _ _ (hr.base b o e).2⟩, Nat.le_trans hr.size hn, fun q hq => ⟨⟨(hr.frz q hq).1.1.grow hn (by obtain ⟨_, c, t, fz, h1, _⟩ := (hr.frz q hq).1.1; rw [h1, hs _ _ h1]), (hr.frz q hq).1.2⟩, (hr.frz q hq).2⟩, hr.rY hn (fun _ _ h => ⟨h, rfl⟩) (fun _ h => h) (fun _ h => .inl h) (fun x Q B hx hB => by obtain ⟨o, ho⟩ := Q.ex _ _ _ B (hr.sep x Q hx).1 hB; rw [ho, hs _ _ ho]) fun b' o' p' e1 e2 e3 => .inl ⟨b', o', p', e1, e2, e3, rfl⟩⟩
theorem ga {h : Hp} (hw : Wf h) : HR Ph.no .nil 0 h h :=
  ⟨fun _ _ k => (by cases k), fun _ _ k => (by cases k), fun _ _ _ _ _ _ k => (by cases k), fun b o k => ⟨hw b o k, k⟩, Nat.le_refl _, fun _ k => k.elim, fun _ _ k => by cases k⟩
theorem xL {r : AR} (h : isTrue r = true) : ∃ H n, r = some (.bool true, H, n) := by
  unfold isTrue at h
  split at h
  · exact ⟨_, _, rfl⟩
  · cases h
def yM (args : List AV) (H : AH) (n : Nat) (κ : KA) : AR := match args with
  | [] => κ (.bool true) H n
  | _ => none
theorem B5 {F : FuncId → EQ} (hF : xK F) {d : Nat} {f : FuncId} (he : isTrue (nj F d f [] .nil 0 mB) = true) : COk Try.prog f fun args H n => yM args H n mB := fun args H n v H' n' e φ h0 h vs K hr hargs hk => by
  cases args with
  | cons _ _ => cases e
  | nil =>
    injection e with e; injection e with e1 e2; injection e2 with e2 e3
    subst e1 e2 e3
    obtain ⟨H1, n1, e4⟩ := xL he
    have hv : vs = #[] := by
      have := hargs.aT
      cases vs; simp_all
    subst hv
    have key : ∀ {g : Hp} {K : KH}, Wf g → (∀ u g', (∀ b o, g.f b = some o → g'.f b = some o) → g.n ≤ g'.n → u = .bool true → K u g') → fS Try.prog f #[] g K := fun {g K} hw hK =>
      o0 (by kernel_rfl) hF d f [] .nil 0 _ H1 n1 e4 Ph.no g g #[] K (ga hw) .nil fun ψ u g' _ hg hu => hK u g' (fun b o hb => (hg.base b o hb).2) hg.size hu.aP
    have hic : eD Try.prog f = true := (key (g := ⟨fun _ => none, 0⟩) (K := fun _ _ => True) (fun _ _ q => by cases q) fun _ _ _ _ _ => trivial).1
    refine ⟨hic, fun w hi => ?_⟩
    exact (key hi.wf fun u g' h1 h2 h3 => by
      subst h3
      exact hk φ _ g' (PLe.refl _) (hr.grow h1 h2) (.bool true)).2 w hi
end Go.Proofs.Ytdfeigkooeeeaaa
namespace Go.Proofs.Ytdfeigkooeeeaaa
open Go Go.RowKit
section
variable {P : Program} {ops : Array Oper}
theorem B6 {m i : Nat} {o : Oper} (h : (ops.extract 0 m)[i]? = some o) : i < m ∧ ops[i]? = some o := by
  rw [Array.getElem?_extract] at h
  split at h
  · rename_i q
    exact ⟨by omega, by simpa using h⟩
  · cases h
theorem Gn {m i : Nat} {o : Oper} (hi : i < m) (h : ops[i]? = some o) : (ops.extract 0 m)[i]? = some o := by
  have := (Array.getElem?_eq_some_iff.1 h).1
  rw [Array.getElem?_extract, if_pos (by omega)]
  simpa using h
theorem Ad {m : Nat} {o : Oper} {ρ : Env} {h : Hp} {K : Env → Hp → Prop} (k : aK P (ops.extract 0 m) o ρ h K) : aK P ops o ρ h K := by
  unfold aK at k ⊢
  split
  · rename_i e; rw [e] at k; exact k
  · rename_i j want e
    rw [e] at k
    dsimp only at k ⊢
    cases hg : eH (ops.extract 0 m) j with
    | none => rw [hg] at k; exact k.elim
    | some t =>
      have : eH ops j = some t := by
        unfold eH at hg ⊢
        cases ho : (ops.extract 0 m)[j]? with
        | none => rw [ho] at hg; cases hg
        | some o' => rw [ho] at hg; rw [(B6 ho).2]; exact hg
      rw [hg] at k
      rw [this]
      exact k
theorem vW {l : Array Bool} {i j : Nat} (hi : i < l.size) : (l.setIfInBounds i true).getD j false = if j = i then true else l.getD j false := by
  rw [Array.getD_eq_getD_getElem?, Array.getD_eq_getD_getElem?, Array.getElem?_setIfInBounds]
  by_cases e : j = i
  · subst e; simp [hi]
  · rw [if_neg e, if_neg (Ne.symm e)]
theorem B7 {m : Nat} (hm : m ≤ ops.size) {ρ : Env} {h : Hp} {N N' : Env → Hp → Prop} (hed : iT ops = true)
    (ht : ∀ i, m ≤ i → i < ops.size → ∀ listed : Array Bool, Down ops listed → (∀ o, ops[i]? = some o → ∀ e ∈ o.after, Region.binds .any e = true → listed.getD e.on false = true) → ∀ j, j < i → listed.getD j false = true)
    (hp : ub P (ops.extract 0 m) ρ h N') (hN : ∀ ρ h, N' ρ h → fg P ops (ops.toList.drop m) ρ h N) : ub P ops ρ h N := by
  obtain ⟨_, I, h0, hs, hf⟩ := hp
  have hsz' : (ops.extract 0 m).size = m := by rw [Array.size_extract]; omega
  rw [hsz'] at h0 hs hf
  have tail : ∀ (k : Nat) (listed : Array Bool) (i : Nat) (o : Oper) (ρ : Env) (h : Hp), m ≤ k → ops[i]? = some o → listed.size = ops.size → (∀ j, j < ops.size → (listed.getD j false = true ↔ j < k)) → listed.getD i false = false → Down ops listed →
      (∀ e ∈ o.after, Region.binds .any e = true → listed.getD e.on false = true) → fg P ops (ops.toList.drop k) ρ h N →
      i = k ∧ aK P ops o ρ h fun ρ' h' => fg P ops (ops.toList.drop (k + 1)) ρ' h' N := fun k listed i o ρ h hk ho hsz hl hun hdn hedge ha => by
    have hi : i < ops.size := (Array.getElem?_eq_some_iff.1 ho).1
    have hik : k ≤ i := by
      refine Nat.le_of_not_lt fun q => ?_
      rw [(hl i hi).2 q] at hun; cases hun
    have hall := ht i (by omega) hi listed hdn (fun o' ho' e he hb => by rw [ho] at ho'; injection ho' with ho'; subst ho'; exact hedge e he hb)
    have hki : i = k := by
      refine Nat.le_antisymm (Nat.le_of_not_lt fun q => ?_) hik
      have := (hl k (by omega)).1 (hall k q)
      omega
    subst hki
    refine ⟨rfl, ?_⟩
    have e : ops.toList.drop i = o :: ops.toList.drop (i + 1) := by
      have h2 : ops.toList[i]? = some o := by simpa using ho
      obtain ⟨h3, h4⟩ := List.getElem?_eq_some_iff.1 h2
      rw [List.drop_eq_getElem_cons h3, h4]
    rw [e] at ha
    exact mo ha
  refine ⟨hed, fun listed ρ h => (∃ L' : Array Bool, L'.size = m ∧ (∀ j, j < m → L'.getD j false = listed.getD j false) ∧ (∀ j, m ≤ j → listed.getD j false = false) ∧ I L' ρ h) ∨
    ∃ k, m ≤ k ∧ k ≤ ops.size ∧ (∀ j, j < ops.size → (listed.getD j false = true ↔ j < k)) ∧ fg P ops (ops.toList.drop k) ρ h N, ?_, ?_, ?_⟩
  · refine .inl ⟨Array.replicate m false, by simp, fun j _ => ?_, fun j _ => ?_, h0⟩
    · simp [Array.getD]
    · simp [Array.getD]
  · intro listed i o ρ h hsz hdn ho hun hedge hJ hw
    have hi : i < ops.size := (Array.getElem?_eq_some_iff.1 ho).1
    have set1 : ∀ j, (listed.setIfInBounds i true).getD j false = if j = i then true else listed.getD j false := fun j => vW (by omega)
    rcases hJ with ⟨L', hL, hl, hno, hI⟩ | ⟨k, hk, hks, hl, ha⟩
    · by_cases him : i < m
      · have hds : Down (ops.extract 0 m) L' := fun j o' ho' hj e he hb => by
          obtain ⟨hjm, ho2⟩ := B6 ho'
          rw [hl j hjm] at hj
          have h1 := hdn j o' ho2 hj e he hb
          have hem : e.on < m := by
            refine Nat.lt_of_not_le fun q => ?_
            rw [hno e.on q] at h1; cases h1
          rw [hl e.on hem]; exact h1
        have hg := hs L' i o ρ h hL hds (Gn him ho) (by rw [hl i him]; exact hun) (fun e he hb => by
          have h1 := hedge e he hb
          have hem : e.on < m := by
            refine Nat.lt_of_not_le fun q => ?_
            rw [hno e.on q] at h1; cases h1
          rw [hl e.on hem]; exact h1) hI hw
        refine dB (fun v h' hk => .inl ⟨L'.setIfInBounds i true, by simpa using hL, fun j hj => ?_, fun j hj => ?_, hk⟩) (Ad hg)
        · rw [set1, vW (by omega), hl j hj]
        · rw [set1, if_neg (by omega)]; exact hno j hj
      · have hall := ht i (by omega) hi listed hdn (fun o' ho' e he hb => by rw [ho] at ho'; injection ho' with ho'; subst ho'; exact hedge e he hb)
        have hend : fg P ops (ops.toList.drop m) ρ h N := hN ρ h (hf L' ρ h hL (fun j hj => by rw [hl j hj]; exact hall j (by omega)) hI)
        obtain ⟨e, hg⟩ := tail m listed i o ρ h (Nat.le_refl _) ho hsz (fun j hj => ⟨fun q => Nat.lt_of_not_le fun q2 => (by rw [hno j q2] at q; cases q), fun q => hall j (by omega)⟩) hun hdn hedge hend
        refine dB (fun v h' hk => .inr ⟨m + 1, by omega, by omega, fun j hj => ?_, hk⟩) hg
        rw [set1]
        by_cases e2 : j = i
        · rw [if_pos e2]; simp; omega
        · rw [if_neg e2]
          refine ⟨fun q => ?_, fun q => hall j (by omega)⟩
          refine Nat.lt_of_not_le fun q2 => ?_
          rw [hno j (by omega)] at q; cases q
    · obtain ⟨e, hg⟩ := tail k listed i o ρ h hk ho hsz hl hun hdn hedge ha
      refine dB (fun v h' hk' => .inr ⟨k + 1, by omega, by omega, fun j hj => ?_, hk'⟩) hg
      rw [set1]
      by_cases e2 : j = i
      · rw [if_pos e2]; simp; omega
      · rw [if_neg e2, hl j hj]; omega
  · intro listed ρ h hsz hall hJ
    rcases hJ with ⟨L', hL, hl, hno, hI⟩ | ⟨k, hk, hks, hl, ha⟩
    · have hms : m = ops.size := by
        refine Nat.le_antisymm hm (Nat.le_of_not_lt fun q => ?_)
        have := hno m (Nat.le_refl _)
        rw [hall m q] at this; cases this
      have := hN ρ h (hf L' ρ h hL (fun j hj => by rw [hl j hj]; exact hall j (by omega)) hI)
      rw [List.drop_eq_nil_of_le (by simp; omega)] at this
      exact this
    · have hks2 : k = ops.size := by
        refine Nat.le_antisymm hks (Nat.le_of_not_lt fun q => ?_)
        have := (hl k q).1 (hall k q)
        omega
      rw [List.drop_eq_nil_of_le (by simp; omega)] at ha
      exact ha
def Ae (ops : Array Oper) (m : Nat) : Array Oper := ⟨ops.toList.take m⟩
theorem Ew (ops : Array Oper) (m : Nat) : Ae ops m = ops.extract 0 m := by
  apply Array.ext'
  simp [Ae]
end
end Go.Proofs.Ytdfeigkooeeeaaa
namespace Go.Proofs.Ytdfeigkooeeeaaa
open Go Go.RowKit
abbrev PK := AV → AH → Nat → Prop
abbrev CP := FuncId → List AV → AH → Nat → PK → Prop
abbrev KP := AE → AH → Nat → Prop
def cj {α : Type} (o : Option α) (k : α → Prop) : Prop := match o with
  | some a => k a
  | none => False
def dF (b : Bool) (t e : Prop) : Prop := match b with
  | true => t
  | false => e
structure ab (b : Bool) (A B : Prop) : Prop where
  t : b = true → A
  f : b = false → B
theorem ab.dec {p : Prop} [Decidable p] {A B : Prop} (t : p → A) (f : ¬ p → B) : ab (decide p) A B := ⟨fun h => t (of_decide_eq_true h), fun h => f (of_decide_eq_false h)⟩
theorem ab.gQ {p : Prop} [Decidable p] {A B : Prop} (t : ¬ p → A) (f : p → B) : ab (!decide p) A B := ⟨fun h => t (by simpa using h), fun h => f (by simpa using h)⟩
inductive Ask {α : Type} (o : Option α) (κ : α → Prop) : Prop where
  | mk (a : α) (h : o = some a) (k : κ a)
inductive Idx (i : Int) (len : Nat) (κ : Nat → Prop) : Prop where
  | mk (j : Nat) (h : i = (j : Int)) (lt : j < len) (k : κ j)
def hd : AV → AV
  | .si k n => .int k n
  | .sb b => .bool b
  | .ss s => .str s
  | .sy b o n c k => .sl b o n c k
  | v => v
def mk : AV → AV
  | .int k n => .si k n
  | .bool b => .sb b
  | .str s => .ss s
  | .sl b o n c k => .sy b o n c k
  | v => v
def isS : AV → Bool
  | .si _ _ => true
  | .sb _ => true
  | .ss _ => true
  | .sy _ _ _ _ _ => true
  | _ => false
theorem ab.sb {A B : Prop} {b : Bool} (t : b = true → A) (f : b = false → B) : ab b A B := ⟨t, f⟩
theorem ab.nsb {A B : Prop} {b : Bool} (t : b = false → A) (f : b = true → B) : ab (!b) A B := ⟨fun h => t (by simpa using h), fun h => f (by simpa using h)⟩
def Af (op : BinOp) (k j : IntKind) (a b : Int) (c : Bool) (κ : AV → Prop) : Prop := match op with
  | .shl => (match c with
    | true => dF (ltq b 0) False (κ (.si k (k.wrap (a * 2 ^ min b.toNat k.bits))))
    | false => 0 ≤ b ∧ κ (.si k (k.wrap (a * 2 ^ min b.toNat k.bits))))
  | .shr => (match c with
    | true => dF (ltq b 0) False (κ (.si k (a.fdiv (2 ^ min b.toNat k.bits))))
    | false => 0 ≤ b ∧ κ (.si k (a.fdiv (2 ^ min b.toNat k.bits))))
  | op => dF (sM k j) (match op with
    | .add => κ (.si k (k.wrap (a + b)))
    | .sub => κ (.si k (k.wrap (a - b)))
    | .mul => κ (.si k (k.wrap (a * b)))
    | .quo => (match c with
      | true => dF (eqq b 0) False (κ (.si k (k.wrap (a.tdiv b))))
      | false => b ≠ 0 ∧ κ (.si k (k.wrap (a.tdiv b))))
    | .rem => (match c with
      | true => dF (eqq b 0) False (κ (.si k (a.tmod b)))
      | false => b ≠ 0 ∧ κ (.si k (a.tmod b)))
    | .and => κ (.si k (gD .and k a b))
    | .or => κ (.si k (gD .or k a b))
    | .xor => κ (.si k (gD .xor k a b))
    | .andNot => κ (.si k (gD .andNot k a b))
    | .eql => κ (.sb (decide (a = b)))
    | .neq => κ (.sb (!decide (a = b)))
    | .lss => κ (.sb (decide (a < b)))
    | .leq => κ (.sb (decide (a ≤ b)))
    | .gtr => κ (.sb (decide (b < a)))
    | .geq => κ (.sb (decide (b ≤ a)))
    | _ => False) False
def Ag (op : BinOp) (a b : List Nat) (κ : AV → Prop) : Prop := match op with
  | .add => a.length + b.length ≤ 9223372036854775807 ∧ κ (.ss (a ++ b))
  | .eql => κ (.sb (bg a b))
  | .neq => κ (.sb (!bg a b))
  | .lss => κ (.sb (ltL a b))
  | .leq => κ (.sb (ltL a b || bg a b))
  | .gtr => κ (.sb (!(ltL a b || bg a b)))
  | .geq => κ (.sb (!ltL a b))
  | _ => False
noncomputable def B8 (op : BinOp) (t : TypeId) (a b : Bool) (κ : AV → Prop) : Prop := dF (pB Try.prog t) (match op with
  | .eql => κ (.sb (a == b))
  | .neq => κ (.sb (!(a == b)))
  | _ => False) False
noncomputable def Ah (op : BinOp) (t : TypeId) (x y : AV) (H : AH) (κ : AV → Prop) : Prop := match x, y with
  | .int k a, .int j b => cj (mr op k j a b) κ
  | .int k a, .si j b => Af op k j a b false κ
  | .si k a, .int j b => Af op k j a b true κ
  | .si k a, .si j b => Af op k j a b false κ
  | .ss a, .ss b => Ag op a b κ
  | .ss a, .str b => Ag op a b κ
  | .str a, .ss b => Ag op a b κ
  | .sb a, .sb b => B8 op t a b κ
  | .sb a, .bool b => B8 op t a b κ
  | .bool a, .sb b => B8 op t a b κ
  | .agg xs, .agg ys => dF (xs.any isS || ys.any isS) (cj (po Try.prog op t (.agg (xs.map hd)) (.agg (ys.map hd)) H) fun v => κ (mk v)) (cj (po Try.prog op t (.agg xs) (.agg ys) H) κ)
  | x, y => cj (po Try.prog op t x y H) κ
noncomputable def unP (op : UnOp) (x : AV) (κ : AV → Prop) : Prop := match op, x with
  | .not, .sb b => κ (.sb (!b))
  | .neg, .si k n => κ (.si k (k.wrap (0 - n)))
  | .xor, .si k n => κ (.si k (gD .xor k (if k.signed then -1 else k.max) n))
  | op, x => cj (eun op x) κ
def vX (c : AV) (A B : Prop) : Prop := match c with
  | .bool true => A
  | .bool false => B
  | .sb q => ab q A B
  | _ => False
def lK (P : Program) (t : TypeId) : Option IntKind := match P.underlying t with
  | some (.int k) => some k
  | _ => none
noncomputable def un3 (κ : PK) (r : AV × AH × Nat) : Prop := Prod.rec (fun v q => Prod.rec (fun H n => κ v H n) q) r
noncomputable def vY (o : Op) (σ : AE) (H : AH) (n : Nat) (κ : PK) : Prop := cj (dw Try.prog uy o σ H n) (un3 κ)
noncomputable def mmP (mx : Bool) (x y : AV) (κ : AV → Prop) : Prop := match x, y with
  | .si k a, .si _ b => κ (.si k (if mx then max a b else min a b))
  | .si k a, .int _ b => κ (.si k (if mx then max a b else min a b))
  | .int k a, .si _ b => κ (.si k (if mx then max a b else min a b))
  | x, y => cj (emm mx x y) κ
noncomputable def Ai (t : TypeId) (x : AV) (H : AH) (κ : AV → Prop) : Prop := match x with
  | .ss _ => cj (ug Try.prog t (hd x) H) fun v => κ (mk v)
  | .sy _ _ _ _ _ => cj (ug Try.prog t (hd x) H) fun v => κ (mk v)
  | .rw _ _ n _ _ => dF (qq Try.prog t) (κ (.si .i64 n)) False
  | .fr n _ _ => dF (qq Try.prog t) (κ (.si .i64 n)) False
  | _ => cj (ug Try.prog t x H) κ
noncomputable def ixP (ix : AV) (len : Nat) (s : Bool) (κ : Nat → Prop) : Prop := match ix, s with
  | .si _ i, _ => Idx i len κ
  | .int _ i, true => Idx i len κ
  | _, _ => cj (eix ix len) κ
noncomputable def gd (t : TypeId) (x ix : AV) (κ : AV → Prop) : Prop := match Try.prog.underlying t, x with
  | some (.slice e), .sl b o n _ _ => cj (ax Try.prog e) fun k => ixP ix n false fun i => κ (.ptr b (o + i * k))
  | some (.slice e), .sy b o n _ _ => cj (ax Try.prog e) fun k => ixP ix n true fun i => κ (.ptr b (o + i * k))
  | some (.slice e), .rw b o n _ _ => cj (ax Try.prog e) fun k => ixP ix n true fun i => κ (.ptr b (o + i * k))
  | some (.slice e), .fr n k' l => cj (ax Try.prog e) fun k => dF (Nat.beq k k') (ixP ix n true fun i => κ (.fa l (i * k))) False
  | some (.array len e), .ptr b o => cj (ax Try.prog e) fun k => ixP ix len false fun i => κ (.ptr b (o + i * k))
  | _, _ => False
noncomputable def oo (t : TypeId) (x ix : AV) (κ : AV → Prop) : Prop := match Try.prog.underlying t, x with
  | some (.array len e), .agg l => cj (ax Try.prog e) fun k => ixP ix len false fun i => cj (sC Try.prog e l (i * k)) κ
  | some .string, .str s => ixP ix s.length false fun i => cj (nth s i) fun c => (match ix with
    | .int _ _ => κ (.int .u8 (Int.ofNat c))
    | _ => κ (.si .u8 (Int.ofNat c)))
  | some .string, .ss s => ixP ix s.length true fun i => Ask (nth s i) fun c => κ (.si .u8 (Int.ofNat c))
  | _, _ => False
noncomputable def qV (l : List AV) (t : TypeId) (o : Nat) (κ : AV → Prop) : Prop := match im Try.prog t with
  | some false => cj (nth l o) κ
  | some true => cj (ax Try.prog t) fun m => cj (br l o m) fun r => κ (.agg r)
  | none => False
noncomputable def o6 (t : TypeId) (a : AV) (H : AH) (κ : AV → Prop) : Prop := match a with
  | .ptr b o => (match H.get b with
    | some (.cells l _) => qV l t o κ
    | some (.ro l) => qV l t o κ
    | _ => False)
  | .fa l o => qV l t o κ
  | _ => False
noncomputable def jY (t : TypeId) (a v : AV) (H : AH) (n : Nat) (κ : PK) : Prop := match a with
  | .ptr b o => (match H.get b with
    | some (.cells l z) => cj (ax Try.prog t) fun s => dF (Nat.beq v.cells.length s && (okC v && v.cells.all m7)) (cj (gZ l o v.cells) fun l' => κ aV (H.set (some (.cells l' z)) ag b) n) False
    | _ => False)
  | _ => False
noncomputable def mk3 (κ : PK) (r : AV × AH × Nat) : Prop := un3 (fun v H n => κ (mk v) H n) r
def isR : AV → Bool
  | .rw _ _ _ _ _ => true
  | .fr _ _ _ => true
  | _ => false
inductive RSl (lo hi mx : Option AV) (n : Nat) (κ : Nat → Nat → Prop) : Prop where
  | mk (l h : Nat) (hl : kB (lo.map hd) 0 = some l) (hh : kB (hi.map hd) n = some h) (hm : mx = none ∨ (hi.isSome = true ∧ kB (mx.map hd) 0 = some h)) (h1 : l ≤ h) (h2 : h ≤ n) (k : κ l h)
def rwO (o k l : Nat) : Option AV → Nat
  | none => o
  | some _ => o + l * k
def rwN (n l h : Nat) : Option AV → Option AV → Nat
  | none, none => n
  | some _, none => n - l
  | none, some _ => h
  | some _, some _ => h - l
def rwX (x : Nat) : Option AV → Option AV → Nat
  | none, _ => x
  | some _, none => (match x with
    | 0 => 0
    | 1 => 0
    | x + 2 => x + 2)
  | some _, some _ => (match x with
    | 4 => 4
    | _ => 1)
def yN (b o n k x : Nat) (lo hi mx : Option AV) (l h : Nat) : AV := .rw b (rwO o k l lo) (rwN n l h lo hi) k (rwX x hi mx)
noncomputable def B9 (t : TypeId) (b o n k x : Nat) (lo hi mx : Option AV) (κ : AV → Prop) : Prop := match Try.prog.underlying t with
  | some (.slice e) => cj (ax Try.prog e) fun es => dF (Nat.beq es k) (RSl lo hi mx n fun l h => κ (yN b o n k x lo hi mx l h)) False
  | _ => False
def frL (k : Nat) (L : List AV) (l h : Nat) : Option AV → Option AV → List AV
  | none, none => L
  | some _, none => L.drop (l * k)
  | none, some _ => L.take (h * k)
  | some _, some _ => (L.drop (l * k)).take ((h - l) * k)
noncomputable def Ca (t : TypeId) (n k : Nat) (L : List AV) (lo hi : Option AV) (κ : AV → Prop) : Prop := match Try.prog.underlying t with
  | some (.slice e) => cj (ax Try.prog e) fun es => dF (Nat.beq es k) (RSl lo hi none n fun l h => κ (.fr (rwN n l h lo hi) k (frL k L l h lo hi))) False
  | _ => False
inductive Nxt (H : AH) (a : AV) (s : Bool) (κ : AV → AH → Prop) : Prop where
  | mk (it b m : Nat) (seen : List Nat) (es : List (AV × AV)) (hs : s = false) (ha : a = .ptr it 0) (hi : H.get it = some (.iter b m seen)) (hb : H.get b = some (.map es)) (hm : es.length = m)
    (over : (∀ i, i < m → i ∈ seen) → κ (.tup [.bool false]) H)
    (step : ∀ i e, es[i]? = some e → i ∉ seen → κ (.tup [.bool true, Go.Proofs.Ytdfeigkooeeeaaa.mk e.1, e.2]) (H.set (some (.iter b m (seen ++ [i]))) ag it))
inductive Ent (H : AH) (a : AV) (κ : AV → Prop) : Prop where
  | mk (it b m i : Nat) (seen : List Nat) (es : List (AV × AV)) (e : AV × AV) (ha : a = .ptr it 0) (hi : H.get it = some (.iter b m (seen ++ [i]))) (hb : H.get b = some (.map es)) (hm : es.length = m) (he : es[i]? = some e)
    (k : κ (.tup [Go.Proofs.Ytdfeigkooeeeaaa.mk e.1, e.2]))
inductive xM (H : AH) (k : Nat) : AV → Nat → List AV → Prop where
  | rw {b o n k' x : Nat} {l new : List AV} (hb : H.get b = some (.ro l) ∨ ∃ z, H.get b = some (.cells l z)) (hs : br l o (n * k) = some new) : xM H k (.rw b o n k' x) n new
  | old {x : AV} {m : Nat} {new : List AV} (e : El H k (hd x) = some (m, new)) : xM H k x m new
  | fr {n : Nat} {l : List AV} : xM H k (.fr n k l) n l
inductive Ex (H : AH) (k : Nat) : AV → Nat → List AV → AH → Bool → Prop where
  | nsl : Ex H k .nsl 0 [] H true
  | rw {b o n : Nat} {l old : List AV} {z : Bool} (hb : H.get b = some (.cells l z)) (hs : br l o (n * k) = some old) : Ex H k (.rw b o n k 0) n old (H.set none ag b) z
  | sl {b o n c : Nat} {l old : List AV} {z : Bool} (hb : H.get b = some (.cells l z)) (hs : br l o (n * k) = some old) (hn : n ≤ c) (hc : o + c * k ≤ l.length) : Ex H k (.sl b o n c 0) n old (H.set none ag b) z
structure RTy (t u : TypeId) (k by' : Nat) : Prop where
  h : ∃ e ud z, Try.prog.underlying t = some (.slice e) ∧ Try.prog.underlying u = some ud ∧ (∀ q, ud ≠ .int q) ∧ ax Try.prog e = some k ∧ gY Try.prog e = some by' ∧ dk Try.prog e = some z ∧ z.cells.size = k ∧ 0 < by' ∧ 0 < k
inductive iL (t u : TypeId) (s x : AV) (H : AH) (n : Nat) (κ : PK) : Prop where
  | grow (k by' m sn : Nat) (new old : List AV) (G : AH) (z : Bool) (ty : RTy t u k by') (src : xM H k x m new) (hnew : new.length = m * k) (hone : new.all m7 = true) (row : Ex H k s sn old G z) (big : (sn + m) * by' ≤ 140737488355328)
    (k' : κ (.rw n 0 (sn + m) k 0) (G.set (some (.cells (old ++ new) z)) ag n) (n + 1))
  | exact (k by' m b o sn : Nat) (new old : List AV) (hs : s = .rw b o sn k 1) (ty : RTy t u k by') (src : xM H k x m new) (hnew : new.length = m * k) (hone : new.all m7 = true) (hm : m ≠ 0) (row : xM H k s sn old) (big : (sn + m) * by' ≤ 140737488355328)
    (k' : κ (.rw n 0 (sn + m) k 0) (H.set (some (.cells (old ++ new) true)) ag n) (n + 1))
noncomputable def yO (t u : TypeId) (s x : AV) (H : AH) (n : Nat) (κ : PK) : Prop := dF (isR s || isR x) (iL t u s x H n κ) (dF (isS s || isS x) (Ask (m9 Try.prog t u (hd s) (hd x) H n) (mk3 κ)) (cj (m9 Try.prog t u s x H n) (un3 κ)))
inductive FU (t : TypeId) (s x : AV) (H : AH) (n : Nat) (κ : PK) : Prop where
  | mk (k m dn b o c kk bx ox kx qx : Nat) (l lx new l' : List AV) (z : Bool) (hs : hd s = .sl b o dn c kk) (hx : x = .rw bx ox m kx qx) (hq : qx ≠ 4) (ty : ∃ e, Try.prog.underlying t = some (.slice e) ∧ ax Try.prog e = some k)
    (hbx : H.get bx = some (.ro lx) ∨ ∃ z, H.get bx = some (.cells lx z)) (hsx : br lx ox (m * k) = some new) (hb : H.get b = some (.cells l z)) (hone : (new.take (min m dn * k)).all m7 = true) (hset : gZ l o (new.take (min m dn * k)) = some l')
    (k' : κ (.si .i64 ((min m dn : Nat) : Int)) (H.set (some (.cells l' z)) ag b) n)
noncomputable def FV (t : TypeId) (s x : AV) (H : AH) (n : Nat) (κ : PK) : Prop := dF (isR x) (FU t s x H n κ) (dF (isS s || isS x) (Ask (vB Try.prog t (hd s) (hd x) H n) (mk3 κ)) (cj (vB Try.prog t s x H n) (un3 κ)))
noncomputable def H9 (t : TypeId) (l c : AV) (H : AH) (n : Nat) (κ : PK) : Prop := dF (isS l || isS c) (Ask (vA Try.prog t (hd l) (hd c) H n) (mk3 κ)) (cj (vA Try.prog t l c H n) (un3 κ))
noncomputable def eS (t : TypeId) (x : AV) (lo hi mx : Option AV) (κ : AV → Prop) : Prop := match x with
  | .rw b o n k q => B9 t b o n k q lo hi mx κ
  | .fr n k q => (match mx with
    | none => Ca t n k q lo hi κ
    | some _ => False)
  | x => dF (isS x || (n7 lo || (n7 hi || n7 mx))) (Ask (iB Try.prog t (hd x) (lo.map hd) (hi.map hd) (mx.map hd)) fun v => κ (mk v)) (cj (iB Try.prog t x lo hi mx) κ)
where n7 : Option AV → Bool
  | some v => isS v
  | none => false
noncomputable def o7 (c : Call) (call : CP) (σ : AE) (H : AH) (n : Nat) (κ : PK) : Prop := match c.callee with
  | .value f => (match eev σ f with
    | .fn g a cs => call g (a ++ c.args.toList.map (eev σ) ++ cs) H n κ
    | _ => False)
  | .builtin .len => (match c.argTypes.toList, c.args.toList.map (eev σ) with
    | [t], [x] => Ai t x H fun v => κ v H n
    | _, _ => False)
  | .builtin .min => (match c.args.toList.map (eev σ) with
    | [x, y] => mmP false x y fun v => κ v H n
    | _ => False)
  | .builtin .max => (match c.args.toList.map (eev σ) with
    | [x, y] => mmP true x y fun v => κ v H n
    | _ => False)
  | .builtin .append => (match c.argTypes.toList, c.args.toList.map (eev σ) with
    | [t, u], [s, x] => yO t u s x H n κ
    | _, _ => False)
  | .builtin .copy => (match c.argTypes.toList, c.args.toList.map (eev σ) with
    | [t, _], [s, x] => FV t s x H n κ
    | _, _ => False)
  | _ => False
inductive Gp (src dst : TypeId) (x : AV) (H : AH) (κ : AV → Prop) : Prop where
  | mk (b o n k q : Nat) (l new : List AV) (s : List Nat) (hx : x = .rw b o n k q) (hq : q ≠ 4) (ty : ∃ e, Try.prog.underlying src = some (.slice e) ∧ Try.prog.underlying e = some (.int .u8) ∧ Try.prog.underlying dst = some .string) (hb : H.get b = some (.ro l) ∨ ∃ z, H.get b = some (.cells l z)) (hl : br l o n = some new) (hs : fY new = some s) (k' : κ (.ss s))
noncomputable def FW (src dst : TypeId) (x : AV) (H : AH) (n : Nat) (κ : PK) : Prop := match x with
  | .si _ a => (match lK Try.prog src, lK Try.prog dst with
    | some _, some k => κ (.si k (k.wrap a)) H n
    | _, _ => False)
  | .rw _ _ _ _ _ => Gp src dst x H fun v => κ v H n
  | _ => dF (isS x) (Ask (vz Try.prog src dst (hd x) H n) (mk3 κ)) (cj (vz Try.prog src dst x H n) (un3 κ))
noncomputable def qX (o : Op) (call : CP) (σ : AE) (H : AH) (n : Nat) (κ : PK) : Prop := match o with
  | .move x => κ (eev σ x) H n
  | .assign x => κ (eev σ x) H n
  | .pick c a b => vX (eev σ c) (κ (eev σ a) H n) (κ (eev σ b) H n)
  | .load t a => o6 t (eev σ a) H fun v => κ v H n
  | .store t a x => jY t (eev σ a) (eev σ x) H n κ
  | .binOp op t x y _ => Ah op t (eev σ x) (eev σ y) H fun v => κ v H n
  | .unOp op _ x => unP op (eev σ x) fun v => κ v H n
  | .indexAddr t x ix => gd t (eev σ x) (eev σ ix) fun v => κ v H n
  | .index t x ix => oo t (eev σ x) (eev σ ix) fun v => κ v H n
  | .slice t x lo hi mx => eS t (eev σ x) (lo.map (eev σ)) (hi.map (eev σ)) (mx.map (eev σ)) fun v => κ v H n
  | .makeSlice t l c => H9 t (eev σ l) (eev σ c) H n κ
  | .convert s d x => FW s d (eev σ x) H n κ
  | .call c => o7 c call σ H n κ
  | .lookup t m k ok => dF (isS (eev σ k)) (Ask (fy Try.prog t (eev σ m) (hd (eev σ k)) ok H) fun v => κ v H n) (cj (fy Try.prog t (eev σ m) (eev σ k) ok H) fun v => κ v H n)
  | .next it s => Nxt H (eev σ it) s fun v H => κ v H n
  | .entry it => Ent H (eev σ it) fun v => κ v H n
  | o => vY o σ H n κ
noncomputable def opP (ops : Array Oper) (o : Oper) (call : CP) (σ : AE) (H : AH) (n : Nat) (k : KP) : Prop := match o.guard with
  | none => qX o.op call σ H n fun v H n => k (bR σ o.dst v) H n
  | some (j, want) => (match eH ops j with
    | none => False
    | some t => (match aL (pa t) σ with
      | .bool q => (match q == want with
        | true => qX o.op call σ H n fun v H n => k (bR σ o.dst v) H n
        | false => k (bR σ o.dst aV) H n)
      | .sb q => (match want with
        | true => ab q (qX o.op call (bR σ (some t) (.bool true)) H n fun v H n => k (bR (bR σ (some t) (.bool true)) o.dst v) H n) (k (bR (bR σ (some t) (.bool false)) o.dst aV) H n)
        | false => ab q (k (bR (bR σ (some t) (.bool true)) o.dst aV) H n) (qX o.op call (bR σ (some t) (.bool false)) H n fun v H n => k (bR (bR σ (some t) (.bool false)) o.dst v) H n))
      | .tup _ => k (bR σ o.dst aV) H n
      | _ => False))
noncomputable def pr (ops : Array Oper) (l : List Oper) : CP → AE → AH → Nat → KP → Prop :=
  List.rec (fun _ σ H n k => k σ H n) (fun o _ ih call σ H n k => opP ops o call σ H n fun σ H n => ih call σ H n k) l
abbrev XP := CP → AE → AH → Nat → KP → (Nat → KP) → KP → Prop
noncomputable def Gq (c : Operand) (q : Bool) (σ : AE) : AE := match c with
  | .tmp t => bR σ (some t) (.bool q)
  | _ => σ
noncomputable def Cb (c : Operand) (σ : AE) (A B : AE → Prop) : Prop := match eev σ c with
  | .bool true => A σ
  | .bool false => B σ
  | .sb q => ab q (A (Gq c true σ)) (B (Gq c false σ))
  | _ => False
def Cov (p : Nat) (σ : AE) (H : AH) (n : Nat) (s : AE × AH × Nat) : Prop := ∀ (φ : Ph) (h0 h : Hp) (ρ : Env), HR φ H n h0 h → FR φ σ ρ → ∃ ψ : Ph, ((∀ b q, b < p → φ b = some q → ψ b = some q) ∧ (∀ q, φ.z q → ψ.z q) ∧ ∀ q, ψ.y q → φ.y q) ∧ HR ψ s.2.1 s.2.2 h0 h ∧ FR ψ s.1 ρ
noncomputable def FX (k : Nat) (body : AE → AH → Nat → KP → Prop) : KP := Nat.rec (fun _ _ _ => False) (fun _ ih σ H n => body σ H n ih) k
inductive cW (p : Nat) (body : AE → AH → Nat → KP → Prop) (σ : AE) (H : AH) (n : Nat) : Prop where
  | mk (α : Type) (m : Nat) (st : α → AE × AH) (μ : α → Nat) (a0 : α) (h0 : Cov p σ H n ((st a0).1, (st a0).2, m)) (h : ∀ a, body (st a).1 (st a).2 m fun σ' H' n' => ∃ a', μ a' < μ a ∧ Cov p σ' H' n' ((st a').1, (st a').2, m))
  | roll (k : Nat) (h : FX k body σ H n)
inductive df (p : Nat) (A : KP → Prop) (B : KP) : Prop where
  | go (h : A B)
  | mk (α : Type) (m : Nat) (st : α → AE × AH) (hA : A fun σ H n => ∃ a, Cov p σ H n ((st a).1, (st a).2, m)) (hB : ∀ a, B (st a).1 (st a).2 m)
abbrev DB := Option Nat × List Nat
abbrev DT := List (Nat × List DB)
noncomputable def findD (D : DT) (id : Nat) : Option (List DB) := List.rec none (fun x _ ih => Bool.rec ih (some x.2) (Nat.beq x.1 id)) D
noncomputable def jx (σ : AE) (ts : List Nat) : AE := List.rec .nil (fun t _ ih => n5 (aL (pa t) σ) (pa t) ih) ts
noncomputable def qP (o : Op) (σ : AE) (H : AH) (κ : AV → Prop) : Prop := match o with
  | .move x => κ (eev σ x)
  | .assign x => κ (eev σ x)
  | .pick c a b => vX (eev σ c) (κ (eev σ a)) (κ (eev σ b))
  | .load t a => o6 t (eev σ a) H κ
  | .binOp op t x y _ => Ah op t (eev σ x) (eev σ y) H κ
  | .unOp op _ x => unP op (eev σ x) κ
  | .indexAddr t x ix => gd t (eev σ x) (eev σ ix) κ
  | .index t x ix => oo t (eev σ x) (eev σ ix) κ
  | .slice t x lo hi mx => eS t (eev σ x) (lo.map (eev σ)) (hi.map (eev σ)) (mx.map (eev σ)) κ
  | .lookup t m k ok => dF (isS (eev σ k)) (Ask (fy Try.prog t (eev σ m) (hd (eev σ k)) ok H) κ) (cj (fy Try.prog t (eev σ m) (eev σ k) ok H) κ)
  | .call ⟨.builtin .len, xs, ts⟩ => (match ts.toList, xs.toList.map (eev σ) with
    | [t], [x] => Ai t x H κ
    | _, _ => False)
  | .call ⟨.builtin .min, xs, _⟩ => (match xs.toList.map (eev σ) with
    | [x, y] => mmP false x y κ
    | _ => False)
  | .call ⟨.builtin .max, xs, _⟩ => (match xs.toList.map (eev σ) with
    | [x, y] => mmP true x y κ
    | _ => False)
  | o => cj (cv Try.prog o σ H) κ
noncomputable def Cc (ops : Array Oper) (o : Oper) (b : DB) (cd : CP) (hist : List (AH × Nat)) (σ : AE) (H : AH) (n : Nat) (k : KP) : Prop :=
  let go : AE → Prop := fun σ => (match b.1 with
    | none => (match o.op with
      | .call c => o7 c cd (jx σ b.2) H n fun v H n => k (bR σ o.dst v) H n
      | .store t a x => jY t (eev (jx σ b.2) a) (eev (jx σ b.2) x) H n fun v H n => k (bR σ o.dst v) H n
      | .buildSlice t len parts => dF (Nat.blt n 1000000) (match H.get n with
        | none => vY (.buildSlice t len parts) (jx σ b.2) H n fun v H n => k (bR σ o.dst v) H n
        | some _ => False) False
      | _ => False)
    | some j => cj (nth ((H, n) :: hist) j) fun r => qP o.op (jx σ b.2) r.1 fun v => k (bR σ o.dst v) H n)
  match o.guard with
  | none => go σ
  | some (j, want) => (match eH ops j with
    | none => False
    | some t => (match aL (pa t) σ with
      | .bool q => (match q == want with
        | true => go σ
        | false => k (bR σ o.dst aV) H n)
      | .sb q => (match want with
        | true => ab q (go (bR σ (some t) (.bool true))) (k (bR (bR σ (some t) (.bool false)) o.dst aV) H n)
        | false => ab q (k (bR (bR σ (some t) (.bool true)) o.dst aV) H n) (go (bR σ (some t) (.bool false))))
      | .tup _ => k (bR σ o.dst aV) H n
      | _ => False))
noncomputable def Cd (ops : Array Oper) (l : List Oper) : List DB → CP → List (AH × Nat) → AE → AH → Nat → KP → Prop :=
  List.rec (fun _ _ _ σ H n k => k σ H n) (fun o _ ih bs cd hist σ H n k => List.rec False (fun b bs' _ => Cc ops o b cd hist σ H n fun σ' H' n' => ih bs' cd ((H, n) :: hist) σ' H' n' k) bs) l
def Ce (A : List Nat) (i : Nat) (o : Oper) : Nat := o.after.toList.foldl (fun m e => if Region.binds .any e && decide (e.on < i) then m ||| (2 ^ e.on ||| A.getD e.on 0) else m) 0
def oq : List Oper → Nat → List Nat → List Nat
  | [], _, A => A
  | o :: l, i, A => oq l (i + 1) (A ++ [Ce A i o])
def Cf (A : List Nat) (ops : Array Oper) : Bool := (List.range ops.size).all fun i => match ops[i]? with
  | some o => A.getD i 0 == Ce A i o
  | none => true
def ot (A : List Nat) (j i : Nat) : Bool := (A.getD i 0).testBit j
def pE : Op → Bool
  | .call ⟨.value _, _, _⟩ => true
  | .buildSlice _ _ _ => true
  | _ => false
def jm : Op → Bool
  | .store _ _ _ => true
  | _ => false
def uG (ops : Array Oper) (j : Nat) : Bool := match ops[j]? with
  | some o => aD o.op
  | none => false
def pF (ops : Array Oper) (o : Oper) (ts : List Nat) : Bool := match o.guard with
  | none => true
  | some (j, _) => (match eH ops j with
    | some t => ts.contains t
    | none => true)
def Gr (A : List Nat) (ops : Array Oper) (bs : List DB) (i : Nat) : Bool := match ops[i]?, bs[i]? with
  | some o, some b => b.2.all (fun t => (looks ops o).contains t) && pF ops o b.2 && (match b.1 with
      | none => pE o.op || (jm o.op && (List.range ops.size).all fun j => Nat.beq j i || ot A j i)
      | some k => !aD o.op && (decide (k ≤ i) && (List.range (i - k)).all fun j => !uG ops j || ot A j i)) &&
    (List.range i).all fun j => (match ops[j]? with
      | some a => a.apart ops o && (!aD a.op || !aD o.op)
      | none => true) || ot A j i
  | _, _ => false
def qY (ops : Array Oper) (bs : List DB) : Bool := iT ops && (Cf (oq ops.toList 0 []) ops && (List.range ops.size).all (Gr (oq ops.toList 0 []) ops bs))
def iW : List Nat → List (Nat × Nat)
  | a :: b :: l => (a, b) :: iW l
  | _ => []
def gf : List Nat → Nat → Nat → Bool
  | [], _, _ => false
  | x :: π, a, b => Nat.beq x a || (!Nat.beq x b && gf π a b)
def Cg : Nat → List (List Bool)
  | 0 => [[]]
  | m + 1 => (Cg m).flatMap fun l => [true :: l, false :: l]
def okL (P : Program) (ops : Array Oper) (R : List (Nat × Nat)) : List Nat → List Nat → Bool
  | _, [] => true
  | acc, i :: l => acc.all (fun j => kl P ops j i || (gG ops 5 j i || (R.contains (j, i) || R.contains (i, j)))) && okL P ops R (i :: acc) l
def yP (P : Program) (ops : Array Oper) (R : List (Nat × Nat)) (i : Nat) : Bool := match ops[i]? with
  | some o => (!aD o.op || nZ P o.op) || R.all fun p => Nat.beq p.1 i || (Nat.beq p.2 i || (gG ops 5 p.1 i || gG ops 5 p.2 i))
  | none => true
def leB (ops : Array Oper) (j i : Nat) : Bool := Nat.beq j i || gG ops 5 j i
def Ey (p : Nat × Nat) (b : Bool) : Nat × Nat := match b with
  | true => p
  | false => (p.2, p.1)
def Ch (ops : Array Oper) (R : List (Nat × Nat)) (os : List Bool) : Bool := ((R.zip os).map fun x => Ey x.1 x.2).all fun x => ((R.zip os).map fun x => Ey x.1 x.2).all fun y => !(leB ops x.2 y.1 && leB ops y.2 x.1)
def Ci (P : Program) (ops : Array Oper) (bs : List DB) : Bool := iT ops && (match bs with
  | [] => false
  | h :: πs => (List.range ops.size).all (yP P ops (iW h.2)) && ((iW h.2).all (fun p => !Nat.beq p.1 p.2) && (((Cg (iW h.2).length).all fun os => !Ch ops (iW h.2) os || πs.any fun π => (iW h.2).map (fun p => gf π.2 p.1 p.2) == os) &&
    πs.all fun π => decide (π.2.Nodup) && (π.2.length == ops.size && (π.2.all (fun i => decide (i < ops.size)) && okL P ops (iW h.2) [] π.2)))))
def Cj (bs : List DB) : Bool := match bs with
  | (some k, _) :: _ => Nat.beq k 1000000
  | _ => false
noncomputable def sV (l : List Oper) (π : List Nat) : List Oper := List.rec [] (fun i _ ih => match nth l i with
  | some o => o :: ih
  | none => ih) π
noncomputable def Gs (ops : Array Oper) (πs : List DB) (call : CP) (σ : AE) (H : AH) (n : Nat) (k : KP) : Prop := List.rec True (fun π _ ih => pr ops (sV ops.toList π.2) call σ H n k ∧ ih) πs
def xN (ops : Array Oper) (m : Nat) : Bool := iT ops && (Cf (oq ops.toList 0 []) ops && (List.range ops.size).all fun i => Nat.blt i m || (List.range i).all fun j => ot (oq ops.toList 0 []) j i)
noncomputable def Ez (ops : Array Oper) (bs : List DB) (call cd : CP) (σ : AE) (H : AH) (n : Nat) (k : KP) : Prop := match Cj bs with
  | true => Gs ops bs.tail call σ H n k
  | false => (match Nat.blt bs.length ops.size with
    | true => Cd (Ae ops bs.length) (Ae ops bs.length).toList bs cd [] σ H n fun σ H n => pr ops (ops.toList.drop bs.length) call σ H n k
    | false => Cd ops ops.toList bs cd [] σ H n k)
def yQ (P : Program) (ops : Array Oper) (bs : List DB) : Bool := match Cj bs with
  | true => Ci P ops bs
  | false => (match Nat.blt bs.length ops.size with
    | true => qY (Ae ops bs.length) bs && xN ops bs.length
    | false => qY ops bs)
noncomputable def uH (D : DT) (c : Code) : Bool := Code.rec (motive := fun _ => Bool)
  true
  (fun id ops draw => Bool.rec true (Option.rec (mY Try.prog ops) (fun bs => yQ Try.prog ops bs) (findD D id)) draw)
  (fun _ _ a b => Bool.rec false b a)
  (fun _ _ _ a b => Bool.rec false b a)
  (fun _ _ b => b)
  (fun _ b => b)
  (fun _ _ _ _ _ _ => true)
  (fun _ => true)
  (fun _ b => b)
  (fun _ => true)
  (fun _ => true)
  true
  (fun _ => true) c
noncomputable def Gt (c : Code) : Option Nat := Code.rec (motive := fun _ => Option Nat) none (fun id _ _ => some id) (fun _ _ a _ => a) (fun _ _ _ _ _ => none) (fun _ _ b => b) (fun _ b => b) (fun _ _ _ _ _ _ => none) (fun _ => none) (fun _ b => b) (fun _ => none) (fun _ => none) none (fun _ => none) c
noncomputable def xO (D : DT) (c : Code) : Bool := List.rec false (fun x l _ => Option.rec false (fun id => Option.rec false (fun _ => true) (findD (x :: l) (id + 1000000))) (Gt c)) D
noncomputable def kq (p : Nat) (cd : CP) (D : DT) (c : Code) : XP := Code.rec (motive := fun _ => XP)
  (fun _ σ H n kn _ _ => kn σ H n)
  (fun id ops draw => Bool.rec (fun call σ H n kn _ _ => pr ops ops.toList call σ H n kn) (Option.rec (fun call σ H n kn _ _ => pr ops ops.toList call σ H n kn) (fun bs call σ H n kn _ _ => Ez ops bs call cd σ H n kn) (findD D id)) draw)
  (fun _ bc a b call σ H n kn kx kr => Bool.rec (a call σ H n (fun σ H n => b call σ H n kn kx kr) kx kr) (df p (fun k => a call σ H n k kx kr) (fun σ H n => b call σ H n kn kx kr)) (xO D bc))
  (fun c _ _ a b call σ H n kn kx kr => Cb c σ (fun σ => a call σ H n kn kx kr) (fun σ => b call σ H n kn kx kr))
  (fun id _ b call σ H n kn kx kr => b call σ H n kn (fun i σ H n => dF (Nat.beq i id) (kn σ H n) (kx i σ H n)) kr)
  (fun _ b call σ H n _ kx kr => cW p (fun σ H n k => b call σ H n k kx kr) σ H n)
  (fun _ _ _ _ _ _ _ _ _ _ _ _ _ => False)
  (fun i _ σ H n _ kx _ => kx i σ H n)
  (fun _ b call σ H n kn kx kr => b call σ H n kn kx kr)
  (fun _ _ σ H n kn _ _ => kn σ H n)
  (fun _ _ _ _ _ _ _ _ => False)
  (fun _ σ H n _ _ kr => kr σ H n)
  (fun _ _ _ _ _ _ _ _ => False) c
noncomputable def Aj (rs : List ResultVar) (σ : AE) (H : AH) (k : List AV → Prop) : Prop :=
  List.rec (fun k => k []) (fun r _ ih k => ResultVar.rec (fun t => ih fun vs => k (aL (pa t) σ :: vs)) (fun a t => o6 t (aL (pa a) σ) H fun v => ih fun vs => k (v :: vs)) r) rs k
noncomputable def Gu (call cd : CP) (D : DT) (c : Code) (rs : List ResultVar) (m : Nat) (args : List AV) (H : AH) (n : Nat) (κ : PK) : Prop :=
  dF (Nat.ble args.length m) (kq n cd D c call (mw args 0 .nil) H n (fun σ H n => Aj rs σ H fun vs => κ (kQ vs) H n) (fun _ _ _ _ => False) (fun σ H n => Aj rs σ H fun vs => κ (kQ vs) H n)) False
inductive EP where
  | no
  | run (D : DT) (c : Code) (rs : List ResultVar) (m : Nat)
  | nat (g : List AV → AH → Nat → PK → Prop)
  | det (g : List AV → AH → Nat → PK → Prop)
noncomputable def vZ (F : FuncId → EP) : CP := fun f args H n κ => EP.rec (fun _ _ _ _ => False) (fun _ _ _ _ _ _ _ _ => False) (fun _ _ _ _ _ => False) (fun g => g) (F f) args H n κ
noncomputable def aw (F : FuncId → EP) (d : Nat) : CP := Nat.rec (fun _ _ _ _ _ => False) (fun _ ih f args H n κ => EP.rec (fun _ _ _ _ => False) (fun D c rs m => Gu ih (vZ F) D c rs m) (fun g => g) (fun g => g) (F f) args H n κ) d
noncomputable def yR (D : DT) (f : FuncId) : EP := match Try.prog.funcs[f]? with
  | some fn => (match fn.body with
    | some c => .run D c fn.results.toList fn.ntmps
    | none => .no)
  | none => .no
noncomputable def v3 (D : DT) (f : FuncId) : Bool := match Try.prog.funcs[f]? with
  | some fn => (match fn.body with
    | some c => uH D c
    | none => false)
  | none => false
noncomputable def evP (f : FuncId) : EP := Bool.rec .no (Bool.rec .no (yR [] f) (v3 [] f)) (yL f)
end Go.Proofs.Ytdfeigkooeeeaaa
