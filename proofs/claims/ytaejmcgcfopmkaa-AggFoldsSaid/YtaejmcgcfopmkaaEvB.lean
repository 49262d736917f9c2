/- The machine of our own: its memory, and the operations that look at most. -/
import Derived.Test.YtaejmcgcfopmkaaEvA
import Derived.Laws.Strings2
namespace Go.Proofs.Ytaejmcgcfopmkaa
open Go Go.RowKit

/-! ### rows of cells -/
theorem nth_eq {α : Type} : ∀ (l : List α) (i : Nat), nth l i = l[i]?
  | [], _ => by simp [nth]
  | _ :: _, 0 => by simp [nth]
  | _ :: l, i + 1 => by simp [nth, nth_eq l i]
theorem subL_spec {α : Type} {l r : List α} {o n : Nat} (h : subL l o n = some r) : o + n ≤ l.length ∧ r = (l.drop o).take n := by
  unfold subL at h
  split at h
  · rename_i e
    injection h with h
    exact ⟨Nat.le_of_ble_eq_true e, h.symm⟩
  · cases h
theorem setL_spec : ∀ (l : List AV) (o : Nat) (xs r : List AV), setL l o xs = some r → r.length = l.length ∧ o + xs.length ≤ l.length ∧ ∀ i : Nat, r[i]? = if o ≤ i ∧ i < o + xs.length then xs[i - o]? else l[i]?
  | l, 0, [], r, h => by
    have : r = l := by cases l <;> (unfold setL at h; injection h with h; exact h.symm)
    subst this
    refine ⟨rfl, by simp, fun i => ?_⟩
    rw [if_neg (by simp only [List.length_nil]; omega)]
  | [], 0, x :: xs, r, h => by unfold setL at h; cases h
  | [], o + 1, xs, r, h => by cases xs <;> (unfold setL at h; cases h)
  | y :: l, 0, x :: xs, r, h => by
    simp only [setL, Option.map_eq_some_iff] at h
    obtain ⟨t, ht, rfl⟩ := h
    obtain ⟨h1, h2, h3⟩ := setL_spec l 0 xs t ht
    refine ⟨by simp [h1], by simp only [List.length_cons]; omega, fun i => ?_⟩
    cases i with
    | zero => simp
    | succ i =>
      simp only [List.getElem?_cons_succ, h3, List.length_cons]
      by_cases hi : i < xs.length
      · rw [if_pos (by omega), if_pos (by omega)]; simp
      · rw [if_neg (by omega), if_neg (by omega)]
  | y :: l, o + 1, xs, r, h => by
    have h : (setL l o xs).map (y :: ·) = some r := by cases xs <;> (unfold setL at h; exact h)
    simp only [Option.map_eq_some_iff] at h
    obtain ⟨t, ht, rfl⟩ := h
    obtain ⟨h1, h2, h3⟩ := setL_spec l o xs t ht
    refine ⟨by simp [h1], by simp only [List.length_cons]; omega, fun i => ?_⟩
    cases i with
    | zero => simp
    | succ i =>
      simp only [List.getElem?_cons_succ, h3]
      by_cases hi : o ≤ i ∧ i < o + xs.length
      · rw [if_pos hi, if_pos (by omega)]; congr 1; omega
      · rw [if_neg hi, if_neg (by omega)]
theorem writeL_size : ∀ (vs : List Value) (c : Array Value) (o : Nat), (writeL c o vs).size = c.size
  | [], _, _ => rfl
  | v :: vs, c, o => by simp [writeL, writeL_size vs]
theorem writeL_get : ∀ (vs : List Value) (c : Array Value) (o i : Nat), (writeL c o vs)[i]? = if o ≤ i ∧ i < o + vs.length ∧ i < c.size then vs[i - o]? else c[i]?
  | [], c, o, i => by rw [if_neg (by simp; omega)]; rfl
  | v :: vs, c, o, i => by
    simp only [writeL, writeL_get vs, Array.size_setIfInBounds, List.length_cons]
    by_cases h : i = o
    · subst h
      rw [if_neg (by omega)]
      by_cases hi : i < c.size
      · rw [if_pos (by omega)]; simp [hi]
      · rw [if_neg (by omega)]; simp [hi]
    · by_cases h2 : o + 1 ≤ i ∧ i < o + 1 + vs.length ∧ i < c.size
      · rw [if_pos h2, if_pos (by omega)]
        obtain ⟨d, rfl⟩ : ∃ d, i = o + 1 + d := ⟨i - (o + 1), by omega⟩
        rw [show o + 1 + d - (o + 1) = d from by omega, show o + 1 + d - o = d + 1 from by omega]
        simp
      · rw [if_neg h2, if_neg (by omega)]
        simp [Array.getElem?_setIfInBounds, Ne.symm h]
def CR (φ : Ph) (c : Array Value) (s : Nat) (l : List AV) : Prop := ∀ i a, l[i]? = some a → ∃ v, c[s + i]? = some v ∧ VR φ a v
theorem CR.mono {φ ψ : Ph} (he : PLe φ ψ) {c : Array Value} {s : Nat} {l : List AV} (h : CR φ c s l) : CR ψ c s l := fun i a e =>
  let ⟨v, h1, h2⟩ := h i a e
  ⟨v, h1, VR.mono he _ _ h2⟩
theorem CR.cellsL {φ : Ph} {c : Array Value} {s : Nat} {l : List AV} (h : CR φ c s l) : ∀ (n o : Nat), o + n ≤ l.length → ∃ vs, cellsL c (s + o) n = some vs ∧ VRs φ ((l.drop o).take n) vs
  | 0, o, _ => ⟨[], rfl, by simpa using VRs.nil⟩
  | n + 1, o, hle => by
    obtain ⟨v, h1, h2⟩ := h o (l[o]'(by omega)) (List.getElem?_eq_getElem (by omega))
    obtain ⟨vs, h3, h4⟩ := CR.cellsL h n (o + 1) (by omega)
    refine ⟨v :: vs, ?_, ?_⟩
    · simp only [Go.Proofs.Ytaejmcgcfopmkaa.cellsL, h1]
      rw [show s + o + 1 = s + (o + 1) from by omega, h3]
    · rw [List.drop_eq_getElem_cons (by omega), List.take_succ_cons]
      exact .cons h2 h4
theorem CR.sub {φ : Ph} {c : Array Value} {s : Nat} {l r : List AV} {o n : Nat} (h : CR φ c s l) (e : subL l o n = some r) : ∃ vs, Go.Proofs.Ytaejmcgcfopmkaa.cellsL c (s + o) n = some vs ∧ VRs φ r vs := by
  obtain ⟨h1, rfl⟩ := subL_spec e
  exact h.cellsL n o h1
theorem CR.nth {φ : Ph} {c : Array Value} {s : Nat} {l : List AV} {o : Nat} {a : AV} (h : CR φ c s l) (e : Go.Proofs.Ytaejmcgcfopmkaa.nth l o = some a) : ∃ v, c[s + o]? = some v ∧ VR φ a v := h o a (by rw [← nth_eq]; exact e)
theorem CR.set {φ : Ph} {c : Array Value} {s o : Nat} {l r xs : List AV} {vs : List Value} (h : CR φ c s l) (e : setL l o xs = some r) (hv : VRs φ xs vs) (hs : s + l.length ≤ c.size) : CR φ (writeL c (s + o) vs) s r := by
  obtain ⟨h1, h2, h3⟩ := setL_spec l o xs r e
  intro i a hi
  have hlt : i < l.length := by
    have := (List.getElem?_eq_some_iff.1 hi).1
    omega
  rw [h3] at hi
  rw [writeL_get, ← hv.length]
  split at hi
  · rename_i hc
    rw [if_pos (by omega), show s + i - (s + o) = i - o from by omega]
    exact hv.at hi
  · rename_i hc
    rw [if_neg (by omega)]
    exact h i a hi
theorem CR.of {φ : Ph} {l : List AV} {vs : List Value} (h : VRs φ l vs) (r : List Value) : CR φ (vs ++ r).toArray 0 l := fun i a e => by
  obtain ⟨v, h1, h2⟩ := h.at e
  refine ⟨v, ?_, h2⟩
  have := (List.getElem?_eq_some_iff.1 h1).1
  simp [List.getElem?_append_left this, h1]
theorem CR.of' {φ : Ph} {l : List AV} {c : Array Value} (h : VRs φ l c.toList) : CR φ c 0 l := fun i a e => by
  obtain ⟨v, h1, h2⟩ := h.at e
  exact ⟨v, by simpa using h1, h2⟩

/-! ### the memory -/
def MR (φ : Ph) : List (AV × AV) → List MapEntry → Prop
  | [], ms => ms = []
  | e :: es, ms => ∃ m us, ms = m :: us ∧ VR φ e.1 m.key ∧ VR φ e.2 m.val ∧ MR φ es us
theorem MR.mono {φ ψ : Ph} (he : PLe φ ψ) : ∀ (es : List (AV × AV)) (ms : List MapEntry), MR φ es ms → MR ψ es ms
  | [], ms, h => h
  | e :: es, ms, ⟨m, us, h1, h2, h3, h4⟩ => ⟨m, us, h1, VR.mono he _ _ h2, VR.mono he _ _ h3, MR.mono he es us h4⟩
theorem MR.length {φ : Ph} : ∀ {es : List (AV × AV)} {ms : List MapEntry}, MR φ es ms → es.length = ms.length
  | [], ms, h => by rw [show ms = [] from h]; rfl
  | e :: es, ms, ⟨m, us, h1, _, _, h4⟩ => by subst h1; simp [MR.length h4]
def OR (φ : Ph) (p : Pl) : AO → Obj → Prop
  | .cells l z, ob => ∃ c t fz, ob = .cells c t fz ∧ l.length ≤ p.T ∧ p.s + p.T ≤ c.size ∧ Free fz p.s p.T ∧ (z = true → fz = (0, 0)) ∧ CR φ c p.s l
  | .map es, ob => ∃ ms cl, ob = .map ms cl ∧ MR φ es ms.toList
  | .ro l, ob => ∃ c t fz, ob = .cells c t fz ∧ l.length ≤ p.T ∧ p.s + p.T ≤ c.size ∧ CR φ c p.s l
def AO.own : AO → Bool
  | .ro _ => false
  | _ => true
theorem OR.mono {φ ψ : Ph} (he : PLe φ ψ) {p : Pl} {o : AO} {ob : Obj} (h : OR φ p o ob) : OR ψ p o ob := by
  cases o with
  | cells l z => obtain ⟨c, t, fz, h1, h2, h3, h4, h5, h6⟩ := h; exact ⟨c, t, fz, h1, h2, h3, h4, h5, h6.mono he⟩
  | map es => obtain ⟨ms, cl, h1, h2⟩ := h; exact ⟨ms, cl, h1, MR.mono he _ _ h2⟩
  | ro l => obtain ⟨c, t, fz, h1, h2, h3, h4⟩ := h; exact ⟨c, t, fz, h1, h2, h3, h4.mono he⟩
/-- What the base has at a block: nothing, if it is ours. -/
def AO.under : AO → Obj → Option Obj
  | .ro _, ob => some ob
  | _, _ => none
theorem AO.under_own {o : AO} (h : o.own = true) (ob : Obj) : o.under ob = none := by cases o <;> first | rfl | cases h
structure HR (φ : Ph) (H : AH) (n : Nat) (h0 h : Hp) : Prop where
  dom : ∀ b p, φ b = some p → b < n ∧ p.B < h.n
  live : ∀ b o, H.get b = some o → ∃ p ob, φ b = some p ∧ h0.f p.B = o.under ob ∧ h.f p.B = some ob ∧ OR φ p o ob
  inj : ∀ b b' o o' p p', H.get b = some o → H.get b' = some o' → o.own = true → o'.own = true → φ b = some p → φ b' = some p' → p.B = p'.B → b = b'
  base : ∀ b o, h0.f b = some o → b < h.n ∧ h.f b = some o
  size : h0.n ≤ h.n
theorem HR.of {φ : Ph} {H : AH} {n : Nat} {h0 h : Hp} (hr : HR φ H n h0 h) {b : Nat} {o : AO} {p : Pl} (hb : H.get b = some o) (hp : φ b = some p) : ∃ ob, h0.f p.B = o.under ob ∧ h.f p.B = some ob ∧ OR φ p o ob := by
  obtain ⟨q, ob, h1, h2, h3, h4⟩ := hr.live b o hb
  rw [hp] at h1
  injection h1 with h1
  subst h1
  exact ⟨ob, h2, h3, h4⟩
theorem HR.put {φ : Ph} {H : AH} {n : Nat} {h0 h : Hp} (hr : HR φ H n h0 h) {b : Nat} {o o' : AO} {p : Pl} {ob' : Obj} (hb : H.get b = some o) (hp : φ b = some p) (ho : OR φ p o' ob') (d : Nat) (hw : o.own = true := by rfl) (hw' : o'.own = true := by rfl) : HR φ (H.set (some o') d b) n h0 (h.put p.B ob') := by
  obtain ⟨ob, hB, _, _⟩ := hr.of hb hp
  rw [AO.under_own hw] at hB
  refine ⟨hr.dom, fun x q hx => ?_, fun x y q q' px py hx hy hwx hwy hpx hpy e => ?_, fun x q hx => ?_, hr.size⟩
  · rcases PM.get_set d H b x q hx with ⟨rfl, h2⟩ | ⟨h1, h2⟩
    · injection h2 with h2
      subst h2
      exact ⟨p, ob', hp, by rw [AO.under_own hw']; exact hB, put_f_same _ _ _, ho⟩
    · obtain ⟨px, obx, h3, h4, h5, h6⟩ := hr.live x q h2
      refine ⟨px, obx, h3, h4, ?_, h6⟩
      rw [put_f_ne _ _ _ _ (fun e => by
        cases hq : q.own with
        | true => exact h1 (hr.inj x b q o px p h2 hb hq hw h3 hp e)
        | false =>
          rw [e, hB] at h4
          cases q <;> first | (cases hq; done) | (simp [AO.under] at h4; done))]
      exact h5
  · have lv : ∀ z r, (H.set (some o') d b).get z = some r → r.own = true → ∃ r', H.get z = some r' ∧ r'.own = true := fun z r hz hw2 => by
      rcases PM.get_set d H b z r hz with ⟨rfl, _⟩ | ⟨_, h2⟩
      · exact ⟨o, hb, hw⟩
      · exact ⟨r, h2, hw2⟩
    obtain ⟨r, hr1, hr3⟩ := lv x q hx hwx
    obtain ⟨r', hr2, hr4⟩ := lv y q' hy hwy
    exact hr.inj x y r r' px py hr1 hr2 hr3 hr4 hpx hpy e
  · obtain ⟨h1, h2⟩ := hr.base x q hx
    exact ⟨h1, by rw [put_f_ne _ _ _ _ (fun e => by subst e; rw [hB] at hx; cases hx)]; exact h2⟩
def PNew (φ : Ph) (n : Nat) (p : Pl) : Ph := fun x => if x = n then some p else φ x
theorem HR.ple {φ : Ph} {H : AH} {n : Nat} {h0 h : Hp} (hr : HR φ H n h0 h) (p : Pl) : PLe φ (PNew φ n p) := fun b q e => by
  unfold PNew
  rw [if_neg (by have := (hr.dom b q e).1; omega)]
  exact e
theorem PNew_same (φ : Ph) (n : Nat) (p : Pl) : PNew φ n p n = some p := by simp [PNew]
theorem HR.new {φ : Ph} {H : AH} {n : Nat} {h0 h : Hp} (hr : HR φ H n h0 h) {s T : Nat} {o : AO} {ob : Obj} (ho : OR (PNew φ n ⟨h.n, s, T⟩) ⟨h.n, s, T⟩ o ob) (d : Nat) (hw : o.own = true := by rfl) : HR (PNew φ n ⟨h.n, s, T⟩) (H.set (some o) d n) (n + 1) h0 ((h.put h.n ob).to (h.n + 1)) := by
  have old : ∀ x q, H.get x = some q → ∃ p ob', φ x = some p ∧ x < n ∧ p.B < h.n ∧ h0.f p.B = q.under ob' ∧ h.f p.B = some ob' ∧ OR φ p q ob' := fun x q hx => by
    obtain ⟨px, obx, h3, h4, h5, h6⟩ := hr.live x q hx
    exact ⟨px, obx, h3, (hr.dom x px h3).1, (hr.dom x px h3).2, h4, h5, h6⟩
  have hno : h0.f h.n = none := by
    cases hx : h0.f h.n with
    | none => rfl
    | some o => exact absurd (hr.base _ _ hx).1 (Nat.lt_irrefl _)
  refine ⟨fun x q hx => ?_, fun x q hx => ?_, fun x y q q' px py hx hy hwx hwy hpx hpy e => ?_, fun x q hx => ?_, ?_⟩
  · simp only [PNew] at hx
    split at hx
    · injection hx with hx; subst hx; simp only [to_n]; omega
    · have := hr.dom x q hx; simp only [to_n]; omega
  · rcases PM.get_set d H n x q hx with ⟨rfl, h2⟩ | ⟨h1, h2⟩
    · injection h2 with h2
      subst h2
      exact ⟨_, ob, PNew_same _ _ _, by rw [AO.under_own hw]; exact hno, by rw [to_f]; exact put_f_same _ _ _, ho⟩
    · obtain ⟨px, obx, h3, h4, h5, h6, h7, h8⟩ := old x q h2
      refine ⟨px, obx, hr.ple _ _ _ h3, h6, ?_, h8.mono (hr.ple _)⟩
      rw [to_f, put_f_ne _ _ _ _ (by omega)]; exact h7
  · have cs : ∀ z r pz, (H.set (some o) d n).get z = some r → PNew φ n ⟨h.n, s, T⟩ z = some pz → (z = n ∧ pz.B = h.n) ∨ (z ≠ n ∧ H.get z = some r ∧ φ z = some pz ∧ pz.B < h.n) := fun z r pz hz hpz => by
      rcases PM.get_set d H n z r hz with ⟨rfl, _⟩ | ⟨h1, h2⟩
      · rw [PNew_same] at hpz; injection hpz with hpz; subst hpz; exact .inl ⟨rfl, rfl⟩
      · simp only [PNew, if_neg h1] at hpz
        exact .inr ⟨h1, h2, hpz, (hr.dom _ _ hpz).2⟩
    rcases cs x q px hx hpx with ⟨a1, a2⟩ | ⟨a1, a2, a3, a4⟩ <;> rcases cs y q' py hy hpy with ⟨b1, b2⟩ | ⟨b1, b2, b3, b4⟩
    · omega
    · omega
    · omega
    · exact hr.inj x y q q' px py a2 b2 hwx hwy a3 b3 e
  · obtain ⟨h1, h2⟩ := hr.base x q hx
    exact ⟨by simp only [to_n]; omega, by rw [to_f, put_f_ne _ _ _ _ (by omega)]; exact h2⟩
  · have := hr.size
    simp only [to_n]; omega
theorem HR.kill {φ : Ph} {H : AH} {n : Nat} {h0 h : Hp} (hr : HR φ H n h0 h) (d b : Nat) : HR φ (H.set none d b) n h0 h := by
  have old : ∀ x q, (H.set none d b).get x = some q → H.get x = some q := fun x q hx => by
    rcases PM.get_set d H b x q hx with ⟨_, h2⟩ | ⟨_, h2⟩
    · cases h2
    · exact h2
  exact ⟨hr.dom, fun x q hx => hr.live x q (old x q hx), fun x y q q' px py hx hy => hr.inj x y q q' px py (old x q hx) (old y q' hy), hr.base, hr.size⟩
/-- A block takes a new name: the old one is gone. -/
theorem HR.rename {φ : Ph} {H : AH} {n : Nat} {h0 h : Hp} (hr : HR φ H n h0 h) {b : Nat} {o o' : AO} {p q : Pl} {ob' : Obj} (hb : H.get b = some o) (hp : φ b = some p) (hq : q.B = p.B) (ho : OR (PNew φ n q) q o' ob') (d d' : Nat) (hw : o.own = true := by rfl) (hw' : o'.own = true := by rfl) :
    HR (PNew φ n q) ((H.set none d' b).set (some o') d n) (n + 1) h0 (h.put p.B ob') := by
  obtain ⟨ob, hB, _, _⟩ := hr.of hb hp
  rw [AO.under_own hw] at hB
  have hpB := (hr.dom b p hp).2
  have old : ∀ x r, (H.set none d' b).get x = some r → x ≠ b ∧ H.get x = some r := fun x r hx => by
    rcases PM.get_set d' H b x r hx with ⟨_, h2⟩ | ⟨h1, h2⟩
    · cases h2
    · exact ⟨h1, h2⟩
  refine ⟨fun x r hx => ?_, fun x r hx => ?_, fun x y r r' px py hx hy hwx hwy hpx hpy e => ?_, fun x r hx => ?_, hr.size⟩
  · simp only [PNew] at hx
    split at hx
    · injection hx with hx; subst hx; simp only [put_n]; omega
    · have := hr.dom x r hx; simp only [put_n]; omega
  · rcases PM.get_set d _ n x r hx with ⟨rfl, h2⟩ | ⟨h1, h2⟩
    · injection h2 with h2
      subst h2
      exact ⟨_, ob', PNew_same _ _ _, by rw [hq, AO.under_own hw']; exact hB, by rw [hq]; exact put_f_same _ _ _, ho⟩
    · obtain ⟨h3, h4⟩ := old x r h2
      obtain ⟨px, obx, h5, h6, h7, h8⟩ := hr.live x r h4
      refine ⟨px, obx, hr.ple _ _ _ h5, h6, ?_, h8.mono (hr.ple _)⟩
      rw [put_f_ne _ _ _ _ (fun e => by
        cases hq : r.own with
        | true => exact h3 (hr.inj x b r o px p h4 hb hq hw h5 hp e)
        | false =>
          rw [e, hB] at h6
          cases r <;> first | (cases hq; done) | (simp [AO.under] at h6; done))]
      exact h7
  · have cs : ∀ z r pz, ((H.set none d' b).set (some o') d n).get z = some r → PNew φ n q z = some pz → (z = n ∧ pz.B = p.B) ∨ (z ≠ n ∧ z ≠ b ∧ H.get z = some r ∧ φ z = some pz) := fun z r pz hz hpz => by
      rcases PM.get_set d _ n z r hz with ⟨rfl, _⟩ | ⟨h1, h2⟩
      · rw [PNew_same] at hpz; injection hpz with hpz; subst hpz; exact .inl ⟨rfl, hq⟩
      · simp only [PNew, if_neg h1] at hpz
        obtain ⟨h3, h4⟩ := old z r h2
        exact .inr ⟨h1, h3, h4, hpz⟩
    rcases cs x r px hx hpx with ⟨a1, a2⟩ | ⟨a1, a2, a3, a4⟩ <;> rcases cs y r' py hy hpy with ⟨b1, b2⟩ | ⟨b1, b2, b3, b4⟩
    · omega
    · exact (b2 (hr.inj y b r' o py p b3 hb hwy hw b4 hp (by omega))).elim
    · exact (a2 (hr.inj x b r o px p a3 hb hwx hw a4 hp (by omega))).elim
    · exact hr.inj x y r r' px py a3 b3 hwx hwy a4 b4 e
  · obtain ⟨h1, h2⟩ := hr.base x r hx
    exact ⟨h1, by rw [put_f_ne _ _ _ _ (fun e => by subst e; rw [hB] at hx; cases hx)]; exact h2⟩

/-! ### frames -/
def FR (φ : Ph) (σ : AE) (ρ : Env) : Prop := ∀ t a, σ.get t = some a → VR φ a (ρ t)
theorem FR.mono {φ ψ : Ph} (he : PLe φ ψ) {σ : AE} {ρ : Env} (h : FR φ σ ρ) : FR ψ σ ρ := fun t a e => VR.mono he _ _ (h t a e)
theorem FR.ev {φ : Ph} {σ : AE} {ρ : Env} (h : FR φ σ ρ) (x : Operand) : VR φ (eev σ x) (ρ.ev x) := by
  cases x with
  | tmp t =>
    simp only [eev, Env.ev]
    rcases getq_some depthE t σ _ rfl with e | e
    · show VR φ (getq (pathOf depthE t) σ) (ρ t)
      rw [e]; exact .bad _
    · exact h t _ e
  | const v => exact ofV_sound v
  | global g => exact .any _
  | func f => exact .fn (xs := #[]) (cs := #[]) .nil .nil
theorem FR.at {φ : Ph} {σ : AE} {ρ : Env} (h : FR φ σ ρ) (t : Nat) : VR φ (getq (pa t) σ) (ρ t) := FR.ev h (.tmp t)
theorem FR.put {φ : Ph} {σ : AE} {ρ : Env} (h : FR φ σ ρ) (d : Option Nat) {a : AV} {v : Value} (hv : VR φ a v) : FR φ (eput σ d a) (ρ.put d v) := by
  cases d with
  | none => exact h
  | some d =>
    intro t x e
    rcases setq_get depthE σ d t x e with ⟨rfl, h2⟩ | ⟨h1, h2⟩
    · subst h2
      rw [put_some, upd_same]; exact hv
    · rw [put_some, upd_ne _ _ _ _ h1]; exact h t x h2

/-! ### texts -/
theorem vstr_toList (s : List Nat) : (vstr s).toList = s.map UInt8.ofNat := ByteArray.toList_mk _
theorem vstr_size (s : List Nat) : (vstr s).size = s.length := by
  show (s.map UInt8.ofNat).toArray.size = _
  simp
theorem vstr_append (a b : List Nat) : vstr a ++ vstr b = vstr (a ++ b) := by
  apply ByteArray.ext
  simp [vstr]
theorem vstr_extract (s : List Nat) (l h : Nat) : (vstr s).extract l h = vstr ((s.drop l).take (h - l)) := by
  unfold vstr
  rw [ByteArray.extract_mk]
  simp [List.map_take, List.map_drop]
theorem ofNat_inj {a b : Nat} (ha : a < 256) (hb : b < 256) (h : UInt8.ofNat a = UInt8.ofNat b) : a = b := by
  have := congrArg UInt8.toNat h
  simp only [UInt8.toNat_ofNat'] at this
  omega
theorem beqL_spec : ∀ (a b : List Nat), (∀ x ∈ a, x < 256) → (∀ x ∈ b, x < 256) → beqL a b = (a.map UInt8.ofNat == b.map UInt8.ofNat)
  | [], [], _, _ => by simp [beqL]
  | [], _ :: _, _, _ => by simp [beqL]
  | _ :: _, [], _, _ => by simp [beqL]
  | a :: x, b :: y, ha, hb => by
    unfold beqL
    have ih := beqL_spec x y (fun z hz => ha z (by simp [hz])) (fun z hz => hb z (by simp [hz]))
    rw [List.map_cons, List.map_cons, List.cons_beq_cons]
    split
    · rename_i e
      have := Nat.eq_of_beq_eq_true e
      subst this
      simp [ih]
    · rename_i e
      have hne : a ≠ b := fun q => by subst q; simp at e
      have : UInt8.ofNat a ≠ UInt8.ofNat b := fun q => hne (ofNat_inj (ha a (by simp)) (hb b (by simp)) q)
      simp [this]
theorem ltL_spec : ∀ (a b : List Nat), (∀ x ∈ a, x < 256) → (∀ x ∈ b, x < 256) → ltL a b = Op.bytesLess (a.map UInt8.ofNat) (b.map UInt8.ofNat)
  | [], [], _, _ => by simp [ltL, Op.bytesLess]
  | [], _ :: _, _, _ => by simp [ltL, Op.bytesLess]
  | _ :: _, [], _, _ => by simp [ltL, Op.bytesLess]
  | a :: x, b :: y, ha, hb => by
    unfold ltL
    have ih := ltL_spec x y (fun z hz => ha z (by simp [hz])) (fun z hz => hb z (by simp [hz]))
    have ha' := ha a (by simp)
    have hb' := hb b (by simp)
    rw [List.map_cons, List.map_cons, Op.bytesLess]
    split
    · rename_i e
      have := Nat.eq_of_beq_eq_true e
      subst this
      simp [ih]
    · rename_i e
      have hne : a ≠ b := fun q => by subst q; simp at e
      have h2 : UInt8.ofNat a ≠ UInt8.ofNat b := fun q => hne (ofNat_inj ha' hb' q)
      have h3 : decide (UInt8.ofNat a < UInt8.ofNat b) = Nat.blt a b := by
        rw [Bool.eq_iff_iff, decide_eq_true_eq, UInt8.lt_iff_toNat_lt, UInt8.toNat_ofNat', UInt8.toNat_ofNat', Nat.mod_eq_of_lt ha', Nat.mod_eq_of_lt hb']
        simp [Nat.blt_eq]
      simp [h2, h3]

/-! ### numbers, texts, places compared -/
section
variable {P : Program} {φ : Ph} {H : AH} {n : Nat} {h0 h : Hp} {K : Value → Prop}
theorem eint_sound {op : BinOp} {t : TypeId} {k k' : IntKind} {a b : Int} {r : AV} (e : eint op k k' a b = some r) (hk : ∀ v, VR φ r v → K v) : abin P op t (.int k a) (.int k' b) K := by
  unfold eint at e
  simp only [abin]
  cases op <;> simp only at e ⊢
  case shl => split at e <;> first | (injection e with e; subst e; exact ⟨by assumption, hk _ (.int _ _)⟩) | cases e
  case shr => split at e <;> first | (injection e with e; subst e; exact ⟨by assumption, hk _ (.int _ _)⟩) | cases e
  case quo =>
    split at e
    · rename_i hkk
      split at e
      · cases e
      · rename_i hb; injection e with e; subst e; exact ⟨hkk, hb, hk _ (.int _ _)⟩
    · cases e
  case rem =>
    split at e
    · rename_i hkk
      split at e
      · cases e
      · rename_i hb; injection e with e; subst e; exact ⟨hkk, hb, hk _ (.int _ _)⟩
    · cases e
  case neq =>
    split at e
    · rename_i hkk
      injection e with e; subst e
      refine ⟨hkk, ?_⟩
      have : decide (a ≠ b) = !decide (a = b) := by by_cases q : a = b <;> simp [q]
      rw [this]; exact hk _ (.bool _)
    · cases e
  all_goals
    split at e
    · rename_i hkk
      injection e with e; subst e
      exact ⟨hkk, hk _ (by first | exact .int _ _ | exact .bool _)⟩
    · cases e
theorem estr_sound {op : BinOp} {t : TypeId} {a b : List Nat} {r : AV} (ha : ∀ x ∈ a, x < 256) (hb : ∀ x ∈ b, x < 256) (e : estr op a b = some r) (hk : ∀ v, VR φ r v → K v) : abin P op t (.string (vstr a)) (.string (vstr b)) K := by
  unfold estr at e
  have e1 : beqL a b = ((vstr a).toList == (vstr b).toList) := by rw [vstr_toList, vstr_toList]; exact beqL_spec a b ha hb
  have e2 : ltL a b = Op.bytesLess (vstr a).toList (vstr b).toList := by rw [vstr_toList, vstr_toList]; exact ltL_spec a b ha hb
  cases op <;> simp only at e <;> simp only [abin]
  case add =>
    split at e
    · rename_i hle
      injection e with e; subst e
      refine ⟨by rw [vstr_size, vstr_size]; exact hle, ?_⟩
      rw [vstr_append]
      exact hk _ (.str fun x hx => (List.mem_append.1 hx).elim (ha x) (hb x))
    · cases e
  all_goals first | (cases e; done) | (injection e with e; subst e; (first | rw [← e1, ← e2] | rw [← e1] | rw [← e2]); exact hk _ (.bool _))
end
end Go.Proofs.Ytaejmcgcfopmkaa
