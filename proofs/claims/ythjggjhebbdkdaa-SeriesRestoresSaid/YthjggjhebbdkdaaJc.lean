/- Texts of our own, joined: the engine, the machine that runs code, and what is known of the functions. -/
import Derived.Test.YthjggjhebbdkdaaRows
import Derived.WalkKit
import Derived.Deep.Quiet
import Derived.ProofKit
import Derived.Laws.StructEq
import Derived.LaidEql
import Derived.Laws.BytesArg
import Derived.Maps.RangeRun
import Derived.RangeFuncSeq
import Derived.Scope
import Derived.Laws.Strings
import Derived.Laws.Strings2
import Derived.Below
import Derived.Carry
import Derived.OpenShut
import Derived.Test.YthjggjhebbdkdaaJb
import Derived.ChangeMaps5
import Derived.Deep.Slices
import Derived.Deep.SlicePairs
import Derived.SizedLaws
set_option linter.unusedSimpArgs false
set_option linter.unusedVariables false
set_option maxHeartbeats 16000000
set_option maxRecDepth 100000
namespace Go.Proofs.Ythjggjhebbdkdaa
open Go Go.RowKit
section
variable {φ : Ph} {H : AH} {n : Nat} {h0 h : Hp} {σ : AE} {ρ : Env}
theorem aP {α : Type} {o : Option α} {k : α → Prop} (h : bU o k) : ∃ a, o = some a ∧ k a := by
  cases o with
  | none => exact h.elim
  | some a => exact ⟨a, rfl, h⟩
theorem ao {α : Type} {o : Option α} {k : α → Prop} {a : α} (h : o = some a) (hk : k a) : bU o k := by subst h; exact hk
theorem dO {b : Bool} {t : Prop} (h : dA b t False) : b = true ∧ t := by
  cases b with
  | true => exact ⟨rfl, h⟩
  | false => exact h.elim
theorem Ask.inv {α : Type} {o : Option α} {k : α → Prop} (h : Ask o k) : ∃ a, o = some a ∧ k a := by
  obtain ⟨a, h1, h2⟩ := h; exact ⟨a, h1, h2⟩
theorem VR.hd {a : AV} {v : Value} (h : VR φ a v) : VR φ (hd a) v := by cases a <;> exact h
theorem VR.mk {a : AV} {v : Value} (h : VR φ a v) : VR φ (mk a) v := by cases a <;> exact h
theorem VRs.G7 : ∀ {l : List AV} {vs : List Value}, VRs φ l vs → VRs φ (l.map Go.Proofs.Ythjggjhebbdkdaa.hd) vs
  | [], vs, h => by rw [h.aW]; exact .nil
  | a :: l, vs, h => by
    obtain ⟨v, us, rfl, h1, h2⟩ := h.cons_inv
    exact .cons h1.hd (VRs.G7 h2)
theorem VR.G8 {l : List AV} {v : Value} (h : VR φ (.agg l) v) : VR φ (.agg (l.map Go.Proofs.Ythjggjhebbdkdaa.hd)) v := by
  obtain ⟨cs, rfl, h1⟩ := h.eJ
  exact .agg h1.G7
theorem bV.then {κ : PK} {K : KH} {v : AV} (hk : bV φ h0 κ K) (h : κ v H n) : m5 φ h0 v H n K := fun ψ u g h1 h2 h3 => hk ψ v H n u g h1 h2 h3 h
theorem bV.HW {κ : PK} {K : KH} {r : AV × AH × Nat} (hk : bV φ h0 κ K) (h : mk3 κ r) : m5 φ h0 r.1 r.2.1 r.2.2 K := fun ψ u g h1 h2 h3 => hk ψ _ _ _ u g h1 h2 h3.mk h
def kZ (call : CP) : Prop := ∀ (f : FuncId) (args : List AV) (H : AH) (n : Nat) (κ : PK), call f args H n κ → ∀ (φ : Ph) (h0 h : Hp) (vs : Array Value) (K : KH), HR φ H n h0 h → VRs φ args vs.toList → bV φ h0 κ K → cL Try.prog f vs h K
theorem mn {P : Program} {op : BinOp} {t : TypeId} {k j : IntKind} {a b : Int} {c : Bool} {κ : AV → Prop} {K : Value → Prop} (hs : AM op k j a b c κ) (hk : ∀ r u, κ r → VR φ r u → K u) : iz P op t (.int k a) (.int j b) K := by
  have hi : ∀ {x}, κ (.si k x) → K (.int k x) := fun h => hk _ _ h (.si _ _)
  have hb : ∀ {x}, κ (.sb x) → K (.bool x) := fun h => hk _ _ h (.sb _)
  have kd : ∀ {A : Prop}, dA (Cz k j) A False → k = j ∧ A := fun h => by
    obtain ⟨h1, h2⟩ := dO h
    rw [CB] at h1
    exact ⟨by simpa using h1, h2⟩
  cases op <;> simp only [AM] at hs
  case shl =>
    cases c with
    | false => exact ⟨hs.1, hi hs.2⟩
    | true =>
      cases hl : ltq b 0 with
      | true => rw [hl] at hs; exact hs.elim
      | false =>
        rw [hl] at hs
        rw [CC] at hl
        have : ¬ b < 0 := by simpa using hl
        exact ⟨by omega, hi hs⟩
  case shr =>
    cases c with
    | false => exact ⟨hs.1, hi hs.2⟩
    | true =>
      cases hl : ltq b 0 with
      | true => rw [hl] at hs; exact hs.elim
      | false =>
        rw [hl] at hs
        rw [CC] at hl
        have : ¬ b < 0 := by simpa using hl
        exact ⟨by omega, hi hs⟩
  all_goals (obtain ⟨hkj, h2⟩ := kd hs; clear hs; subst hkj)
  case quo =>
    cases c with
    | false => exact ⟨rfl, h2.1, hi h2.2⟩
    | true =>
      cases hl : eqq b 0 with
      | true => rw [hl] at h2; exact h2.elim
      | false =>
        rw [hl] at h2
        rw [CD] at hl
        exact ⟨rfl, by simpa using hl, hi h2⟩
  case rem =>
    cases c with
    | false => exact ⟨rfl, h2.1, hi h2.2⟩
    | true =>
      cases hl : eqq b 0 with
      | true => rw [hl] at h2; exact h2.elim
      | false =>
        rw [hl] at h2
        rw [CD] at hl
        exact ⟨rfl, by simpa using hl, hi h2⟩
  case neq =>
    refine ⟨rfl, ?_⟩
    have : decide (a ≠ b) = !decide (a = b) := by simp
    rw [this]; exact hb h2
  all_goals first | exact ⟨rfl, hi h2⟩ | exact ⟨rfl, hb h2⟩
theorem mo {P : Program} {op : BinOp} {t : TypeId} {a b : List Nat} {κ : AV → Prop} {K : Value → Prop} (ha : ∀ x ∈ a, x < 256) (hb : ∀ x ∈ b, x < 256) (hs : AN op a b κ) (hk : ∀ r u, κ r → VR φ r u → K u) : iz P op t (.string (dz a)) (.string (dz b)) K := by
  have key : ∀ {r : AV}, Cp op a b = some r → κ (mk r) → iz P op t (.string (dz a)) (.string (dz b)) K := fun e h1 => p9 (φ := φ) ha hb e fun u hu => hk _ u h1 hu.mk
  cases op <;> simp only [AN] at hs
  case add => exact key (r := .str (a ++ b)) (by simp only [Cp]; rw [if_pos hs.1]) hs.2
  all_goals first | exact hs.elim | exact key rfl hs
theorem mq {op : BinOp} {t : TypeId} {a b : Bool} {κ : AV → Prop} {K : Value → Prop} (hs : CH op t a b κ) (hk : ∀ r u, κ r → VR φ r u → K u) : iz Try.prog op t (.bool a) (.bool b) K := by
  obtain ⟨h1, h2⟩ := dO hs
  have ht := m4 h1
  cases op <;> first | exact h2.elim | exact ⟨ht, hk _ _ h2 (.sb _)⟩
theorem qj (hr : HR φ H n h0 h) {op : BinOp} {t : TypeId} {x y : AV} {v u : Value} {κ : AV → Prop} {K : Value → Prop} (hx : VR φ x v) (hy : VR φ y u) (hs : vz op t x y H κ) (hk : ∀ r u, κ r → VR φ r u → K u) : gH Try.prog op t v u h K := by
  unfold vz at hs
  split at hs
  · obtain ⟨r, h1, h2⟩ := aP hs
    rw [hx.bJ, hy.bJ]
    show iz Try.prog op t (.int _ _) (.int _ _) K
    exact p8 (φ := φ) h1 fun u hu => hk _ u h2 hu
  · rw [hx.bJ, hy.eL]; exact mn (P := Try.prog) (t := t) hs hk
  · rw [hx.eL, hy.bJ]; exact mn (P := Try.prog) (t := t) hs hk
  · rw [hx.eL, hy.eL]; exact mn (P := Try.prog) (t := t) hs hk
  · obtain ⟨rfl, h1⟩ := hx.nQ
    obtain ⟨rfl, h2⟩ := hy.nQ
    exact mo (P := Try.prog) (t := t) h1 h2 hs hk
  · obtain ⟨rfl, h1⟩ := hx.nQ
    obtain ⟨rfl, h2⟩ := hy.cj
    exact mo (P := Try.prog) (t := t) h1 h2 hs hk
  · obtain ⟨rfl, h1⟩ := hx.cj
    obtain ⟨rfl, h2⟩ := hy.nQ
    exact mo (P := Try.prog) (t := t) h1 h2 hs hk
  · rw [hx.gX, hy.gX]; exact mq hs hk
  · rw [hx.gX, hy.bF]; exact mq hs hk
  · rw [hx.bF, hy.gX]; exact mq hs hk
  · rename_i xs ys
    cases hb : (xs.any isS || ys.any isS) with
    | true =>
      rw [hb] at hs
      obtain ⟨r, h1, h2⟩ := aP hs
      exact j5 hr hx.G8 hy.G8 h1 fun u hu => hk _ u h2 hu.mk
    | false =>
      rw [hb] at hs
      obtain ⟨r, h1, h2⟩ := aP hs
      exact j5 hr hx hy h1 fun u hu => hk _ u h2 hu
  · obtain ⟨r, h1, h2⟩ := aP hs
    exact j5 hr hx hy h1 fun u hu => hk _ u h2 hu
theorem se {op : UnOp} {x : AV} {v : Value} {κ : AV → Prop} {K : Value → Prop} (hx : VR φ x v) (hs : unP op x κ) (hk : ∀ r u, κ r → VR φ r u → K u) : aun op v K := by
  unfold unP at hs
  split at hs
  · rw [hx.gX]; exact hk _ _ hs (.sb _)
  · rw [hx.eL]; exact hk _ _ hs (.si _ _)
  · rw [hx.eL]; exact hk _ _ hs (.si _ _)
  · obtain ⟨r, h1, h2⟩ := aP hs
    exact rZ hx h1 fun u hu => hk _ u h2 hu
theorem eZ {q : Bool} {x y : AV} {v u : Value} {κ : AV → Prop} {K : Value → Prop} (hx : VR φ x v) (hy : VR φ y u) (hs : mmP q x y κ) (hk : ∀ r u, κ r → VR φ r u → K u) : bZ q v u K := by
  unfold mmP at hs
  split at hs
  · rw [hx.eL, hy.eL]; exact hk _ _ hs (.si _ _)
  · rw [hx.eL, hy.bJ]; exact hk _ _ hs (.si _ _)
  · rw [hx.bJ, hy.eL]; exact hk _ _ hs (.si _ _)
  · obtain ⟨r, h1, h2⟩ := aP hs
    exact nU hx hy h1 fun u hu => hk _ u h2 hu
theorem qk (hr : HR φ H n h0 h) {t : TypeId} {x : AV} {v : Value} {κ : AV → Prop} {K : Value → Prop} (hx : VR φ x v) (hs : AP t x H κ) (hk : ∀ r u, κ r → VR φ r u → K u) : jO Try.prog t v h K := by
  unfold AP at hs
  split at hs
  · obtain ⟨r, h1, h2⟩ := aP hs
    exact j6 hr hx.hd h1 fun u hu => hk _ u h2 hu.mk
  · obtain ⟨r, h1, h2⟩ := aP hs
    exact j6 hr hx.hd h1 fun u hu => hk _ u h2 hu.mk
  · obtain ⟨h1, h2⟩ := dO hs
    have hu : ∃ e, Try.prog.underlying t = some (.slice e) := by
      unfold pX at h1
      split at h1
      · rename_i e; exact ⟨_, e⟩
      · cases h1
    obtain ⟨e, hu⟩ := hu
    rcases hx.eM with ⟨rfl, he⟩ | ⟨p, a, C, _, rfl, _⟩
    · obtain ⟨_, rfl⟩ := he.is; simp only [jO, hu]; exact hk _ _ h2 (.si _ _)
    · (try simp only [jO, hu]); exact hk _ _ h2 (.si _ _)
  · obtain ⟨h1, h2⟩ := dO hs
    have hu : ∃ e, Try.prog.underlying t = some (.slice e) := by
      unfold pX at h1
      split at h1
      · rename_i e; exact ⟨_, e⟩
      · cases h1
    obtain ⟨e, hu⟩ := hu
    obtain ⟨a, C, rfl⟩ := hx.Cw
    (try simp only [jO, hu]); exact hk _ _ h2 (.si _ _)
  · obtain ⟨r, h1, h2⟩ := aP hs
    exact j6 hr hx h1 fun u hu => hk _ u h2 hu
theorem iG {ix : AV} {len : Nat} {s : Bool} {v : Value} {κ : Nat → Prop} (hx : VR φ ix v) (hs : ixP ix len s κ) : ∃ i, i < len ∧ (∃ k, v = .int k (i : Int)) ∧ κ i := by
  unfold ixP at hs
  split at hs
  · obtain ⟨j, rfl, h1, h2⟩ := hs
    exact ⟨j, h1, ⟨_, hx.eL⟩, h2⟩
  · obtain ⟨j, rfl, h1, h2⟩ := hs
    exact ⟨j, h1, ⟨_, hx.bJ⟩, h2⟩
  · obtain ⟨i, h1, h2⟩ := aP hs
    obtain ⟨h3, h4⟩ := kV hx h1
    exact ⟨i, h3, h4, h2⟩
theorem jw {t : TypeId} {x ix : AV} {v u : Value} {κ : AV → Prop} {K : Value → Prop} (hx : VR φ x v) (hi : VR φ ix u) (hs : gi t x ix κ) (hk : ∀ r u, κ r → VR φ r u → K u) : bY Try.prog t v u K := by
  have sl : ∀ {e b o m c k s}, Try.prog.underlying t = some (.slice e) → VR φ (.sl b o m c k) v → bU (ah Try.prog e) (fun k => ixP ix m s fun i => κ (.ptr b (o + i * k))) → bY Try.prog t v u K := fun {e b o m c k s} hu hx hs => by
    obtain ⟨es, h1, h2⟩ := aP hs
    obtain ⟨i, h3, ⟨kk, rfl⟩, h4⟩ := iG hi h2
    obtain ⟨p, C, hp, rfl, _, _⟩ := hx.dI
    (try simp only [bY, hu, h1])
    refine ⟨by omega, by omega, ?_⟩
    rw [Int.toNat_natCast, Nat.add_assoc]
    exact hk _ _ h4 (.ptr hp)
  unfold gi at hs
  split at hs
  · rename_i hu; exact sl hu hx hs
  · rename_i hu; exact sl hu hx.hd hs
  · rename_i hu
    obtain ⟨es, h1, h2⟩ := aP hs
    obtain ⟨i, h3, ⟨kk, rfl⟩, h4⟩ := iG hi h2
    rcases hx.eM with ⟨h5, _⟩ | ⟨p, a, C, hp, rfl, ha, _⟩
    · omega
    have ha := ha (by omega)
    subst ha
    (try simp only [bY, hu, h1])
    refine ⟨by omega, by omega, ?_⟩
    rw [Int.toNat_natCast, Nat.add_assoc]
    exact hk _ _ h4 (.ptr hp)
  · rename_i hu
    obtain ⟨es, h1, h2⟩ := aP hs
    obtain ⟨hes, h2b⟩ := dO h2
    have := Nat.eq_of_beq_eq_true hes
    subst this
    obtain ⟨i, h3, ⟨kk, rfl⟩, h4⟩ := iG hi h2b
    rcases hx.nR with ⟨h5, _⟩ | ⟨q, y, C, hq, rfl, hC, hl⟩
    · omega
    (try simp only [bY, hu, h1])
    refine ⟨by omega, by omega, ?_⟩
    rw [Int.toNat_natCast]
    have hlen : ∀ {n : Nat} {l : List AV}, bu q.L y n = some l → bu q.L y l.length = some l := fun {n l} hl => by
      have : l.length = n := by obtain ⟨g1, g2⟩ := bj hl; rw [g2]; simp; omega
      rw [this]; exact hl
    exact hk _ _ h4 (.fa hq (hlen hl))
  · rename_i len el b o hu
    obtain ⟨es, h1, h2⟩ := aP hs
    obtain ⟨i, h3, ⟨kk, rfl⟩, h4⟩ := iG hi h2
    obtain ⟨p, hp, rfl⟩ := hx.ct
    (try simp only [bY, hu, h1])
    refine ⟨by omega, by omega, ?_⟩
    rw [Int.toNat_natCast, Nat.add_assoc]
    exact hk _ _ h4 (.ptr hp)
  · exact hs.elim
theorem m7 {t : TypeId} {x ix : AV} {v u : Value} {κ : AV → Prop} {K : Value → Prop} (hx : VR φ x v) (hi : VR φ ix u) (hs : nW t x ix κ) (hk : ∀ r u, κ r → VR φ r u → K u) : gW Try.prog t v u K := by
  have str : ∀ {s : List Nat} {i c : Nat} {kk : IntKind} {q : Bool}, Try.prog.underlying t = some .string → VR φ (.str s) v → u = .int kk (i : Int) → i < s.length → nth s i = some c → (∀ u, VR φ (.int .u8 (Int.ofNat c)) u → K u) → gW Try.prog t v u K := fun {s i c kk q} hu hx he hlt hc hk => by
    obtain ⟨rfl, hs⟩ := hx.cj
    subst he
    rw [ep] at hc
    have h2 := hs c (List.mem_of_getElem? hc)
    simp only [gW, hu, cn, Int.toNat_natCast, List.getElem?_map, hc, Option.map_some]
    refine ⟨by omega, hk _ ?_⟩
    have : ((UInt8.ofNat c).toNat : Int) = Int.ofNat c := by
      rw [UInt8.toNat_ofNat', Nat.mod_eq_of_lt h2]; rfl
    rw [this]; exact .int _ _
  unfold nW at hs
  split at hs
  · rename_i len el l hu
    obtain ⟨cs, rfl, hl⟩ := hx.eJ
    obtain ⟨k, h1, h2⟩ := aP hs
    obtain ⟨i, h3, ⟨kk, rfl⟩, h4⟩ := iG hi h2
    obtain ⟨r, h5, h6⟩ := aP h4
    (try simp only [gW, hu, h1])
    refine ⟨by omega, by omega, ?_⟩
    rw [Int.toNat_natCast]
    exact kU hl h5 fun u hu => hk _ u h6 hu
  · rename_i s hu
    obtain ⟨i, h3, ⟨kk, he⟩, h4⟩ := iG hi hs
    obtain ⟨c, h5, h6⟩ := aP h4
    refine str (q := true) hu hx he h3 h5 fun u hu => ?_
    split at h6
    · exact hk _ u h6 hu
    · exact hk _ u h6 hu.mk
  · rename_i s hu
    obtain ⟨i, h3, ⟨kk, he⟩, h4⟩ := iG hi hs
    obtain ⟨c, h5, h6⟩ := h4.inv
    exact str (q := true) hu hx.hd he h3 h5 fun u hu => hk _ u h6 hu.mk
  · exact hs.elim
theorem sf {l : List AV} {t : TypeId} {b o : Nat} {κ : AV → Prop} {z : Bool} (hb : H.get b = some (.cells l z) ∨ H.get b = some (.ro l)) (hs : qf l t o κ) : ∃ r, rT Try.prog t (.ptr b o) H = some r ∧ κ r := by
  unfold qf at hs
  split at hs
  · rename_i hg
    obtain ⟨r, h1, h2⟩ := aP hs
    exact ⟨r, by rcases hb with hb | hb <;> simp only [rT, hb, hg, h1], h2⟩
  · rename_i hg
    obtain ⟨m, h1, h2⟩ := aP hs
    obtain ⟨r, h3, h4⟩ := aP h2
    exact ⟨.agg r, by rcases hb with hb | hb <;> simp only [rT, hb, hg, h1, h3, Option.map_some], h4⟩
  · exact hs.elim
theorem k7 (hr : HR φ H n h0 h) {t : TypeId} {a : AV} {v : Value} {κ : AV → Prop} {K : Value → Prop} (ha : VR φ a v) (hs : oD t a H κ) (hk : ∀ r u, κ r → VR φ r u → K u) : fJ Try.prog t v h K := by
  unfold oD at hs
  split at hs
  · split at hs
    · rename_i hb
      obtain ⟨r, h1, h2⟩ := sf (.inl hb) hs
      exact kT hr ha h1 fun u hu => hk _ u h2 hu
    · rename_i hb
      obtain ⟨r, h1, h2⟩ := sf (z := true) (.inr hb) hs
      exact kT hr ha h1 fun u hu => hk _ u h2 hu
    · exact hs.elim
  · rename_i l o
    obtain ⟨q, y, hq, rfl, hl⟩ := ha.tn
    obtain ⟨⟨⟨_, c, tt, fz, hc, hsz, hcr⟩, _⟩, _⟩ := hr.frz q hq
    have hcl : CR φ c (q.s + y) l := by
      obtain ⟨g1, g2⟩ := bj hl
      rw [g2]; exact CR.drop hcr
    unfold qf at hs
    (try simp only [fJ, hc])
    split at hs
    · rename_i hg
      obtain ⟨r, h1, h2⟩ := aP hs
      obtain ⟨v, g1, g2⟩ := hcl.nth h1
      (try simp only [hg, g1])
      exact hk _ _ h2 g2
    · rename_i hg
      obtain ⟨m, h1, h2⟩ := aP hs
      obtain ⟨r, h3, h4⟩ := aP h2
      obtain ⟨vs, g1, g2⟩ := hcl.sub h3
      (try simp only [hg, h1, g1])
      exact hk _ _ h4 (.agg (by simpa using g2))
    · exact hs.elim
  · exact hs.elim
theorem m8 (hr : HR φ H n h0 h) {t : TypeId} {a x : AV} {av xv : Value} {κ : PK} {K : KH} (ha : VR φ a av) (hx : VR φ x xv) (hs : j9 t a x H n κ) (hk : bV φ h0 κ K) : kG Try.prog t av xv h K := by
  unfold j9 at hs
  split at hs
  · split at hs
    · rename_i l z hb
      obtain ⟨s, h1, h2⟩ := aP hs
      obtain ⟨h3, h4⟩ := dO h2
      obtain ⟨l', h5, h6⟩ := aP h4
      refine m6 hr ha hx (r := cJ) ?_ (hk.then h6)
      (try simp only [tk, hb, h1, h3, h5])
    · exact hs.elim
  · exact hs.elim
theorem yZ {κ : PK} {K : KH} {q : Bool} {e e' : AR} {A : Prop} (hk : bV φ h0 κ K) (hs : dA q (Ask e' (mk3 κ)) (bU e (un3 κ)))
    (a : ∀ r H' n', e = some (r, H', n') → m5 φ h0 r H' n' K → A) (b : ∀ r H' n', e' = some (r, H', n') → m5 φ h0 r H' n' K → A) : A := by
  cases q with
  | true =>
    obtain ⟨r, h1, h2⟩ := Ask.inv hs
    exact b _ _ _ h1 (hk.HW h2)
  | false =>
    obtain ⟨r, h1, h2⟩ := aP hs
    exact a _ _ _ h1 (hk.then h2)
theorem sg {c : AV} {v : Value} {A B : Prop} (hc : VR φ c v) (hs : vA c A B) : ∃ q, v = .bool q ∧ (q = true → A) ∧ (q = false → B) := by
  unfold vA at hs
  split at hs
  · exact ⟨true, hc.bF, fun _ => hs, fun k => by cases k⟩
  · exact ⟨false, hc.bF, (fun k => by cases k), fun _ => hs⟩
  · rename_i q; exact ⟨q, hc.gX, hs.t, hs.f⟩
  · exact hs.elim
theorem AS : ∀ f, COk Try.prog f (CA f) := fun f args H n v H' n' e => by cases e
theorem oF (hr : HR φ H n h0 h) (hf : FR φ σ ρ) {o : Op} {κ : PK} {K : KH} (hs : vB o σ H n κ) (hk : bV φ h0 κ K) : br Try.prog o ρ h K := by
  obtain ⟨⟨v, H', n'⟩, h1, h2⟩ := aP hs
  exact vt AS hr hf h1 (hk.then h2)
theorem AT (hf : FR φ σ ρ) {t : TypeId} {x r : AV} {v : Value} {lo hi mx : Option Operand} {K : Value → Prop} (hx : VR φ x v) (e : fV Try.prog t (hd x) ((lo.map (eev σ)).map hd) ((hi.map (eev σ)).map hd) ((mx.map (eev σ)).map hd) = some r)
    (hk : ∀ u, VR φ r u → K u) : cI Try.prog t v (lo.map ρ.ev) (hi.map ρ.ev) (mx.map ρ.ev) K := by
  have key : ∀ (l h m : Option AV) (lv hv mv : Option Value), (∀ a, l = some a → ∃ u, lv = some u ∧ VR φ a u) → (l = none → lv = none) → (∀ a, h = some a → ∃ u, hv = some u ∧ VR φ a u) → (h = none → hv = none) → (∀ a, m = some a → ∃ u, mv = some u ∧ VR φ a u) → (m = none → mv = none) →
      fV Try.prog t (hd x) l h m = some r → cI Try.prog t v lv hv mv K := by
    intro l h m lv hv mv a1 a2 a3 a4 a5 a6 e
    let σ' : AE := ((PM.nil.set l db 0).set h db 1).set m db 2
    let ρ' : Env := fun i => if i = 0 then lv.getD undef else if i = 1 then hv.getD undef else mv.getD undef
    have hf' : FR φ σ' ρ' := fun i a ha => by
      rcases PM.ak db _ 2 i a ha with ⟨rfl, h2⟩ | ⟨h1, h2⟩
      · obtain ⟨u, rfl, h3⟩ := a5 a h2; exact h3
      · rcases PM.ak db _ 1 i a h2 with ⟨rfl, h4⟩ | ⟨h3, h4⟩
        · obtain ⟨u, rfl, h3⟩ := a3 a h4; exact h3
        · rcases PM.ak db _ 0 i a h4 with ⟨rfl, h6⟩ | ⟨h5, h6⟩
          · obtain ⟨u, rfl, h3⟩ := a1 a h6; exact h3
          · cases h6
    have sl : ∀ (i : Nat) (q : Option AV) (qv : Option Value), (∀ a, q = some a → ay (pa i) σ' = a ∧ ∃ u, qv = some u ∧ ρ' i = u) → (q = none → qv = none) → ∃ o : Option Operand, o.map (eev σ') = q ∧ o.map ρ'.ev = qv := fun i q qv b1 b2 => by
      cases q with
      | none => exact ⟨none, rfl, by rw [b2 rfl]; rfl⟩
      | some a =>
        obtain ⟨c1, u, c2, c3⟩ := b1 a rfl
        exact ⟨some (.tmp i), by simp only [Option.map_some, eev, c1], by simp only [Option.map_some, Env.ev, c2, c3]⟩
    obtain ⟨o1, p1, q1⟩ := sl 0 l lv (fun a ha => by subst ha; obtain ⟨u, rfl, _⟩ := a1 a rfl; exact ⟨by cases h <;> cases m <;> rfl, u, rfl, rfl⟩) a2
    obtain ⟨o2, p2, q2⟩ := sl 1 h hv (fun a ha => by subst ha; obtain ⟨u, rfl, _⟩ := a3 a rfl; exact ⟨by cases l <;> cases m <;> rfl, u, rfl, rfl⟩) a4
    obtain ⟨o3, p3, q3⟩ := sl 2 m mv (fun a ha => by subst ha; obtain ⟨u, rfl, _⟩ := a5 a rfl; exact ⟨by cases l <;> cases h <;> rfl, u, rfl, rfl⟩) a6
    rw [← q1, ← q2, ← q3]
    rw [← p1, ← p2, ← p3] at e
    exact j7 hf' hx.hd e hk
  have s1 : ∀ (o : Option Operand) (a : AV), (o.map (eev σ)).map hd = some a → ∃ u, o.map ρ.ev = some u ∧ VR φ a u := fun o a ha => by
    cases o with
    | none => cases ha
    | some y => injection ha with ha; subst ha; exact ⟨_, rfl, (hf.ev y).hd⟩
  have s2 : ∀ o : Option Operand, (o.map (eev σ)).map hd = none → o.map ρ.ev = none := fun o ha => by
    cases o with
    | none => rfl
    | some y => cases ha
  exact key _ _ _ _ _ _ (s1 lo) (s2 lo) (s1 hi) (s2 hi) (s1 mx) (s2 mx) e
theorem m9 (hf : FR φ σ ρ) {x : Option Operand} {d i : Nat} (e : jX ((x.map (eev σ)).map hd) d = some i) (d' : Int) (hd' : x = none → (i : Int) = d') : bnd (x.map ρ.ev) d' = some (i : Int) := by
  cases x with
  | none => simp only [Option.map_none, bnd]; rw [hd' rfl]
  | some y =>
    simp only [Option.map_some, jX] at e
    have hy := (hf.ev y).hd
    split at e
    · rename_i q; cases q
    · rename_i k j q
      injection e with e; subst e
      injection q with q
      rw [q] at hy
      simp only [Option.map_some, hy.bJ, bnd]
      rfl
    · cases e
theorem AU (hf : FR φ σ ρ) {t : TypeId} {b o m k q : Nat} {v : Value} {lo hi mx : Option Operand} {κ : AV → Prop} {K : Value → Prop} (hx : VR φ (.rw b o m k q) v) (hs : CI t b o m k q (lo.map (eev σ)) (hi.map (eev σ)) (mx.map (eev σ)) κ)
    (hk : ∀ r u, κ r → VR φ r u → K u) : cI Try.prog t v (lo.map ρ.ev) (hi.map ρ.ev) (mx.map ρ.ev) K := by
  unfold CI at hs
  split at hs
  case h_2 => exact hs.elim
  rename_i e hu
  obtain ⟨es, h1, h2⟩ := aP hs
  obtain ⟨h3, l, hh, hl, he, hm, g1, g2, h4⟩ := dO h2
  have := Nat.eq_of_beq_eq_true h3
  subst this
  have e1 := m9 hf hl 0 (fun q => by subst q; rw [cu hl]; rfl)
  have e2 := m9 hf he (m : Int) (fun q => by subst q; rw [cu he])
  have him : (Option.map ρ.ev mx).isSome = true → (Option.map ρ.ev hi).isSome = true := fun q' => by
    rw [isSome_map] at q' ⊢
    rcases hm with hm | ⟨hm, _⟩
    · cases mx with
      | none => cases q'
      | some y => cases hm
    · rw [isSome_map] at hm; exact hm
  have hno : hi = none → hh = m := fun q => by subst q; exact cu he
  have hlo : lo = none → l = 0 := fun q => by subst q; exact cu hl
  have key : ∀ (base : Option Addr) (C M : Nat), bnd (mx.map ρ.ev) (C : Int) = some (M : Int) → hh ≤ M → M ≤ C → K (fq base l hh M es) → cI Try.prog t (.slice base m C) (lo.map ρ.ev) (hi.map ρ.ev) (mx.map ρ.ev) K := fun base C M e3 hM hMC hK => by
    (try simp only [cI, hu, h1, e1, e2, e3])
    refine ⟨him, by omega, by omega, ?_, by omega, ?_⟩
    · unfold pK; split
      · trivial
      · omega
    · rw [Int.toNat_natCast, Int.toNat_natCast, Int.toNat_natCast]; exact hK
  have bm : ∀ C : Nat, hh ≤ C → ∃ M : Nat, bnd (mx.map ρ.ev) (C : Int) = some (M : Int) ∧ hh ≤ M ∧ M ≤ C ∧ (mx = none → M = C) ∧ (mx ≠ none → M = hh) := fun C hC => by
    rcases hm with hm | ⟨_, hm⟩
    · have hmn : mx = none := by cases mx with | none => rfl | some y => cases hm
      subst hmn
      exact ⟨C, rfl, hC, Nat.le_refl _, fun _ => rfl, fun q => absurd rfl q⟩
    · by_cases hmn : mx = none
      · subst hmn
        exact ⟨C, rfl, hC, Nat.le_refl _, fun _ => rfl, fun q => absurd rfl q⟩
      · exact ⟨hh, m9 hf hm (C : Int) (fun q => absurd q hmn), Nat.le_refl _, hC, fun q => absurd q hmn, fun _ => rfl⟩
  have hlen : rwN m l hh (lo.map (eev σ)) (hi.map (eev σ)) = hh - l := by
    cases lo <;> cases hi
    · have := hno rfl; have := hlo rfl; show m = hh - l; omega
    · have := hlo rfl; show hh = hh - l; omega
    · have := hno rfl; show m - l = hh - l; omega
    · rfl
  have hoff : rwO o es l (lo.map (eev σ)) = o + l * es := by
    cases lo
    · have := hlo rfl; subst this; show o = o + 0 * es; omega
    · rfl
  rcases hx.eM with ⟨rfl, hem⟩ | ⟨p, a, C, hp, rfl, ha, g3, g4, g7, g5, g6⟩
  · obtain ⟨base, rfl⟩ := hem.is
    have hh0 : hh = 0 := by omega
    have hl0 : l = 0 := by omega
    obtain ⟨M, e3, hM, hMC, _, _⟩ := bm 0 (by omega)
    have hM0 : M = 0 := by omega
    refine key base 0 M e3 hM hMC (hk _ _ h4 ?_)
    unfold yS
    rw [hlen, hoff, hh0, hl0, hM0]
    show VR φ _ (.slice base 0 0)
    refine .rwe rfl ?_
    rcases hem with h | ⟨h4, a, h⟩
    · exact .inl h
    · subst h4
      cases hi with
      | none => exact .inr ⟨rfl, a, h⟩
      | some y =>
        cases mx with
        | none => exact .inr ⟨rfl, a, h⟩
        | some z => exact .inr ⟨rfl, a, h⟩
  · obtain ⟨M, e3, hM, hMC, hM1, hM2⟩ := bm C (by omega)
    refine key _ C M e3 hM hMC (hk _ _ h4 ?_)
    unfold yS
    rw [hlen, hoff, ie]
    have hmul : l * es + (M - l) * es ≤ C * es := by
      rw [← Nat.add_mul]; exact Nat.mul_le_mul_right es (by omega)
    have hmul2 : l * es + (hh - l) * es ≤ m * es := by
      rw [← Nat.add_mul]; exact Nat.mul_le_mul_right es (by omega)
    have hx5 : rwX q (hi.map (eev σ)) (mx.map (eev σ)) = 1 → M - l = hh - l := by
      cases hi with
      | none =>
        have hmn : mx = none := by
          cases mx with
          | none => rfl
          | some y => have := him rfl; cases this
        subst hmn
        intro hq
        have := g6 hq
        have := hno rfl
        have := hM1 rfl
        omega
      | some y =>
        cases mx with
        | none =>
          intro hq
          exfalso
          have hq : (match q with
            | 0 => 0
            | 1 => 0
            | x + 2 => x + 2) = 1 := hq
          split at hq <;> omega
        | some z => intro _; rw [hM2 (by simp)]
    have hx6 : rwX q (hi.map (eev σ)) (mx.map (eev σ)) < 2 → a + l * es + (M - l) * es ≤ p.s + p.T := by
      cases hi with
      | none => intro hq; have := g5 hq; omega
      | some y =>
        cases mx with
        | none =>
          intro hq
          have hq : (match q with
            | 0 => 0
            | 1 => 0
            | x + 2 => x + 2) < 2 := hq
          split at hq
          · have := g5 (by omega); omega
          · have := g5 (by omega); omega
          · omega
        | some z => intro _; rw [hM2 (by simp)]; omega
    split
    · rename_i hMl
      subst hMl
      have e0 : (M - M) * es = 0 := by rw [Nat.sub_self, Nat.zero_mul]
      have e1 : (hh - M) * es = 0 := by rw [show hh - M = 0 from by omega, Nat.zero_mul]
      have : 0 ≤ m * es := Nat.zero_le _
      exact .rwx hp (fun hne => by omega) g3 (by omega) (by omega) (fun hq => by omega) hx5
    · exact .rwx hp (fun hne => by have := ha (by omega); omega) (by omega) (by omega) (by omega) hx6 hx5
theorem AW {α : Type} {M L : List α} {o n l : Nat} (h : bu M o n = some L) (hl : l ≤ n) : bu M (o + l) (n - l) = some (L.drop l) := by
  obtain ⟨h1, rfl⟩ := bj h
  unfold bu
  rw [Nat.ble_eq_true_of_le (by omega)]
  simp only [List.drop_take, List.drop_drop]
theorem AX {α : Type} {M L : List α} {o n l : Nat} (h : bu M o n = some L) (hl : l ≤ n) : bu M o l = some (L.take l) := by
  obtain ⟨h1, rfl⟩ := bj h
  unfold bu
  rw [Nat.ble_eq_true_of_le (by omega)]
  simp only [List.take_take]
  rw [Nat.min_eq_left hl]
theorem AY (hf : FR φ σ ρ) {t : TypeId} {m k : Nat} {L : List AV} {v : Value} {lo hi : Option Operand} {κ : AV → Prop} {K : Value → Prop} (hx : VR φ (.fr m k L) v) (hs : CJ t m k L (lo.map (eev σ)) (hi.map (eev σ)) κ)
    (hk : ∀ r u, κ r → VR φ r u → K u) : cI Try.prog t v (lo.map ρ.ev) (hi.map ρ.ev) none K := by
  unfold CJ at hs
  split at hs
  case h_2 => exact hs.elim
  rename_i e hu
  obtain ⟨es, h1, h2⟩ := aP hs
  obtain ⟨h3, l, hh, hl, he, hm, g1, g2, h4⟩ := dO h2
  have := Nat.eq_of_beq_eq_true h3
  subst this
  have e1 := m9 hf hl 0 (fun q => by subst q; rw [cu hl]; rfl)
  have e2 := m9 hf he (m : Int) (fun q => by subst q; rw [cu he])
  have hno : hi = none → hh = m := fun q => by subst q; exact cu he
  have hlo : lo = none → l = 0 := fun q => by subst q; exact cu hl
  have key : ∀ (base : Option Addr) (C : Nat), m ≤ C → K (fq base l hh C es) → cI Try.prog t (.slice base m C) (lo.map ρ.ev) (hi.map ρ.ev) none K := fun base C hC hK => by
    have e3 : bnd (none : Option Value) (C : Int) = some (C : Int) := rfl
    (try simp only [cI, hu, h1, e1, e2, e3])
    refine ⟨fun q => (by cases q), by omega, by omega, ?_, by omega, ?_⟩
    · unfold pK; split
      · trivial
      · omega
    · rw [Int.toNat_natCast, Int.toNat_natCast, Int.toNat_natCast]; exact hK
  have hlen : rwN m l hh (lo.map (eev σ)) (hi.map (eev σ)) = hh - l := by
    cases lo <;> cases hi
    · have := hno rfl; have := hlo rfl; show m = hh - l; omega
    · have := hlo rfl; show hh = hh - l; omega
    · have := hno rfl; show m - l = hh - l; omega
    · rfl
  have hfr : L.length = m * es → frL es L l hh (lo.map (eev σ)) (hi.map (eev σ)) = (L.drop (l * es)).take ((hh - l) * es) := fun hL => by
    cases lo <;> cases hi
    · have := hno rfl; have := hlo rfl
      subst this
      show L = _
      rw [Nat.zero_mul, List.drop_zero, List.take_of_length_le (by rw [hL]; subst_vars; simp)]
    · have := hlo rfl
      subst this
      show L.take (hh * es) = _
      rw [Nat.zero_mul, List.drop_zero, Nat.sub_zero]
    · have := hno rfl
      show L.drop (l * es) = _
      rw [List.take_of_length_le]
      rw [List.length_drop, hL, Nat.sub_mul]; subst_vars; exact Nat.le_refl _
    · rfl
  rcases hx.nR with ⟨rfl, rfl, a, C, rfl, ha⟩ | ⟨q, y, C, hq, rfl, hC, hsub⟩
  · have hh0 : hh = 0 := by omega
    have hl0 : l = 0 := by omega
    subst hh0 hl0
    refine key a C (Nat.zero_le _) (hk _ _ h4 ?_)
    rw [hlen, hfr (by simp)]
    show VR φ (.fr (0 - 0) es ((([] : List AV).drop (0 * es)).take ((0 - 0) * es))) (fq a 0 0 C es)
    have e5 : ((([] : List AV).drop (0 * es)).take ((0 - 0) * es)) = [] := by simp
    rw [e5]
    unfold fq
    refine .fre fun q => ?_
    split at q
    · have := ha q; omega
    · cases a with
      | none => have := ha rfl; omega
      | some _ => cases q
  · have hL : L.length = m * es := by obtain ⟨g5, g6⟩ := bj hsub; rw [g6]; simp; omega
    have hle : l * es + (hh - l) * es ≤ m * es := by rw [← Nat.add_mul]; exact Nat.mul_le_mul_right _ (by omega)
    have hs2 : bu q.L (y + l * es) ((hh - l) * es) = some ((L.drop (l * es)).take ((hh - l) * es)) := AX (AW hsub (by omega)) (by omega)
    refine key _ C hC (hk _ _ h4 ?_)
    rw [hlen, hfr hL]
    unfold fq
    split
    · rename_i hMl
      have h0 : hh - l = 0 := by omega
      rw [h0, Nat.zero_mul, List.take_zero]
      exact .fre fun q => by cases q
    · have e6 : Option.map (fun x : Addr => x.add (l * es)) (some ⟨q.B, q.s + y, none⟩) = some ⟨q.B, q.s + (y + l * es), none⟩ := by
        simp only [Option.map_some, Addr.add]
        split
        · rename_i h0; rw [h0]; rfl
        · rw [Nat.add_assoc]
      rw [e6]
      exact .fr hq (by omega) hs2
theorem na (hf : FR φ σ ρ) {t : TypeId} {x : Operand} {lo hi mx : Option Operand} {κ : AV → Prop} {K : Value → Prop} (hs : eO t (eev σ x) (lo.map (eev σ)) (hi.map (eev σ)) (mx.map (eev σ)) κ) (hk : ∀ r u, κ r → VR φ r u → K u) : cI Try.prog t (ρ.ev x) (lo.map ρ.ev) (hi.map ρ.ev) (mx.map ρ.ev) K := by
  by_cases hx : ∃ b o n k q, eev σ x = .rw b o n k q
  · obtain ⟨b, o, m, k, q, hx⟩ := hx
    have hv := hf.ev x
    rw [hx] at hs hv
    exact AU hf hv hs hk
  by_cases hy : ∃ n k q, eev σ x = .fr n k q
  · obtain ⟨m, k, q, hy⟩ := hy
    have hv := hf.ev x
    rw [hy] at hs hv
    cases mx with
    | none => exact AY hf hv hs hk
    | some y => exact hs.elim
  have h : eO t (eev σ x) (lo.map (eev σ)) (hi.map (eev σ)) (mx.map (eev σ)) κ = dA (isS (eev σ x) || (eO.nP (lo.map (eev σ)) || (eO.nP (hi.map (eev σ)) || eO.nP (mx.map (eev σ))))) (Ask (fV Try.prog t (hd (eev σ x)) ((lo.map (eev σ)).map hd) ((hi.map (eev σ)).map hd) ((mx.map (eev σ)).map hd)) fun v => κ (mk v)) (bU (fV Try.prog t (eev σ x) (lo.map (eev σ)) (hi.map (eev σ)) (mx.map (eev σ))) κ) := by
    cases q : eev σ x
    case rw => exact absurd ⟨_, _, _, _, _, q⟩ hx
    case fr => exact absurd ⟨_, _, _, q⟩ hy
    all_goals rfl
  rw [h] at hs
  cases hq : (isS (eev σ x) || (eO.nP (lo.map (eev σ)) || (eO.nP (hi.map (eev σ)) || eO.nP (mx.map (eev σ))))) with
  | true =>
    rw [hq] at hs
    obtain ⟨r, h1, h2⟩ := Ask.inv hs
    exact AT hf (hf.ev x) h1 fun u hu => hk _ u h2 hu.mk
  | false =>
    rw [hq] at hs
    obtain ⟨r, h1, h2⟩ := aP hs
    exact j7 hf (hf.ev x) h1 fun u hu => hk _ u h2 hu
theorem lG (hr : HR φ H n h0 h) {k m : Nat} {x : AV} {xv : Value} {l : List AV} (hx : VR φ x xv) (e : tz H k x m l) : ∃ vs, bC h k xv = some (m, vs) ∧ VRs φ l vs := by
  cases e with
  | old e => exact sa hr hx.hd e
  | fr =>
    rcases hx.nR with ⟨rfl, rfl, a, C, rfl, _⟩ | ⟨q, y, C, hq, rfl, hC, hsub⟩
    · refine ⟨[], ?_, VRs.nil⟩
      rcases a with _ | ⟨B, o, sp⟩
      · rfl
      · cases sp with
        | some _ => rfl
        | none =>
          (try simp only [bC])
          split
          · simp [b6]
          · rfl
    · obtain ⟨⟨⟨_, c, tt, fz, hc, hsz, hcr⟩, _⟩, _⟩ := hr.frz q hq
      obtain ⟨vs, g1, g2⟩ := hcr.sub hsub
      exact ⟨vs, by simp only [bC, hc, g1, Option.map_some], g2⟩
  | @rw b o m k' q l' _ hb hs =>
    rcases hx.eM with ⟨rfl, hem⟩ | ⟨p, a, C, hp, rfl, ha, g3, g4, g7, g5, g6⟩
    · obtain ⟨_, rfl⟩ := bj hs
      refine ⟨[], ?_, by simpa using VRs.nil⟩
      rcases hem with rfl | ⟨_, ⟨B, o, sp⟩, rfl⟩
      · rfl
      · cases sp with
        | some _ => rfl
        | none =>
          (try simp only [bC])
          split
          · simp [b6]
          · rfl
    · have key : ∃ c t fz, h.f p.B = some (.cells c t fz) ∧ CR φ c p.s l' := by
        rcases hb with hb | ⟨z, hb⟩
        · obtain ⟨ob, _, h2, c, t, fz, rfl, h3, h4, h5⟩ := hr.of hb hp
          exact ⟨c, t, fz, h2, h5⟩
        · obtain ⟨ob, _, h2, c, t, fz, rfl, h3, h4, _, _, h5⟩ := hr.of hb hp
          exact ⟨c, t, fz, h2, h5⟩
      obtain ⟨c, t, fz, h2, h5⟩ := key
      by_cases hm : m = 0
      · subst hm
        obtain ⟨_, rfl⟩ := bj hs
        exact ⟨[], by simp only [bC, h2, Nat.zero_mul, b6, Option.map_some], by simpa using VRs.nil⟩
      · have := ha hm
        subst this
        obtain ⟨vs, g1, g2⟩ := h5.sub hs
        exact ⟨vs, by simp only [bC, h2, g1, Option.map_some], g2⟩
variable {call : CP} {κ : PK} {K : KH}
section
variable {t u e : TypeId} {ud : TypeDesc} {k by' m sn : Nat} {z : Value} {new old : List AV} {nv ov : List Value} {xv : Value}
theorem pg {G : AH} {zz : Bool} (hk : bV φ h0 κ K) (h1 : κ (.rw n 0 (sn + m) k 0) (G.set (some (.cells (old ++ new) zz)) aa n) (n + 1)) (hG : HR φ G n h0 h) (ho : VRs φ old ov) (hn : VRs φ new nv) (hol : ov.length = sn * k) (hnl : new.length = m * k) (hz : z.cells.size = k) : yM e z (sn + m) ov nv h (nK K) := by
  intro cap hcap
  refine ⟨_, Sub.refl _, ?_⟩
  have hcpl : ∀ q, (b7 z.cells.toList q).length = q * k := fun q => by rw [jg]; simp [hz]
  have hlen : (ov ++ (nv ++ b7 z.cells.toList (cap - (sn + m)))).length = cap * k := by
    simp only [List.length_append, hol, ← hn.length, hnl, hcpl]
    rw [← Nat.add_mul, ← Nat.add_mul]; congr 1; omega
  have hor : OR (du φ n ⟨h.n, 0, cap * k⟩) ⟨h.n, 0, cap * k⟩ (.cells (old ++ new) zz) (.cells (ov ++ (nv ++ b7 z.cells.toList (cap - (sn + m)))).toArray e (0, 0)) := by
    refine ⟨_, e, _, rfl, ?_, by simp only [List.size_toArray, hlen]; omega, fP _ _, fun _ => rfl, ?_⟩
    · simp only [List.length_append, hnl, ho.length, hol]
      rw [← Nat.add_mul]; exact Nat.mul_le_mul_right k hcap
    · rw [← List.append_assoc]
      exact CR.mono (hG.ple _) (CR.of (ho.append hn) _)
  exact hk _ _ _ _ (.slice (some ⟨h.n, 0, none⟩) (sn + m) cap) _ (hG.ple _) (hG.new hor aa) (.rw (p := ⟨h.n, 0, cap * k⟩) (bl _ _ _) (fun _ => by simp) (Nat.le_refl _) hcap (by simp)) h1
theorem vF {b C a : Nat} {p : Pl} {l : List AV} {z' : Bool} (hr : HR φ H n h0 h) (hk : bV φ h0 κ K) (h1 : κ (.rw n 0 (sn + m) k 0) ((H.set none aa b).set (some (.cells (old ++ new) z')) aa n) (n + 1))
    (hu : Try.prog.underlying t = some (.slice e)) (hud : Try.prog.underlying u = some ud) (hni : ∀ q, ud ≠ .int q) (hsz : ah Try.prog e = some k) (hbz : an Try.prog e = some by') (hzz : au Try.prog e = some z) (c1 : z.cells.size = k) (c2 : 0 < by')
    (hsrc : bC h k xv = some (m, nv)) (hn : VRs φ new nv) (hnl : new.length = m * k) (hone : new.all mf = true) (big : (sn + m) * by' ≤ 140737488355328)
    (hb : H.get b = some (.cells l z')) (hp : φ b = some p) (ha : p.s ≤ a) (hC : sn ≤ C) (hT : a + C * k ≤ p.s + p.T) (hold : (sn = 0 ∧ old = []) ∨ bu l (a - p.s) (sn * k) = some old) : ft Try.prog t u (.slice (some ⟨p.B, a, none⟩) sn C) xv h (nK K) := by
  obtain ⟨ob, hB, hf, cc, ty, fz, rfl, q1, q2, q3, q4, q5⟩ := hr.of hb hp
  obtain ⟨ov, hov, ho, hkeep, hle⟩ : ∃ ov, b6 cc a (sn * k) = some ov ∧ VRs φ old ov ∧ CR φ cc a old ∧ old.length = sn * k := by
    rcases hold with ⟨rfl, rfl⟩ | hold
    · exact ⟨[], by rw [Nat.zero_mul]; rfl, .nil, fun i a h => by simp at h, by simp⟩
    · obtain ⟨vs, g1, g2⟩ := q5.sub hold
      obtain ⟨g3, g4⟩ := bj hold
      have e1 : p.s + (a - p.s) = a := by omega
      rw [e1] at g1
      refine ⟨vs, g1, g2, ?_, by rw [g4]; simp; omega⟩
      have := CR.drop (o := a - p.s) (m := sn * k) q5
      rw [e1, ← g4] at this
      exact this
  have hol : ov.length = sn * k := by rw [← ho.length]; exact hle
  refine ⟨e, ud, k, by', z, m, nv, hu, hud, hni, hsz, hbz, hzz, c1, c2, hsrc, fun hstay => ?_, fun _ => ⟨big, ov, by simp only [bC, hf, hov, Option.map_some], pg hk h1 (hr.kill aa b) ho hn hol hnl c1⟩⟩
  (try simp only [ou, hf])
  have hCk : (sn + m) * k ≤ C * k := Nat.mul_le_mul_right k hstay
  have hadd : (sn + m) * k = sn * k + m * k := Nat.add_mul _ _ _
  have hnvl := hn.length
  refine ⟨jv hn hone, by omega, q3.sub (by omega), _, Sub.refl _, ?_⟩
  have hor : OR (du φ n ⟨p.B, a, C * k⟩) ⟨p.B, a, C * k⟩ (.cells (old ++ new) z') (.cells (cV cc (a + sn * k) nv) ty fz) := by
    refine ⟨_, ty, fz, rfl, by simp only [List.length_append]; omega, by rw [dk]; simp only; omega, q3.sub (by simp only; omega), q4, CR.mono (hr.ple _) (CR.append ?_ ?_)⟩
    · exact CR.kept hkeep (by simp only; omega)
    · simp only
      rw [hle]
      exact CR.wrote hn (by omega)
  exact hk _ _ _ _ (.slice (some ⟨p.B, a, none⟩) (sn + m) C) _ (hr.ple _) (hr.rename (q := ⟨p.B, a, C * k⟩) hb hp rfl hor aa aa) (.rw (p := ⟨p.B, a, C * k⟩) (bl _ _ _) (fun _ => by simp) (Nat.le_refl _) hstay (by simp)) h1
theorem vG {G : AH} {zz : Bool} (hr : HR φ G n h0 h) (hk : bV φ h0 κ K) (h1 : κ (.rw n 0 (0 + m) k 0) (G.set (some (.cells ([] ++ new) zz)) aa n) (n + 1))
    (hu : Try.prog.underlying t = some (.slice e)) (hud : Try.prog.underlying u = some ud) (hni : ∀ q, ud ≠ .int q) (hsz : ah Try.prog e = some k) (hbz : an Try.prog e = some by') (hzz : au Try.prog e = some z) (c1 : z.cells.size = k) (c2 : 0 < by')
    (hsrc : bC h k xv = some (m, nv)) (hn : VRs φ new nv) (hnl : new.length = m * k) (big : (0 + m) * by' ≤ 140737488355328) : ft Try.prog t u (.slice none 0 0) xv h (nK K) := by
  refine ⟨e, ud, k, by', z, m, nv, hu, hud, hni, hsz, hbz, hzz, c1, c2, hsrc, fun hstay => ?_, fun _ => ⟨big, [], rfl, pg hk h1 hr .nil hn (by simp) hnl c1⟩⟩
  have hm : m = 0 := by omega
  subst hm
  have hnew : new = [] := List.eq_nil_of_length_eq_zero (by omega)
  subst hnew
  refine ⟨_, Sub.refl _, hk φ _ _ _ (.slice none 0 0) h (PLe.refl _) ?_ .rwn h1⟩
  have hno : φ n = none := by
    cases hq : φ n with
    | none => rfl
    | some p => exact absurd (hr.dom n p hq).1 (Nat.lt_irrefl _)
  refine ⟨fun b p hb => ⟨Nat.lt_succ_of_lt (hr.dom b p hb).1, (hr.dom b p hb).2⟩, fun b o hb => ?_, fun x y q q' px py hx hy hwx hwy hpx hpy ee => ?_, hr.base, hr.size, fun z hz => ⟨(hr.frz z hz).1, fun y oy py hy hwy hpy => ?_⟩, hr.lR (Nat.le_refl _) (fun x Q hx => ?_) (fun _ h => h) (fun _ h => .inl h) (fun _ _ _ _ _ => rfl) fun b' o1 p' e1 e2 e3 => ?_⟩
  rotate_left 3
  · rcases PM.ak aa _ n x _ hx with ⟨_, h2⟩ | ⟨_, h2⟩
    · injection h2 with h2; cases h2
    · exact ⟨h2, rfl⟩
  · rcases PM.ak aa _ n b' o1 e1 with ⟨rfl, _⟩ | ⟨_, h2⟩
    · rw [hno] at e3; cases e3
    · exact .inl ⟨b', o1, p', h2, e2, e3, rfl⟩
  rotate_left 2
  · rcases PM.ak aa _ n y oy hy with ⟨rfl, _⟩ | ⟨_, h2⟩
    · rw [hno] at hpy; cases hpy
    · exact (hr.frz z hz).2 y oy py h2 hwy hpy
  · rcases PM.ak aa _ n b o hb with ⟨rfl, h2⟩ | ⟨_, h2⟩
    · injection h2 with h2; subst h2; exact .inl ⟨hno, rfl⟩
    · exact hr.live b o h2
  · have old : ∀ z r pz, (G.set (some (.cells ([] ++ []) zz)) aa n).get z = some r → φ z = some pz → G.get z = some r := fun z r pz hz hpz => by
      rcases PM.ak aa _ n z r hz with ⟨rfl, _⟩ | ⟨_, h2⟩
      · rw [hno] at hpz; cases hpz
      · exact h2
    exact hr.inj x y q q' px py (old x q px hx hpx) (old y q' py hy hpy) hwx hwy hpx hpy ee
end
theorem vH (hr : HR φ H n h0 h) {t : TypeId} {s x : AV} {sv xv : Value} {κ : PK} {K : KH} (hs : VR φ s sv) (hx : VR φ x xv) (ha : yU t s x H n κ) (hk : bV φ h0 κ K) : kH Try.prog t sv xv h K := by
  cases ha with
  | mk k m dn b o c kk bx ox kx qx l lx new l' z hs' hx' hq ty hbx hsx hb hone hset k' =>
    obtain ⟨el, hu, hsz⟩ := ty
    have hd1 := hs.hd
    rw [hs'] at hd1
    rw [hx'] at hx
    obtain ⟨p, C, hp, rfl, _, _⟩ := hd1.dI
    obtain ⟨ob, hB, hf, cc, ty, fz, rfl, h1, h2, h3, h4, h5⟩ := hr.of hb hp
    obtain ⟨s1, s2⟩ := bj hsx
    have key : B3 xv = some m ∧ ∃ vs, iC h k (min m dn) xv = some vs ∧ VRs φ (new.take (min m dn * k)) vs := by
      rcases hx.eM with ⟨rfl, hem⟩ | ⟨q, a, D, hqp, rfl, ha, g3, g4, g7, g5, g6⟩
      · rw [hem.nil hq]
        exact ⟨rfl, [], rfl, by simpa using VRs.nil⟩
      · refine ⟨rfl, ?_⟩
        have kc : ∃ c t fz, h.f q.B = some (.cells c t fz) ∧ CR φ c q.s lx := by
          rcases hbx with hb | ⟨z, hb⟩
          · obtain ⟨ob, _, h2, c, t, fz, rfl, h3, h4, h5⟩ := hr.of hb hqp
            exact ⟨c, t, fz, h2, h5⟩
          · obtain ⟨ob, _, h2, c, t, fz, rfl, h3, h4, _, _, h5⟩ := hr.of hb hqp
            exact ⟨c, t, fz, h2, h5⟩
        obtain ⟨c2, t2, fz2, e1, e2⟩ := kc
        by_cases hz : min m dn = 0
        · rw [hz]
          exact ⟨[], by simp only [iC, e1, Nat.zero_mul, b6], by simpa using VRs.nil⟩
        · have hm : m ≠ 0 := by omega
          have := ha hm
          subst this
          have hle : min m dn * k ≤ m * k := Nat.mul_le_mul_right _ (by omega)
          have hsub : bu lx ox (min m dn * k) = some (new.take (min m dn * k)) := by
            unfold bu
            rw [Nat.ble_eq_true_of_le (by omega), s2, List.take_take, Nat.min_eq_left hle]
          obtain ⟨vs, g1, g2⟩ := e2.sub hsub
          exact ⟨vs, by simp only [iC, e1, g1], g2⟩
    obtain ⟨hlx, vs, g1, g2⟩ := key
    obtain ⟨q1, q2, q3⟩ := eX _ _ _ _ hset
    have hgl := g2.length
    (try simp only [kH, hu, hlx, hsz, g1, hf])
    refine ⟨jv g2 hone, by omega, h3.sub (by omega), ?_⟩
    refine hk _ _ _ _ _ _ (PLe.refl _) (hr.put hb hp ?_ aa) (.si _ _) k'
    exact ⟨_, ty, fz, rfl, by omega, by rw [dk]; omega, h3, h4, h5.set hset g2 (by omega)⟩
theorem xV (hr : HR φ H n h0 h) {t u : TypeId} {s x : AV} {sv xv : Value} (hs : VR φ s sv) (hx : VR φ x xv) (ha : fk t u s x H n κ) (hk : bV φ h0 κ K) : ft Try.prog t u sv xv h (nK K) := by
  cases ha with
  | grow k by' m sn new old G zz ty src hnew hone row big h1 =>
    obtain ⟨e, ud, z, hu, hud, hni, hsz, hbz, hzz, c1, c2, c3⟩ := ty.h
    obtain ⟨nv, hn1, hn2⟩ := lG hr hx src
    cases row with
    | nsl =>
      rw [hs.cg]
      exact vG hr hk h1 hu hud hni hsz hbz hzz c1 c2 hn1 hn2 hnew big
    | @rw b o _ l _ _ hb hsub =>
      rcases hs.eM with ⟨rfl, hem⟩ | ⟨p, a, C, hp, rfl, ha, g3, g4, g7, g5, g6⟩
      · have := hem.nil (by decide)
        subst this
        obtain ⟨_, rfl⟩ := bj hsub
        rw [Nat.zero_mul, List.take_zero] at h1
        exact vG (hr.kill aa b) hk h1 hu hud hni hsz hbz hzz c1 c2 hn1 hn2 hnew big
      · refine vF hr hk h1 hu hud hni hsz hbz hzz c1 c2 hn1 hn2 hnew hone big hb hp g3 g4 (g5 (by decide)) ?_
        by_cases hsn : sn = 0
        · subst hsn
          obtain ⟨_, rfl⟩ := bj hsub
          exact .inl ⟨rfl, by simp⟩
        · have := ha hsn
          subst this
          exact .inr (by rw [Nat.add_sub_cancel_left]; exact hsub)
    | @sl b o _ c l _ _ hb hsub hnc hc =>
      obtain ⟨p, C, hp, rfl, hC0, _⟩ := hs.dI
      have := hC0 rfl
      subst this
      obtain ⟨ob, _, _, cc, ty, fz, rfl, q1, _⟩ := hr.of hb hp
      exact vF hr hk h1 hu hud hni hsz hbz hzz c1 c2 hn1 hn2 hnew hone big hb hp (Nat.le_add_right _ _) hnc (by omega) (.inr (by rw [Nat.add_sub_cancel_left]; exact hsub))
  | exact k by' m b o sn new old hse ty src hnew hone hm row big h1 =>
    obtain ⟨e, ud, z, hu, hud, hni, hsz, hbz, hzz, c1, c2, c3⟩ := ty.h
    obtain ⟨nv, hn1, hn2⟩ := lG hr hx src
    obtain ⟨ov, ho1, ho2⟩ := lG hr hs row
    subst hse
    have hol : ov.length = sn * k := by
      cases row with
      | rw _ hsub => obtain ⟨g1, g2⟩ := bj hsub; rw [← ho2.length, g2]; simp; omega
      | old e => cases e
    rcases hs.eM with ⟨rfl, hem⟩ | ⟨p, a, C, hp, rfl, ha, g3, g4, g7, g5, g6⟩
    · have := hem.nil (by decide)
      subst this
      exact ⟨e, ud, k, by', z, m, nv, hu, hud, hni, hsz, hbz, hzz, c1, c2, hn1, fun hstay => by omega, fun _ => ⟨big, ov, ho1, pg hk h1 hr ho2 hn2 hol hnew c1⟩⟩
    · have := g6 rfl
      exact ⟨e, ud, k, by', z, m, nv, hu, hud, hni, hsz, hbz, hzz, c1, c2, hn1, fun hstay => by omega, fun _ => ⟨big, ov, ho1, pg hk h1 hr ho2 hn2 hol hnew c1⟩⟩
  | lR k by' b o sn q l zz hse hq ty src hb h1 =>
    obtain ⟨e, ud, z, hu, hud, hni, hsz, hbz, hzz, c1, c2, c3⟩ := ty.h
    obtain ⟨nv, hn1, hn2⟩ := lG hr hx src
    have hnv := hn2.aW
    subst hnv
    subst hse
    rcases hs.eM with ⟨rfl, hem⟩ | ⟨p, a, C, hp, rfl, ha, g3, g4, g7, g5, g6⟩
    · have := hem.nil hq
      subst this
      exact ⟨e, ud, k, by', z, 0, [], hu, hud, hni, hsz, hbz, hzz, c1, c2, hn1, fun _ => ⟨h, Sub.refl _, hk φ _ _ _ (.slice none 0 0) h (PLe.refl _) hr hs h1⟩, fun hgt => by omega⟩
    · obtain ⟨ob, _, h2, cc, tt, fz, rfl, q1, q2, q3, _, _⟩ := hr.of hb hp
      refine ⟨e, ud, k, by', z, 0, [], hu, hud, hni, hsz, hbz, hzz, c1, c2, hn1, fun _ => ?_, fun hgt => by omega⟩
      unfold ou
      dsimp only
      rw [h2]
      refine ⟨rfl, by simp only [List.length_nil]; omega, mQ.sub q3 (by simp only [List.length_nil]; omega), h, ⟨rfl, fun x o e => ?_⟩, hk φ _ _ _ _ h (PLe.refl _) hr hs h1⟩
      by_cases hx : x = p.B
      · subst hx; rw [bB]; rw [h2] at e; exact e
      · rw [aT _ _ _ _ hx]; exact e
theorem bQ {o : Op} (ho : bE o = false) (h1 : cT Try.prog o ρ h fun v => K v h) : br Try.prog o ρ h K := by
  unfold br; rw [ho]; exact h1
theorem gk {o : Op} (ho : bE o = true) (h1 : kI Try.prog o ρ h K) : br Try.prog o ρ h K := by
  unfold br; rw [ho]; exact h1
theorem sh {l : List Operand} {s x : AV} (hf : FR φ σ ρ) (e : l.map (eev σ) = [s, x]) : ∃ v u, l.map ρ.ev = [v, u] ∧ VR φ s v ∧ VR φ x u := by
  have hm := VRs.map hf.ev l
  rw [e] at hm
  obtain ⟨v1, us, h1, h2, h3⟩ := hm.cons_inv
  obtain ⟨v2, ws, h4, h5, h6⟩ := h3.cons_inv
  rw [h4, h6.aW] at h1
  exact ⟨v1, v2, h1, h2, h5⟩
theorem G9 {l : List Operand} {s x y : AV} (hf : FR φ σ ρ) (e : l.map (eev σ) = [s, x, y]) : ∃ v u w, l.map ρ.ev = [v, u, w] ∧ VR φ s v ∧ VR φ x u ∧ VR φ y w := by
  have hm := VRs.map hf.ev l
  rw [e] at hm
  obtain ⟨v1, us, h1, h2, h3⟩ := hm.cons_inv
  obtain ⟨v2, ws, h4, h5, h6⟩ := h3.cons_inv
  obtain ⟨v3, xs, h7, h8, h9⟩ := h6.cons_inv
  rw [h4, h7, h9.aW] at h1
  exact ⟨v1, v2, v3, h1, h2, h5, h8⟩
theorem Ha {l : List Operand} {s : AV} (hf : FR φ σ ρ) (e : l.map (eev σ) = [s]) : ∃ v, l.map ρ.ev = [v] ∧ VR φ s v := by
  have hm := VRs.map hf.ev l
  rw [e] at hm
  obtain ⟨v1, us, h1, h2, h3⟩ := hm.cons_inv
  rw [h3.aW] at h1
  exact ⟨v1, h1, h2⟩
theorem oG (hcall : kZ call) (hr : HR φ H n h0 h) (hf : FR φ σ ρ) {c : Call} (hs : oE c call σ H n κ) (hk : bV φ h0 κ K) : br Try.prog (.call c) ρ h K := by
  have hm := VRs.map hf.ev c.args.toList
  have fin : ∀ r u, κ r H n → VR φ r u → K u h := fun r u h1 hu => hk φ r H n u h (PLe.refl _) hr hu h1
  obtain ⟨callee, args, ats⟩ := c
  unfold oE at hs
  dsimp only at hs hm
  split at hs
  · rename_i f
    have hfv := hf.ev f
    split at hs
    · rename_i g a cs q
      rw [q] at hfv
      obtain ⟨a', c', hv, h1, h2⟩ := hfv.mi
      refine gk rfl ?_
      show rP Try.prog (ρ.ev f) (args.map ρ.ev) h K
      rw [hv]
      show cL Try.prog g (a' ++ args.map ρ.ev ++ c') h K
      refine hcall g _ _ _ _ hs φ h0 h _ K hr ?_ hk
      rw [Array.toList_append, Array.toList_append, Array.toList_map]
      exact (h1.append hm).append h2
    · exact hs.elim
  · refine bQ rfl ?_
    show cP Try.prog .len ats.toList (args.toList.map ρ.ev) h fun v => K v h
    split at hs
    · rename_i t x e1 e2
      obtain ⟨v, e3, h1⟩ := Ha hf e2
      rw [e1, e3]
      exact qk hr h1 hs fun r u => fin r u
    · exact hs.elim
  · refine bQ rfl ?_
    show cP Try.prog .min ats.toList (args.toList.map ρ.ev) h fun v => K v h
    split at hs
    · rename_i x y e2
      obtain ⟨v, u, e3, h1, h2⟩ := sh hf e2
      rw [e3]
      exact eZ h1 h2 hs fun r u => fin r u
    · rename_i x y z e2
      obtain ⟨v, u, w, e3, h1, h2, h3⟩ := G9 hf e2
      rw [e3]
      exact eZ h1 h2 hs fun r u hr hu => eZ hu h3 hr fun r u => fin r u
    · exact hs.elim
  · refine bQ rfl ?_
    show cP Try.prog .max ats.toList (args.toList.map ρ.ev) h fun v => K v h
    split at hs
    · rename_i x y e2
      obtain ⟨v, u, e3, h1, h2⟩ := sh hf e2
      rw [e3]
      exact eZ h1 h2 hs fun r u => fin r u
    · rename_i x y z e2
      obtain ⟨v, u, w, e3, h1, h2, h3⟩ := G9 hf e2
      rw [e3]
      exact eZ h1 h2 hs fun r u hr hu => eZ hu h3 hr fun r u => fin r u
    · exact hs.elim
  · refine gk rfl ?_
    show iD Try.prog .append ats.toList (args.toList.map ρ.ev) h K
    split at hs
    · rename_i t u s x e1 e2
      obtain ⟨v, w, e3, h1, h2⟩ := sh hf e2
      rw [e1, e3]
      unfold yT at hs
      cases hq : (isR s || isR x) with
      | true => rw [hq] at hs; exact xV hr h1 h2 hs hk
      | false => rw [hq] at hs; exact yZ hk hs (fun _ _ _ e => ji hr h1 h2 e) (fun _ _ _ e => ji hr h1.hd h2.hd e)
    · exact hs.elim
  · refine gk rfl ?_
    show iD Try.prog .copy ats.toList (args.toList.map ρ.ev) h K
    split at hs
    · rename_i t u s x e1 e2
      obtain ⟨v, w, e3, h1, h2⟩ := sh hf e2
      rw [e1, e3]
      unfold G4 at hs
      cases hq : isR x with
      | true => rw [hq] at hs; exact vH hr h1 h2 hs hk
      | false => rw [hq] at hs; exact yZ hk hs (fun _ _ _ e => kY hr h1 h2 e) (fun _ _ _ e => kY hr h1.hd h2.hd e)
    · exact hs.elim
  · exact hs.elim
theorem k8 {t : TypeId} {k : IntKind} (h : lF Try.prog t = some k) : Try.prog.underlying t = some (.int k) := by
  unfold lF at h
  split at h
  · rename_i e; injection h with h; subst h; exact e
  · cases h
theorem MR.at {φ : Ph} : ∀ {es : List (AV × AV)} {ms : List MapEntry}, MR φ es ms → ∀ {i : Nat} {m : MapEntry}, ms[i]? = some m → ∃ e, es[i]? = some e ∧ VR φ e.1 m.key ∧ VR φ e.2 m.val
  | [], ms, h, i, m, e => by rw [show ms = [] from h] at e; simp at e
  | x :: es, ms, ⟨m', us, h1, h2, h3, h4⟩, 0, m, e => by
    subst h1
    simp only [List.getElem?_cons_zero, Option.some.injEq] at e
    subst e
    exact ⟨x, rfl, h2, h3⟩
  | x :: es, ms, ⟨m', us, h1, h2, h3, h4⟩, i + 1, m, e => by
    subst h1
    simp only [List.getElem?_cons_succ] at e ⊢
    exact MR.at h4 e
theorem sj (hr : HR φ H n h0 h) {a : AV} {v : Value} {it b m : Nat} {seen : List Nat} {es : List (AV × AV)} (ha : a = .ptr it 0) (hv : VR φ a v) (hi : H.get it = some (.iter b m seen)) (hb : H.get b = some (.map es)) (hm : es.length = m) :
    ∃ p q ms, p.s + 0 = 0 ∧ φ it = some p ∧ φ b = some q ∧ v = .pointer (some ⟨p.B, p.s + 0, none⟩) ∧ h.f p.B = some (.mapIter (some q.B) m seen.toArray m) ∧ h.f q.B = some (.map ms m) ∧ MR φ es ms.toList ∧ p7 ms.toList m := by
  subst ha hm
  obtain ⟨p, hp, rfl⟩ := hv.ct
  obtain ⟨ob, _, h1, hs0, q, hq, rfl⟩ := hr.of hi hp
  obtain ⟨ob, _, h2, ms, cl, rfl, h3, h4⟩ := hr.of hb hq
  have : cl = es.length := h4.1.trans h3.length.symm
  subst this
  exact ⟨p, q, ms, by omega, hp, hq, rfl, h1, h2, h3, h4⟩
theorem AZ (hr : HR φ H n h0 h) {a : AV} {v : Value} {s : Bool} {κ : PK} {K : KH} (hv : VR φ a v) (hs : Nxt H a s fun v H => κ v H n) (hk : bV φ h0 κ K) : rO v s h K := by
  obtain ⟨it, b, m, seen, es, rfl, ha, hi, hb, hm, over, step⟩ := hs
  obtain ⟨p, q, ms, ps, hp, hq, rfl, h1, h2, h3, h4⟩ := sj hr ha hv hi hb hm
  rw [ps]
  (try simp only [rO, h1, h2])
  refine ⟨fun e he => ?_, Nat.le_refl _, fun h0 => ?_, fun e he => ?_⟩
  · obtain ⟨i, hi'⟩ := List.getElem?_of_mem he
    have := (List.getElem?_eq_some_iff.1 hi').1
    rw [h4.2 i e hi', h4.1]; omega
  · refine hk φ _ H n _ h (PLe.refl _) hr (.tup (.cons (.bool _) .nil)) (over fun i hlt => ?_)
    have hlt' : i < ms.toList.length := by rw [← h4.1]; exact hlt
    have hmem : ms.toList[i] ∉ pQ ms.toList seen.toArray := by rw [h0]; simp
    have hb' := h4.2 i _ (List.getElem?_eq_getElem hlt')
    simp only [pQ, List.mem_filter, List.getElem_mem, true_and, hb'] at hmem
    simpa using hmem
  · simp only [pQ, List.mem_filter] at he
    obtain ⟨he1, he2⟩ := he
    obtain ⟨i, hi'⟩ := List.getElem?_of_mem he1
    have hbi := h4.2 i e hi'
    obtain ⟨x, hx, hx1, hx2⟩ := h3.at hi'
    have hns : i ∉ seen := by rw [hbi] at he2; simpa using he2
    have ho : OR φ p (.iter b m (seen ++ [i])) (.mapIter (some q.B) m (seen.toArray.push e.born) m) := ⟨by omega, q, hq, by rw [hbi]; simp⟩
    exact hk φ _ _ n _ _ (PLe.refl _) (hr.put hi hp ho aa) (.tup (.cons (.bool _) (.cons hx1.mk (.cons hx2 .nil)))) (step i x hx hns)
theorem A0 (hr : HR φ H n h0 h) {a : AV} {v : Value} {κ : AV → Prop} {K : Value → Prop} (hv : VR φ a v) (hs : Ent H a κ) (hk : ∀ r u, κ r → VR φ r u → K u) : ma v h K := by
  obtain ⟨it, b, m, i, seen, es, e, ha, hi, hb, hm, he, k⟩ := hs
  obtain ⟨p, q, ms, ps, hp, hq, rfl, h1, h2, h3, h4⟩ := sj hr ha hv hi hb hm
  rw [ps]
  have hil : i < ms.toList.length := by rw [← h4.1, ← hm]; exact (List.getElem?_eq_some_iff.1 he).1
  obtain ⟨x, hx, hx1, hx2⟩ := h3.at (List.getElem?_eq_getElem hil)
  have hbi := h4.2 i _ (List.getElem?_eq_getElem hil)
  rw [he] at hx
  injection hx with hx
  subst hx
  have hbk : (seen ++ [i]).toArray.back? = some i := by simp
  have hfd : ms.find? (·.born == i) = some ms.toList[i] := by
    rw [← Array.find?_toList, List.find?_eq_some_iff_getElem]
    refine ⟨by simpa using hbi, i, hil, rfl, fun j hj => ?_⟩
    have := h4.2 j _ (List.getElem?_eq_getElem (by omega))
    have hne : ¬ (ms.toList[j]'(by omega)).born = i := by rw [this]; omega
    simpa using hne
  (try simp only [ma, h1, h2, hbk, hfd])
  exact ⟨trivial, hk _ _ k (.tup (.cons hx1.mk (.cons hx2 .nil)))⟩
theorem vI (hcall : kZ call) (hr : HR φ H n h0 h) (hf : FR φ σ ρ) {o : Op} (hs : qg o call σ H n κ) (hk : bV φ h0 κ K) : br Try.prog o ρ h K := by
  have fin : ∀ r u, κ r H n → VR φ r u → K u h := fun r u h1 hu => hk φ r H n u h (PLe.refl _) hr hu h1
  unfold qg at hs
  split at hs
  · exact bQ rfl (fin _ _ hs (hf.ev _))
  · exact bQ rfl (fin _ _ hs (hf.ev _))
  · rename_i c a b
    obtain ⟨q, h1, h2, h3⟩ := sg (hf.ev c) hs
    refine bQ rfl ?_
    (try simp only [cT, h1])
    cases q with
    | true => exact fin _ _ (h2 rfl) (hf.ev _)
    | false => exact fin _ _ (h3 rfl) (hf.ev _)
  · exact bQ rfl (k7 hr (hf.ev _) hs fun r u => fin r u)
  · exact gk rfl (m8 hr (hf.ev _) (hf.ev _) hs hk)
  · exact bQ rfl (qj hr (hf.ev _) (hf.ev _) hs fun r u => fin r u)
  · exact bQ rfl (se (hf.ev _) hs fun r u => fin r u)
  · exact bQ rfl (jw (hf.ev _) (hf.ev _) hs fun r u => fin r u)
  · exact bQ rfl (m7 (hf.ev _) (hf.ev _) hs fun r u => fin r u)
  · rename_i t x lo hi mx
    refine bQ rfl ?_
    show cI Try.prog t (ρ.ev x) (lo.map ρ.ev) (hi.map ρ.ev) (mx.map ρ.ev) fun v => K v h
    exact na (κ := fun v => κ v H n) hf hs fun r u => fin r u
  · exact gk rfl (yZ hk hs (fun _ _ _ e => kX hr (hf.ev _) (hf.ev _) e) (fun _ _ _ e => kX hr (hf.ev _).hd (hf.ev _).hd e))
  · rename_i s d x
    refine gk rfl ?_
    show eV Try.prog s d (ρ.ev x) h K
    unfold G5 at hs
    split at hs
    · rename_i a q
      have hx := hf.ev x
      rw [q] at hx
      rw [hx.eL]
      split at hs
      · rename_i k1 k2 e1 e2
        (try simp only [eV, k8 e1, k8 e2])
        exact fin _ _ hs (.si _ _)
      · exact hs.elim
    · have hx := hf.ev x
      cases hs with
      | mk b o m k' q l' new s' hx' hq ty hb hl hsb hκ =>
        obtain ⟨el, t1, t2, t3⟩ := ty
        rw [hx'] at hx
        rcases hx.eM with ⟨rfl, hem⟩ | ⟨p, y, C, hp, hv, ha, g3, g4, g7, g5, g6⟩
        · rw [hem.nil hq]
          obtain ⟨_, rfl⟩ := bj hl
          have hsb : iF [] = some s' := by simpa using hsb
          injection hsb with hsb; subst hsb
          (try simp only [eV, t1, t3])
          exact ⟨t2, fin _ _ hκ (.ss (s := []) (fun _ hx => by cases hx))⟩
        · rw [hv]
          have key : ∃ c t fz, h.f p.B = some (.cells c t fz) ∧ CR φ c p.s l' := by
            rcases hb with hb | ⟨z, hb⟩
            · obtain ⟨ob, _, h2, c, t, fz, rfl, h3, h4, h5⟩ := hr.of hb hp
              exact ⟨c, t, fz, h2, h5⟩
            · obtain ⟨ob, _, h2, c, t, fz, rfl, h3, h4, _, _, h5⟩ := hr.of hb hp
              exact ⟨c, t, fz, h2, h5⟩
          obtain ⟨c, t, fz, h2, h5⟩ := key
          obtain ⟨vs, k1, k2⟩ : ∃ vs, b6 c y m = some vs ∧ VRs φ new vs := by
            by_cases hm : m = 0
            · subst hm
              obtain ⟨_, rfl⟩ := bj hl
              exact ⟨[], rfl, by simpa using VRs.nil⟩
            · have := ha hm
              subst this
              exact h5.sub hl
          obtain ⟨k3, k4⟩ := iT new s' vs k2 hsb
          simp only [eV, t1, t3, h2, k1, Option.bind_some, k3]
          exact ⟨t2, fin _ _ hκ (.ss k4)⟩
    · exact yZ hk hs (fun _ _ _ e => kW hr (hf.ev x) e) (fun _ _ _ e => kW hr (hf.ev x).hd e)
  · exact oG hcall hr hf hs hk
  · rename_i t m k ok
    refine bQ rfl ?_
    show gE Try.prog t (ρ.ev m) (ρ.ev k) ok h fun v => K v h
    cases q : isS (eev σ k) with
    | true =>
      rw [q] at hs
      obtain ⟨r, h1, h2⟩ := Ask.inv hs
      exact eA hr (hf.ev _) (hf.ev _).hd h1 fun u hu => fin r u h2 hu
    | false =>
      rw [q] at hs
      obtain ⟨r, h1, h2⟩ := aP hs
      exact eA hr (hf.ev _) (hf.ev _) h1 fun u hu => fin r u h2 hu
  · exact gk rfl (AZ hr (hf.ev _) hs hk)
  · exact bQ rfl (A0 hr (hf.ev _) hs fun r u => fin r u)
  · exact oF hr hf hs hk
end
end Go.Proofs.Ythjggjhebbdkdaa
namespace Go.Proofs.Ythjggjhebbdkdaa
open Go Go.RowKit
def Sg {α : Type} (m : (α → Prop) → Prop) : Prop := ∀ κ, m κ → ∃ v, κ v ∧ ∀ κ' : α → Prop, κ' v → m κ'
section
variable {α β : Type}
theorem Sg.one (a : α) : Sg (fun κ => κ a) := fun _ h => ⟨a, h, fun _ h => h⟩
theorem Sg.no : Sg (fun _ : α → Prop => False) := fun _ h => h.elim
theorem Sg.opt (o : Option α) : Sg (fun κ => bU o κ) := fun κ h => by
  obtain ⟨a, rfl, k⟩ := aP h
  exact ⟨a, k, fun _ h => h⟩
theorem Sg.ask (o : Option α) : Sg (fun κ => Ask o κ) := fun _ ⟨a, h, k⟩ => ⟨a, k, fun _ k' => ⟨a, h, k'⟩⟩
theorem Sg.idx (i : Int) (len : Nat) : Sg (fun κ => Idx i len κ) := fun _ ⟨j, h, lt, k⟩ => ⟨j, k, fun _ k' => ⟨j, h, lt, k'⟩⟩
theorem Sg.bind {m : (α → Prop) → Prop} {k : α → (β → Prop) → Prop} (hm : Sg m) (hk : ∀ a, Sg (k a)) : Sg (fun κ => m (fun a => k a κ)) := fun κ h => by
  obtain ⟨a, h1, h2⟩ := hm _ h
  obtain ⟨v, h3, h4⟩ := hk a _ h1
  exact ⟨v, h3, fun κ' k' => h2 _ (h4 _ k')⟩
theorem Sg.map {m : (α → Prop) → Prop} (f : α → β) (hm : Sg m) : Sg (fun κ => m (fun a => κ (f a))) := hm.bind fun a => Sg.one (f a)
theorem Sg.xW {k : α → (β → Prop) → Prop} (o : Option α) (hk : ∀ a, Sg (k a)) : Sg (fun κ => bU o fun a => k a κ) := Sg.bind (Sg.opt o) hk
theorem Sg.bif {b : Bool} {m : (α → Prop) → Prop} (hm : Sg m) : Sg (fun κ => dA b (m κ) False) := by
  cases b
  · exact Sg.no
  · exact hm
theorem Sg.Fk {b : Bool} {m m' : (α → Prop) → Prop} (hm : Sg m) (hm' : Sg m') : Sg (fun κ => dA b (m κ) (m' κ)) := by
  cases b
  · exact hm'
  · exact hm
theorem Sg.Fl {b : Bool} {m : (α → Prop) → Prop} (hm : Sg m) : Sg (fun κ => dA b False (m κ)) := Sg.Fk Sg.no hm
theorem Sg.and {p : Prop} {m : (α → Prop) → Prop} (hm : Sg m) : Sg (fun κ => p ∧ m κ) := fun κ ⟨h1, h2⟩ => by
  obtain ⟨v, h3, h4⟩ := hm κ h2
  exact ⟨v, h3, fun κ' k' => ⟨h1, h4 κ' k'⟩⟩
theorem Sg.fork {q : Bool} {m m' : (α → Prop) → Prop} (hm : Sg m) (hm' : Sg m') : Sg (fun κ => ag q (m κ) (m' κ)) := fun κ h => by
  cases q with
  | true =>
    obtain ⟨v, h3, h4⟩ := hm κ (h.t rfl)
    exact ⟨v, h3, fun κ' k' => ⟨fun _ => h4 κ' k', fun q => by cases q⟩⟩
  | false =>
    obtain ⟨v, h3, h4⟩ := hm' κ (h.f rfl)
    exact ⟨v, h3, fun κ' k' => ⟨(fun q => by cases q), fun _ => h4 κ' k'⟩⟩
theorem Sg.pick (c a b : AV) : Sg (fun κ => vA c (κ a) (κ b)) := by
  cases c
  case bool q => cases q <;> exact Sg.one _
  case sb q => exact Sg.fork (Sg.one _) (Sg.one _)
  all_goals exact Sg.no
end
theorem Sg.sym {op : BinOp} {k j : IntKind} {a b : Int} {c : Bool} : Sg (fun κ => AM op k j a b c κ) := by
  cases op
  case shl => cases c <;> first | exact Sg.and (Sg.one _) | exact Sg.Fl (Sg.one _)
  case shr => cases c <;> first | exact Sg.and (Sg.one _) | exact Sg.Fl (Sg.one _)
  case quo => cases c <;> first | exact Sg.bif (Sg.and (Sg.one _)) | exact Sg.bif (Sg.Fl (Sg.one _))
  case rem => cases c <;> first | exact Sg.bif (Sg.and (Sg.one _)) | exact Sg.bif (Sg.Fl (Sg.one _))
  all_goals exact Sg.bif (Sg.one _)
theorem Sg.str {op : BinOp} {a b : List Nat} : Sg (fun κ => AN op a b κ) := by
  cases op
  case add => exact Sg.and (Sg.one _)
  all_goals first | exact Sg.one _ | exact Sg.no
theorem Sg.bol {op : BinOp} {t : TypeId} {a b : Bool} : Sg (fun κ => CH op t a b κ) := by
  cases op <;> first | exact Sg.bif (Sg.one _) | exact Sg.bif Sg.no
theorem Sg.bin {op : BinOp} {t : TypeId} {x y : AV} {H : AH} : Sg (fun κ => vz op t x y H κ) := by
  unfold vz
  split <;> first | exact Sg.sym | exact Sg.str | exact Sg.bol | exact Sg.Fk (Sg.map mk (Sg.opt _)) (Sg.opt _) | exact Sg.opt _
theorem Sg.un {op : UnOp} {x : AV} : Sg (fun κ => unP op x κ) := by
  unfold unP
  split <;> first | exact Sg.one _ | exact Sg.opt _
theorem Sg.mm {q : Bool} {x y : AV} : Sg (fun κ => mmP q x y κ) := by
  unfold mmP
  split <;> first | exact Sg.one _ | exact Sg.opt _
theorem Sg.len {t : TypeId} {x : AV} {H : AH} : Sg (fun κ => AP t x H κ) := by
  unfold AP
  split <;> first | exact Sg.map mk (Sg.opt _) | exact Sg.opt _ | exact Sg.bif (Sg.one _)
theorem Sg.ix {ix : AV} {len : Nat} {s : Bool} : Sg (fun κ => ixP ix len s κ) := by
  unfold ixP
  split <;> first | exact Sg.idx _ _ | exact Sg.opt _
theorem Sg.indexAddr {t : TypeId} {x ix : AV} : Sg (fun κ => gi t x ix κ) := by
  have h : ∀ κ, gi t x ix κ = (match Try.prog.underlying t, x with
    | some (.slice e), .sl b o n _ _ => bU (ah Try.prog e) fun k => ixP ix n false fun i => κ (.ptr b (o + i * k))
    | some (.slice e), .sy b o n _ _ => bU (ah Try.prog e) fun k => ixP ix n true fun i => κ (.ptr b (o + i * k))
    | some (.slice e), .rw b o n _ _ => bU (ah Try.prog e) fun k => ixP ix n true fun i => κ (.ptr b (o + i * k))
    | some (.slice e), .fr n k' l => bU (ah Try.prog e) fun k => dA (Nat.beq k k') (ixP ix n true fun i => κ (.fa l (i * k))) False
    | some (.array len e), .ptr b o => bU (ah Try.prog e) fun k => ixP ix len false fun i => κ (.ptr b (o + i * k))
    | _, _ => False) := fun _ => rfl
  (try simp only [h])
  split <;> first | exact Sg.no | exact Sg.xW _ fun k => Sg.map _ Sg.ix | exact Sg.xW _ fun k => Sg.bif (Sg.map _ Sg.ix)
theorem Sg.index {t : TypeId} {x ix : AV} : Sg (fun κ => nW t x ix κ) := by
  have h : ∀ κ, nW t x ix κ = (match Try.prog.underlying t, x with
    | some (.array len e), .agg l => bU (ah Try.prog e) fun k => ixP ix len false fun i => bU (rU Try.prog e l (i * k)) κ
    | some .string, .str s => ixP ix s.length false fun i => bU (nth s i) fun c => (match ix with
      | .int _ _ => κ (.int .u8 (Int.ofNat c))
      | _ => κ (.si .u8 (Int.ofNat c)))
    | some .string, .ss s => ixP ix s.length true fun i => Ask (nth s i) fun c => κ (.si .u8 (Int.ofNat c))
    | _, _ => False) := fun _ => rfl
  (try simp only [h])
  split
  · exact Sg.xW _ fun k => Sg.bind Sg.ix fun i => Sg.opt _
  · refine Sg.bind Sg.ix fun i => Sg.xW _ fun c => ?_
    split <;> exact Sg.one _
  · exact Sg.bind Sg.ix fun i => Sg.map _ (Sg.ask _)
  · exact Sg.no
theorem Sg.get {l : List AV} {t : TypeId} {o : Nat} : Sg (fun κ => qf l t o κ) := by
  have h : ∀ κ, qf l t o κ = (match aJ Try.prog t with
    | some false => bU (nth l o) κ
    | some true => bU (ah Try.prog t) fun m => bU (bu l o m) fun r => κ (.agg r)
    | none => False) := fun _ => rfl
  (try simp only [h])
  split
  · exact Sg.opt _
  · exact Sg.xW _ fun m => Sg.map _ (Sg.opt _)
  · exact Sg.no
theorem Sg.load {t : TypeId} {a : AV} {H : AH} : Sg (fun κ => oD t a H κ) := by
  have h : ∀ κ, oD t a H κ = (match a with
    | .ptr b o => (match H.get b with
      | some (.cells l _) => qf l t o κ
      | some (.ro l) => qf l t o κ
      | _ => False)
    | .fa l o => qf l t o κ
    | _ => False) := fun _ => rfl
  (try simp only [h])
  split
  · split <;> first | exact Sg.get | exact Sg.no
  · exact Sg.get
  · exact Sg.no
theorem Sg.rsl {t : TypeId} {b o n k x : Nat} {lo hi mx : Option AV} : Sg (fun κ => CI t b o n k x lo hi mx κ) := by
  have h : ∀ κ, CI t b o n k x lo hi mx κ = (match Try.prog.underlying t with
    | some (.slice e) => bU (ah Try.prog e) fun es => dA (Nat.beq es k) (RSl lo hi mx n fun l h => κ (yS b o n k x lo hi mx l h)) False
    | _ => False) := fun _ => rfl
  (try simp only [h])
  split
  · exact Sg.xW _ fun es => Sg.bif (fun κ ⟨l, h, a, b, c, d, e, f⟩ => ⟨_, f, fun κ' k' => ⟨l, h, a, b, c, d, e, k'⟩⟩)
  · exact Sg.no
theorem Sg.fsl {t : TypeId} {n k : Nat} {L : List AV} {lo hi : Option AV} : Sg (fun κ => CJ t n k L lo hi κ) := by
  have h : ∀ κ, CJ t n k L lo hi κ = (match Try.prog.underlying t with
    | some (.slice e) => bU (ah Try.prog e) fun es => dA (Nat.beq es k) (RSl lo hi none n fun l h => κ (.fr (rwN n l h lo hi) k (frL k L l h lo hi))) False
    | _ => False) := fun _ => rfl
  (try simp only [h])
  split
  · exact Sg.xW _ fun es => Sg.bif (fun κ ⟨l, h, a, b, c, d, e, f⟩ => ⟨_, f, fun κ' k' => ⟨l, h, a, b, c, d, e, k'⟩⟩)
  · exact Sg.no
theorem Sg.slice {t : TypeId} {x : AV} {lo hi mx : Option AV} : Sg (fun κ => eO t x lo hi mx κ) := by
  by_cases hx : ∃ b o n k q, x = .rw b o n k q
  · obtain ⟨b, o, n, k, q, rfl⟩ := hx
    exact Sg.rsl
  by_cases hy : ∃ n k q, x = .fr n k q
  · obtain ⟨n, k, q, rfl⟩ := hy
    cases mx with
    | none => exact Sg.fsl
    | some y => exact Sg.no
  · have h : ∀ κ, eO t x lo hi mx κ = dA (isS x || (eO.nP lo || (eO.nP hi || eO.nP mx))) (Ask (fV Try.prog t (hd x) (lo.map hd) (hi.map hd) (mx.map hd)) fun v => κ (mk v)) (bU (fV Try.prog t x lo hi mx) κ) := fun κ => by
      cases x <;> first | rfl | exact absurd ⟨_, _, _, _, _, rfl⟩ hx | exact absurd ⟨_, _, _, rfl⟩ hy
    (try simp only [h])
    exact Sg.Fk (Sg.map mk (Sg.ask _)) (Sg.opt _)
theorem Sg.q {o : Op} {σ : AE} {H : AH} : Sg (fun κ => qP o σ H κ) := by
  unfold qP
  split
  · exact Sg.one _
  · exact Sg.one _
  · exact Sg.pick _ _ _
  · exact Sg.load
  · exact Sg.bin
  · exact Sg.un
  · exact Sg.indexAddr
  · exact Sg.index
  · exact Sg.slice
  · exact Sg.Fk (Sg.ask _) (Sg.opt _)
  · split <;> first | exact Sg.len | exact Sg.no
  · split <;> first | exact Sg.mm | exact Sg.no
  · split <;> first | exact Sg.mm | exact Sg.no
  · exact Sg.opt _
section
variable {φ : Ph} {H : AH} {n : Nat} {h0 h : Hp} {σ : AE} {ρ : Env} {cd : CP}
theorem CU (hr : HR φ H n h0 h) (hf : FR φ σ ρ) {o : Op} {κ : AV → Prop} {K : Value → Prop} (hs : qP o σ H κ) (hk : ∀ r u, κ r → VR φ r u → K u) : cT Try.prog o ρ h K := by
  have slow : bU (mZ Try.prog o σ H) κ → cT Try.prog o ρ h K := fun hs => by
    obtain ⟨r, h1, h2⟩ := aP hs
    exact oC hr hf h1 fun u hu => hk _ u h2 hu
  unfold qP at hs
  split at hs
  · exact hk _ _ hs (hf.ev _)
  · exact hk _ _ hs (hf.ev _)
  · rename_i c a b
    obtain ⟨q, h1, h2, h3⟩ := sg (hf.ev c) hs
    (try simp only [cT, h1])
    cases q with
    | true => exact hk _ _ (h2 rfl) (hf.ev _)
    | false => exact hk _ _ (h3 rfl) (hf.ev _)
  · exact k7 hr (hf.ev _) hs hk
  · exact qj hr (hf.ev _) (hf.ev _) hs hk
  · exact se (hf.ev _) hs hk
  · exact jw (hf.ev _) (hf.ev _) hs hk
  · exact m7 (hf.ev _) (hf.ev _) hs hk
  · rename_i t x lo hi mx
    show cI Try.prog t (ρ.ev x) (lo.map ρ.ev) (hi.map ρ.ev) (mx.map ρ.ev) K
    exact na hf hs hk
  · rename_i t m k ok
    show gE Try.prog t (ρ.ev m) (ρ.ev k) ok h K
    cases q : isS (eev σ k) with
    | true =>
      rw [q] at hs
      obtain ⟨r, h1, h2⟩ := Ask.inv hs
      exact eA hr (hf.ev _) (hf.ev _).hd h1 fun u hu => hk r u h2 hu
    | false =>
      rw [q] at hs
      obtain ⟨r, h1, h2⟩ := aP hs
      exact eA hr (hf.ev _) (hf.ev _) h1 fun u hu => hk r u h2 hu
  · rename_i xs ts
    show cP Try.prog .len ts.toList (xs.toList.map ρ.ev) h K
    split at hs
    · rename_i t x e1 e2
      obtain ⟨v, e3, h1⟩ := Ha hf e2
      rw [e1, e3]
      exact qk hr h1 hs hk
    · exact hs.elim
  · rename_i xs ts
    show cP Try.prog .min ts.toList (xs.toList.map ρ.ev) h K
    split at hs
    · rename_i x y e2
      obtain ⟨v, u, e3, h1, h2⟩ := sh hf e2
      rw [e3]
      exact eZ h1 h2 hs hk
    · exact hs.elim
  · rename_i xs ts
    show cP Try.prog .max ts.toList (xs.toList.map ρ.ev) h K
    split at hs
    · rename_i x y e2
      obtain ⟨v, u, e3, h1, h2⟩ := sh hf e2
      rw [e3]
      exact eZ h1 h2 hs hk
    · exact hs.elim
  · exact slow hs
theorem nZ {v : AV} : ∀ {p : Pa} {σ : AE}, ay p σ ≠ .bad → ay p (nO v p σ) = v
  | .stop, σ, h => (h rfl).elim
  | .here, .nil, h => rfl
  | .here, .node _ _ _, h => rfl
  | .lo p, .nil, h => (h rfl).elim
  | .lo p, .node l u r, h => nZ (p := p) (σ := l) h
  | .hi p, .nil, h => (h rfl).elim
  | .hi p, .node l u r, h => nZ (p := p) (σ := r) h
def dQ (H H' : AH) : Prop := ∀ b o, H.get b = some o → H'.get b = some o
theorem dQ.refl (H : AH) : dQ H H := fun _ _ h => h
theorem dQ.trans {A B C : AH} (h : dQ A B) (k : dQ B C) : dQ A C := fun b o e => k b o (h b o e)
theorem HR.less {H' : AH} (hr : HR φ H' n h0 h) (hg : dQ H H') : HR φ H n h0 h :=
  ⟨hr.dom, fun b o hb => hr.live b o (hg b o hb), fun b b' o o' p p' hb hb' => hr.inj b b' o o' p p' (hg _ _ hb) (hg _ _ hb'), hr.base, hr.size, fun z hz => ⟨(hr.frz z hz).1, fun y oy py hy => (hr.frz z hz).2 y oy py (hg _ _ hy)⟩, hr.lR (Nat.le_refl _) (fun _ _ h => ⟨hg _ _ h, rfl⟩) (fun _ h => h) (fun _ h => .inl h) (fun _ _ _ _ _ => rfl) fun b' o' p' e1 e2 e3 => .inl ⟨b', o', p', hg _ _ e1, e2, e3, rfl⟩⟩
def oH (cd : CP) : Prop := ∀ f args H n κ, cd f args H n κ → ∃ v H' n', κ v H' n' ∧ dQ H H' ∧ n ≤ n' ∧ ∀ κ' : PK, κ' v H' n' → cd f args H n κ'
def sm (φ : Ph) (σ : AE) (ts : List Nat) (ρ : Env) : Prop := ∀ t ∈ ts, VR φ (ay (pa t) σ) (ρ t)
theorem iH : ∀ {ts : List Nat}, sm φ σ ts ρ → FR φ (hZ σ ts) ρ
  | [], _, t, a, h => by cases h
  | s :: ts, hs, t, a, h => by
    have h : (nO (ay (pa s) σ) (pa s) (hZ σ ts)).get t = some a := h
    rcases kS db _ s t a h with ⟨rfl, h2⟩ | ⟨_, h2⟩
    · rw [← h2]; exact hs _ List.mem_cons_self
    · exact iH (fun x hx => hs x (List.mem_cons_of_mem _ hx)) t a h2
def CV (ops : Array Oper) (o : Oper) (ts : List Nat) (σ : AE) (H : AH) (v : AV) : Prop := ∀ (φ : Ph) (n : Nat) (h0 h : Hp) (ρ : Env) (K : Env → Hp → Prop), HR φ H n h0 h → sm φ σ ts ρ → (∀ u, VR φ v u → K (ρ.put o.dst u) h) → aX Try.prog ops o ρ h K
def Hb (ops : Array Oper) (o : Oper) (ts : List Nat) (σ : AE) (H : AH) (n : Nat) (v : AV) (H' : AH) (n' : Nat) : Prop := ∀ (φ : Ph) (h0 h : Hp) (ρ : Env) (K : Env → Hp → Prop), HR φ H n h0 h → sm φ σ ts ρ →
  (∀ ψ u g, PLe φ ψ → HR ψ H' n' h0 g → VR ψ v u → K (ρ.put o.dst u) g) → aX Try.prog ops o ρ h K
def Sup (x : Option AV) (a : AV) : Prop := ∀ φ u, (∀ a', x = some a' → VR φ a' u) → VR φ a u
theorem Sup.refl {x : Option AV} {a : AV} (h : x = some a) : Sup x a := fun φ u k => k a h
theorem Sup.trans {x y : Option AV} {a : AV} (h : ∀ b, y = some b → Sup x b) (k : Sup y a) : Sup x a := fun φ u q => k φ u fun b hb => h b hb φ u q
structure tB (ops : Array Oper) (o : Oper) (b : DB) (hist : List (AH × Nat)) (σ : AE) (H : AH) (n : Nat) (σr : AE) (v : AV) (H1 : AH) (n1 : Nat) : Prop where
  sup : ∀ t a, σr.get t = some a → Sup (σ.get t) a
  grow : jj o.op = false → dQ H H1
  le : n ≤ n1
  loud : bE o.op = true → Hb ops o b.2 σr H n v H1 n1
  still : bE o.op = false → H1 = H ∧ n1 = n ∧ ∃ G, (∀ k r, b.1 = some k → nth ((H, n) :: hist) k = some r → G = r.1) ∧ CV ops o b.2 σr G v
def bOk (o : Oper) (b : DB) : Prop := match b.1 with
  | none => (pc o.op || jj o.op) = true
  | some _ => bE o.op = false
theorem xX {t : TypeId} {a v : AV} {H : AH} {n : Nat} {κ : PK} (h : j9 t a v H n κ) : ∃ H', κ cJ H' n ∧ ∀ κ' : PK, κ' cJ H' n → j9 t a v H n κ' := by
  unfold j9 at h
  split at h
  · split at h
    · rename_i l z hb
      obtain ⟨s, h1, h2⟩ := aP h
      obtain ⟨h3, h4⟩ := dO h2
      obtain ⟨l', h5, h6⟩ := aP h4
      refine ⟨_, h6, fun κ' k => ?_⟩
      unfold j9
      dsimp only
      rw [hb]
      dsimp only
      rw [h1]
      show dA _ _ _
      rw [h3]
      show bU _ _
      rw [h5]
      exact k
    · exact h.elim
  · exact h.elim
theorem xY (hcd : kZ cd) (hcs : oH cd) {ops : Array Oper} {o : Oper} {b : DB} {hist : List (AH × Nat)} {k : KP} (hb : bOk o b) (hgs : pe ops o b.2 = true) (hs : vC ops o b cd hist σ H n k) :
    ∃ σr v H1 n1, tB ops o b hist σ H n σr v H1 n1 ∧ k (b8 σr o.dst v) H1 n1 := by
  let go : AE → Prop := fun σ => (match b.1 with
    | none => (match o.op with
      | .call c => oE c cd (hZ σ b.2) H n fun v H n => k (b8 σ o.dst v) H n
      | .store t a x => j9 t (eev (hZ σ b.2) a) (eev (hZ σ b.2) x) H n fun v H n => k (b8 σ o.dst v) H n
      | .buildSlice t len parts => dA (Nat.blt n 1000000) (match H.get n with
        | none => vB (.buildSlice t len parts) (hZ σ b.2) H n fun v H n => k (b8 σ o.dst v) H n
        | some _ => False) False
      | _ => False)
    | some j => bU (nth ((H, n) :: hist) j) fun r => qP o.op (hZ σ b.2) r.1 fun v => k (b8 σ o.dst v) H n)
  have did : ∀ σr, (∀ t a, σr.get t = some a → Sup (σ.get t) a) → (∀ φ ρ h K, sm φ σr b.2 ρ → br Try.prog o.op ρ h (fun v h' => K (ρ.put o.dst v) h') → aX Try.prog ops o ρ h K) → go σr →
      ∃ σr v H1 n1, tB ops o b hist σ H n σr v H1 n1 ∧ k (b8 σr o.dst v) H1 n1 := by
    intro σr hsup hg hs
    unfold bOk at hb
    simp only [go] at hs
    cases hb1 : b.1 with
    | none =>
      rw [hb1] at hs hb
      dsimp only at hs hb
      split at hs
      · rename_i c hop
        obtain ⟨callee, args, ats⟩ := c
        rw [hop] at hb
        cases callee with
        | builtin _ => cases hb
        | invoke _ _ => cases hb
        | value f =>
          unfold oE at hs
          dsimp only at hs
          split at hs
          · rename_i g a cs q
            obtain ⟨v, H', n', h1, h2, h3, h4⟩ := hcs _ _ _ _ _ hs
            refine ⟨σr, v, H', n', ⟨hsup, fun _ => h2, h3, fun _ => ?_, fun hl => ?_⟩, h1⟩
            · intro φ h0 h ρ K hr hsl hk
              refine hg φ ρ h K hsl ?_
              have hs2 : oE ⟨.value f, args, ats⟩ cd (hZ σr b.2) H n fun v2 H2 n2 => v2 = v ∧ H2 = H' ∧ n2 = n' := by
                unfold oE
                dsimp only
                rw [q]
                exact h4 _ ⟨rfl, rfl, rfl⟩
              rw [hop]
              exact oG hcd hr (iH hsl) hs2 fun ψ v2 H2 n2 u g q1 q2 q3 ⟨e1, e2, e3⟩ => by
                rw [e1] at q3
                rw [e2, e3] at q2
                exact hk ψ u g q1 q2 q3
            · rw [hop] at hl; cases hl
          · exact hs.elim
      · rename_i t a x hop
        obtain ⟨H', h1, h2⟩ := xX hs
        refine ⟨σr, cJ, H', n, ⟨hsup, fun q => (by rw [hop] at q; cases q), Nat.le_refl _, fun _ => ?_, fun hl => ?_⟩, h1⟩
        · intro φ h0 h ρ K hr hsl hk
          refine hg φ ρ h K hsl ?_
          rw [hop]
          exact m8 hr ((iH hsl).ev a) ((iH hsl).ev x) (h2 (fun v2 H2 n2 => v2 = cJ ∧ H2 = H' ∧ n2 = n) ⟨rfl, rfl, rfl⟩) fun ψ v2 H2 n2 u g q1 q2 q3 ⟨e1, e2, e3⟩ => by
            rw [e1] at q3
            rw [e2, e3] at q2
            exact hk ψ u g q1 q2 q3
        · rw [hop] at hl; cases hl
      · rename_i t len parts hop
        obtain ⟨hn1, hs⟩ := dO hs
        split at hs
        · rename_i hn
          obtain ⟨⟨v, H', n'⟩, h1, h2⟩ := aP hs
          have gr : dQ H H' ∧ n ≤ n' := by
            simp only [yQ] at h1
            split at h1
            · injection h1 with h1
              injection h1 with _ h1
              injection h1 with h1 h3
              subst h1 h3
              refine ⟨fun b o hb => PM.aC _ _ _ _ ?_ (fun q => by subst q; exact (by cases hn.symm.trans hb)) hb, Nat.le_succ _⟩
              have q1 : n < 1000000 := Nat.le_of_ble_eq_true hn1
              have q2 : (1000001 : Nat) < 2 ^ aa := by show 1000001 < 2 ^ 40; decide
              omega
            · cases h1
          refine ⟨σr, v, H', n', ⟨hsup, fun _ => gr.1, gr.2, fun _ => ?_, fun hl => ?_⟩, h2⟩
          · intro φ h0 h ρ K hr hsl hk
            refine hg φ ρ h K hsl ?_
            rw [hop]
            refine oF hr (iH hsl) (κ := fun v2 H2 n2 => v2 = v ∧ H2 = H' ∧ n2 = n') ?_ fun ψ v2 H2 n2 u g q1 q2 q3 ⟨e1, e2, e3⟩ => by
              rw [e1] at q3
              rw [e2, e3] at q2
              exact hk ψ u g q1 q2 q3
            unfold vB
            rw [h1]
            exact ⟨rfl, rfl, rfl⟩
          · rw [hop] at hl; cases hl
        · exact hs.elim
      · exact hs.elim
    | some j =>
      rw [hb1] at hs hb
      dsimp only at hs hb
      obtain ⟨r, h1, h2⟩ := aP hs
      obtain ⟨v, h3, h4⟩ := Sg.q _ h2
      refine ⟨σr, v, H, n, ⟨hsup, fun _ => .refl _, Nat.le_refl _, fun hl => (by rw [hl] at hb; cases hb), fun _ => ⟨rfl, rfl, r.1, fun k' r' e1 e2 => ?_, ?_⟩⟩, h3⟩
      · rw [hb1] at e1
        injection e1 with e1
        subst e1
        rw [h1] at e2
        injection e2 with e2
        rw [e2]
      · intro φ n h0 h ρ K hr hsl hk
        refine hg φ ρ h K hsl (bQ hb ?_)
        exact CU hr (iH hsl) (h4 (fun x => x = v) rfl) fun r u e hu => by
          subst e
          exact hk u hu
  have skip : ∀ σr, (∀ t a, σr.get t = some a → Sup (σ.get t) a) → (∀ φ ρ h K, sm φ σr b.2 ρ → K (ρ.put o.dst undef) h → aX Try.prog ops o ρ h K) → k (b8 σr o.dst cJ) H n →
      ∃ σr v H1 n1, tB ops o b hist σ H n σr v H1 n1 ∧ k (b8 σr o.dst v) H1 n1 := by
    intro σr hsup hg hs
    refine ⟨σr, cJ, H, n, ⟨hsup, fun _ => .refl _, Nat.le_refl _, fun hl => ?_, fun _ => ?_⟩, hs⟩
    · intro φ h0 h ρ K hr hsl hk
      exact hg φ ρ h K hsl (hk φ undef h (PLe.refl _) hr .undef)
    · refine ⟨rfl, rfl, (match b.1 with
        | some k => (match nth ((H, n) :: hist) k with
          | some r => r.1
          | none => H)
        | none => H), fun k r e1 e2 => by rw [e1]; dsimp only; rw [e2], ?_⟩
      intro φ n h0 h ρ K hr hsl hk
      exact hg φ ρ h K hsl (hk undef .undef)
  have same : ∀ t a, σ.get t = some a → Sup (σ.get t) a := fun t a h => .refl h
  have put : ∀ (t : Nat) (q : Bool), ay (pa t) σ = .sb q → ∀ s a, (b8 σ (some t) (.bool q)).get s = some a → Sup (σ.get s) a := fun t q hq s a hg => by
    rcases kS db σ t s a hg with ⟨rfl, h2⟩ | ⟨_, h2⟩
    · subst h2
      intro φ u hu
      rcases jt db s σ _ hq with e | e
      · cases e
      · have := (hu _ e).gX
        subst this
        exact .bool q
    · exact .refl h2
  have hs : (match o.guard with
    | none => go σ
    | some (j, want) => (match fK ops j with
      | none => False
      | some t => (match ay (pa t) σ with
        | .bool q => (match q == want with
          | true => go σ
          | false => k (b8 σ o.dst cJ) H n)
        | .sb q => (match want with
          | true => ag q (go (b8 σ (some t) (.bool true))) (k (b8 (b8 σ (some t) (.bool false)) o.dst cJ) H n)
          | false => ag q (k (b8 (b8 σ (some t) (.bool true)) o.dst cJ) H n) (go (b8 σ (some t) (.bool false))))
        | .tup _ => k (b8 σ o.dst cJ) H n
        | _ => False))) := hs
  split at hs
  · rename_i hg
    exact did σ same (fun φ ρ h K _ ha => by unfold aX; simp only [hg]; exact ha) hs
  · rename_i j want hg
    split at hs
    · exact hs.elim
    · rename_i t ht
      have htm : t ∈ b.2 := by
        unfold pe at hgs
        rw [hg] at hgs
        dsimp only at hgs
        rw [ht] at hgs
        simpa using hgs
      have gw : ∀ (ρ : Env) (h : Hp) (K : Env → Hp → Prop), ρ t = .bool want → br Try.prog o.op ρ h (fun v h' => K (ρ.put o.dst v) h') → aX Try.prog ops o ρ h K := fun ρ h K hv ha => by
        unfold aX; simp only [hg, ht, hv]
        rw [if_pos trivial]; exact ha
      have gn : ∀ (ρ : Env) (h : Hp) (K : Env → Hp → Prop), ρ t = .bool (!want) → K (ρ.put o.dst undef) h → aX Try.prog ops o ρ h K := fun ρ h K hv ha => by
        unfold aX; simp only [hg, ht, hv]
        rw [if_neg (by cases want <;> simp)]; exact ha
      split at hs
      · rename_i q hq
        split at hs
        · rename_i hqw
          have hqw2 : q = want := by simpa using hqw
          subst hqw2
          exact did σ same (fun φ ρ h K hsl ha => gw ρ h K (by have := hsl t htm; rw [hq] at this; exact this.bF) ha) hs
        · rename_i hqw
          have hqw2 : q = !want := by cases q <;> cases want <;> simp_all
          exact skip σ same (fun φ ρ h K hsl ha => gn ρ h K (by have := hsl t htm; rw [hq] at this; rw [this.bF, hqw2]) ha) hs
      · rename_i q hq
        have gb : ∀ (q' : Bool), ay (pa t) (b8 σ (some t) (.bool q')) = .bool q' := fun q' => by
          exact nZ (by rw [hq]; simp)
        split at hs
        · cases q with
          | true => exact did _ (put t true hq) (fun φ ρ h K hsl ha => gw ρ h K (by have := hsl t htm; rw [gb] at this; exact this.bF) ha) (hs.t rfl)
          | false => exact skip _ (put t false hq) (fun φ ρ h K hsl ha => gn ρ h K (by have := hsl t htm; rw [gb] at this; rw [this.bF]; rfl) ha) (hs.f rfl)
        · cases q with
          | true => exact skip _ (put t true hq) (fun φ ρ h K hsl ha => gn ρ h K (by have := hsl t htm; rw [gb] at this; rw [this.bF]; rfl) ha) (hs.t rfl)
          | false => exact did _ (put t false hq) (fun φ ρ h K hsl ha => gw ρ h K (by have := hsl t htm; rw [gb] at this; exact this.bF) ha) (hs.f rfl)
      · rename_i us hq
        refine skip σ same (fun φ ρ h K hsl ha => ?_) hs
        have := hsl t htm
        rw [hq] at this
        obtain ⟨cs, hv, _⟩ := this.dt
        unfold aX; simp only [hg, ht, hv]
        exact ha
      · exact hs.elim
end
end Go.Proofs.Ythjggjhebbdkdaa
namespace Go.Proofs.Ythjggjhebbdkdaa
open Go Go.RowKit
structure TR where
  v : AV
  σ : AE
  H : AH
  n : Nat
inductive Tr (ops : Array Oper) : List Oper → List DB → List (AH × Nat) → AE → AH → Nat → List TR → AE → AH → Nat → Prop
  | nil {bs : List DB} {hist : List (AH × Nat)} {σ : AE} {H : AH} {n : Nat} : Tr ops [] bs hist σ H n [] σ H n
  | cons {o : Oper} {l : List Oper} {b : DB} {bs : List DB} {hist : List (AH × Nat)} {σ : AE} {H : AH} {n : Nat} {σr : AE} {v : AV} {H1 : AH} {n1 : Nat} {tr : List TR} {σ' : AE} {H' : AH} {n' : Nat}
    (s : tB ops o b hist σ H n σr v H1 n1) (r : Tr ops l bs ((H, n) :: hist) (b8 σr o.dst v) H1 n1 tr σ' H' n') : Tr ops (o :: l) (b :: bs) hist σ H n (⟨v, σr, H, n⟩ :: tr) σ' H' n'
section
variable {φ : Ph} {h0 h : Hp} {ρ : Env} {cd : CP} {ops : Array Oper}
theorem y0 (hcd : kZ cd) (hcs : oH cd) {kn : KP} : ∀ (l : List Oper) (bs : List DB) (hist : List (AH × Nat)) (σ : AE) (H : AH) (n : Nat), (∀ (i : Nat) o b, l[i]? = some o → bs[i]? = some b → bOk o b ∧ pe ops o b.2 = true) → CL ops l bs cd hist σ H n kn →
    ∃ tr σ' H' n', Tr ops l bs hist σ H n tr σ' H' n' ∧ kn σ' H' n'
  | [], bs, hist, σ, H, n, _, hs => ⟨[], σ, H, n, .nil, hs⟩
  | o :: l, [], hist, σ, H, n, _, hs => hs.elim
  | o :: l, b :: bs, hist, σ, H, n, hb, hs => by
    have hs : vC ops o b cd hist σ H n (fun σ' H' n' => CL ops l bs cd ((H, n) :: hist) σ' H' n' kn) := hs
    obtain ⟨h1, h2⟩ := hb 0 o b rfl rfl
    obtain ⟨σr, v, H1, n1, h3, h4⟩ := xY hcd hcs h1 h2 hs
    obtain ⟨tr, σ', H', n', h5, h6⟩ := y0 hcd hcs l bs _ _ H1 n1 (fun i o b e1 e2 => hb (i + 1) o b (by simpa using e1) (by simpa using e2)) h4
    exact ⟨_, σ', H', n', .cons h3 h5, h6⟩
theorem A1 {l : List Oper} {bs : List DB} {hist : List (AH × Nat)} {σ : AE} {H : AH} {n : Nat} {tr : List TR} {σ' : AE} {H' : AH} {n' : Nat} (ht : Tr ops l bs hist σ H n tr σ' H' n') : tr.length = l.length := by
  induction ht with
  | nil => rfl
  | cons s r ih => simp [ih]
structure At (ops : Array Oper) (Bs : List DB) (σ0 : AE) (val : Nat → AV) (σs : Nat → AE) (Hs : Nat → AH) (ns : Nat → Nat) (i : Nat) (o : Oper) : Prop where
  look : ∀ t a, (σs i).get t = some a → Sup (gY ops val σ0 (fun _ => true) i t) a
  grow : jj o.op = false → dQ (Hs i) (Hs (i + 1))
  bs : ∃ b, Bs[i]? = some b ∧ (bE o.op = true → Hb ops o b.2 (σs i) (Hs i) (ns i) (val i) (Hs (i + 1)) (ns (i + 1))) ∧
    (bE o.op = false → Hs (i + 1) = Hs i ∧ ns (i + 1) = ns i ∧ ∀ k, b.1 = some k → k ≤ i → CV ops o b.2 (σs i) (Hs (i - k)) (val i))
theorem Fm {Bs : List DB} {σ0 : AE} {val : Nat → AV} {σs : Nat → AE} {Hs : Nat → AH} {ns : Nat → Nat} {l : List Oper} {bs : List DB} {hist : List (AH × Nat)} {σ : AE} {H : AH} {n : Nat} {tr : List TR} {σ' : AE} {H' : AH} {n' : Nat} (ht : Tr ops l bs hist σ H n tr σ' H' n') :
    ∀ k, (∀ j : Nat, l[j]? = ops[k + j]?) → (∀ j : Nat, bs[j]? = Bs[k + j]?) → (∀ t a, σ.get t = some a → Sup (gY ops val σ0 (fun _ => true) k t) a) → (∀ j, j < k → nth hist j = some (Hs (k - 1 - j), ns (k - 1 - j))) → H = Hs k → n = ns k →
    (∀ (j : Nat) e, tr[j]? = some e → val (k + j) = e.v ∧ σs (k + j) = e.σ ∧ Hs (k + j) = e.H ∧ ns (k + j) = e.n) → Hs (k + l.length) = H' → ns (k + l.length) = n' →
    (∀ i o, k ≤ i → i < k + l.length → ops[i]? = some o → At ops Bs σ0 val σs Hs ns i o) ∧ tr.length = l.length ∧ ∀ t a, σ'.get t = some a → Sup (gY ops val σ0 (fun _ => true) (k + l.length) t) a := by
  induction ht with
  | nil => exact fun k _ _ hσ _ _ _ _ _ _ => ⟨fun i o h1 h2 => by simp at h2; omega, rfl, hσ⟩
  | @cons o l b bs hist σ H n σr v H1 n1 tr σ' H' n' s r ih =>
    intro k hl hb hσ hh hH hn htr hH' hn'
    have ho : ops[k]? = some o := by simpa using (hl 0).symm
    have hbk : Bs[k]? = some b := by simpa using (hb 0).symm
    obtain ⟨t1, t3, t4, t5⟩ := htr 0 _ rfl
    simp only [Nat.add_zero] at t1 t3 t4 t5
    have hH1 : H1 = Hs (k + 1) ∧ n1 = ns (k + 1) := by
      cases r with
      | nil => exact ⟨by simpa using hH'.symm, by simpa using hn'.symm⟩
      | cons s2 r2 =>
        obtain ⟨_, _, q4, q5⟩ := htr 1 _ rfl
        exact ⟨q4.symm, q5.symm⟩
    have hσr : ∀ t a, σr.get t = some a → Sup (gY ops val σ0 (fun _ => true) k t) a := fun t a hg => Sup.trans (fun b hb => hσ t b hb) (s.sup t a hg)
    have hσ1 : ∀ t a, (b8 σr o.dst v).get t = some a → Sup (gY ops val σ0 (fun _ => true) (k + 1) t) a := fun t a hg => by
      simp only [gY, gZ, ho, Option.bind_some, true_and]
      cases hd : o.dst with
      | none => rw [hd] at hg; rw [if_neg (by simp)]; exact hσr t a hg
      | some d =>
        rw [hd] at hg
        rcases kS db σr d t a hg with ⟨rfl, h2⟩ | ⟨h1, h2⟩
        · rw [if_pos rfl, t1, h2]; exact .refl rfl
        · rw [if_neg (by simpa using Ne.symm h1)]; exact hσr t a h2
    obtain ⟨r1, r2, r3⟩ := ih (k + 1) (fun j => by have := hl (j + 1); simpa [Nat.add_assoc, Nat.add_comm 1 j] using this) (fun j => by have := hb (j + 1); simpa [Nat.add_assoc, Nat.add_comm 1 j] using this) hσ1
      (fun j hj => by
        cases j with
        | zero =>
          show some (H, n) = _
          rw [hH, hn]; simp
        | succ j =>
          show nth hist j = _
          rw [hh j (by omega)]
          have : k - 1 - j = k + 1 - 1 - (j + 1) := by omega
          rw [this]) hH1.1 hH1.2
      (fun j e he => by
        have := htr (j + 1) e (by simpa using he)
        rwa [show k + (j + 1) = k + 1 + j from by omega] at this)
      (by rw [← hH']; congr 1; simp; omega) (by rw [← hn']; congr 1; simp; omega)
    have hlen : k + (o :: l).length = k + 1 + l.length := by simp; omega
    rw [hlen]
    refine ⟨fun i o' h1 h2 ho' => ?_, by simp [r2], r3⟩
    by_cases hi : i = k
    · subst hi
      rw [ho] at ho'; injection ho' with ho'; subst ho'
      refine ⟨?_, ?_, b, hbk, fun hl => ?_, fun hl => ?_⟩
      · rw [t3]; exact hσr
      · rw [← hH, ← hH1.1]; exact fun q => s.grow q
      · rw [t3, t1, ← hH, ← hn, ← hH1.1, ← hH1.2]; exact s.loud hl
      · obtain ⟨g1, g2, G, g3, g4⟩ := s.still hl
        refine ⟨by rw [← hH1.1, ← hH]; exact g1, by rw [← hH1.2, ← hn]; exact g2, fun j hj hji => ?_⟩
        rw [t3, t1]
        have hr : ∃ r, nth ((H, n) :: hist) j = some r ∧ r.1 = Hs (i - j) := by
          cases j with
          | zero => exact ⟨(H, n), rfl, by rw [Nat.sub_zero]; exact hH⟩
          | succ j =>
            refine ⟨_, hh j (by omega), ?_⟩
            show Hs (i - 1 - j) = _
            rw [show i - 1 - j = i - (j + 1) from by omega]
        obtain ⟨r, e1, e2⟩ := hr
        rw [← e2, ← g3 j r hj e1]
        exact g4
    · exact r1 i o' (by omega) h2 ho'
theorem y5 {A : List Nat} {i j : Nat} : ∀ (l : List Edge) (m : Nat), (l.foldl (fun m e => if Region.binds .any e && decide (e.on < i) then m ||| (2 ^ e.on ||| A.getD e.on 0) else m) m).testBit j = true →
    m.testBit j = true ∨ ∃ e ∈ l, Region.binds .any e = true ∧ e.on < i ∧ (e.on = j ∨ (A.getD e.on 0).testBit j = true)
  | [], m, h => .inl h
  | e :: l, m, h => by
    simp only [List.foldl_cons] at h
    rcases y5 l _ h with h1 | ⟨e', h1, h2⟩
    · split at h1
      · rename_i hc
        simp only [Bool.and_eq_true, decide_eq_true_eq] at hc
        simp only [Nat.testBit_or, Bool.or_eq_true, Nat.testBit_two_pow, decide_eq_true_eq] at h1
        rcases h1 with h1 | h1 | h1
        · exact .inl h1
        · exact .inr ⟨e, List.mem_cons_self, hc.1, hc.2, .inl h1⟩
        · exact .inr ⟨e, List.mem_cons_self, hc.1, hc.2, .inr h1⟩
      · exact .inl h1
    · exact .inr ⟨e', List.mem_cons_of_mem _ h1, h2⟩
theorem iV {A : List Nat} (hA : CN A ops = true) {listed : Array Bool} (hd : Down ops listed) {j : Nat} : ∀ (m i : Nat), i < m → (∀ o, ops[i]? = some o → ∀ e ∈ o.after, Region.binds .any e = true → listed.getD e.on false = true) → i < ops.size → nY A j i = true → listed.getD j false = true
  | 0, i, hm, _, _, _ => by omega
  | m + 1, i, hm, hi, hsz, hb => by
    have ho := Array.getElem?_eq_getElem hsz
    have h1 := List.all_eq_true.1 hA i (by simpa using hsz)
    simp only [ho, beq_iff_eq] at h1
    unfold nY at hb
    rw [h1] at hb
    rcases y5 _ _ hb with h2 | ⟨e, h2, h3, h4, h5⟩
    · simp at h2
    · have hl := hi _ ho e (by simpa using h2) h3
      rcases h5 with h5 | h5
      · exact h5 ▸ hl
      · exact iV hA hd m e.on (by omega) (fun o' ho' e' he' hb' => hd e.on o' ho' hl e' he' hb') (by omega) h5
theorem nc {Bs : List DB} {σ0 : AE} {val : Nat → AV} {σs : Nat → AE} {Hs : Nat → AH} {ns : Nat → Nat} (ht : ∀ i o, ops[i]? = some o → At ops Bs σ0 val σs Hs ns i o) : ∀ (d p : Nat), p + d ≤ ops.size → (∀ j o, p ≤ j → j < p + d → ops[j]? = some o → bE o.op = false) → Hs (p + d) = Hs p ∧ ns (p + d) = ns p
  | 0, _, _, _ => ⟨rfl, rfl⟩
  | d + 1, p, hle, hq => by
    obtain ⟨h1, h2⟩ := nc ht d p (by omega) fun j o a b => hq j o a (by omega)
    have hlt : p + d < ops.size := by omega
    have ho := Array.getElem?_eq_getElem hlt
    obtain ⟨b, _, _, hs⟩ := (ht _ _ ho).bs
    obtain ⟨g1, g2, _⟩ := hs (hq (p + d) _ (by omega) (by omega) ho)
    exact ⟨by rw [← h1]; exact g1, by rw [← h2]; exact g2⟩
theorem CW {Bs : List DB} {σ0 : AE} {val : Nat → AV} {σs : Nat → AE} {Hs : Nat → AH} {ns : Nat → Nat} (ht : ∀ i o, ops[i]? = some o → At ops Bs σ0 val σs Hs ns i o) : ∀ (d p : Nat), p + d ≤ ops.size → (∀ j o, p ≤ j → j < p + d → ops[j]? = some o → jj o.op = false) → dQ (Hs p) (Hs (p + d))
  | 0, _, _, _ => .refl _
  | d + 1, p, hle, hq => (CW ht d p (by omega) fun j o a b => hq j o a (by omega)).trans ((ht _ _ (Array.getElem?_eq_getElem (show p + d < ops.size by omega))).grow (hq (p + d) _ (by omega) (by omega) (Array.getElem?_eq_getElem (show p + d < ops.size by omega))))
theorem CX {Bs : List DB} {σ0 σ' : AE} {val : Nat → AV} {σs : Nat → AE} {Hs : Nat → AH} {ns : Nat → Nat} {N : Env → Hp → Prop} (ht : ∀ i o, ops[i]? = some o → At ops Bs σ0 val σs Hs ns i o) (hst : qh ops Bs = true)
    (hσ' : ∀ t a, σ'.get t = some a → Sup (gY ops val σ0 (fun _ => true) ops.size t) a) (hr : HR φ (Hs 0) (ns 0) h0 h) (hf : FR φ σ0 ρ) (hN : ∀ ψ ρ' h', PLe φ ψ → HR ψ (Hs ops.size) (ns ops.size) h0 h' → FR ψ σ' ρ' → N ρ' h') : xI Try.prog ops ρ h N := by
  simp only [qh, Bool.and_eq_true] at hst
  obtain ⟨hed, hanc, hst⟩ := hst
  generalize nX ops.toList 0 [] = A at hanc hst
  have per : ∀ i o, ops[i]? = some o → ∃ b, Bs[i]? = some b ∧ (∀ t ∈ b.2, t ∈ looks ops o) ∧ (match b.1 with
      | none => pc o.op = true ∨ (jj o.op = true ∧ ∀ j, j < ops.size → j = i ∨ nY A j i = true)
      | some k => bE o.op = false ∧ k ≤ i ∧ ∀ j, j < i - k → tA ops j = true → nY A j i = true) ∧
      ∀ j a, j < i → ops[j]? = some a → (a.apart ops o = true ∧ (bE a.op = false ∨ bE o.op = false)) ∨ nY A j i = true := fun i o ho => by
    have hisz := (Array.getElem?_eq_some_iff.1 ho).1
    have h1 := List.all_eq_true.1 hst i (by simpa using hisz)
    unfold HS at h1
    rw [ho] at h1
    split at h1
    · rename_i o' b e1 e2
      injection e1 with e1
      subst e1
      simp only [Bool.and_eq_true, List.all_eq_true] at h1
      obtain ⟨⟨⟨h1, _⟩, h2⟩, h3⟩ := h1
      refine ⟨b, e2, fun t htm => by simpa using h1 t htm, ?_, fun j a hlt hj => ?_⟩
      · split at h2
        · rename_i e; try simp only [e]
          simp only [Bool.or_eq_true, Bool.and_eq_true, List.all_eq_true] at h2
          exact h2.imp id fun q => ⟨q.1, fun j hj => (q.2 j (by simpa using hj)).imp Nat.eq_of_beq_eq_true id⟩
        · rename_i k e
          try simp only [e]
          simp only [Bool.and_eq_true, Bool.not_eq_true', decide_eq_true_eq, List.all_eq_true, Bool.or_eq_true] at h2
          exact ⟨h2.1, h2.2.1, fun j hj hl => by
            rcases h2.2.2 j (by simpa using hj) with q | q
            · rw [hl] at q; cases q
            · exact q⟩
      · have := h3 j (by simpa using hlt)
        rw [hj] at this
        simpa only [Bool.or_eq_true, Bool.and_eq_true, Bool.not_eq_true'] using this
    · cases h1
  have pair : ∀ i j a b, j < i → ops[i]? = some b → ops[j]? = some a → (a.apart ops b = true ∧ (bE a.op = false ∨ bE b.op = false)) ∨ nY A j i = true := fun i j a b hlt hi hj => by
    obtain ⟨_, _, _, _, h4⟩ := per i b hi
    exact h4 j a hlt hj
  refine ⟨hed, fun listed ρ1 h1 => ∃ ψ p, PLe φ ψ ∧ p ≤ ops.size ∧ HR ψ (Hs p) (ns p) h0 h1 ∧ (∀ j o, ops[j]? = some o → bE o.op = true → (listed.getD j false = true ↔ j < p)) ∧
      ∀ t a, gY ops val σ0 (fun j => listed.getD j false) ops.size t = some a → VR ψ a (ρ1 t), ?_, ?_, ?_⟩
  · refine ⟨φ, 0, PLe.refl _, Nat.zero_le _, hr, fun j o hj _ => ?_, fun t a e => ?_⟩
    · have : (Array.replicate ops.size false).getD j false = false := by simp [Array.getD]
      rw [this]; simp
    · have : gY ops val σ0 (fun j => (Array.replicate ops.size false).getD j false) ops.size t = gY ops val σ0 (fun j => decide (j < 0)) ops.size t :=
        fX _ fun j _ _ => by simp [Array.getD]
      rw [this, qd _ (Nat.zero_le _)] at e
      exact hf t a e
  · intro listed i o ρ1 h1 hsz hdn ho hun hedge ⟨ψ, p, hp, hple, hr1, hlo, henv⟩ _
    have hi : i < ops.size := (Array.getElem?_eq_some_iff.1 ho).1
    have before : ∀ j, nY A j i = true → listed.getD j false = true := fun j hb => iV hanc hdn (i + 1) i (by omega) (fun o' ho' e he hb' => by
      rw [ho] at ho'; injection ho' with ho'; subst ho'
      exact hedge e he hb') hi hb
    have behind : ∀ j, j < ops.size → nY A i j = true → listed.getD j false = false := fun j hj hb => by
      cases hl : listed.getD j false with
      | false => rfl
      | true =>
        have := iV hanc hdn (j + 1) j (by omega) (fun o' ho' e he hb' => hdn j o' ho' hl e he hb') hj hb
        rw [hun] at this; cases this
    have hlook : ∀ t, t ∈ looks ops o → gY ops val σ0 (fun j => listed.getD j false) ops.size t = gY ops val σ0 (fun _ => true) i t := fun t htl => by
      rw [← qd (val := val) ops.size (Nat.le_of_lt hi)]
      refine fX _ fun j hj hd => ?_
      have hjo := Array.getElem?_eq_getElem hj
      have hd2 : ops[j].dst = some t := by simpa [gZ, hjo] using hd
      by_cases hji : j = i
      · subst hji; simp [hun]
      · by_cases hlt : j < i
        · rcases pair i j _ _ hlt ho hjo with ⟨ha, _⟩ | hb
          · exact absurd htl ((Oper.apart_spec ha).1 t hd2)
          · rw [before j hb]; simp [hlt]
        · rcases pair j i _ _ (by omega) hjo ho with ⟨ha, _⟩ | hb
          · exact absurd htl ((Oper.apart_spec ha).2.2 t hd2)
          · rw [behind j hj hb]; simp [hlt]
    have hat := ht i o ho
    obtain ⟨b, hb1, hb2, hb3, _⟩ := per i o ho
    obtain ⟨b', hb4, hloud, hstill⟩ := hat.bs
    rw [hb1] at hb4
    injection hb4 with hb4
    subst hb4
    have hsl : sm ψ (σs i) b.2 ρ1 := fun t htm => by
      rcases jt db t (σs i) _ rfl with e | e
      · show VR ψ (ay (pathOf db t) (σs i)) (ρ1 t)
        rw [e]; exact .bad _
      · refine hat.look t _ e ψ _ fun a' ha' => henv t a' ?_
        rw [hlook t (hb2 t htm)]; exact ha'
    have hset : ∀ j, (listed.setIfInBounds i true).getD j false = if j = i then true else listed.getD j false := fun j => js (by omega)
    have henv2 : ∀ {χ : Ph} {u : Value}, PLe ψ χ → VR χ (val i) u → ∀ t a, gY ops val σ0 (fun j => (listed.setIfInBounds i true).getD j false) ops.size t = some a → VR χ a ((ρ1.put o.dst u) t) := fun {χ u} hpχ hu t a e => by
      rw [vu (L := fun j => listed.getD j false) (i := i) (fun j hj => by simp only [hset, if_neg hj]) (by simp only [hset, if_true]) ops.size hi (fun j h1 h2 hd1 hd2 => by
        have hjo := Array.getElem?_eq_getElem h2
        have e1 : o.dst = some t := by simpa [gZ, ho] using hd1
        have e2 : ops[j].dst = some t := by simpa [gZ, hjo] using hd2
        rcases pair j i _ _ h1 hjo ho with ⟨ha, _⟩ | hb
        · exact absurd e2 ((Oper.apart_spec ha).2.1 t e1)
        · exact behind j h2 hb)] at e
      by_cases hd : o.dst = some t
      · rw [if_pos (by simpa [gZ, ho] using hd)] at e
        injection e with e
        subst e
        rw [hd, mP, pE]; exact hu
      · rw [if_neg (by simpa [gZ, ho] using hd)] at e
        have := VR.mono hpχ _ _ (henv t a e)
        rwa [jr (fun x hx => by intro q; exact hd (by rw [hx, q]))]
    cases hl : bE o.op with
    | true =>
      have hpi : p ≤ i := by
        have := (hlo i o ho hl)
        rw [hun] at this
        by_cases hc : i < p
        · have := this.2 hc; cases this
        · omega
      have hnol : ∀ j o', p ≤ j → j < p + (i - p) → ops[j]? = some o' → bE o'.op = false := fun j o' h1 h2 hj => by
        cases hlj : bE o'.op with
        | false => rfl
        | true =>
          rcases pair i j _ _ (by omega) ho hj with ⟨_, hx⟩ | hb
          · rcases hx with hx | hx
            · rw [hlj] at hx; cases hx
            · rw [hl] at hx; cases hx
          · have := (hlo j o' hj hlj).1 (before j hb)
            omega
      obtain ⟨c1, c2⟩ := nc ht (i - p) p (by omega) hnol
      rw [show p + (i - p) = i from by omega] at c1 c2
      rw [← c1, ← c2] at hr1
      refine hloud hl ψ h0 h1 ρ1 _ hr1 hsl fun χ u g hpχ hg hu => ⟨χ, i + 1, hp.trans hpχ, hi, hg, fun j o' hj hlj => ?_, henv2 hpχ hu⟩
      rw [hset]
      by_cases hji : j = i
      · subst hji; simp
      · rw [if_neg hji]
        have hjsz := (Array.getElem?_eq_some_iff.1 hj).1
        by_cases hlt : j < i
        · have : listed.getD j false = true := by
            rcases pair i j _ _ hlt ho hj with ⟨_, hx⟩ | hb
            · rcases hx with hx | hx
              · rw [hlj] at hx; cases hx
              · rw [hl] at hx; cases hx
            · exact before j hb
          rw [this]; simp; omega
        · have : listed.getD j false = false := by
            rcases pair j i _ _ (by omega) hj ho with ⟨_, hx⟩ | hb
            · rcases hx with hx | hx
              · rw [hl] at hx; cases hx
              · rw [hlj] at hx; cases hx
            · exact behind j hjsz hb
          rw [this]; simp; omega
    | false =>
      obtain ⟨_, _, hsf⟩ := hstill hl
      have hk : ∃ k, b.1 = some k ∧ k ≤ i ∧ ∀ j, j < i - k → tA ops j = true → nY A j i = true := by
        split at hb3
        · rename_i e
          rcases hb3 with hb3 | ⟨hb3, _⟩
          · unfold pc at hb3
            split at hb3
            · rename_i f xs ts e2
              rw [e2] at hl; cases hl
            · rename_i e2
              rw [e2] at hl; cases hl
            · cases hb3
          · unfold jj at hb3
            split at hb3
            · rename_i f xs ts e2
              rw [e2] at hl; cases hl
            · cases hb3
        · rename_i k e
          exact ⟨k, e, hb3.2⟩
      obtain ⟨k, hk1, hk2, hk3⟩ := hk
      have hGr : dQ (Hs (i - k)) (Hs p) := by
        by_cases hpk : i - k ≤ p
        · have := CW ht (p - (i - k)) (i - k) (by omega) fun j o' h1 h2 hj => by
            cases hst : jj o'.op with
            | false => rfl
            | true =>
              have hld : bE o'.op = true := by
                unfold jj at hst
                split at hst
                · rename_i e2; rw [e2]; rfl
                · cases hst
              have hls := (hlo j o' hj hld).2 (by omega)
              have hjsz := (Array.getElem?_eq_some_iff.1 hj).1
              obtain ⟨b2, _, _, hb2', _⟩ := per j o' hj
              split at hb2'
              · rcases hb2' with q | ⟨_, q⟩
                · unfold jj at hst
                  split at hst
                  · rename_i e2; rw [e2] at q; cases q
                  · cases hst
                · rcases q i hi with q | q
                  · subst q; rw [ho] at hj; injection hj with hj; subst hj; rw [hl] at hld; cases hld
                  · rw [behind j hjsz q] at hls; cases hls
              · rw [hld] at hb2'; cases hb2'.1
          rwa [show i - k + (p - (i - k)) = p from by omega] at this
        · obtain ⟨c1, _⟩ := nc ht (i - k - p) p (by omega) fun j o' h1 h2 hj => by
            cases hlj : bE o'.op with
            | false => rfl
            | true =>
              have h3 := hk3 j (by omega) (by unfold tA; rw [hj]; exact hlj)
              have := (hlo j o' hj hlj).1 (before j h3)
              omega
          rw [show p + (i - k - p) = i - k from by omega] at c1
          rw [c1]; exact .refl _
      refine hsf k hk1 hk2 ψ (ns p) h0 h1 ρ1 _ (hr1.less hGr) hsl fun u hu => ⟨ψ, p, hp, hple, hr1, fun j o' hj hlj => ?_, henv2 (PLe.refl _) hu⟩
      rw [hset]
      by_cases hji : j = i
      · subst hji; rw [ho] at hj; injection hj with hj; subst hj; rw [hl] at hlj; cases hlj
      · rw [if_neg hji]; exact hlo j o' hj hlj
  · intro listed ρ1 h1 hsz hall ⟨ψ, p, hp, hple, hr1, hlo, henv⟩
    obtain ⟨c1, c2⟩ := nc ht (ops.size - p) p (by omega) fun j o a b hj => by
      cases hl : bE o.op with
      | false => rfl
      | true =>
        have := (hlo j o hj hl).1 (hall j (by omega))
        omega
    rw [show p + (ops.size - p) = ops.size from by omega] at c1 c2
    rw [← c1, ← c2] at hr1
    refine hN ψ ρ1 h1 hp hr1 fun t a e => hσ' t a e ψ _ fun a' ha' => henv t a' ?_
    rw [← ha']
    exact fX _ fun j hj _ => hall j hj
theorem ql (hcd : kZ cd) (hcs : oH cd) {Bs : List DB} {σ : AE} {H : AH} {n : Nat} {kn : KP} {N : Env → Hp → Prop} (hst : qh ops Bs = true) (hs : CL ops ops.toList Bs cd [] σ H n kn) (hr : HR φ H n h0 h) (hf : FR φ σ ρ)
    (hN : ∀ ψ σ' H' n' ρ' h', PLe φ ψ → HR ψ H' n' h0 h' → FR ψ σ' ρ' → kn σ' H' n' → N ρ' h') : xI Try.prog ops ρ h N := by
  have hst2 := hst
  simp only [qh, Bool.and_eq_true] at hst2
  obtain ⟨tr, σ', H', n', h1, h2⟩ := y0 hcd hcs ops.toList Bs [] σ H n (fun i o b ho hb => by
    rw [Array.getElem?_toList] at ho
    have hisz := (Array.getElem?_eq_some_iff.1 ho).1
    have h1 := List.all_eq_true.1 hst2.2.2 i (by simpa using hisz)
    unfold HS at h1
    rw [ho, hb] at h1
    simp only [Bool.and_eq_true] at h1
    refine ⟨?_, h1.1.1.2⟩
    unfold bOk
    have h2 := h1.1.2
    split at h2
    · rename_i e; try rw [e]
      simp only [Bool.or_eq_true, Bool.and_eq_true] at h2 ⊢
      exact h2.imp id fun q => q.1
    · rename_i k e
      try rw [e]
      simp only [Bool.and_eq_true, Bool.not_eq_true'] at h2
      exact h2.1) hs
  let dflt : TR := ⟨.bad, .nil, H', n'⟩
  let at_ : Nat → TR := fun j => (tr[j]?).getD dflt
  have hat : ∀ (j : Nat) e, tr[j]? = some e → at_ j = e := fun j e hj => by simp only [at_, hj, Option.getD_some]
  have hsize : ops.toList.length = ops.size := Array.length_toList
  have hlen : tr.length = ops.size := by
    rw [← hsize]
    exact A1 h1
  let Hs : Nat → AH := fun j => if j < tr.length then (at_ j).H else H'
  let ns : Nat → Nat := fun j => if j < tr.length then (at_ j).n else n'
  have hend : Hs ops.size = H' ∧ ns ops.size = n' := ⟨by simp only [Hs]; rw [if_neg (by omega)], by simp only [ns]; rw [if_neg (by omega)]⟩
  have hs0 : H = Hs 0 ∧ n = ns 0 := by
    cases hl : ops.toList with
    | nil =>
      have e0 : ops.size = 0 := by rw [← hsize, hl]; rfl
      rw [hl] at h1
      cases h1
      (try simp only [Hs, ns])
      rw [if_neg (by omega), if_neg (by omega)]
      exact ⟨rfl, rfl⟩
    | cons o l =>
      rw [hl] at h1
      cases h1 with
      | cons s r => exact ⟨rfl, rfl⟩
  obtain ⟨told, _, hfin⟩ := Fm (Bs := Bs) (σ0 := σ) (val := fun j => (at_ j).v) (σs := fun j => (at_ j).σ) (Hs := Hs) (ns := ns) h1 0 (fun j => by rw [Nat.zero_add, Array.getElem?_toList]) (fun j => by rw [Nat.zero_add]) (fun t a q => .refl q) (fun j hj => by omega) hs0.1 hs0.2
    (fun j e hj => by
      have hjl := (List.getElem?_eq_some_iff.1 hj).1
      rw [Nat.zero_add]
      refine ⟨by rw [hat j e hj], by rw [hat j e hj], ?_, ?_⟩
      · (try simp only [Hs]); rw [if_pos hjl, hat j e hj]
      · (try simp only [ns]); rw [if_pos hjl, hat j e hj])
    (by simp only [Hs]; rw [if_neg (by rw [hlen, hsize]; omega)])
    (by simp only [ns]; rw [if_neg (by rw [hlen, hsize]; omega)])
  rw [Nat.zero_add, hsize] at told hfin
  refine CX (fun i o ho => told i o (Nat.zero_le _) (Array.getElem?_eq_some_iff.1 ho).1 ho) hst hfin (by rw [← hs0.1, ← hs0.2]; exact hr) hf ?_
  rw [hend.1, hend.2]
  exact fun ψ ρ' h' a b c => hN ψ σ' H' n' ρ' h' a b c h2
end
end Go.Proofs.Ythjggjhebbdkdaa
namespace Go.Proofs.Ythjggjhebbdkdaa
open Go Go.RowKit
section
variable {φ : Ph} {H : AH} {n : Nat} {h0 h : Hp} {σ : AE} {ρ : Env} {call : CP}
def GoP (φ0 : Ph) (h0 : Hp) (k : KP) (N : Env → Hp → Prop) : Prop := ∀ (ψ : Ph) (σ : AE) (H : AH) (n : Nat) (ρ : Env) (h : Hp), PLe φ0 ψ → HR ψ H n h0 h → FR ψ σ ρ → k σ H n → N ρ h
theorem gm (hcall : kZ call) {φ0 : Ph} {ops : Array Oper} {N : Env → Hp → Prop} : ∀ (l : List Oper) (φ : Ph) (σ : AE) (H : AH) (n : Nat) (k : KP) (ρ : Env) (h : Hp), PLe φ0 φ → HR φ H n h0 h → FR φ σ ρ →
    oU ops l call σ H n k → GoP φ0 h0 k N → iE Try.prog ops l ρ h N
  | [], φ, σ, H, n, k, ρ, h, hp, hr, hf, hs, hN => hN φ σ H n ρ h hp hr hf hs
  | o :: l, φ, σ, H, n, k, ρ, h, hp, hr, hf, hs, hN => by
    have hs : opP ops o call σ H n (fun σ H n => oU ops l call σ H n k) := hs
    have did : ∀ (σ : AE) (ρ : Env), FR φ σ ρ → (qg o.op call σ H n fun v H n => oU ops l call (b8 σ o.dst v) H n k) → br Try.prog o.op ρ h fun v h' => iE Try.prog ops l (ρ.put o.dst v) h' N := fun σ ρ hf hs =>
      vI hcall hr hf hs fun ψ v H' n' u g h1 h2 h3 h4 => gm hcall l ψ _ H' n' k _ g (hp.trans h1) h2 ((hf.mono h1).put o.dst h3) h4 hN
    have skip : ∀ (σ : AE) (ρ : Env), FR φ σ ρ → oU ops l call (b8 σ o.dst cJ) H n k → iE Try.prog ops l (ρ.put o.dst undef) h N := fun σ ρ hf hs =>
      gm hcall l φ _ H n k _ h hp hr (hf.put o.dst .undef) hs hN
    unfold opP at hs
    unfold iE
    split at hs
    · rename_i hg
      (try simp only [hg])
      exact did σ ρ hf hs
    · rename_i j want hg
      (try simp only [hg])
      split at hs
      · exact hs.elim
      · rename_i t ht
        (try simp only [ht])
        have rput : ∀ q : Bool, ρ t = .bool q → FR φ (b8 σ (some t) (.bool q)) (ρ.upd t (.bool q)) := fun q hq => hf.put (some t) (.bool q)
        split at hs
        · rename_i q hq
          have hv := (hq ▸ hf.at t).bF
          (try simp only [hv])
          split at hs
          · rename_i hqw
            have hqw2 : q = want := by simpa using hqw
            subst hqw2
            refine ⟨fun _ => ?_, (fun k => by rw [hqw] at k; cases k)⟩
            rw [jS hv]
            exact did σ ρ hf hs
          · rename_i hqw
            have hqw2 : (!want) = q := by cases q <;> cases want <;> simp_all
            refine ⟨(fun k => by rw [hqw] at k; cases k), fun _ => ?_⟩
            rw [jS (by rw [hv, hqw2])]
            exact skip σ ρ hf hs
        · rename_i q hq
          have hv := (hq ▸ hf.at t).gX
          (try simp only [hv])
          split at hs
          · cases q with
            | true => exact ⟨fun _ => did _ _ (rput true hv) (hs.t rfl), fun k => by cases k⟩
            | false => exact ⟨(fun k => by cases k), fun _ => skip _ _ (rput false hv) (hs.f rfl)⟩
          · cases q with
            | true => exact ⟨(fun k => by cases k), fun _ => skip _ _ (rput true hv) (hs.t rfl)⟩
            | false => exact ⟨fun _ => did _ _ (rput false hv) (hs.f rfl), fun k => by cases k⟩
        · rename_i us hq
          obtain ⟨cs, hv, _⟩ := (hq ▸ hf.at t).dt
          (try simp only [hv])
          exact skip σ ρ hf hs
        · exact hs.elim
theorem xZ {v : AV} {y : Nat} (h : CG v = some y) : v = .any (.func (.yield y) #[] #[]) := by
  unfold CG at h
  split at h
  · injection h with h; subst h; rfl
  · cases h
theorem mr (hcall : kZ call) {φ0 : Ph} {ops : Array Oper} {N : Env → Hp → Prop} : ∀ (l : List Oper) (φ : Ph) (σ : AE) (H : AH) (n : Nat) (k : KP) (ρ : Env) (h : Hp), PLe φ0 φ → HR φ H n h0 h → FR φ σ ρ →
    AQ ops l call σ H n k → GoP φ0 h0 k N → vf Try.prog ops l ρ h N
  | [], φ, σ, H, n, k, ρ, h, hp, hr, hf, hs, hN => hN φ σ H n ρ h hp hr hf hs
  | o :: l, φ, σ, H, n, k, ρ, h, hp, hr, hf, hs, hN => by
    have hs : yOr (Fh o σ) (fun y xs => Yld y xs H n fun v H n => AQ ops l call (b8 σ o.dst v) H n k) (opP ops o call σ H n fun σ H n => AQ ops l call σ H n k) := hs
    cases hy : Fh o σ with
    | none =>
      rw [hy] at hs
      have hs : oU ops [o] call σ H n (fun σ H n => AQ ops l call σ H n k) := hs
      exact .inr (jU (gm hcall [o] φ σ H n _ ρ h hp hr hf hs fun ψ σ' H' n' ρ' h' h1 h2 h3 h4 => mr hcall l ψ σ' H' n' k ρ' h' h1 h2 h3 h4 hN))
    | some z =>
      obtain ⟨y, xs⟩ := z
      rw [hy] at hs
      obtain ⟨run, ok, hrun⟩ : Yld y xs H n fun v H n => AQ ops l call (b8 σ o.dst v) H n k := hs
      unfold Fh at hy
      split at hy
      · rename_i f xs hv
        split at hy
        · rename_i y' hy'
          injection hy with hy
          injection hy with e1 e2
          subst e1 e2
          have hfv := hf.ev f
          rw [xZ hy'] at hfv
          refine .inl ⟨f, xs, y', hv, hfv.pb, ok _ _ _ _ hrun φ h0 h _ _ hr (by rw [Array.toList_map]; exact VRs.map hf.ev xs.toList) fun ψ v H' n' u g h1 h2 h3 h4 => ?_⟩
          exact mr hcall l ψ _ H' n' k _ g (hp.trans h1) h2 ((hf.mono h1).put o.dst h3) h4 hN
        · cases hy
      · cases hy
theorem vJ : ∀ l : List Bool, l ∈ CO l.length
  | [] => by simp [CO]
  | b :: l => by
    simp only [List.length_cons, CO, List.mem_flatMap]
    exact ⟨l, vJ l, by cases b <;> simp⟩
theorem A2 {π : List Nat} (hn : π.Nodup) (u : Nat → Bool) {i j : Nat} : ∀ {r r2 : List Nat}, π.filter u = r ++ i :: r2 → j ∈ r → gj π i j = false ∧ gj π j i = true := by
  induction π with
  | nil => intro r r2 h _; simp at h
  | cons x π ih =>
    intro r r2 h hj
    obtain ⟨hx, hn'⟩ := List.nodup_cons.1 hn
    have hnf : (π.filter u).Nodup := hn'.filter _
    cases hu : u x with
    | false =>
      rw [List.filter_cons_of_neg (by simp [hu])] at h
      obtain ⟨h1, h2⟩ := ih hn' h hj
      have hi : i ∈ π := (List.mem_filter.1 (show _ ∈ π.filter u by rw [h]; simp)).1
      have hj' : j ∈ π := (List.mem_filter.1 (show _ ∈ π.filter u by rw [h]; simp [hj])).1
      have b1 : Nat.beq x i = false := by
        cases q : Nat.beq x i with
        | false => rfl
        | true => exact absurd (Nat.eq_of_beq_eq_true q ▸ hi) hx
      have b2 : Nat.beq x j = false := by
        cases q : Nat.beq x j with
        | false => rfl
        | true => exact absurd (Nat.eq_of_beq_eq_true q ▸ hj') hx
      (try simp only [gj, b1, b2, h1, h2]); exact ⟨rfl, rfl⟩
    | true =>
      rw [List.filter_cons_of_pos hu] at h
      cases r with
      | nil => cases hj
      | cons y r =>
        simp only [List.cons_append, List.cons.injEq] at h
        obtain ⟨rfl, h⟩ := h
        have hi : i ∈ π := (List.mem_filter.1 (show _ ∈ π.filter u by rw [h]; simp)).1
        have b1 : Nat.beq x i = false := by
          cases q : Nat.beq x i with
          | false => rfl
          | true => exact absurd (Nat.eq_of_beq_eq_true q ▸ hi) hx
        by_cases hjx : j = x
        · subst hjx
          simp only [gj, b1, Nat.beq_refl]; exact ⟨rfl, rfl⟩
        · have hj : j ∈ r := by
            rcases List.mem_cons.1 hj with q | q
            · exact absurd q hjx
            · exact q
          obtain ⟨h1, h2⟩ := ih hn' h hj
          have b2 : Nat.beq x j = false := by
            cases q : Nat.beq x j with
            | false => rfl
            | true => exact absurd (Nat.eq_of_beq_eq_true q).symm hjx
          (try simp only [gj, b1, b2, h1, h2]); exact ⟨rfl, rfl⟩
theorem CY {P : Program} {ops : Array Oper} {R : List (Nat × Nat)} : ∀ {l acc : List Nat}, okL P ops R acc l = true → ∀ {r r2 : List Nat} {i : Nat}, l = r ++ i :: r2 → ∀ j, (j ∈ acc ∨ j ∈ r) → kq P ops j i = true ∨ kC ops 5 j i = true ∨ (j, i) ∈ R ∨ (i, j) ∈ R := by
  intro l
  induction l with
  | nil => intro acc h r r2 i e; simp at e
  | cons x l ih =>
    intro acc h r r2 i e j hj
    simp only [okL, Bool.and_eq_true] at h
    cases r with
    | nil =>
      simp only [List.nil_append, List.cons.injEq] at e
      obtain ⟨rfl, rfl⟩ := e
      have := List.all_eq_true.1 h.1 j (hj.elim id (fun q => by cases q))
      simpa using this
    | cons y r =>
      simp only [List.cons_append, List.cons.injEq] at e
      obtain ⟨rfl, rfl⟩ := e
      refine ih h.2 rfl j ?_
      rcases hj with hj | hj
      · exact .inl (List.mem_cons_of_mem _ hj)
      · rcases List.mem_cons.1 hj with rfl | hj
        · exact .inl List.mem_cons_self
        · exact .inr hj
theorem tC {u : Nat → Bool} {i : Nat} : ∀ {π r r2 : List Nat}, π.filter u = r ++ i :: r2 → ∃ p p2, π = p ++ i :: p2 ∧ ∀ j ∈ r, j ∈ p := by
  intro π
  induction π with
  | nil => intro r r2 h; simp at h
  | cons x π ih =>
    intro r r2 h
    cases hu : u x with
    | false =>
      rw [List.filter_cons_of_neg (by simp [hu])] at h
      obtain ⟨p, p2, rfl, h2⟩ := ih h
      exact ⟨x :: p, p2, rfl, fun j hj => List.mem_cons_of_mem _ (h2 j hj)⟩
    | true =>
      rw [List.filter_cons_of_pos hu] at h
      cases r with
      | nil =>
        simp only [List.nil_append, List.cons.injEq] at h
        obtain ⟨rfl, _⟩ := h
        exact ⟨[], π, rfl, fun j hj => by cases hj⟩
      | cons y r =>
        simp only [List.cons_append, List.cons.injEq] at h
        obtain ⟨rfl, h⟩ := h
        obtain ⟨p, p2, rfl, h2⟩ := ih h
        refine ⟨x :: p, p2, rfl, fun j hj => ?_⟩
        rcases List.mem_cons.1 hj with rfl | hj
        · exact List.mem_cons_self
        · exact List.mem_cons_of_mem _ (h2 j hj)
theorem filter_one {u : Nat → Bool} {i : Nat} : ∀ {π r r2 : List Nat}, π.Nodup → π.filter u = r ++ i :: r2 → π.filter (fun k => u k && !(k == i)) = r ++ r2 := by
  intro π r r2 hn h
  have e : π.filter (fun k => u k && !(k == i)) = (π.filter u).filter fun k => !(k == i) := by
    rw [List.filter_filter]
    exact List.filter_congr fun k _ => by rw [Bool.and_comm]
  have hnf : (r ++ i :: r2).Nodup := h ▸ hn.filter _
  rw [List.nodup_append, List.nodup_cons] at hnf
  obtain ⟨_, ⟨h1, _⟩, h2⟩ := hnf
  rw [e, h, List.filter_append, List.filter_cons_of_neg (by simp)]
  congr 1
  · refine List.filter_eq_self.2 fun k hk => ?_
    have := h2 k hk i (by simp)
    simpa using this
  · refine List.filter_eq_self.2 fun k hk => ?_
    have : k ≠ i := fun q => h1 (q ▸ hk)
    simpa using this
theorem mu {P : Program} {ops : Array Oper} {N : Env → Hp → Prop} : ∀ (π : List Nat) (ρ : Env) (h : Hp), iE P ops (sd ops.toList π) ρ h N → dj P ops π ρ h N
  | [], _, _, hk => hk
  | i :: π, ρ, h, hk => by
    have e : nth ops.toList i = ops[i]? := by rw [ep]; simp
    have hk : iE P ops (match nth ops.toList i with
      | some o => o :: sd ops.toList π
      | none => sd ops.toList π) ρ h N := hk
    rw [e] at hk
    unfold dj
    cases ho : ops[i]? with
    | none =>
      simp only [ho] at hk ⊢
      exact mu π ρ h hk
    | some o =>
      simp only [ho] at hk ⊢
      exact dq (fun v h' hn => mu π _ _ hn) (jU hk)
theorem tD {ops : Array Oper} (hed : jV ops = true) {j : Nat} : ∀ (f i : Nat), kC ops f j i = true → j < i
  | 0, _, hb => by simp [kC] at hb
  | f + 1, i, hb => by
    unfold kC at hb
    split at hb
    · rename_i o ho
      obtain ⟨e, he, h1⟩ := Array.any_eq_true'.1 hb
      simp only [Bool.and_eq_true, Bool.or_eq_true, beq_iff_eq] at h1
      have hilt : i < ops.size := (Array.getElem?_eq_some_iff.1 ho).1
      have h2 := List.all_eq_true.1 hed i (by simpa using hilt)
      simp only [ho] at h2
      have h3 := Array.all_eq_true'.1 h2 e he
      have hlt : e.on < i := by simpa [h1.1] using h3
      rcases h1.2 with h4 | h4
      · omega
      · have := tD hed f e.on h4; omega
    · cases hb
def Lin (ops : Array Oper) (rk : Nat → Nat) : Prop := (∀ j i, kC ops 5 j i = true → rk j < rk i) ∧ ∀ j i, rk j = rk i → j = i
def osR (rk : Nat → Nat) (p : Nat × Nat) : Bool := decide (rk p.1 < rk p.2)
theorem oI {α β : Type} {f : α → β} : ∀ {R : List α} {x : α × β}, x ∈ R.zip (R.map f) → x.2 = f x.1 ∧ x.1 ∈ R
  | [], x, h => by simp at h
  | a :: R, x, h => by
    simp only [List.map_cons, List.zip_cons_cons, List.mem_cons] at h
    rcases h with rfl | h
    · exact ⟨rfl, List.mem_cons_self⟩
    · obtain ⟨h1, h2⟩ := oI h
      exact ⟨h1, List.mem_cons_of_mem _ h2⟩
theorem CZ {ops : Array Oper} {rk : Nat → Nat} (hl : Lin ops rk) {R : List (Nat × Nat)} (hR : R.all (fun p => !Nat.beq p.1 p.2) = true) : CQ ops R (R.map (osR rk)) = true := by
  have hmem : ∀ x ∈ (R.zip (R.map (osR rk))).map (fun x => Fi x.1 x.2), rk x.1 < rk x.2 := fun x hx => by
    obtain ⟨⟨p, b⟩, hp, rfl⟩ := List.mem_map.1 hx
    obtain ⟨hb, hq1⟩ := oI hp
    dsimp only at hb hq1
    subst hb
    obtain ⟨q1, rfl⟩ : ∃ q1, q1 = p := ⟨p, rfl⟩
    have hne := List.all_eq_true.1 hR q1 hq1
    dsimp only
    unfold osR Fi
    by_cases h : rk q1.1 < rk q1.2
    · rw [decide_eq_true h]; exact h
    · rw [decide_eq_false h]
      have : rk q1.1 ≠ rk q1.2 := fun e => by
        have := hl.2 _ _ e
        rw [this] at hne
        simp at hne
      show rk q1.2 < rk q1.1
      omega
  have hle : ∀ j i, leB ops j i = true → rk j ≤ rk i := fun j i h => by
    unfold leB at h
    simp only [Bool.or_eq_true, Nat.beq_eq_true_eq] at h
    rcases h with h | h
    · have := Nat.eq_of_beq_eq_true h; subst this; exact Nat.le_refl _
    · exact Nat.le_of_lt (hl.1 _ _ h)
  unfold CQ
  rw [List.all_eq_true]
  intro x hx
  rw [List.all_eq_true]
  intro y hy
  have h1 := hmem x hx
  have h2 := hmem y hy
  cases hb : leB ops x.2 y.1 && leB ops y.2 x.1 with
  | false => rfl
  | true =>
    simp only [Bool.and_eq_true] at hb
    have h3 := hle _ _ hb.1
    have h4 := hle _ _ hb.2
    omega
theorem Hc (rk : Nat → Nat) : ∀ m : Nat, ∃ M, ∀ k, k < m → rk k < M
  | 0 => ⟨0, fun k h => by omega⟩
  | m + 1 => by
    obtain ⟨M, hM⟩ := Hc rk m
    exact ⟨M + rk m + 1, fun k h => by
      rcases Nat.lt_or_ge k m with q | q
      · have := hM k q; omega
      · rw [show k = m by omega]; omega⟩
theorem Fo {P : Program} {ops : Array Oper} {bs : List DB} {N : Env → Hp → Prop} (hok : CS P ops bs = true) (hk : ∀ π ∈ bs.tail, dj P ops π.2 ρ h N) : xI P ops ρ h N := by
  simp only [CS, Bool.and_eq_true] at hok
  obtain ⟨hed, hok⟩ := hok
  cases bs with
  | nil => cases hok
  | cons hd πs =>
    dsimp only at hok
    simp only [Bool.and_eq_true] at hok
    obtain ⟨hlo, hne, hall, hπ⟩ := hok
    simp only [List.tail_cons] at hk
    generalize iU hd.2 = R at hne hall hπ hlo
    have hper : ∀ π ∈ πs, π.2.Nodup ∧ π.2.length = ops.size ∧ (∀ i ∈ π.2, i < ops.size) ∧ okL P ops R [] π.2 = true := fun π hm => by
      have := List.all_eq_true.1 hπ π hm
      simp only [Bool.and_eq_true, decide_eq_true_eq, beq_iff_eq, List.all_eq_true] at this
      exact ⟨this.1, this.2.1, this.2.2.1, this.2.2.2⟩
    have hmem : ∀ π ∈ πs, ∀ i, i < ops.size → i ∈ π.2 := fun π hm i hi => by
      obtain ⟨h1, h2, h3, _⟩ := hper π hm
      have hsub : π.2 ⊆ List.range ops.size := fun x hx => List.mem_range.2 (h3 x hx)
      have hperm : (List.range ops.size) ⊆ π.2 := by
        intro x hx
        by_cases hxm : x ∈ π.2
        · exact hxm
        · exfalso
          have := List.Nodup.length_le_of_subset (l₁ := x :: π.2) (l₂ := List.range ops.size) (List.nodup_cons.2 ⟨hxm, h1⟩) (fun y hy => by
            rcases List.mem_cons.1 hy with rfl | hy
            · exact hx
            · exact hsub hy)
          simp at this; omega
      exact hperm (List.mem_range.2 hi)
    let dec : Array Bool → Nat × Nat → Prop := fun l p => l.getD p.1 false = true ∨ l.getD p.2 false = true
    have hex : ∀ rk : Nat → Nat, Lin ops rk → ∃ π ∈ πs, ∀ p ∈ R, gj π.2 p.1 p.2 = osR rk p := fun rk hrk => by
      have h1 := List.all_eq_true.1 hall (R.map (osR rk)) (by have := vJ (R.map (osR rk)); rwa [List.length_map] at this)
      rw [CZ hrk hne, Bool.not_true, Bool.false_or] at h1
      obtain ⟨π, hm, hπe⟩ := List.any_eq_true.1 h1
      have hπe : R.map (fun p => gj π.2 p.1 p.2) = R.map (osR rk) := by simpa using hπe
      exact ⟨π, hm, fun p hp => List.map_inj_left.1 hπe p hp⟩
    refine ⟨hed, fun listed ρ h => ∃ (o : Nat × Nat → Bool) (S : DB → Prop), (∀ p ∈ R, (listed.getD p.1 false = true → listed.getD p.2 false = false → o p = true) ∧ (listed.getD p.2 false = true → listed.getD p.1 false = false → o p = false)) ∧
      (∀ rk : Nat → Nat, Lin ops rk → (∀ p ∈ R, dec listed p → osR rk p = o p) → ∃ π, S π ∧ ∀ p ∈ R, gj π.2 p.1 p.2 = osR rk p) ∧ (∃ rk : Nat → Nat, Lin ops rk ∧ (∀ p ∈ R, dec listed p → osR rk p = o p) ∧ ∀ a b, listed.getD a false = true → listed.getD b false = false → rk a < rk b) ∧ ∀ π, S π → π ∈ πs ∧ dj P ops (π.2.filter fun k => !listed.getD k false) ρ h N, ?_, ?_, ?_⟩
    · have e0 : ∀ k, (Array.replicate ops.size false).getD k false = false := fun k => by simp [Array.getD]
      refine ⟨fun _ => true, fun π => π ∈ πs, fun p _ => ⟨fun q => (by rw [e0] at q; cases q), fun q => (by rw [e0] at q; cases q)⟩, fun rk hrk _ => hex rk hrk, ⟨fun k => k, ⟨fun j i hb => tD hed 5 i hb, fun _ _ e => e⟩, fun p _ hd => (by rcases hd with hd | hd <;> (rw [e0] at hd; cases hd)), fun a b ha _ => (by rw [e0] at ha; cases ha)⟩, fun π hm => ⟨hm, ?_⟩⟩
      have : π.2.filter (fun k => !(Array.replicate ops.size false).getD k false) = π.2 := List.filter_eq_self.2 fun k _ => by rw [e0]; rfl
      rw [this]; exact hk π hm
    · rintro listed i o ρ1 h1 hsz hdn ho hun hedge ⟨or, S, hor, hS, ⟨rk, hrk, hro, hrl⟩, hπs⟩ ⟨w, hi⟩
      have hilt : i < ops.size := (Array.getElem?_eq_some_iff.1 ho).1
      have hset : ∀ k, (listed.setIfInBounds i true).getD k false = if k = i then true else listed.getD k false := fun k => js (by rw [hsz]; exact hilt)
      let or' : Nat × Nat → Bool := fun p => if listed.getD p.1 false = true ∨ listed.getD p.2 false = true then or p else decide (p.1 = i)
      have hcmp : ∀ p ∈ R, ((listed.setIfInBounds i true).getD p.1 false = true → (listed.setIfInBounds i true).getD p.2 false = false → or' p = true) ∧ ((listed.setIfInBounds i true).getD p.2 false = true → (listed.setIfInBounds i true).getD p.1 false = false → or' p = false) := fun p hp => by
        obtain ⟨g1, g2⟩ := hor p hp
        rw [hset, hset]
        refine ⟨fun q1 q2 => ?_, fun q1 q2 => ?_⟩
        · split at q2
          · cases q2
          · rename_i n2
            by_cases d1 : listed.getD p.1 false = true
            · (try simp only [or', d1, true_or, if_true]); exact g1 d1 q2
            · have d1' : listed.getD p.1 false = false := by simpa using d1
              simp only [or', d1', q2, Bool.false_eq_true, or_self, if_false]
              split at q1
              · rename_i q; simp [q]
              · exact absurd q1 d1
        · split at q2
          · cases q2
          · rename_i n2
            by_cases d1 : listed.getD p.2 false = true
            · (try simp only [or', d1, or_true, if_true]); exact g2 d1 q2
            · have d1' : listed.getD p.2 false = false := by simpa using d1
              simp only [or', d1', q2, Bool.false_eq_true, or_self, if_false]
              simp [n2]
      have hdec : ∀ p, dec listed p → dec (listed.setIfInBounds i true) p ∧ or' p = or p := fun p hd => by
        refine ⟨?_, if_pos hd⟩
        rcases hd with hd | hd
        · exact .inl (by rw [hset]; split <;> first | rfl | exact hd)
        · exact .inr (by rw [hset]; split <;> first | rfl | exact hd)
      have hS' : ∀ rk : Nat → Nat, Lin ops rk → (∀ p ∈ R, dec (listed.setIfInBounds i true) p → osR rk p = or' p) → ∃ π, S π ∧ ∀ p ∈ R, gj π.2 p.1 p.2 = osR rk p := fun rk hrk ho' => hS rk hrk fun p hp hd => by
        rw [ho' p hp (hdec p hd).1, (hdec p hd).2]
      obtain ⟨M, hM⟩ := Hc rk ops.size
      have hsize : ∀ k, listed.getD k false = true → k < ops.size := fun k hk => by
        rcases Nat.lt_or_ge k ops.size with q | q
        · exact q
        · rw [← hsz] at q; simp [Array.getD, Nat.not_lt.2 q] at hk
      let rk' : Nat → Nat := fun k => if listed.getD k false = true then rk k else if k = i then M else M + 1 + k
      have hk1 : ∀ k, listed.getD k false = true → rk' k = rk k := fun k h => if_pos h
      have hk2 : rk' i = M := (if_neg (by rw [hun]; decide)).trans (if_pos rfl)
      have hk3 : ∀ k, listed.getD k false = false → k ≠ i → rk' k = M + 1 + k := fun k h1 h2 => by simp only [rk']; rw [if_neg (by rw [h1]; decide), if_neg h2]
      have hk4 : ∀ k, listed.getD k false = false → M ≤ rk' k := fun k h => by
        by_cases e : k = i
        · subst e; omega
        · rw [hk3 k h e]; omega
      have hk5 : ∀ k, listed.getD k false = true → rk' k < M := fun k h => by rw [hk1 k h]; exact hM k (hsize k h)
      have befl : ∀ j k, kC ops 5 j k = true → listed.getD k false = true → listed.getD j false = true := fun j k hb hk => eW hdn 5 k (fun o' ho' e he hb' => hdn k o' ho' hk e he hb') hb
      have befi : ∀ j, kC ops 5 j i = true → listed.getD j false = true := fun j hb => eW hdn 5 i (fun o' ho' e he hb' => by
        rw [ho] at ho'; cases ho'
        exact hedge e he hb') hb
      have hrk' : Lin ops rk' := by
        refine ⟨fun j k hb => ?_, fun j k e => ?_⟩
        · cases hlk : listed.getD k false with
          | true => rw [hk1 k hlk, hk1 j (befl j k hb hlk)]; exact hrk.1 j k hb
          | false =>
            by_cases ek : k = i
            · subst ek; have := hk5 j (befi j hb); rw [hk2]; exact this
            · cases hlj : listed.getD j false with
              | true => have := hk5 j hlj; have := hk4 k hlk; omega
              | false =>
                by_cases ej : j = i
                · subst ej; rw [hk2, hk3 k hlk ek]; omega
                · rw [hk3 j hlj ej, hk3 k hlk ek]; have := tD hed 5 k hb; omega
        · cases hlj : listed.getD j false with
          | true =>
            cases hlk : listed.getD k false with
            | true => rw [hk1 j hlj, hk1 k hlk] at e; exact hrk.2 j k e
            | false => have := hk5 j hlj; have := hk4 k hlk; omega
          | false =>
            cases hlk : listed.getD k false with
            | true => have := hk5 k hlk; have := hk4 j hlj; omega
            | false =>
              by_cases ej : j = i
              · by_cases ek : k = i
                · rw [ej, ek]
                · subst ej; rw [hk2, hk3 k hlk ek] at e; omega
              · by_cases ek : k = i
                · subst ek; rw [hk2, hk3 j hlj ej] at e; omega
                · rw [hk3 j hlj ej, hk3 k hlk ek] at e; omega
      have hrl' : ∀ a b, (listed.setIfInBounds i true).getD a false = true → (listed.setIfInBounds i true).getD b false = false → rk' a < rk' b := fun a b ha hb => by
        rw [hset] at ha hb
        split at hb
        · cases hb
        · rename_i nb
          have h3 := hk3 b hb nb
          split at ha
          · rename_i ea; subst ea; omega
          · have := hk5 a ha; omega
      have hro' : ∀ p ∈ R, dec (listed.setIfInBounds i true) p → osR rk' p = or' p := fun p hp hd => by
        obtain ⟨g1, g2⟩ := hor p hp
        have hnp : p.1 ≠ p.2 := fun e => by
          have := List.all_eq_true.1 hne p hp
          rw [e] at this
          simp at this
        unfold osR
        cases l1 : listed.getD p.1 false with
        | true =>
          have e1 : or' p = or p := if_pos (.inl l1)
          rw [e1]
          cases l2 : listed.getD p.2 false with
          | true => rw [hk1 _ l1, hk1 _ l2]; exact hro p hp (.inl l1)
          | false => rw [g1 l1 l2]; have := hk5 _ l1; have := hk4 _ l2; exact decide_eq_true (by omega)
        | false =>
          cases l2 : listed.getD p.2 false with
          | true =>
            have e1 : or' p = or p := if_pos (.inr l2)
            rw [e1, g2 l2 l1]; have := hk5 _ l2; have := hk4 _ l1; exact decide_eq_false (by omega)
          | false =>
            have e1 : or' p = decide (p.1 = i) := if_neg (by rw [l1, l2]; simp)
            rw [e1]
            by_cases h1 : p.1 = i
            · have h2 : p.2 ≠ i := fun e => hnp (h1.trans e.symm)
              rw [decide_eq_true h1, h1, hk2, hk3 _ l2 h2]; exact decide_eq_true (by omega)
            · have h2 : p.2 = i := by
                rcases hd with hd | hd
                · rw [hset, if_neg h1, l1] at hd; cases hd
                · rw [hset] at hd
                  split at hd
                  · assumption
                  · rw [l2] at hd; cases hd
              rw [decide_eq_false h1, h2, hk2, hk3 _ l1 h1]; exact decide_eq_false (by omega)
      have step : ∀ π, S π → (∀ p ∈ R, dec (listed.setIfInBounds i true) p → gj π.2 p.1 p.2 = or' p) → aX P ops o ρ1 h1 fun ρ' h' => dj P ops (π.2.filter fun k => !(listed.setIfInBounds i true).getD k false) ρ' h' N := fun π hSπ ha => by
        obtain ⟨hm, hrun⟩ := hπs π hSπ
        obtain ⟨p1, p2, p3, p4⟩ := hper π hm
        have him : i ∈ π.2.filter fun k => !listed.getD k false := List.mem_filter.2 ⟨hmem π hm i hilt, by rw [hun]; rfl⟩
        obtain ⟨r, r2, hr⟩ := List.append_of_mem him
        have hcm : ∀ j ∈ r, kq P ops j i = true := fun j hj => by
          obtain ⟨q, q2, hq, hq2⟩ := tC hr
          have hjl : listed.getD j false = false := by
            have := (List.mem_filter.1 (show j ∈ π.2.filter fun k => !listed.getD k false by rw [hr]; simp [hj])).2
            simpa using this
          obtain ⟨f1, f2⟩ := A2 p1 _ hr hj
          have hne : j ≠ i := fun e => by
            subst e
            have hnd : (π.2.filter fun k => !listed.getD k false).Nodup := p1.filter fun k => !listed.getD k false
            rw [hr, List.nodup_append] at hnd
            exact hnd.2.2 j hj j (by simp) rfl
          rcases CY p4 hq j (.inr (hq2 j hj)) with c | c | c | c
          · exact c
          · have := eW hdn 5 i (fun o' ho' e he hb' => by
              rw [ho] at ho'; cases ho'
              exact hedge e he hb') c
            rw [hjl] at this; cases this
          · have := ha (j, i) c (.inr (by rw [hset, if_pos rfl]))
            rw [f2] at this
            simp only [or', hjl, hun, Bool.false_eq_true, or_self, if_false] at this
            simp [hne] at this
          · have := ha (i, j) c (.inl (by rw [hset, if_pos rfl]))
            rw [f1] at this
            simp only [or', hjl, hun, Bool.false_eq_true, or_self, if_false] at this
            simp at this
        rw [hr] at hrun
        have hb := G2 ho r r2 hcm hi hrun
        have e : (π.2.filter fun k => !(listed.setIfInBounds i true).getD k false) = r ++ r2 := by
          rw [← filter_one p1 hr]
          refine List.filter_congr fun k _ => ?_
          rw [hset]
          by_cases hki : k = i <;> simp [hki]
        rw [e]; exact hb
      cases hld : bE o.op && !(nL P o.op || Az o.op) with
      | true =>
        simp only [Bool.and_eq_true, Bool.not_eq_true'] at hld
        have hl2 := List.all_eq_true.1 hlo i (by simpa using hilt)
        simp only [yW, ho, hld.1, hld.2, Bool.not_true, Bool.false_or] at hl2
        have hall' : ∀ p ∈ R, dec (listed.setIfInBounds i true) p := fun p hp => by
          have h2 := List.all_eq_true.1 hl2 p hp
          simp only [Bool.or_eq_true, Nat.beq_eq_true_eq] at h2
          have bef : ∀ j, kC ops 5 j i = true → (listed.setIfInBounds i true).getD j false = true := fun j hb => by
            rw [hset]
            split
            · rfl
            · exact eW hdn 5 i (fun o' ho' e he hb' => by
                rw [ho] at ho'; cases ho'
                exact hedge e he hb') hb
          rcases h2 with h2 | h2 | h2 | h2
          · exact .inl (by rw [hset, if_pos (Nat.eq_of_beq_eq_true h2)])
          · exact .inr (by rw [hset, if_pos (Nat.eq_of_beq_eq_true h2)])
          · exact .inl (bef _ h2)
          · exact .inr (bef _ h2)
        obtain ⟨π, hSπ, hπo⟩ := hS' rk' hrk' hro'
        refine dq (fun v h' hn => ?_) (step π hSπ fun p hp hd => (hπo p hp).trans (hro' p hp hd))
        exact ⟨or', fun q => q = π, hcmp, fun rk2 _ hos => ⟨π, rfl, fun p hp => by rw [hπo p hp, hro' p hp (hall' p hp), hos p hp (hall' p hp)]⟩, ⟨rk', hrk', hro', hrl'⟩, fun q hq => by subst hq; exact ⟨(hπs q hSπ).1, hn⟩⟩
      | false =>
        have hst : ∀ {ρ : Env} {h : Hp} {K K' : Env → Hp → Prop}, aX P ops o ρ h K → aX P ops o ρ h K' → ∃ u h', K (ρ.put o.dst u) h' ∧ K' (ρ.put o.dst u) h' ∧ ∀ L : Env → Hp → Prop, L (ρ.put o.dst u) h' → aX P ops o ρ h L := fun {ρ h K K'} hk hk' => by
          simp only [Bool.and_eq_false_iff, Bool.not_eq_false', Bool.or_eq_true] at hld
          rcases hld with q | q | q
          · obtain ⟨u, q1⟩ := kN (by simp [eI, q]) hk hk'
            exact ⟨u, h, q1⟩
          · obtain ⟨u, q1⟩ := u6 q hk hk'
            exact ⟨u, h, q1⟩
          · exact AA q hk hk'
        obtain ⟨π0, hS0, hπ0⟩ := hS' rk' hrk' hro'
        have k0 := step π0 hS0 fun p hp hd => (hπ0 p hp).trans (hro' p hp hd)
        obtain ⟨u, hh, _, _, hu⟩ := hst k0 k0
        refine hu _ ⟨or', fun π => S π ∧ ∀ p ∈ R, dec (listed.setIfInBounds i true) p → gj π.2 p.1 p.2 = or' p, hcmp, fun rk2 hr2 hos => ?_, ⟨rk', hrk', hro', hrl'⟩, fun π ⟨hSπ, ha⟩ => ⟨(hπs π hSπ).1, ?_⟩⟩
        · obtain ⟨π, h1, h2⟩ := hS' rk2 hr2 hos
          exact ⟨π, ⟨h1, fun p hp hd => by rw [h2 p hp, hos p hp hd]⟩, h2⟩
        · have ku := hu (fun ρ' h' => ρ' = ρ1.put o.dst u ∧ h' = hh) ⟨rfl, rfl⟩
          obtain ⟨u2, h2, g1, g2, _⟩ := hst ku (step π hSπ ha)
          rw [← g1.1, ← g1.2]; exact g2
    · rintro listed ρ1 h1 hsz hl ⟨or, S, _, hS, ⟨rk, hrk, hro, _⟩, hπs⟩
      obtain ⟨π, hSπ, _⟩ := hS rk hrk hro
      obtain ⟨hm, hrun⟩ := hπs π hSπ
      have : (π.2.filter fun k => !listed.getD k false) = [] := List.filter_eq_nil_iff.2 fun k hk => by
        rw [hl k ((hper π hm).2.2.1 k hk)]; simp
      rw [this] at hrun
      exact hrun
theorem vK {ops : Array Oper} {call : CP} {σ : AE} {H : AH} {n : Nat} {k : KP} : ∀ {πs : List DB}, HT ops πs call σ H n k → ∀ π ∈ πs, oU ops (sd ops.toList π.2) call σ H n k
  | [], _, π, hm => by cases hm
  | q :: πs, h, π, hm => by
    have h : oU ops (sd ops.toList q.2) call σ H n k ∧ HT ops πs call σ H n k := h
    rcases List.mem_cons.1 hm with rfl | hm
    · exact h.1
    · exact vK h.2 π hm
theorem y6 (hf : FR φ σ ρ) {c : Operand} {q : Bool} (hv : ρ.ev c = .bool q) : FR φ (HQ c q σ) ρ := by
  cases c with
  | tmp t =>
    have := hf.put (some t) (VR.bool q)
    have e : ρ.put (some t) (.bool q) = ρ := jS hv
    rw [e] at this
    exact this
  | _ => exact hf
theorem C4 {a b : Bool} (h : (Bool.rec false b a : Bool) = true) : a = true ∧ b = true := by
  cases a with
  | true => exact ⟨rfl, h⟩
  | false => cases h
theorem gM (hcall : kZ call) {cd : CP} (hcd : kZ cd) (hcs : oH cd) {D : DT} {p : Nat} {φ0 : Ph} (hφ : ∀ b q, φ0 b = some q → b < p) (c : Code) : jk D c = true → ∀ (φ : Ph) (σ : AE) (H : AH) (n : Nat) (kn : KP) (kx : Nat → KP) (kr : KP) (ρ : Env) (h : Hp) (N R : EH) (X : Nat → EH), PLe φ0 φ → HR φ H n h0 h → FR φ σ ρ →
    gK p cd D c call σ H n kn kx kr → GoP φ0 h0 kn N → GoP φ0 h0 kr R → (∀ i, GoP φ0 h0 (kx i) (X i)) → avc Try.prog c N R X ρ h := by
  induction c with
  | skip => exact fun _ φ σ H n kn kx kr ρ h N R X hp hr hf hs hN _ _ => hN φ σ H n ρ h hp hr hf hs
  | region id ops draw =>
    intro hdr φ σ H n kn kx kr ρ h N R X hp hr hf hs hN _ _
    have key : oU ops ops.toList call σ H n kn → iE Try.prog ops ops.toList ρ h N := fun hs => gm hcall _ φ σ H n kn ρ h hp hr hf hs hN
    unfold avc
    cases draw with
    | false => exact mr hcall _ φ σ H n kn ρ h hp hr hf hs hN
    | true =>
      have hs : (Option.rec (fun call σ H n kn _ _ => oU ops ops.toList call σ H n kn) (fun bs call σ H n kn _ _ => Fj ops bs call cd σ H n kn) (findD D id) : XP) call σ H n kn kx kr := hs
      have hdr : (Option.rec (ve Try.prog ops) (fun bs => yX Try.prog ops bs) (findD D id) : Bool) = true := hdr
      rw [if_pos rfl]
      cases hd : findD D id with
      | none =>
        rw [hd] at hs hdr
        exact .inr (.inl ⟨hdr, key hs⟩)
      | some bs =>
        rw [hd] at hs hdr
        have hs : Fj ops bs call cd σ H n kn := hs
        have hdr : yX Try.prog ops bs = true := hdr
        unfold Fj at hs
        unfold yX at hdr
        cases hio : CT bs with
        | true =>
          rw [hio] at hs hdr
          exact .inr (.inr (Fo hdr fun π hm => mu _ _ _ (gm hcall _ φ σ H n kn ρ h hp hr hf (vK hs π hm) hN)))
        | false =>
          rw [hio] at hs hdr
          cases hbl : Nat.blt bs.length ops.size with
          | false =>
            rw [hbl] at hs hdr
            exact .inr (.inr (ql hcd hcs hdr hs hr hf fun ψ σ' H' n' ρ' h' hp' hr' hf' hk' => hN ψ σ' H' n' ρ' h' (hp.trans hp') hr' hf' hk'))
          | true =>
            rw [hbl] at hs hdr
            have hdr : (qh (AL ops bs.length) bs && xT ops bs.length) = true := hdr
            rw [Bool.and_eq_true] at hdr
            have hlt : bs.length < ops.size := by simpa using hbl
            obtain ⟨hd1, hd2⟩ := hdr
            unfold xT at hd2
            simp only [Bool.and_eq_true, List.all_eq_true, Bool.or_eq_true, List.mem_range] at hd2
            refine .inr (.inr (CF (m := bs.length) (N' := fun ρ' h' => iE Try.prog ops (ops.toList.drop bs.length) ρ' h' N) (Nat.le_of_lt hlt) hd2.1 (fun i hi hsz listed hdn hedge j hj => iV hd2.2.1 hdn (i + 1) i (by omega) hedge hsz ((hd2.2.2 i hsz).resolve_left (fun q => by rw [Nat.blt_eq] at q; omega) j hj)) ?_ fun _ _ h => h))
            rw [← Fe]
            exact ql hcd hcs hd1 hs hr hf fun ψ σ' H' n' ρ' h' hp' hr' hf' hk' => gm hcall _ ψ σ' H' n' kn ρ' h' (hp.trans hp') hr' hf' hk' hN
  | seq a b iha ihb =>
    intro hdr φ σ H n kn kx kr ρ h N R X hp hr hf hs hN hR hX
    obtain ⟨hda, hdb⟩ := C4 hdr
    have hs : (Bool.rec (gK p cd D a call σ H n (fun σ H n => gK p cd D b call σ H n kn kx kr) kx kr) (yV p (fun k => gK p cd D a call σ H n k kx kr) (fun σ H n => gK p cd D b call σ H n kn kx kr)) (xU D b) : Prop) := hs
    have way : gK p cd D a call σ H n (fun σ H n => gK p cd D b call σ H n kn kx kr) kx kr → avc Try.prog (.seq a b) N R X ρ h := fun hs => iha hda φ σ H n _ kx kr ρ h _ R X hp hr hf hs (fun ψ σ H n ρ h hp hr hf hs => ihb hdb ψ σ H n kn kx kr ρ h N R X hp hr hf hs hN hR hX) hR hX
    cases hj : xU D b with
    | false => rw [hj] at hs; exact way hs
    | true =>
      rw [hj] at hs
      rcases hs with hs | ⟨α, m, st, hA, hB⟩
      · exact way hs
      · refine iha hda φ σ H n _ kx kr ρ h _ R X hp hr hf hA (fun ψ σ1 H1 n1 ρ1 h1 hp1 hr1 hf1 ⟨a', hc⟩ => ?_) hR hX
        obtain ⟨χ, c1, c2, c3⟩ := hc ψ h0 h1 ρ1 hr1 hf1
        exact ihb hdb χ _ _ _ kn kx kr ρ1 h1 N R X ⟨fun b q e => c1.1 b q (hφ b q e) (hp1 b q e), fun q hq => c1.2.1 q (hp1.z q hq), fun q hq => hp1.y q (c1.2.2 q hq)⟩ c2 c3 (hB a') hN hR hX
  | cond x a b iha ihb =>
    intro hdr φ σ H n kn kx kr ρ h N R X hp hr hf hs hN hR hX
    obtain ⟨hda, hdb⟩ := C4 hdr
    have hs : CK x σ (fun σ => gK p cd D a call σ H n kn kx kr) (fun σ => gK p cd D b call σ H n kn kx kr) := hs
    have hc := hf.ev x
    unfold CK at hs
    unfold avc
    split at hs
    · rename_i q
      rw [q] at hc
      rw [hc.bF]
      exact ⟨fun _ => iha hda φ σ H n kn kx kr ρ h N R X hp hr hf hs hN hR hX, (fun k => by cases k)⟩
    · rename_i q
      rw [q] at hc
      rw [hc.bF]
      exact ⟨(fun k => by cases k), fun _ => ihb hdb φ σ H n kn kx kr ρ h N R X hp hr hf hs hN hR hX⟩
    · rename_i q e
      rw [e] at hc
      have hv := hc.gX
      cases q with
      | true => rw [hv]; exact ⟨fun _ => iha hda φ _ H n kn kx kr ρ h N R X hp hr (y6 hf hv) (hs.t rfl) hN hR hX, (fun k => by cases k)⟩
      | false => rw [hv]; exact ⟨(fun k => by cases k), fun _ => ihb hdb φ _ H n kn kx kr ρ h N R X hp hr (y6 hf hv) (hs.f rfl) hN hR hX⟩
    · exact hs.elim
  | block id b ih =>
    intro hdr φ σ H n kn kx kr ρ h N R X hp hr hf hs0 hN hR hX
    unfold avc
    refine ih hdr φ σ H n kn _ kr ρ h N R _ hp hr hf hs0 hN hR fun i ψ σ H n ρ h hp hr hf hs => ?_
    cases hb : Nat.beq i id with
    | true =>
      rw [hb] at hs
      have hii := Nat.eq_of_beq_eq_true hb
      rw [if_pos hii]
      exact hN ψ σ H n ρ h hp hr hf hs
    | false =>
      rw [hb] at hs
      have hne : ¬ i = id := fun q => by subst q; simp at hb
      (try simp only [if_neg hne])
      exact hX i ψ σ H n ρ h hp hr hf hs
  | loop b ih =>
    intro hdr φ σ H n kn kx kr ρ h N R X hp hr hf hs hN hR hX
    have hs : bg p (fun σ H n k => gK p cd D b call σ H n k kx kr) σ H n := hs
    unfold avc
    rcases hs with ⟨α, nn, st, μ, a0, c0, hstep⟩ | ⟨k0, hroll⟩
    · skip
      let Q : Env → Hp → Nat → Prop := fun ρ1 h1 m => ∃ ψ a, μ a = m ∧ PLe φ0 ψ ∧ HR ψ (st a).2 nn h0 h1 ∧ FR ψ (st a).1 ρ1
      have cov : ∀ {ψ : Ph} {σ : AE} {H : AH} {n : Nat} {ρ : Env} {h : Hp} {a : α}, Cov p σ H n ((st a).1, (st a).2, nn) → PLe φ0 ψ → HR ψ H n h0 h → FR ψ σ ρ → Q ρ h (μ a) := fun {ψ σ H n ρ h a} hc hp hr hf => by
        obtain ⟨χ, h1, h2, h3⟩ := hc ψ h0 h ρ hr hf
        exact ⟨χ, a, rfl, ⟨fun b q e => h1.1 b q (hφ b q e) (hp b q e), fun q hq => h1.2.1 q (hp.z q hq), fun q hq => hp.y q (h1.2.2 q hq)⟩, h2, h3⟩
      have hμ : ∀ ρ1 h1 g, Q ρ1 h1 g → ∃ m, Q ρ1 h1 m ∧ ∀ k, Q ρ1 h1 k → m ≤ k := fun ρ1 h1 g hg => least g hg
      refine ⟨fun ρ1 h1 => ∃ g, Q ρ1 h1 g, fun ρ1 h1 => Classical.epsilon fun m => Q ρ1 h1 m ∧ ∀ k, Q ρ1 h1 k → m ≤ k, ⟨_, cov c0 hp hr hf⟩, fun ρ1 h1 ⟨g, hg⟩ _ _ => ?_⟩
      have hsp := Classical.epsilon_spec (hμ ρ1 h1 g hg)
      obtain ⟨m, hm⟩ : ∃ m, (Classical.epsilon fun m => Q ρ1 h1 m ∧ ∀ k, Q ρ1 h1 k → m ≤ k) = m := ⟨_, rfl⟩
      rw [hm] at hsp
      obtain ⟨⟨ψ, a, ha, hp1, hr1, hf1⟩, _⟩ := hsp
      refine ih hdr ψ _ _ _ _ kx kr ρ1 h1 _ R X hp1 hr1 hf1 (hstep a) (fun χ σ2 H2 n2 ρ2 h2 hp2 hr2 hf2 ⟨a', hlt, hc⟩ => ?_) hR hX
      have hQ2 := cov hc hp2 hr2 hf2
      refine ⟨h2, Sub.refl _, ⟨_, hQ2⟩, ?_⟩
      have hsp2 := Classical.epsilon_spec (hμ ρ2 h2 _ hQ2)
      have := hsp2.2 _ hQ2
      (try simp only [hm])
      omega
    · let Q : Env → Hp → Nat → Prop := fun ρ1 h1 m => ∃ ψ σ H n, G6 m (fun σ H n k => gK p cd D b call σ H n k kx kr) σ H n ∧ PLe φ0 ψ ∧ HR ψ H n h0 h1 ∧ FR ψ σ ρ1
      have hμ : ∀ ρ1 h1 g, Q ρ1 h1 g → ∃ m, Q ρ1 h1 m ∧ ∀ k, Q ρ1 h1 k → m ≤ k := fun ρ1 h1 g hg => least g hg
      refine ⟨fun ρ1 h1 => ∃ g, Q ρ1 h1 g, fun ρ1 h1 => Classical.epsilon fun m => Q ρ1 h1 m ∧ ∀ k, Q ρ1 h1 k → m ≤ k, ⟨k0, φ, σ, H, n, hroll, hp, hr, hf⟩, fun ρ1 h1 ⟨g, hg⟩ _ _ => ?_⟩
      have hsp := Classical.epsilon_spec (hμ ρ1 h1 g hg)
      obtain ⟨m, hm⟩ : ∃ m, (Classical.epsilon fun m => Q ρ1 h1 m ∧ ∀ k, Q ρ1 h1 k → m ≤ k) = m := ⟨_, rfl⟩
      rw [hm] at hsp
      obtain ⟨⟨ψ, σ1, H1, n1, hr0, hp1, hr1, hf1⟩, _⟩ := hsp
      cases m with
      | zero => exact hr0.elim
      | succ m =>
        refine ih hdr ψ _ _ _ _ kx kr ρ1 h1 _ R X hp1 hr1 hf1 hr0 (fun χ σ2 H2 n2 ρ2 h2 hp2 hr2 hf2 h3 => ?_) hR hX
        have hQ2 : Q ρ2 h2 m := ⟨χ, σ2, H2, n2, h3, hp2, hr2, hf2⟩
        refine ⟨h2, Sub.refl _, ⟨_, hQ2⟩, ?_⟩
        have hsp2 := Classical.epsilon_spec (hμ ρ2 h2 _ hQ2)
        have := hsp2.2 _ hQ2
        (try simp only [hm])
        omega
  | exit i => exact fun _ φ σ H n kn kx kr ρ h N R X hp hr hf hs _ _ hX => hX i φ σ H n ρ h hp hr hf hs
  | scope b ih => exact fun hdr φ σ H n kn kx kr ρ h N R X hp hr hf hs hN hR hX => ih hdr φ σ H n kn kx kr ρ h N R X hp hr hf hs hN hR hX
  | label l => exact fun _ φ σ H n kn kx kr ρ h N R X hp hr hf hs hN _ _ => hN φ σ H n ρ h hp hr hf hs
  | ret => exact fun _ φ σ H n kn kx kr ρ h N R X hp hr hf hs _ hR _ => hR φ σ H n ρ h hp hr hf hs
  | _ => intro _ φ σ H n kn kx kr ρ h N R X hp hr hf hs; exact hs.elim
theorem ke (hr : HR φ H n h0 h) (hf : FR φ σ ρ) {K : KH} : ∀ (rs : List ResultVar) (acc : List Value) (k : List AV → Prop), vD rs σ H k → (∀ vs us, k vs → VRs φ vs us → Fin K (vh (acc.reverse ++ us)) h) → oS Try.prog rs acc ρ h K
  | [], acc, k, hs, hk => by
    have := hk [] [] hs .nil
    simpa [oS] using this
  | .tmp t :: rs, acc, k, hs, hk => by
    have hs : vD rs σ H (fun vs => k (ay (pa t) σ :: vs)) := hs
    refine ke hr hf rs (ρ t :: acc) _ hs fun vs us h1 hus => ?_
    have := hk _ (ρ t :: us) h1 (.cons (hf.at t) hus)
    simpa using this
  | .cell a t :: rs, acc, k, hs, hk => by
    have hs : oD t (ay (pa a) σ) H (fun v => vD rs σ H fun vs => k (v :: vs)) := hs
    refine k7 hr (hf.at a) hs fun r u h1 hu => ?_
    refine ke hr hf rs (u :: acc) _ h1 fun vs us h2 hus => ?_
    have := hk _ (u :: us) h2 (.cons hu hus)
    simpa using this
theorem x0 (hm : Try.prog.follows .mixedOrders = true) (hcall : kZ call) {cd : CP} (hcd : kZ cd) (hcs : oH cd) {D : DT} {f : FuncId} {fn : Func} {c : Code} (hok : Cx Try.prog f = true) (hdr : jk D c = true) (hfn : Try.prog.funcs[f]? = some fn) (hb : fn.body = some c) {args : List AV} {κ : PK} {vs : Array Value} {K : KH}
    (hs : HV call cd D c fn.results.toList fn.ntmps args H n κ) (hr : HR φ H n h0 h) (hargs : VRs φ args vs.toList) (hk : bV φ h0 κ K) : cL Try.prog f vs h K := by
  obtain ⟨h1, hs⟩ := dO hs
  simp only [Cx, hfn, hb, Bool.and_eq_true] at hok
  obtain ⟨hic, hds⟩ := hok
  have hal := hargs.length
  have hle := Nat.le_of_ble_eq_true h1
  refine ⟨hic, Co hm hfn hb rfl rfl hds (by simpa [hal] using hle) fun _ => ?_⟩
  have fin : GoP φ h0 (fun σ H n => vD fn.results.toList σ H fun vs => κ (rX vs) H n) (oS Try.prog fn.results.toList [] · · K) := fun ψ σ' H' n' ρ' h' hp' hr' hf' hs' =>
    ke hr' hf' _ [] _ hs' fun ws us h2 hus => .here (hk ψ _ H' n' _ h' hp' hr' (by simpa using vx hus) h2)
  exact gM hcall hcd hcs (fun b q e => (hr.dom b q e).1) c hdr φ _ H n _ _ _ _ h _ _ _ (PLe.refl _) hr (vw hargs) hs fin fin fun i ψ σ' H' n' ρ' h' _ _ _ q => q.elim
def aF (f : FuncId) (g : List AV → AH → Nat → PK → Prop) : Prop := ∀ (args : List AV) (H : AH) (n : Nat) (κ : PK), g args H n κ → ∀ (φ : Ph) (h0 h : Hp) (vs : Array Value) (K : KH), HR φ H n h0 h → VRs φ args vs.toList → bV φ h0 κ K → cL Try.prog f vs h K
def iW (g : List AV → AH → Nat → PK → Prop) : Prop := ∀ args H n κ, g args H n κ → ∃ v H' n', κ v H' n' ∧ dQ H H' ∧ n ≤ n' ∧ ∀ κ' : PK, κ' v H' n' → g args H n κ'
def Hd (f : FuncId) (e : EP) : Prop := match e with
  | .no => True
  | .run D c rs m => Cx Try.prog f = true ∧ jk D c = true ∧ ∃ fn, Try.prog.funcs[f]? = some fn ∧ fn.body = some c ∧ fn.results.toList = rs ∧ fn.ntmps = m
  | .nat g => aF f g
  | .det g => aF f g ∧ iW g
def bG (F : FuncId → EP) : Prop := ∀ f, Hd f (F f)
theorem qm {F : FuncId → EP} (hF : bG F) : kZ (qi F) := fun f args H n κ hs φ h0 h vs K hr hargs hk => by
  have hs : (EP.rec (fun _ _ _ _ => False) (fun _ _ _ _ _ _ _ _ => False) (fun _ _ _ _ _ => False) (fun g => g) (F f) : List AV → AH → Nat → PK → Prop) args H n κ := hs
  have hf := hF f
  cases hFf : F f with
  | no => rw [hFf] at hs; exact hs.elim
  | nat g => rw [hFf] at hs; exact hs.elim
  | run _ _ _ _ => rw [hFf] at hs; exact hs.elim
  | det g => rw [hFf] at hs hf; exact hf.1 args H n κ hs φ h0 h vs K hr hargs hk
theorem mw {F : FuncId → EP} (hF : bG F) : oH (qi F) := fun f args H n κ hs => by
  unfold qi at *
  have hf := hF f
  cases hFf : F f with
  | no => rw [hFf] at hs; exact hs.elim
  | nat g => rw [hFf] at hs; exact hs.elim
  | run _ _ _ _ => rw [hFf] at hs; exact hs.elim
  | det g => rw [hFf] at hs hf; exact hf.2 args H n κ hs
theorem cM (hm : Try.prog.follows .mixedOrders = true) {F : FuncId → EP} (hF : bG F) : ∀ d, kZ (az F d)
  | 0 => fun f args H n κ hs => hs.elim
  | d + 1 => fun f args H n κ hs φ h0 h vs K hr hargs hk => by
    have hs : (EP.rec (fun _ _ _ _ => False) (fun D c rs m => HV (az F d) (qi F) D c rs m) (fun g => g) (fun g => g) (F f) : List AV → AH → Nat → PK → Prop) args H n κ := hs
    have hf := hF f
    cases hFf : F f with
    | no => rw [hFf] at hs; exact hs.elim
    | nat g => rw [hFf] at hs hf; exact hf args H n κ hs φ h0 h vs K hr hargs hk
    | det g => rw [hFf] at hs hf; exact hf.1 args H n κ hs φ h0 h vs K hr hargs hk
    | run D c rs m =>
      rw [hFf] at hs hf
      obtain ⟨hok, hdr, fn, hfn, hb, hrs, hnt⟩ := hf
      subst hrs hnt
      exact x0 hm (cM hm hF d) (qm hF) (mw hF) hok hdr hfn hb hs hr hargs hk
theorem vL {D : DT} {f : FuncId} (hok : Cx Try.prog f = true) (hdr : vE D f = true) : Hd f (yY D f) := by
  unfold vE at hdr
  unfold yY
  cases hfn : Try.prog.funcs[f]? with
  | none => rw [hfn] at hdr; cases hdr
  | some fn =>
    rw [hfn] at hdr
    dsimp only at hdr ⊢
    cases hb : fn.body with
    | none => rw [hb] at hdr; cases hdr
    | some c =>
      rw [hb] at hdr
      exact ⟨hok, hdr, fn, hfn, hb, rfl, rfl⟩
theorem bd : bG evP := fun f => by
  unfold evP
  cases h : G3 f with
  | false => trivial
  | true =>
    cases hd : vE [] f with
    | false => trivial
    | true => exact vL h hd
noncomputable def bK (k : FuncId) (D : DT) (F : FuncId → EP) (f : FuncId) : EP := Bool.rec (F f) (yY D k) (Nat.beq f k)
theorem aL {F : FuncId → EP} (hF : bG F) {k : FuncId} {D : DT} (hok : Cx Try.prog k = true) (hdr : vE D k = true) : bG (bK k D F) := fun f => by
  unfold bK
  cases hb : Nat.beq f k with
  | false => exact hF f
  | true =>
    have := Nat.eq_of_beq_eq_true hb
    subst this
    exact vL hok hdr
noncomputable def cq (k : FuncId) (g : List AV → AH → Nat → PK → Prop) (F : FuncId → EP) (f : FuncId) : EP := Bool.rec (F f) (.det g) (Nat.beq f k)
theorem aY {F : FuncId → EP} (hF : bG F) {k : FuncId} {g : List AV → AH → Nat → PK → Prop} (hg : aF k g) (hs : iW g) : bG (cq k g F) := fun f => by
  unfold cq
  cases hb : Nat.beq f k with
  | false => exact hF f
  | true =>
    have := Nat.eq_of_beq_eq_true hb
    subst this
    exact ⟨hg, hs⟩
noncomputable def a9 (k : FuncId) (g : List AV → AH → Nat → PK → Prop) (F : FuncId → EP) (f : FuncId) : EP := Bool.rec (F f) (.nat g) (Nat.beq f k)
theorem aw {F : FuncId → EP} (hF : bG F) {k : FuncId} {g : List AV → AH → Nat → PK → Prop} (hg : aF k g) : bG (a9 k g F) := fun f => by
  unfold a9
  cases hb : Nat.beq f k with
  | false => exact hF f
  | true =>
    have := Nat.eq_of_beq_eq_true hb
    subst this
    exact hg
def flat : AV → Bool
  | .int _ _ => true
  | .str _ => true
  | .bool _ => true
  | .si _ _ => true
  | .sb _ => true
  | .ss _ => true
  | .nil => true
  | .nsl => true
  | .tup l => l.all flat1
  | .agg l => l.all flat1
  | _ => false
where flat1 : AV → Bool
  | .int _ _ => true
  | .str _ => true
  | .bool _ => true
  | .si _ _ => true
  | .sb _ => true
  | .ss _ => true
  | .nil => true
  | .nsl => true
  | _ => false
theorem aA {φ ψ : Ph} {a : AV} {v : Value} (hf : flat.flat1 a = true) (h : VR φ a v) : VR ψ a v := by
  cases a <;> first | (cases hf; done) | exact h
theorem gu {φ ψ : Ph} : ∀ {l : List AV} {vs : List Value}, l.all flat.flat1 = true → VRs φ l vs → VRs ψ l vs
  | [], vs, _, h => by rw [h.aW]; exact .nil
  | a :: l, vs, hf, h => by
    obtain ⟨v, us, rfl, h1, h2⟩ := h.cons_inv
    simp only [List.all_cons, Bool.and_eq_true] at hf
    exact .cons (aA hf.1 h1) (gu hf.2 h2)
theorem fw {φ ψ : Ph} {a : AV} {v : Value} (hf : flat a = true) (h : VR φ a v) : VR ψ a v := by
  cases a <;> first | (cases hf; done) | exact h | skip
  case agg l => obtain ⟨cs, rfl, h1⟩ := h.eJ; exact .agg (gu hf h1)
  case tup l => obtain ⟨cs, rfl, h1⟩ := h.dt; exact .tup (gu hf h1)
def mkT : AV → AV
  | .tup l => .tup (l.map mk)
  | v => mk v
theorem VRs.mk {φ : Ph} : ∀ {l : List AV} {vs : List Value}, VRs φ l vs → VRs φ (l.map Go.Proofs.Ythjggjhebbdkdaa.mk) vs
  | [], vs, h => by rw [h.aW]; exact .nil
  | a :: l, vs, h => by
    obtain ⟨v, us, rfl, h1, h2⟩ := h.cons_inv
    exact .cons h1.mk (VRs.mk h2)
theorem VR.mkT {φ : Ph} {a : AV} {v : Value} (h : VR φ a v) : VR φ (mkT a) v := by
  cases a <;> first | exact h.mk | skip
  case tup l => obtain ⟨cs, rfl, h1⟩ := h.dt; exact .tup h1.mk
theorem vM {a : AV} (h : flat a = true) : flat (mkT a) = true := by
  cases a <;> first | exact h | skip
  case tup l =>
    have : ∀ {l : List AV}, l.all flat.flat1 = true → (l.map mk).all flat.flat1 = true := by
      intro l
      induction l with
      | nil => intro _; rfl
      | cons a l ih =>
        intro hf
        simp only [List.all_cons, List.map_cons, Bool.and_eq_true] at hf ⊢
        refine ⟨?_, ih hf.2⟩
        cases a <;> exact hf.1
    exact this h
theorem JC {F : FuncId → EP} (hF : bG F) {d : Nat} {f : FuncId} {args : List AV} {v : AV} (ha : args.all flat = true) (hv : flat v = true) (h : az F d f args .nil 0 fun u _ _ => mkT u = mkT v)
    {φ : Ph} {H : AH} {n : Nat} {h0 hp : Hp} {vs : Array Value} {κ : PK} {K : KH} (hs : κ (mkT v) H n) (hr : HR φ H n h0 hp) (hargs : VRs φ args vs.toList) (hk : bV φ h0 κ K) : cL Try.prog f vs hp K := by
  have hargs' : VRs Ph.no args vs.toList := by
    have : ∀ {l : List AV} {us : List Value}, l.all flat = true → VRs φ l us → VRs Ph.no l us := by
      intro l
      induction l with
      | nil => intro us _ h; rw [h.aW]; exact .nil
      | cons a l ih =>
        intro us hf h
        obtain ⟨w, ws, rfl, h1, h2⟩ := h.cons_inv
        simp only [List.all_cons, Bool.and_eq_true] at hf
        exact .cons (fw hf.1 h1) (ih hf.2 h2)
    exact this ha hargs
  have key : Wf hp → cL Try.prog f vs hp K := fun hw => cM (by kernel_rfl) hF d f args .nil 0 _ h Ph.no hp hp vs K (ga hw) hargs' fun ψ u H' n' w g _ hg hu he => by
    have hg2 : HR φ H n h0 g := hr.grow (fun b o hb => (hg.base b o hb).2) hg.size
    have h3 : VR φ (mkT v) w := (fw (φ := ψ) (vM hv) (he ▸ hu.mkT))
    exact hk φ _ H n w g (PLe.refl _) hg2 h3 hs
  have hic : aj Try.prog f = true := (cM (by kernel_rfl) hF d f args .nil 0 _ h Ph.no ⟨fun _ => none, 0⟩ ⟨fun _ => none, 0⟩ vs (fun _ _ => True) (ga fun _ _ q => by cases q) hargs' fun _ _ _ _ _ _ _ _ _ _ => trivial).1
  exact ⟨hic, fun w hi => (key hi.wf).2 w hi⟩
end
end Go.Proofs.Ythjggjhebbdkdaa
namespace Go.Proofs.Ythjggjhebbdkdaa
open Go Go.RowKit
noncomputable def mkE : List (Nat × AV) → AE
  | [] => .nil
  | x :: l => (mkE l).set (some x.2) db x.1
noncomputable def mkH : List (Nat × AO) → AH
  | [] => .nil
  | x :: l => (mkH l).set (some x.2) aa x.1
theorem tE : ∀ {l : List (Nat × AV)} {t : Nat} {a : AV}, (mkE l).get t = some a → (t, a) ∈ l
  | [], t, a, h => by cases h
  | x :: l, t, a, h => by
    rcases PM.ak db _ x.1 t a h with ⟨rfl, h2⟩ | ⟨_, h2⟩
    · injection h2 with h2; subst h2; exact List.mem_cons_self
    · exact List.mem_cons_of_mem _ (tE h2)
theorem bN : ∀ {l : List (Nat × AO)} {t : Nat} {a : AO}, (mkH l).get t = some a → (t, a) ∈ l
  | [], t, a, h => by cases h
  | x :: l, t, a, h => by
    rcases PM.ak aa _ x.1 t a h with ⟨rfl, h2⟩ | ⟨_, h2⟩
    · injection h2 with h2; subst h2; exact List.mem_cons_self
    · exact List.mem_cons_of_mem _ (bN h2)
def Ren (m : Nat) (r : Nat → Nat) (φ ψ : Ph) : Prop := (∀ b, b < m → ψ b = φ (r b)) ∧ ∀ q, φ.z q → ψ.z q
def AO.size : AO → Nat
  | .cells l _ => l.length
  | .ro l => l.length
  | .map _ => 0
  | .iter _ _ _ => 0
  | .sep _ => 0
def Room (φ : Ph) (H : AH) : Prop := ∀ b o p, H.get b = some o → φ b = some p → o.size ≤ p.T
theorem HR.room {φ : Ph} {H : AH} {n : Nat} {h0 h : Hp} (hr : HR φ H n h0 h) : Room φ H := fun b o p hb hp => by
  obtain ⟨ob, _, _, h4⟩ := hr.of hb hp
  cases o with
  | cells l z => obtain ⟨c, t, fz, _, h1, _⟩ := h4; exact h1
  | ro l => obtain ⟨c, t, fz, _, h1, _⟩ := h4; exact h1
  | map es => exact Nat.zero_le _
  | iter _ _ _ => exact Nat.zero_le _
  | sep _ => exact Nat.zero_le _
def ae (H : AH) (m : Nat) (r : Nat → Nat) (a a' : AV) : Prop := ∀ φ ψ v, Ren m r φ ψ → Room φ H → VR φ a v → VR ψ a' v
def aO (H : AH) (m : Nat) (r : Nat → Nat) (o o' : AO) : Prop := (o.own = o'.own ∧ o.AI = o'.AI) ∧ ∀ φ ψ p ob, Ren m r φ ψ → Room φ H → OR φ p o ob → OR ψ p o' ob
section
variable {H : AH} {m : Nat} {r : Nat → Nat}
theorem ae.flat {a a' : AV} (h : Go.Proofs.Ythjggjhebbdkdaa.flat a' = true) (e : mk a = mk a') : ae H m r a a' := fun φ ψ v _ _ hv => by
  have h1 : VR φ (mk a') v := e ▸ hv.mk
  have h2 : VR φ a' v := by cases a' <;> exact h1
  exact fw h h2
theorem ae.int {k : IntKind} {a : AV} {x : Int} (e : mk a = .si k x) : ae H m r a (.si k x) := ae.flat rfl e
theorem ae.bool {a : AV} {x : Bool} (e : mk a = .sb x) : ae H m r a (.sb x) := ae.flat rfl e
theorem ae.str {a : AV} {x : List Nat} (e : mk a = .ss x) : ae H m r a (.ss x) := ae.flat rfl e
theorem ae.ptr {a : AV} {b o : Nat} (hb : b < m) (e : a = .ptr (r b) o) : ae H m r a (.ptr b o) := fun φ ψ v hr _ hv => by
  subst e
  obtain ⟨p, h1, rfl⟩ := hv.ct
  exact .ptr (by rw [hr.1 b hb]; exact h1)
theorem ae.rI {a : AV} (h : Go.Proofs.Ythjggjhebbdkdaa.rI a = true) : ae H m r a a := fun φ ψ v hr _ hv => m3 hr.2 h hv
theorem ae.sy {a : AV} {b o n c k : Nat} (hb : b < m) (e : mk a = .sy (r b) o n c k) : ae H m r a (.sy b o n c k) := fun φ ψ v hr _ hv => by
  have h1 : VR φ (.sy (r b) o n c k) v := e ▸ hv.mk
  obtain ⟨p, C, h4, rfl, h2, h3⟩ := h1.tm
  exact .sy (by rw [hr.1 b hb]; exact h4) h2 h3
theorem ae.rw {a : AV} {b o n n' k x x' : Nat} (hb : b < m) (e : a = .rw (r b) o n' k x') (hn : n' = n := by first | rfl | simp) (hx : (x < 2 → x' < 2) ∧ (x = 1 → x' = 1) ∧ (x ≠ 4 → x' ≠ 4) := by decide) : ae H m r a (.rw b o n k x) := fun φ ψ v hr _ hv => by
  subst e hn
  rcases hv.eM with ⟨rfl, hem⟩ | ⟨p, y, C, h1, rfl, h2, h3, h4, h5, h6, h7⟩
  · refine .rwe rfl (hem.imp id fun ⟨h1, h2⟩ => ⟨?_, h2⟩)
    by_cases hx4 : x = 4
    · exact hx4
    · exact absurd h1 (hx.2.2 hx4)
  · exact .rwx (by rw [hr.1 b hb]; exact h1) h2 h3 h4 h5 (fun q => h6 (hx.1 q)) (fun q => h7 (hx.2.1 q))
theorem ae.ky {a : AV} {b o n k x : Nat} (e : a = .nsl) (hn : n = 0 := by first | rfl | simp) : ae H m r a (.rw b o n k x) := fun φ ψ v hr _ hv => by
  subst e hn
  rw [hv.cg]; exact .rwn
theorem aO.cells {l l' : List AV} {z z' : Bool} (hl : l'.length ≤ l.length) (hz : z' = true → z = true) (h : ∀ (i : Nat) (a' : AV), l'[i]? = some a' → ∃ a, l[i]? = some a ∧ ae H m r a a') : aO H m r (.cells l z) (.cells l' z') :=
  ⟨⟨rfl, rfl⟩, fun φ ψ p ob hr hR ⟨c, t, fz, h1, h2, h3, h4, h5, h6⟩ => ⟨c, t, fz, h1, Nat.le_trans hl h2, h3, h4, fun q => h5 (hz q), fun i a' hi => by
    obtain ⟨a, h7, h8⟩ := h i a' hi
    obtain ⟨v, h9, h10⟩ := h6 i a h7
    exact ⟨v, h9, h8 φ ψ v hr hR h10⟩⟩⟩
theorem aO.ro {l l' : List AV} (hl : l'.length ≤ l.length) (h : ∀ (i : Nat) (a' : AV), l'[i]? = some a' → ∃ a, l[i]? = some a ∧ ae H m r a a') : aO H m r (.ro l) (.ro l') :=
  ⟨⟨rfl, rfl⟩, fun φ ψ p ob hr hR ⟨c, t, fz, h1, h2, h3, h6⟩ => ⟨c, t, fz, h1, Nat.le_trans hl h2, h3, fun i a' hi => by
    obtain ⟨a, h7, h8⟩ := h i a' hi
    obtain ⟨v, h9, h10⟩ := h6 i a h7
    exact ⟨v, h9, h8 φ ψ v hr hR h10⟩⟩⟩
theorem qn {a : AV} (h : Go.Proofs.Ythjggjhebbdkdaa.flat.flat1 a = true) : Go.Proofs.Ythjggjhebbdkdaa.flat a = true := by cases a <;> first | exact h | cases h
theorem ae.mk1 {a a' : AV} (hf : Go.Proofs.Ythjggjhebbdkdaa.flat.flat1 a' = true) (e : mk a = mk a') : ae H m r a a' := ae.flat (qn hf) e
theorem sq {l l' : List AV} (hf : l'.all Go.Proofs.Ythjggjhebbdkdaa.flat.flat1 = true) (h : l.map mk = l'.map mk) (i : Nat) (a' : AV) (hi : l'[i]? = some a') : ∃ a, l[i]? = some a ∧ ae H m r a a' := by
  have e := congrArg (fun x : List AV => x[i]?) h
  simp only [List.getElem?_map, hi, Option.map_some] at e
  rw [Option.map_eq_some_iff] at e
  obtain ⟨a, h1, h2⟩ := e
  exact ⟨a, h1, .mk1 (List.all_eq_true.1 hf a' (List.mem_of_getElem? hi)) h2⟩
theorem aO.bz {l l' : List AV} {z z' : Bool} (hf : l'.all Go.Proofs.Ythjggjhebbdkdaa.flat.flat1 = true) (h : l.map mk = l'.map mk) (hz : z' = true → z = true) : aO H m r (.cells l z) (.cells l' z') :=
  aO.cells (by have := congrArg List.length h; simp only [List.length_map] at this; omega) hz (sq hf h)
theorem aO.k9 {l l' : List AV} (hf : l'.all Go.Proofs.Ythjggjhebbdkdaa.flat.flat1 = true) (h : l.map mk = l'.map mk) : aO H m r (.ro l) (.ro l') :=
  aO.ro (by have := congrArg List.length h; simp only [List.length_map] at this; omega) (sq hf h)
theorem qo : ∀ {s : List Nat}, (∀ x ∈ s, x < 256) → iF (s.map fun c : Nat => .si .u8 (Int.ofNat c)) = some s
  | [], _ => rfl
  | c :: s, h => by
    have hc : Nat.blt c 256 = true := by rw [Nat.blt_eq]; exact h c List.mem_cons_self
    simp only [List.map_cons, iF, hc, qo (s := s) fun x hx => h x (List.mem_cons_of_mem _ hx), Option.map_some]
theorem cD {α : Type} {l : List α} {n : Nat} (h : l.length = n) : bu l 0 n = some l := by
  subst h
  unfold bu
  rw [Nat.zero_add, Nat.ble_eq_true_of_le (Nat.le_refl _)]
  simp
theorem Cov.ofR {p n : Nat} {σ : AE} {H : AH} {le : List (Nat × AV)} {lh : List (Nat × AO)} (r : Nat → Nat) (hp : p ≤ m) (hr : ∀ b, b < p → r b = b) (he : ∀ x ∈ le, ae H m r (ay (pa x.1) σ) x.2)
    (hh : ∀ x ∈ lh, x.1 < m ∧ ((∃ o, H.get (r x.1) = some o ∧ aO H m r o x.2) ∨ (x.2.void = true ∧ n ≤ r x.1))) (hi : ∀ x ∈ lh, ∀ y ∈ lh, r x.1 = r y.1 → x.1 = y.1) : Cov p σ H n (mkE le, mkH lh, m) := fun φ h0 h ρ hR hF => by
  let ψ : Ph := ⟨fun b => if b < m then φ (r b) else none, φ.z, φ.y, fun b => φ.s (r b)⟩
  have hren : Ren m r φ ψ := ⟨fun b hb => by simp only [ψ, if_pos hb], fun _ h => h⟩
  have hroom := hR.room
  have hvoid : ∀ b, n ≤ b → φ b = none := fun b hb => by
    cases hq : φ b with
    | none => rfl
    | some p => exact absurd (hR.dom b p hq).1 (by omega)
  refine ⟨ψ, ⟨fun b q hb hq => ?_, fun _ h => h, fun _ h => h⟩, ⟨fun b q hq => ?_, fun b o hb => ?_, fun b b' o o' q q' hb hb' hw hw' hq hq' e => ?_, hR.base, hR.size, fun q hq => ?_, fun b Q hb => ?_⟩, fun t a ht => ?_⟩
  · simp only [ψ, if_pos (Nat.lt_of_lt_of_le hb hp), hr b hb]; exact hq
  · simp only [ψ] at hq
    split at hq
    · rename_i hb; exact ⟨hb, (hR.dom _ _ hq).2⟩
    · cases hq
  · obtain ⟨h1, ⟨o2, h2, h3, h4⟩ | ⟨h2, h3⟩⟩ := hh _ (bN hb)
    · rcases hR.live _ _ h2 with ⟨g1, g2⟩ | ⟨q, ob, g1, g2, g3, g4⟩
      · refine .inl ⟨by simp only [ψ, if_pos h1]; exact g1, ?_⟩
        cases hns : o2.AI with
        | some Q =>
          rw [h3.2] at hns
          cases o <;> first | rfl | cases hns
        | none =>
        obtain ⟨q, hq⟩ : ∃ q : Pl, q = ⟨0, 0, 0⟩ := ⟨_, rfl⟩
        have key : OR φ q o2 (.cells #[] default (0, 0)) := by
          cases o2 with
          | cells l z =>
            cases l with
            | nil => exact ⟨#[], default, _, rfl, by simp, by subst hq; simp, fP _ _, fun _ => rfl, fun i a h => by simp at h⟩
            | cons _ _ => cases g2
          | ro l =>
            cases l with
            | nil => exact ⟨#[], default, _, rfl, by simp, by subst hq; simp, fun i a h => by simp at h⟩
            | cons _ _ => cases g2
          | map _ => cases g2
          | iter _ _ _ => cases g2
          | sep _ => cases hns
        have k2 := h4 φ ψ q _ hren hroom key
        cases o with
        | cells l z =>
          obtain ⟨c, t, fz, e, k3, _⟩ := k2
          subst hq
          cases l with
          | nil => rfl
          | cons _ _ => simp at k3
        | ro l =>
          obtain ⟨c, t, fz, e, k3, _⟩ := k2
          subst hq
          cases l with
          | nil => rfl
          | cons _ _ => simp at k3
        | map _ => obtain ⟨ms, cl, e, _⟩ := k2; cases e
        | iter _ _ _ => obtain ⟨_, q', _, e⟩ := k2; cases e
        | sep _ => rfl
      · refine .inr ⟨q, ob, by simp only [ψ, if_pos h1]; exact g1, ?_, g3, h4 φ ψ q ob hren hroom g4⟩
        rw [g2]
        cases o2 <;> cases o <;> first | rfl | cases h3.1 | cases g4
    · exact .inl ⟨by simp only [ψ, if_pos h1]; exact hvoid _ h3, AO.yR h2⟩
  · obtain ⟨h1, h2'⟩ := hh _ (bN hb)
    obtain ⟨h1', h3'⟩ := hh _ (bN hb')
    simp only [ψ, if_pos h1] at hq
    simp only [ψ, if_pos h1'] at hq'
    rcases h2' with ⟨o2, h2, h3, h4⟩ | ⟨_, h3⟩
    · rcases h3' with ⟨o2', h2', h3', h4'⟩ | ⟨_, h3'⟩
      · exact hi _ (bN hb) _ (bN hb') (hR.inj _ _ _ _ _ _ h2 h2' (h3.1.trans hw) (h3'.1.trans hw') hq hq' e)
      · rw [hvoid _ h3'] at hq'; cases hq'
    · rw [hvoid _ h3] at hq; cases hq
  · obtain ⟨⟨g1, g9⟩, g2⟩ := hR.frz q hq
    refine ⟨⟨FzR.mono hren.2 g1, g9⟩, fun b o q' hb hw hq' => ?_⟩
    obtain ⟨h1, h2'⟩ := hh _ (bN hb)
    simp only [ψ, if_pos h1] at hq'
    rcases h2' with ⟨o2, h2, h3, h4⟩ | ⟨_, h3⟩
    · exact g2 _ _ _ h2 (h3.1.trans hw) hq'
    · rw [hvoid _ h3] at hq'; cases hq'
  ·
    have src : ∀ {b Q}, (mkH lh).get b = some (.sep Q) → b < m ∧ H.get (r b) = some (.sep Q) := fun {b Q} hb => by
      obtain ⟨h1, ⟨o2, h2, h3, _⟩ | ⟨h2, _⟩⟩ := hh _ (bN hb)
      · have := h3.2
        cases o2 <;> first | cases this; done | (cases this; exact ⟨h1, h2⟩)
      · cases h2
    obtain ⟨h1, h2⟩ := src hb
    obtain ⟨k1, k2⟩ := hR.sep _ _ h2
    refine ⟨k1, fun B hB => ?_⟩
    obtain ⟨g1, g2, g3, g4⟩ := k2 B hB
    refine ⟨g1, fun b' o' p' e1 e2 e3 => ?_, g3, fun b' Q' e1 e2 e3 => ?_⟩
    · obtain ⟨f1, f2⟩ := hh _ (bN e1)
      simp only [ψ, if_pos f1] at e3
      rcases f2 with ⟨o2, f2, f3, _⟩ | ⟨_, f3⟩
      · exact g2 _ _ _ f2 (f3.1.trans e2) e3
      · rw [hvoid _ f3] at e3; cases e3
    · obtain ⟨_, f2⟩ := src e1
      exact g4 _ _ f2 (fun q => e2 (hi _ (bN e1) _ (bN hb) q)) e3
  · exact he _ (tE ht) φ ψ _ hren hroom (hF.at t)
theorem Cov.of {p n : Nat} {σ : AE} {H : AH} {le : List (Nat × AV)} {lh : List (Nat × AO)} (r : Nat → Nat) (hp : p ≤ m) (hr : ∀ b, b < p → r b = b) (he : ∀ x ∈ le, ae H m r (ay (pa x.1) σ) x.2)
    (hh : ∀ x ∈ lh, x.1 < m ∧ ∃ o, H.get (r x.1) = some o ∧ aO H m r o x.2) (hi : ∀ x ∈ lh, ∀ y ∈ lh, r x.1 = r y.1 → x.1 = y.1) : Cov p σ H n (mkE le, mkH lh, m) := Cov.ofR r hp hr he (fun x hx => ⟨(hh x hx).1, .inl (hh x hx).2⟩) hi
end
end Go.Proofs.Ythjggjhebbdkdaa
namespace Go.Proofs.Ythjggjhebbdkdaa
open Go Go.RowKit
theorem vs3 {φ : Ph} {a b c : AV} {vs : Array Value} (h : VRs φ [a, b, c] vs.toList) : ∃ x y z, vs = #[x, y, z] ∧ VR φ a x ∧ VR φ b y ∧ VR φ c z := by
  obtain ⟨x, l1, e1, h1, h2⟩ := h.cons_inv
  obtain ⟨y, l2, e2, h3, h4⟩ := h2.cons_inv
  obtain ⟨z, l3, e3, h5, h6⟩ := h4.cons_inv
  have := h6.aW
  subst this e3 e2
  exact ⟨x, y, z, by cases vs; simp_all, h1, h3, h5⟩
theorem vs2 {φ : Ph} {a b : AV} {vs : Array Value} (h : VRs φ [a, b] vs.toList) : ∃ x y, vs = #[x, y] ∧ VR φ a x ∧ VR φ b y := by
  obtain ⟨x, l1, e1, h1, h2⟩ := h.cons_inv
  obtain ⟨y, l2, e2, h3, h4⟩ := h2.cons_inv
  have := h4.aW
  subst this e2
  exact ⟨x, y, by cases vs; simp_all, h1, h3⟩
theorem vs1 {φ : Ph} {a : AV} {vs : Array Value} (h : VRs φ [a] vs.toList) : ∃ x, vs = #[x] ∧ VR φ a x := by
  obtain ⟨x, l1, e1, h1, h2⟩ := h.cons_inv
  have := h2.aW
  subst this
  exact ⟨x, by cases vs; simp_all, h1⟩
theorem iW.pure {g : List AV → AH → Nat → PK → Prop} (h : ∀ args H n κ, g args H n κ → ∃ v, κ v H n ∧ ∀ κ' : PK, κ' v H n → g args H n κ') : iW g := fun args H n κ hs => by
  obtain ⟨v, h1, h2⟩ := h args H n κ hs
  exact ⟨v, H, n, h1, .refl _, Nat.le_refl _, h2⟩
end Go.Proofs.Ythjggjhebbdkdaa
namespace Go.Proofs.Ythjggjhebbdkdaa
open Go Go.RowKit
section
variable {φ : Ph} {H : AH} {n : Nat} {h0 hp : Hp}
def jx (hp : Hp) (p : Pl) (l : List AV) : Prop := ∃ c t fz, hp.f p.B = some (.cells c t fz) ∧ l.length ≤ p.T ∧ p.s + p.T ≤ c.size ∧ ∀ ψ, CR ψ c p.s l
def ph1 (p : Pl) : Ph := ⟨fun b => if b = 0 then some p else none, fun _ => False, fun _ => False, fun _ _ => False⟩
def ph2 (p q : Pl) : Ph := ⟨fun b => if b = 0 then some p else if b = 1 then some q else none, fun _ => False, fun _ => False, fun _ _ => False⟩
theorem HR.ro1 (hw : Wf hp) {p : Pl} {l : List AV} (h : jx hp p l) : HR (ph1 p) (mkH [(0, .ro l)]) 1 hp hp := by
  obtain ⟨c, t, fz, h1, h2, h3, h4⟩ := h
  refine ⟨fun b q e => ?_, fun b o e => ?_, fun b b' o o' q q' e _ hw' => ?_, fun b o e => ⟨hw b o e, e⟩, Nat.le_refl _, fun _ k => k.elim, fun b Q e => ?_⟩
  rotate_left 3
  · have hm := bN e
    simp only [List.mem_cons, List.not_mem_nil, or_false] at hm
    injection hm with e1 e2
    cases e2
  · simp only [ph1] at e
    split at e
    · injection e with e; subst e; exact ⟨by omega, hw _ _ h1⟩
    · cases e
  · have hm := bN e
    simp only [List.mem_cons, List.not_mem_nil, or_false] at hm
    injection hm with e1 e2
    subst e1 e2
    exact .inr ⟨p, _, rfl, h1, h1, c, t, fz, rfl, h2, h3, h4 _⟩
  · have hm := bN e
    simp only [List.mem_cons, List.not_mem_nil, or_false] at hm
    injection hm with e1 e2
    subst e2
    cases hw'
theorem HR.ro2 (hw : Wf hp) {p q : Pl} {l m : List AV} (h : jx hp p l) (k : jx hp q m) : HR (ph2 p q) (mkH [(0, .ro l), (1, .ro m)]) 2 hp hp := by
  obtain ⟨c, t, fz, h1, h2, h3, h4⟩ := h
  obtain ⟨c', t', fz', k1, k2, k3, k4⟩ := k
  have mem : ∀ b o, (mkH [(0, AO.ro l), (1, AO.ro m)]).get b = some o → (b = 0 ∧ o = .ro l) ∨ (b = 1 ∧ o = .ro m) := fun b o e => by
    have hm := bN e
    simp only [List.mem_cons, List.not_mem_nil, or_false] at hm
    rcases hm with hm | hm
    · injection hm with e1 e2; exact .inl ⟨e1, e2⟩
    · injection hm with e1 e2; exact .inr ⟨e1, e2⟩
  refine ⟨fun b r e => ?_, fun b o e => ?_, fun b b' o o' r r' e _ hw' => ?_, fun b o e => ⟨hw b o e, e⟩, Nat.le_refl _, fun _ k => k.elim, fun b Q e => by rcases mem b _ e with ⟨_, h⟩ | ⟨_, h⟩ <;> cases h⟩
  · simp only [ph2] at e
    split at e
    · injection e with e; subst e; exact ⟨by omega, hw _ _ h1⟩
    · split at e
      · injection e with e; subst e; exact ⟨by omega, hw _ _ k1⟩
      · cases e
  · rcases mem b o e with ⟨rfl, rfl⟩ | ⟨rfl, rfl⟩
    · exact .inr ⟨p, _, rfl, h1, h1, c, t, fz, rfl, h2, h3, h4 _⟩
    · exact .inr ⟨q, _, rfl, k1, k1, c', t', fz', rfl, k2, k3, k4 _⟩
  · rcases mem b o e with ⟨_, rfl⟩ | ⟨_, rfl⟩ <;> cases hw'
theorem HR.ro0 (hw : Wf hp) : HR Ph.no .nil 0 hp hp := ga hw
theorem iI {F : FuncId → EP} (hF : bG F) {d : Nat} {f : FuncId} {args0 : List AV} {H0 : AH} {n0 : Nat} {v : AV} (hv : flat v = true) (h : az F d f args0 H0 n0 fun u _ _ => mkT u = mkT v)
    {vs : Array Value} {κ : PK} {K : KH} (hs : κ (mkT v) H n) (hr : HR φ H n h0 hp) (hk : bV φ h0 κ K) (hic : aj Try.prog f = true) {φ0 : Ph} (hr0 : Wf hp → HR φ0 H0 n0 hp hp) (hargs : VRs φ0 args0 vs.toList) : cL Try.prog f vs hp K := by
  have key : Wf hp → cL Try.prog f vs hp K := fun hw => cM (by kernel_rfl) hF d f args0 H0 n0 _ h φ0 hp hp vs K (hr0 hw) hargs fun ψ u H' n' w g _ hg hu he => by
    have hg2 : HR φ H n h0 g := hr.grow (fun b o hb => (hg.base b o hb).2) hg.size
    have h3 : VR φ (mkT v) w := (fw (φ := ψ) (vM hv) (he ▸ hu.mkT))
    exact hk φ _ H n w g (PLe.refl _) hg2 h3 hs
  exact ⟨hic, fun w hi => (key hi.wf).2 w hi⟩
theorem jx.of (hr : HR φ H n h0 hp) {b o m : Nat} {l r s : List AV} {p : Pl} (hb : H.get b = some (.ro l) ∨ ∃ z, H.get b = some (.cells l z)) (hpb : φ b = some p) (hs : bu l o m = some r) (hm : r.map mk = s.map mk) (hf : s.all flat.flat1 = true) : jx hp ⟨p.B, p.s + o, m⟩ s := by
  have key : ∃ c t fz, hp.f p.B = some (.cells c t fz) ∧ l.length ≤ p.T ∧ p.s + p.T ≤ c.size ∧ CR φ c p.s l := by
    rcases hb with hb | ⟨z, hb⟩
    · obtain ⟨ob, _, h2, c, t, fz, rfl, h3, h4, h5⟩ := hr.of hb hpb
      exact ⟨c, t, fz, h2, h3, h4, h5⟩
    · obtain ⟨ob, _, h2, c, t, fz, rfl, h3, h4, _, _, h5⟩ := hr.of hb hpb
      exact ⟨c, t, fz, h2, h3, h4, h5⟩
  obtain ⟨c, t, fz, h1, h2, h3, h4⟩ := key
  obtain ⟨h5, h6⟩ := bj hs
  have hlen : s.length = m := by
    have := congrArg List.length hm
    simp only [List.length_map] at this
    rw [← this, h6]
    simp; omega
  refine ⟨c, t, fz, h1, by simp only; omega, by simp only; omega, fun ψ i a hi => ?_⟩
  have hi2 := (List.getElem?_eq_some_iff.1 hi).1
  have h7 : ∃ a', r[i]? = some a' ∧ mk a' = mk a := by
    have e := congrArg (fun x : List AV => x[i]?) hm
    simp only [List.getElem?_map, hi, Option.map_some] at e
    rw [Option.map_eq_some_iff] at e
    exact e
  obtain ⟨a', h8, h9⟩ := h7
  have h10 : l[o + i]? = some a' := by
    rw [h6] at h8
    rw [List.getElem?_take, if_pos (by omega), List.getElem?_drop] at h8
    exact h8
  obtain ⟨v, h11, h12⟩ := h4 (o + i) a' h10
  refine ⟨v, by simp only; rw [Nat.add_assoc]; exact h11, ?_⟩
  have h13 : VR φ (mk a) v := h9 ▸ h12.mk
  have h14 : flat.flat1 a = true := List.all_eq_true.1 hf a (List.mem_of_getElem? hi)
  exact aA h14 (by cases a <;> first | exact h13 | cases h14)
end
end Go.Proofs.Ythjggjhebbdkdaa
namespace Go.Proofs.Ythjggjhebbdkdaa
open Go Go.RowKit Go.ChangeShapes Go.WideShapes
section
variable {H : Type} {enc : TypeId × Value → H} {P : Program} {w : World} {base : Nat} {sp : Nat → Bool} {held : Bool}
theorem sr {e : TypeId} {k : IntKind} (he : P.underlying e = some (.int k)) {m c : Nat} {cs : List Value} : ∀ (L : List Nat) (xs : List (DataW H × List MemPlace)), L.mapM (fun i => DataW.trod enc P w base sp held m e ((cs.drop (i * c)).take c)) = some xs →
    (∀ i ∈ L, ∃ n, (cs.drop (i * c)).take c = [.int k n] ∧ (Lit.int k n).wf = true) ∧ ∀ x ∈ xs, x.2 = []
  | [], xs, h => by
    simp at h
    subst h
    simp
  | i :: L, xs, h => by
    rw [List.mapM_cons] at h
    simp only [bind, Option.bind_eq_some_iff, pure, Option.some.injEq] at h
    obtain ⟨y, hy, ys, hys, rfl⟩ := h
    obtain ⟨h1, h2⟩ := sr he L ys hys
    obtain ⟨a, ea, rfl, wa⟩ := DataW.trod_int he hy
    refine ⟨fun j hj => ?_, fun x hx => ?_⟩
    · rcases List.mem_cons.1 hj with rfl | hj
      · exact ⟨a, ea, wa⟩
      · exact h1 j hj
    · rcases List.mem_cons.1 hx with rfl | hx
      · rfl
      · exact h2 x hx
def intOf : Value → Int
  | .int _ n => n
  | _ => 0
theorem vN {r : Reach} {b0 n : Nat} {t e : TypeId} {k : IntKind} {v : Value} {d : DataW H} {ps : List MemPlace} (hu : P.underlying t = some (.array n e)) (he : P.underlying e = some (.int k)) (h1 : P.cellsOf e = 1) (hs : P.cellsOf t = n)
    (hval : Value.okWide P w r b0 t v) (hd : DataW.Trod enc P w base sp held t v d ps) : ∃ zs : List Int, zs.length = n ∧ v = .agg (zs.map (Value.int k)).toArray ∧ ps = [] ∧ ∀ z ∈ zs, (Lit.int k z).wf = true := by
  simp only [Value.okWide, hu] at hval
  obtain ⟨cs, rfl, hsz, _⟩ := hval
  rw [hs] at hsz
  obtain ⟨fuel, hf⟩ := hd
  cases fuel with
  | zero => simp [DataW.trod] at hf
  | succ m =>
    rw [DataW.trod_step] at hf
    unfold DataW.trodStep at hf
    simp only [hu, Value.cells] at hf
    rw [if_pos (by rw [hs]; simpa using hsz)] at hf
    simp only [Option.map_eq_some_iff] at hf
    obtain ⟨ys, hy, e1⟩ := hf
    obtain ⟨q1, q2⟩ := sr he _ ys hy
    simp only [Prod.mk.injEq] at e1
    have hcell : ∀ i (hi : i < cs.size), ∃ z, cs[i] = .int k z ∧ (Lit.int k z).wf = true := fun i hi => by
      obtain ⟨z, hz, hwf⟩ := q1 i (by simp; omega)
      rw [h1, Nat.mul_one] at hz
      have : cs.toList[i]? = some (.int k z) := by
        have h3 : ((cs.toList.drop i).take 1)[0]? = some (.int k z) := by rw [hz]; rfl
        simpa [List.getElem?_take, List.getElem?_drop] using h3
      refine ⟨z, ?_, hwf⟩
      rw [Array.getElem?_toList, Array.getElem?_eq_getElem hi] at this
      injection this
    refine ⟨cs.toList.map intOf, by simpa using hsz, ?_, ?_, fun z hz => ?_⟩
    · congr 1
      apply Array.ext
      · simp
      · intro i hi hi2
        obtain ⟨z, h4, _⟩ := hcell i hi
        simp [h4, intOf]
    · rw [← e1.2]
      simp only [List.flatMap_eq_nil_iff]
      exact q2
    · simp only [List.mem_map, Array.mem_toList_iff] at hz
      obtain ⟨v, hv, rfl⟩ := hz
      obtain ⟨i, hi, e⟩ := Array.mem_iff_getElem.1 hv
      obtain ⟨z, h4, h5⟩ := hcell i hi
      rw [← e, h4]
      exact h5
theorem MM {zs : List Int} (h : zs.length = 2) : ∃ a b, zs = [a, b] := by
  match zs, h with
  | [a, b], _ => exact ⟨a, b, rfl⟩
theorem Fp {φ : Ph} {k : IntKind} (zs : List Int) : VR φ (.agg (zs.map (AV.si k))) (.agg (zs.map (Value.int k)).toArray) := .agg (by simpa using VRs.map (fun z => VR.si k z) zs)
end
end Go.Proofs.Ythjggjhebbdkdaa
namespace Go.Proofs.Ythjggjhebbdkdaa
open Go Go.RowKit
abbrev Smp := List (Int × Int)
def smp (L : Smp) : List AV := L.flatMap fun x => [.si .i64 x.1, .si .i64 x.2]
theorem aG (L : Smp) : (smp L).length = L.length * 2 := by
  induction L with
  | nil => rfl
  | cons x L ih => simp only [smp, List.flatMap_cons, List.length_append, List.length_cons, List.length_nil] at ih ⊢; omega
theorem ba (L : Smp) : (smp L).all flat.flat1 = true := by
  induction L with
  | nil => rfl
  | cons x L ih => exact ih
theorem aV (L : Smp) : (smp L).map mk = smp L := by
  induction L with
  | nil => rfl
  | cons x L ih =>
    show mk (.si .i64 x.1) :: mk (.si .i64 x.2) :: (smp L).map mk = _
    rw [ih]; rfl
theorem nd : ∀ (L : Smp) (i : Nat), (smp L).drop (i * 2) = smp (L.drop i)
  | L, 0 => by simp
  | [], i + 1 => by simp [smp]
  | x :: L, i + 1 => by
    rw [show (i + 1) * 2 = i * 2 + 2 from by omega]
    exact nd L i
theorem x4 {L : Smp} {i : Nat} (h : i < L.length) : (smp L).drop (i * 2) = .si .i64 L[i].1 :: .si .i64 L[i].2 :: smp (L.drop (i + 1)) := by
  rw [nd, List.drop_eq_getElem_cons h]; rfl
theorem bT {L : Smp} {i o : Nat} (h : i < L.length) (ho : o = i * 2) : bu (smp L) o 2 = some [.si .i64 L[i].1, .si .i64 L[i].2] := by
  subst ho
  unfold bu
  rw [Nat.ble_eq_true_of_le (by rw [aG]; omega), x4 h]; rfl
theorem fy {L : Smp} {i o : Nat} (h : i < L.length) (ho : o = i * 2) : nth (smp L) o = some (.si .i64 L[i].1) := by
  subst ho
  have := congrArg (fun l => l[0]?) (x4 h)
  simp only [List.getElem?_drop, Nat.add_zero, List.getElem?_cons_zero] at this
  rw [ep, this]
theorem qp {L : Smp} {i o : Nat} (h : i < L.length) (ho : o = i * 2 + 1) : nth (smp L) o = some (.si .i64 L[i].2) := by
  subst ho
  have := congrArg (fun l => l[1]?) (x4 h)
  simp only [List.getElem?_drop, List.getElem?_cons_succ, List.getElem?_cons_zero] at this
  rw [ep, this]
def cF (H : AH) (a : AV) (L : Smp) : Prop := (hd a = .nsl ∧ L = []) ∨ ((∃ b o x l r, (a = .rw b o L.length 2 x ∧ x ≠ 4) ∧ (H.get b = some (.ro l) ∨ ∃ z, H.get b = some (.cells l z)) ∧ bu l o (L.length * 2) = some r ∧ r.map mk = smp L) ∨ ∃ l, a = .fr L.length 2 l ∧ l.map mk = smp L ∧ L.length ≠ 0) ∨ ∃ b o c k l r, hd a = .sl b o L.length c k ∧ (H.get b = some (.ro l) ∨ ∃ z, H.get b = some (.cells l z)) ∧ bu l o (L.length * 2) = some r ∧ r.map mk = smp L ∧ L.length ≤ c
def ints (V : List Int) : List AV := V.map fun v => .si .i64 v
theorem A3 (V : List Int) : (ints V).all flat.flat1 = true := by
  induction V with
  | nil => rfl
  | cons x L ih => exact ih
theorem jy (V : List Int) : (ints V).map mk = ints V := by simp [ints, mk, Function.comp_def]
theorem vO (V : List Int) : (ints V).length = V.length := by simp [ints]
theorem nf {V : List Int} {i o : Nat} (h : i < V.length) (ho : o = i) : nth (ints V) o = some (.si .i64 V[i]) := by
  subst ho
  rw [ep, ints, List.getElem?_map, List.getElem?_eq_getElem h]; rfl
section
variable {φ : Ph} {H : AH} {n : Nat} {h0 hp : Hp}
theorem jx.emp (hr : HR φ H n h0 hp) {b a T : Nat} {l : List AV} {p : Pl} (hb : H.get b = some (.ro l) ∨ ∃ z, H.get b = some (.cells l z)) (hpb : φ b = some p) (ha : p.s ≤ a) (hT : a + T ≤ p.s + p.T) : jx hp ⟨p.B, a, 0⟩ [] := by
  rcases hb with hb | ⟨z, hb⟩
  · obtain ⟨ob, _, h2, c, t, fz, rfl, h3, h4, h5⟩ := hr.of hb hpb
    exact ⟨c, t, fz, h2, Nat.le_refl _, (show a + 0 ≤ c.size by omega), fun ψ i a h => by simp at h⟩
  · obtain ⟨ob, _, h2, c, t, fz, rfl, h3, h4, _, _, h5⟩ := hr.of hb hpb
    exact ⟨c, t, fz, h2, Nat.le_refl _, (show a + 0 ≤ c.size by omega), fun ψ i a h => by simp at h⟩
theorem CR.kf {ψ χ : Ph} {c : Array Value} {s : Nat} {l m : List AV} (h : CR ψ c s l) (e : l.map mk = m.map mk) (hf : m.all flat.flat1 = true) : CR χ c s m := fun i a hi => by
  have e2 := congrArg (fun x : List AV => x[i]?) e
  simp only [List.getElem?_map, hi, Option.map_some] at e2
  rw [Option.map_eq_some_iff] at e2
  obtain ⟨a', h1, h2⟩ := e2
  obtain ⟨v, h3, h4⟩ := h i a' h1
  have h14 : flat.flat1 a = true := List.all_eq_true.1 hf a (List.mem_of_getElem? hi)
  have h13 : VR ψ (mk a) v := h2 ▸ h4.mk
  exact ⟨v, h3, aA h14 (by cases a <;> first | exact h13 | cases h14)⟩
theorem Fq (hr : HR φ H n h0 hp) {m k : Nat} {l s : List AV} {v : Value} (hm : m ≠ 0) (hv : VR φ (.fr m k l) v) (e : l.map mk = s.map mk) (hf : s.all flat.flat1 = true) : ∃ p C, m ≤ C ∧ jx hp p s ∧ p.T = m * k ∧ v = .slice (some ⟨p.B, p.s + 0, none⟩) m C := by
  rcases hv.nR with ⟨h0, _⟩ | ⟨q, o, C, hq, rfl, hC, hl⟩
  · exact absurd h0 hm
  · obtain ⟨⟨⟨_, c, t, fz, hc, hsz, hcr⟩, _⟩, _⟩ := hr.frz q hq
    obtain ⟨g1, g2⟩ := bj hl
    have hlen : l.length = m * k := by rw [g2]; simp; omega
    have hsl : s.length = m * k := by have := congrArg List.length e; simp only [List.length_map] at this; omega
    have h6 : CR φ c (q.s + o) l := by rw [g2]; exact CR.drop hcr
    exact ⟨⟨q.B, q.s + o, m * k⟩, C, hC, ⟨c, t, fz, hc, (show s.length ≤ m * k by omega), (show q.s + o + m * k ≤ c.size by omega), fun ψ => CR.kf h6 e hf⟩, rfl, rfl⟩
theorem cF.open (hr : HR φ H n h0 hp) {a : AV} {L : Smp} {v : Value} (hS : cF H a L) (hv : VR φ a v) : (L = [] ∧ ∀ χ, VR χ .nsl v) ∨ ∃ p C, L.length ≤ C ∧ jx hp p (smp L) ∧ ∀ χ b, χ b = some p → VR χ (.sy b 0 L.length C 0) v := by
  rcases hS with ⟨ey, rfl⟩ | (⟨b, o, x, l, r, ⟨rfl, hx4⟩, hb, hsub, hmk⟩ | ⟨l, rfl, hmk, hne⟩) | ⟨b, o, c, kk, l, r, ey, hb, hsub, hmk, hlc⟩
  · have e6 := hv.hd
    rw [ey] at e6
    exact .inl ⟨rfl, fun χ => by rw [e6.cg]; exact .nsl⟩
  · rcases hv.eM with ⟨h1, hem⟩ | ⟨p, y, C, hp, rfl, h2, h3, h4, h5, _, _⟩
    · have := hem.nil hx4
      subst this
      exact .inl ⟨List.eq_nil_of_length_eq_zero h1, fun χ => .nsl⟩
    · by_cases hL : L = []
      · subst hL
        exact .inr ⟨⟨p.B, y, 0⟩, C, h4, jx.emp hr hb hp h3 h5, fun χ b hχ => .sy (p := ⟨p.B, y, 0⟩) (o := 0) hχ (fun _ => rfl) (fun q => absurd rfl q)⟩
      · have := h2 (fun q => hL (List.eq_nil_of_length_eq_zero q))
        subst this
        have hro := jx.of (s := smp L) hr hb hp hsub (by rw [hmk, aV]) (ba L)
        exact .inr ⟨⟨p.B, p.s + o, L.length * 2⟩, C, h4, hro, fun χ b hχ => .sy (p := ⟨p.B, p.s + o, L.length * 2⟩) (o := 0) hχ (fun _ => rfl) (fun q => absurd rfl q)⟩
  · obtain ⟨p, C, hC, hro, _, rfl⟩ := Fq hr hne hv (s := smp L) (by rw [hmk, aV]) (ba L)
    exact .inr ⟨p, C, hC, hro, fun χ b hχ => .sy (p := p) (o := 0) hχ (fun _ => rfl) (fun q => absurd rfl q)⟩
  · have e6 := hv.hd
    rw [ey] at e6
    obtain ⟨p, C, hpb, rfl, hC0, hC1⟩ := e6.dI
    have hlC : L.length ≤ C := by
      by_cases hk0 : kk = 0
      · rw [hC0 hk0]; exact hlc
      · exact Nat.le_trans hlc (hC1 hk0).1
    have hro := jx.of (s := smp L) hr hb hpb hsub (by rw [hmk, aV]) (ba L)
    exact .inr ⟨⟨p.B, p.s + o, L.length * 2⟩, C, hlC, hro, fun χ b hχ => .sy (p := ⟨p.B, p.s + o, L.length * 2⟩) hχ (fun _ => rfl) (fun q => absurd rfl q)⟩
end
theorem A4 (W : List Int) (v : Int) : (ints W ++ [AV.si .i64 v]).map mk = ints (W ++ [v]) := by simp [ints, mk, Function.comp_def]
theorem qq : ∀ (L : Smp) (i : Nat), (smp L).take (i * 2) = smp (L.take i)
  | L, 0 => by simp [smp]
  | [], i + 1 => by simp [smp]
  | x :: L, i + 1 => by
    rw [show (i + 1) * 2 = i * 2 + 2 from by omega]
    show AV.si .i64 x.1 :: AV.si .i64 x.2 :: (smp L).take (i * 2) = _
    rw [qq L i]; rfl
theorem C5 {L : Smp} {j : Nat} (h : j ≤ L.length) : bu (smp L) 0 ((L.take j).length * 2) = some (smp (L.take j)) := by
  have : (L.take j).length = j := by rw [List.length_take]; omega
  rw [this]
  unfold bu
  rw [Nat.ble_eq_true_of_le (by rw [aG]; omega)]
  simp [qq]
theorem dd (L : Smp) : bu (smp L) 0 (L.length * 2) = some (smp L) := cD (aG L)
end Go.Proofs.Ythjggjhebbdkdaa
namespace Go.Proofs.Ythjggjhebbdkdaa
open Go Go.RowKit Go.ChangeShapes Go.WideShapes
def aM (x : Int) : Prop := -9223372036854775808 ≤ x ∧ x ≤ 9223372036854775807
theorem C6 {P : Program} {fits : TypeId → Bool} : ∀ (d : Nat) (e : TypeId) (count off n : Nat), rowAt P fits d e count off n = true → off ≤ count * P.cellsOf e
  | 0, e, count, off, n, h => by simp [rowAt] at h
  | d + 1, e, count, off, n, h => by
    unfold rowAt at h
    simp only at h
    split at h
    · cases h
    · rename_i hs
      have h0 := Nat.div_add_mod off (P.cellsOf e)
      have h1 := Nat.mod_lt off (Nat.pos_of_ne_zero hs)
      generalize off / P.cellsOf e = q at *
      generalize off % P.cellsOf e = m at *
      simp only [Bool.or_eq_true, Bool.and_eq_true, beq_iff_eq, decide_eq_true_eq] at h
      rcases h with ⟨⟨h2, h3⟩, _⟩ | ⟨h2, _⟩
      · have : P.cellsOf e * q ≤ P.cellsOf e * count := Nat.mul_le_mul_left _ (by omega)
        rw [Nat.mul_comm count]; omega
      · have : P.cellsOf e * (q + 1) ≤ P.cellsOf e * count := Nat.mul_le_mul_left _ (by omega)
        rw [Nat.mul_add, Nat.mul_one] at this
        rw [Nat.mul_comm count]; omega
theorem su {P : Program} : ∀ (d : Nat) (e : TypeId) (count off : Nat) (u : TypeId) (n : Nat), liesAt P d e count off u n = true → off ≤ count * P.cellsOf e
  | 0, e, count, off, u, n, h => by simp [liesAt] at h
  | d + 1, e, count, off, u, n, h => by
    unfold liesAt at h
    simp only [Bool.or_eq_true] at h
    rcases h with h | h
    · exact C6 _ _ _ _ _ h
    · split at h
      · exact su d _ _ _ _ _ h
      · cases h
section
variable {H : Type} {enc : TypeId × Value → H} {P : Program} {W : World} {sp : Nat → Bool} {held : Bool}
theorem oV {r : Reach} {b0 : Nat} {t e : TypeId} {v : Value} (ht : P.underlying t = some (.slice e)) (hval : Value.okWide P W r b0 t v) : v = .slice none 0 0 ∨ ∃ b off len cap c u fz, v = .slice (some ⟨b, off, none⟩) len cap ∧ W.heap[b]? = some (.cells c u fz) ∧ off ≤ c.size := by
  simp only [Value.okWide, ht, Cell.okWide, Cell.ok] at hval
  split at hval
  all_goals first | (rename_i h _; cases h; done) | (rename_i h; cases h; done) | skip
  · exact .inl rfl
  · rename_i a len cap _
    obtain ⟨b, off, spot⟩ := a
    obtain ⟨_, _, _, h2, row, cells, h3, h4⟩ := hval
    change spot = none at h2
    change W.shape? b = _ at h3
    change liesAt _ _ _ _ off _ _ = true at h4
    subst h2
    unfold World.shape? at h3
    split at h3
    · rename_i c u fz hb
      injection h3 with h3
      injection h3 with h5 h6
      subst h5 h6
      refine .inr ⟨b, off, len, cap, c, _, fz, rfl, hb, ?_⟩
      exact Nat.le_trans (su _ _ _ _ _ _ h4) (Nat.div_mul_le_self _ _)
    · cases h3
  · exact hval.elim
theorem Fs {b off : Nat} {c : Array Value} {u : TypeId} {fz : Nat × Nat} (hb : W.heap[b]? = some (.cells c u fz)) {i : Nat} {v : Value} (h : W.cell? ((⟨b, off, none⟩ : Addr).add i) = some v) : c[off + i]? = some v := by
  have e : (⟨b, off, none⟩ : Addr).add i = ⟨b, off + i, none⟩ := by
    unfold Addr.add
    split
    · rename_i h0; subst h0; rfl
    · rfl
  rw [e] at h
  unfold World.cell? at h
  simp only [hb] at h
  simpa using h
end
theorem x6 {F : FuncId → EP} (hF : bG F) {d : Nat} {f : FuncId} {args : List AV} {H0 : AH} {n0 : Nat} {φ0 : Ph} {vs : Array Value} (he : az F d f args H0 n0 fun v _ _ => v = .bool true ∨ v = .sb true) (w : World)
    (hr0 : HR φ0 H0 n0 (eK w) (eK w)) (hargs : VRs φ0 args vs.toList) : Calls Try.prog f vs w fun e w' => e = .returned (.bool true) ∧ Below w.heap.size w w' := by
  have hs := cM (by kernel_rfl) hF d f args H0 n0 _ he _ (eK w) (eK w) vs (fun v g => v = .bool true ∧ (eK w).n ≤ g.n ∧ ∀ b o, (eK w).f b = some o → g.f b = some o) hr0 hargs
    (fun ψ v H n u g _ hg hu hv => ⟨by rcases hv with rfl | rfl; exact hu.bF; exact hu.gX, hg.size, fun b o hb => (hg.base b o hb).2⟩)
  refine (hs.2 w (xS w)).mono fun e' w' ⟨v, g, h1, h2, h3, h4, h5, h6⟩ => ?_
  subst h1 h4
  refine ⟨rfl, h3.1, h3.2.1, h3.2.2, ?_, fun b hb => ?_⟩
  · rw [h2.1]; exact h5
  · have := h6 b _ (show (eK w).f b = some w.heap[b] from Array.getElem?_eq_getElem hb)
    rw [h2.2 b _ this, Array.getElem?_eq_getElem hb]
end Go.Proofs.Ythjggjhebbdkdaa
namespace Go.Proofs.Ythjggjhebbdkdaa
open Go Go.RowKit
section
variable {φ ψ : Ph} {H : AH} {n : Nat} {h0 h hp : Hp}
theorem HR.add (hr : HR φ H n h0 h) {q : Pl} {o : AO} {ob : Obj} (hq0 : h0.f q.B = none) (hqn : q.B < h.n) (hq : h.f q.B = some ob) (ho : OR (du φ n q) q o ob) (hw : o.own = true) (hfr : ∀ b o p, H.get b = some o → φ b = some p → o.own = true → p.B ≠ q.B) (hfz : ∀ z, φ.z z → q.B ≠ z.B) (d : Nat) (hsp : ∀ b Q, H.get b = some (.sep Q) → ¬ φ.s b q.B) : HR (du φ n q) (H.set (some o) d n) (n + 1) h0 h := by
  have nosep : ∀ x Q, (H.set (some o) d n).get x = some (.sep Q) → H.get x = some (.sep Q) := fun x Q hx => by
    rcases PM.ak d H n x _ hx with ⟨_, h2⟩ | ⟨_, h2⟩
    · injection h2 with h2; subst h2; exact ho.elim
    · exact h2
  refine ⟨fun x r hx => ?_, fun x r hx => ?_, fun x y r r' px py hx hy hwx hwy hpx hpy e => ?_, hr.base, hr.size, fun z hz => ⟨⟨FzR.mono (hr.ple _).z (hr.frz z hz).1.1, (hr.frz z hz).1.2⟩, fun y oy py hy hwy hpy => ?_⟩, hr.lR (Nat.le_refl _) (fun x Q hx => ⟨nosep x Q hx, rfl⟩) (fun _ h => h) (fun _ h => .inl h) (fun _ _ _ _ _ => rfl) fun b' o1 p' e1 e2 e3 => ?_⟩
  rotate_left 4
  · rcases PM.ak d H n b' o1 e1 with ⟨rfl, _⟩ | ⟨h1, h2⟩
    · rw [bl] at e3; injection e3 with e3; subst e3
      exact .inr (.inr hsp)
    · simp only [du, if_neg h1] at e3
      exact .inl ⟨b', o1, p', h2, e2, e3, rfl⟩
  · simp only [du] at hx
    split at hx
    · injection hx with hx; subst hx; exact ⟨by omega, hqn⟩
    · have := hr.dom x r hx; omega
  · rcases PM.ak d _ n x r hx with ⟨rfl, h2⟩ | ⟨h1, h2⟩
    · injection h2 with h2
      subst h2
      exact .inr ⟨_, ob, bl _ _ _, by rw [AO.bk hw]; exact hq0, hq, ho⟩
    · rcases hr.live x r h2 with ⟨hv, hv2⟩ | ⟨px, obx, h5, h6, h7, h8⟩
      · exact .inl ⟨by simp only [du, if_neg h1]; exact hv, hv2⟩
      exact .inr ⟨px, obx, hr.ple _ _ _ h5, h6, h7, h8.mono (hr.ple _)⟩
  · have cs : ∀ z r pz, (H.set (some o) d n).get z = some r → du φ n q z = some pz → (z = n ∧ pz = q) ∨ (z ≠ n ∧ H.get z = some r ∧ φ z = some pz) := fun z r pz hz hpz => by
      rcases PM.ak d _ n z r hz with ⟨rfl, _⟩ | ⟨h1, h2⟩
      · rw [bl] at hpz; injection hpz with hpz; exact .inl ⟨rfl, hpz.symm⟩
      · simp only [du, if_neg h1] at hpz
        exact .inr ⟨h1, h2, hpz⟩
    rcases cs x r px hx hpx with ⟨a1, a2⟩ | ⟨a1, a2, a3⟩ <;> rcases cs y r' py hy hpy with ⟨b1, b2⟩ | ⟨b1, b2, b3⟩
    · omega
    · exact (hfr y r' py b2 b3 hwy (by rw [← e, a2])).elim
    · exact (hfr x r px a2 a3 hwx (by rw [e, b2])).elim
    · exact hr.inj x y r r' px py a2 b2 hwx hwy a3 b3 e
  · rcases PM.ak d _ n y oy hy with ⟨rfl, h2⟩ | ⟨h1, h2⟩
    · rw [bl] at hpy; injection hpy with hpy; subst hpy; exact hfz z hz
    · simp only [du, if_neg h1] at hpy
      exact (hr.frz z hz).2 y oy py h2 hwy hpy
def y8 (W : AV → AV) (R : Smp) (H : AH) (n : Nat) (κ : PK) : Prop := (H.get n = none ∧ n < 1000000) ∧ κ (W (.rw n 0 R.length 2 0)) (H.set (some (.cells (smp R) true)) aa n) (n + 1)
def iX (R : Smp) (u : AV) (H' : AH) : Prop := (R = [] ∧ hd u = .nsl) ∨ (R ≠ [] ∧ ∃ b c k l, hd u = .sl b 0 R.length c k ∧ R.length ≤ c ∧ H'.get b = some (.cells l true) ∧ R.length * 2 ≤ l.length ∧ (l.take (R.length * 2)).map mk = smp R ∧ (k = 2 ∨ k = 0 ∧ c * 2 ≤ l.length)) ∨ ∃ b o x l r, u = .rw b o R.length 2 x ∧ x < 2 ∧ H'.get b = some (.cells l true) ∧ bu l o (R.length * 2) = some r ∧ r.map mk = smp R
theorem HR.ng (hr : HR φ H n h0 hp) {o : AO} (ho : o.void = true) : HR φ (H.set (some o) aa n) (n + 1) h0 hp := by
  have hno : φ n = none := by
    cases hq : φ n with
    | none => rfl
    | some p => exact absurd (hr.dom n p hq).1 (Nat.lt_irrefl _)
  refine ⟨fun b p hb => ⟨Nat.lt_succ_of_lt (hr.dom b p hb).1, (hr.dom b p hb).2⟩, fun b q hb => ?_, fun x y q q' px py hx hy hwx hwy hpx hpy ee => ?_, hr.base, hr.size, fun z hz => ⟨(hr.frz z hz).1, fun y oy py hy hwy hpy => ?_⟩, hr.lR (Nat.le_refl _) (fun x Q hx => ?_) (fun _ h => h) (fun _ h => .inl h) (fun _ _ _ _ _ => rfl) fun b' o1 p' e1 e2 e3 => ?_⟩
  rotate_left 3
  · rcases PM.ak aa _ n x _ hx with ⟨_, h2⟩ | ⟨_, h2⟩
    · injection h2 with h2; subst h2; cases ho
    · exact ⟨h2, rfl⟩
  · rcases PM.ak aa _ n b' o1 e1 with ⟨rfl, _⟩ | ⟨_, h2⟩
    · rw [hno] at e3; cases e3
    · exact .inl ⟨b', o1, p', h2, e2, e3, rfl⟩
  rotate_left 2
  · rcases PM.ak _ _ n y oy hy with ⟨rfl, _⟩ | ⟨_, h2⟩
    · rw [hno] at hpy; cases hpy
    · exact (hr.frz z hz).2 y oy py h2 hwy hpy
  · rcases PM.ak aa _ n b q hb with ⟨rfl, h2⟩ | ⟨_, h2⟩
    · injection h2 with h2; subst h2; exact .inl ⟨hno, AO.yR ho⟩
    · exact hr.live b q h2
  · have old : ∀ z r pz, (H.set (some o) aa n).get z = some r → φ z = some pz → H.get z = some r := fun z r pz hz hpz => by
      rcases PM.ak aa _ n z r hz with ⟨rfl, _⟩ | ⟨_, h2⟩
      · rw [hno] at hpz; cases hpz
      · exact h2
    exact hr.inj x y q q' px py (old x q px hx hpx) (old y q' py hy hpy) hwx hwy hpx hpy ee
theorem qs {H' : AH} {n' : Nat} {g : Hp} {R : Smp} {r : AV} {w : Value} (hr : HR φ H n h0 hp) (hg : HR ψ H' n' hp g) (hu : VR ψ r w) (he : iX R r H') : ∃ χ, PLe φ χ ∧ HR χ (H.set (some (.cells (smp R) true)) aa n) (n + 1) h0 g ∧ VR χ (.rw n 0 R.length 2 0) w := by
  have hg2 : HR φ H n h0 g := hr.grow (fun b o hb => (hg.base b o hb).2) hg.size
  have core : ∀ (q : Pl) (l r : List AV) (b o a C : Nat), H'.get b = some (.cells l true) → ψ b = some q → R.length ≤ C → q.s ≤ a → a + C * 2 ≤ q.s + q.T → (R ≠ [] → a = q.s + o ∧ bu l o (R.length * 2) = some r ∧ r.map mk = smp R) → w = .slice (some ⟨q.B, a, none⟩) R.length C → ∃ χ, PLe φ χ ∧ HR χ (H.set (some (.cells (smp R) true)) aa n) (n + 1) h0 g ∧ VR χ (.rw n 0 R.length 2 0) w := by
    intro q l r b o a C hb hqb hRC ha1 ha2 hsub hw
    subst hw
    obtain ⟨ob, hq0, hq1, hor⟩ := hg.of hb hqb
    have hq0 : hp.f q.B = none := hq0
    have hh0 : h0.f q.B = none := by
      cases hx : h0.f q.B with
      | none => rfl
      | some o => have := (hr.base _ _ hx).2; rw [hq0] at this; cases this
    obtain ⟨cc, t, fz, rfl, o1, o2, o3, o4, o5⟩ := hor
    have hor' : OR (du φ n ⟨q.B, a, C * 2⟩) ⟨q.B, a, C * 2⟩ (.cells (smp R) true) (.cells cc t fz) := by
      have hfree : mQ fz a (C * 2) := o3.sub (by omega)
      refine ⟨cc, t, fz, rfl, by rw [aG]; simp only; omega, (show a + C * 2 ≤ cc.size by omega), hfree, o4, ?_⟩
      by_cases hR : R = []
      · subst hR
        exact fun i a hi => by simp [smp] at hi
      · obtain ⟨rfl, h1, h2⟩ := hsub hR
        obtain ⟨h3, h4⟩ := bj h1
        have o6 : CR ψ cc (q.s + o) r := by subst h4; exact CR.drop o5
        exact CR.kf o6 (by rw [h2, aV]) (ba R)
    have hnew := hg2.add (q := ⟨q.B, a, C * 2⟩) hh0 (hg.dom _ _ hqb).2 hq1 hor' rfl (fun b' o' p' e1 e2 _ e3 => by
      obtain ⟨ob2, _, f2, _⟩ := hr.of e1 e2
      rw [e3, hq0] at f2
      cases f2) (fun z hz e => by
      obtain ⟨_, c, t, fz, f2, _⟩ := (hr.frz z hz).1.1
      have e : q.B = z.B := e
      rw [← e, hq0] at f2
      cases f2) aa fun b' Q e1 e2 => by
      obtain ⟨ob2, f2⟩ := Q.ex _ _ _ _ (hr.sep b' Q e1).1 e2
      rw [hq0] at f2
      cases f2
    exact ⟨_, hr.ple _, hnew, .rw (p := ⟨q.B, a, C * 2⟩) (bl _ _ _) (fun _ => rfl) (Nat.le_refl _) hRC (Nat.le_refl _)⟩
  have none : R = [] → w = .slice none 0 0 → ∃ χ, PLe φ χ ∧ HR χ (H.set (some (.cells (smp R) true)) aa n) (n + 1) h0 g ∧ VR χ (.rw n 0 R.length 2 0) w := fun h1 h2 => by
    subst h1 h2
    exact ⟨φ, .refl _, hg2.ng rfl, .rwn⟩
  rcases he with ⟨h1, e1⟩ | ⟨h1, b, c, k, l, e1, hc, hb, hlen, hl, hk⟩ | ⟨b, o, x, l, r', e1, hx2, hb, hsub, hmk⟩
  · have := hu.hd
    rw [e1] at this
    exact none h1 this.cg
  · have hu := hu.hd
    rw [e1] at hu
    obtain ⟨q, C, hqb, rfl, hC0, hC⟩ := hu.dI
    have hT : R.length ≤ C ∧ C * 2 ≤ q.T := by
      rcases hk with rfl | ⟨rfl, hk⟩
      · obtain ⟨hC1, hC2⟩ := hC (by decide)
        exact ⟨by omega, by omega⟩
      · have := hC0 rfl
        have := hg.room _ _ _ hb hqb
        simp only [AO.size] at this
        exact ⟨by omega, by omega⟩
    refine core q l (l.take (R.length * 2)) b 0 q.s C hb hqb hT.1 (Nat.le_refl _) (by omega) (fun _ => ⟨rfl, ?_, hl⟩) rfl
    unfold bu
    rw [Nat.zero_add, Nat.ble_eq_true_of_le hlen]
    rfl
  · rw [e1] at hu
    rcases hu.eM with ⟨h1, h2⟩ | ⟨q, a, C, hqb, rfl, h2, h3, h4, _, h5, _⟩
    · exact none (List.eq_nil_of_length_eq_zero h1) (h2.nil (by omega))
    · exact core q l r' b o a C hb hqb h4 h3 (h5 hx2) (fun hR => ⟨h2 (fun q => hR (List.eq_nil_of_length_eq_zero q)), hsub, hmk⟩) rfl
theorem A5 {F : FuncId → EP} (hF : bG F) {d : Nat} {f : FuncId} {args0 : List AV} {H0 : AH} {n0 : Nat} {R : Smp} {P : AV → AH → Prop} (hP : ∀ u H', P u H' → iX R u H') (hrun : az F d f args0 H0 n0 fun u H' _ => P u H')
    {vs : Array Value} {κ : PK} {K : KH} (hs : y8 (fun r => r) R H n κ) (hr : HR φ H n h0 hp) (hk : bV φ h0 κ K) (hic : aj Try.prog f = true) {φ0 : Ph} (hr0 : Wf hp → HR φ0 H0 n0 hp hp) (hargs : VRs φ0 args0 vs.toList) : cL Try.prog f vs hp K := by
  have key : Wf hp → cL Try.prog f vs hp K := fun hw => cM (by kernel_rfl) hF d f args0 H0 n0 _ hrun φ0 hp hp vs K (hr0 hw) hargs fun ψ u H' n' w g _ hg hu he => by
    have hg2 : HR φ H n h0 g := hr.grow (fun b o hb => (hg.base b o hb).2) hg.size
    obtain ⟨χ, h3, h4, h5⟩ := qs hr hg hu (hP _ _ he)
    exact hk χ _ _ _ _ g h3 h4 h5 hs.2
  exact ⟨hic, fun w hi => (key hi.wf).2 w hi⟩
theorem iX.rw {R : Smp} {b o x : Nat} {l r : List AV} {H' : AH} {u : AV} (h1 : u = .rw b o R.length 2 x) (h2 : H'.get b = some (.cells l true)) (h3 : bu l o (R.length * 2) = some r) (h4 : r.map mk = smp R) (hx : x < 2 := by decide) : iX R u H' := .inr (.inr ⟨b, o, x, l, r, h1, hx, h2, h3, h4⟩)
end
end Go.Proofs.Ythjggjhebbdkdaa
namespace Go.Proofs.Ythjggjhebbdkdaa
open Go Go.RowKit
section
variable {φ ψ : Ph} {H : AH} {n : Nat} {h0 hp : Hp}
def JD (e : Int) (r : AV) : AV := .tup [r, .si .i64 e]
def C7 (R : Smp) (e : Int) (u : AV) (H' : AH) : Prop := ∃ r w, u = .tup [r, w] ∧ mk w = .si .i64 e ∧ iX R r H'
theorem JE {a b c d : AV} {v : Value} {χ : Ph} (h : VR ψ (.tup [a, b]) v) (hb : mk b = d) (hd : flat.flat1 d = true) : ∃ x y, v = .tuple #[x, y] ∧ VR ψ a x ∧ (VR χ c x → VR χ (.tup [c, d]) v) := by
  obtain ⟨cs, rfl, h1⟩ := h.dt
  obtain ⟨x, y, rfl, h2, h3⟩ := vs2 h1
  exact ⟨x, y, rfl, h2, fun hc => .tup (.cons hc (.cons (aA hd (hb ▸ h3.mk)) .nil))⟩
theorem A6 {F : FuncId → EP} (hF : bG F) {d : Nat} {f : FuncId} {args0 : List AV} {H0 : AH} {n0 : Nat} {R : Smp} {e : Int} {P : AV → AH → Prop} (hP : ∀ u H', P u H' → C7 R e u H') (hrun : az F d f args0 H0 n0 fun u H' _ => P u H')
    {vs : Array Value} {κ : PK} {K : KH} (hs : y8 (JD e) R H n κ) (hr : HR φ H n h0 hp) (hk : bV φ h0 κ K) (hic : aj Try.prog f = true) {φ0 : Ph} (hr0 : Wf hp → HR φ0 H0 n0 hp hp) (hargs : VRs φ0 args0 vs.toList) : cL Try.prog f vs hp K := by
  have key : Wf hp → cL Try.prog f vs hp K := fun hw => cM (by kernel_rfl) hF d f args0 H0 n0 _ hrun φ0 hp hp vs K (hr0 hw) hargs fun ψ u H' n' w g _ hg hu he => by
    have hg2 : HR φ H n h0 g := hr.grow (fun b o hb => (hg.base b o hb).2) hg.size
    obtain ⟨r, w2, rfl, hw2, hn⟩ := hP _ _ he
    obtain ⟨x, y, rfl, h1, _⟩ := JE (c := .nsl) (χ := φ) hu hw2 rfl
    obtain ⟨χ, h3, h4, h5⟩ := qs hr hg h1 hn
    obtain ⟨x', y', e2, _, h7⟩ := JE (c := .rw n 0 R.length 2 0) (χ := χ) hu hw2 rfl
    injection e2 with e2
    have e3 : x = x' := by have := congrArg (fun z : Array Value => z[0]?) e2; simpa using this
    subst e3
    exact hk χ _ _ _ _ g h3 h4 (h7 h5) hs.2
  exact ⟨hic, fun w hi => (key hi.wf).2 w hi⟩
end
def la (x : AV) (t v : Int) : Prop := ∃ a b, x = .agg [a, b] ∧ mk a = .si .i64 t ∧ mk b = .si .i64 v
theorem la.open {φ : Ph} {x : AV} {t v : Int} {w : Value} (h : la x t v) (hv : VR φ x w) (χ : Ph) : VR χ (.agg [.si .i64 t, .si .i64 v]) w := by
  obtain ⟨a, b, rfl, h1, h2⟩ := h
  obtain ⟨cs, rfl, h3⟩ := hv.eJ
  obtain ⟨y, z, rfl, h4, h5⟩ := vs2 h3
  exact .agg (.cons (aA rfl (h1 ▸ h4.mk)) (.cons (aA rfl (h2 ▸ h5.mk)) .nil))
end Go.Proofs.Ythjggjhebbdkdaa
namespace Go.Proofs.Ythjggjhebbdkdaa
open Go Go.RowKit Go.ChangeShapes Go.WideShapes
inductive Kd where
  | int (k : IntKind)
  | bool
  | str
  | sl (t : TypeId)
noncomputable def ph (P : Program) (k : TypeId → Option (List Kd)) : List Field → List Kd → Option (List Kd)
  | [], l => some l
  | f :: fs, l => (match k f.type with
    | some m => if f.offset = l.length ∧ m.length = P.cellsOf f.type then ph P k fs (l ++ m) else none
    | none => none)
def vQ {α : Type} (m : List α) : Nat → List α
  | 0 => []
  | n + 1 => vQ m n ++ m
noncomputable def vR (P : Program) : Nat → TypeId → Option (List Kd)
  | 0, _ => none
  | d + 1, t => (match P.underlying t with
    | some (.int k) => some [.int k]
    | some .bool => some [.bool]
    | some .string => some [.str]
    | some (.slice _) => some [.sl t]
    | some (.struct fs) => (ph P (vR P d) fs.toList []).bind fun l => if l.length = P.cellsOf t then some l else none
    | some (.array n e) => (vR P d e).bind fun m => if m.length = P.cellsOf e ∧ n * m.length = P.cellsOf t then some (vQ m n) else none
    | _ => none)
def Prim (Tr : TypeId → Value → Prop) : Kd → Value → Prop
  | .int k, v => ∃ z, v = .int k z ∧ (Lit.int k z).wf = true
  | .bool, v => ∃ b, v = .bool b
  | .str, v => ∃ s, v = .string s ∧ s.size ≤ maxLen
  | .sl t, v => Tr t v
def gN (Tr : TypeId → Value → Prop) (ks : List Kd) (cs : List Value) : Prop := ks.length = cs.length ∧ ∀ (j : Nat) k v, ks[j]? = some k → cs[j]? = some v → Prim Tr k v
def MN : Value → AV
  | .int k z => .si k z
  | .bool b => .sb b
  | .string s => .ss (s.data.toList.map UInt8.toNat)
  | _ => .bad
section
variable {Tr : TypeId → Value → Prop}
theorem gN.one {k : Kd} {v : Value} (h : Prim Tr k v) : gN Tr [k] [v] := ⟨rfl, fun j k' v' h1 h2 => by
  cases j with
  | zero => injection h1 with h1; injection h2 with h2; subst h1 h2; exact h
  | succ j => simp at h1⟩
theorem gN.app {ks ms : List Kd} {cs ds : List Value} (h : gN Tr ks cs) (k : gN Tr ms ds) : gN Tr (ks ++ ms) (cs ++ ds) := ⟨by simp [h.1, k.1], fun j a v h1 h2 => by
  by_cases hj : j < ks.length
  · rw [List.getElem?_append_left hj] at h1
    rw [List.getElem?_append_left (by rw [← h.1]; exact hj)] at h2
    exact h.2 j a v h1 h2
  · rw [List.getElem?_append_right (by omega)] at h1
    rw [List.getElem?_append_right (by rw [← h.1]; omega), ← h.1] at h2
    exact k.2 _ a v h1 h2⟩
end
def TrS {H : Type} (enc : TypeId × Value → H) (P : Program) (W : World) (base : Nat) (sp : Nat → Bool) (held : Bool) (t : TypeId) (v : Value) : Prop := ∃ fuel x, DataW.trod enc P W base sp held fuel t [v] = some x
section
variable {H : Type} {enc : TypeId × Value → H} {P : Program} {W : World} {base : Nat} {sp : Nat → Bool} {held : Bool}
theorem nh {k : TypeId → Option (List Kd)} {cs : List Value} {n : Nat} (ih : ∀ t ks cs x, k t = some ks → DataW.trod enc P W base sp held n t cs = some x → gN (TrS enc P W base sp held) ks cs) : ∀ (fs : List Field) (l r : List Kd), gN (TrS enc P W base sp held) l (cs.take l.length) → (∀ f ∈ fs, ∃ x, DataW.trod enc P W base sp held n f.type ((cs.drop f.offset).take (P.cellsOf f.type)) = some x) →
    ph P k fs l = some r → gN (TrS enc P W base sp held) r (cs.take r.length)
  | [], l, r, h, _, e => by injection e with e; subst e; exact h
  | f :: fs, l, r, h, hf, e => by
    unfold ph at e
    split at e
    · rename_i m hk
      split at e
      · rename_i ho
        obtain ⟨ho, hm⟩ := ho
        obtain ⟨x, hx⟩ := hf f List.mem_cons_self
        have hp := ih _ _ _ _ hk hx
        refine nh ih fs (l ++ m) r ?_ (fun g hg => hf g (List.mem_cons_of_mem _ hg)) e
        have e2 : cs.take (l ++ m).length = cs.take l.length ++ ((cs.drop f.offset).take (P.cellsOf f.type)) := by
          rw [List.length_append, List.take_add, ho, hm]
        rw [e2]
        exact h.app hp
      · cases e
    · cases e
theorem sw {Tr : TypeId → Value → Prop} {m : List Kd} {c : Nat} {cs : List Value} (hc : m.length = c) : ∀ n, (∀ i, i < n → gN Tr m ((cs.drop (i * c)).take c)) → gN Tr (vQ m n) (cs.take (n * c))
  | 0, _ => ⟨by simp [vQ], fun j k v h => by simp [vQ] at h⟩
  | n + 1, h => by
    have e : cs.take ((n + 1) * c) = cs.take (n * c) ++ (cs.drop (n * c)).take c := by rw [Nat.add_mul, Nat.one_mul, List.take_add]
    rw [e]
    exact (sw hc n fun i hi => h i (by omega)).app (h n (by omega))
theorem qt : ∀ (d : Nat) (t : TypeId) (ks : List Kd) (fuel : Nat) (cs : List Value) (x : DataW H × List MemPlace), vR P d t = some ks → DataW.trod enc P W base sp held fuel t cs = some x → gN (TrS enc P W base sp held) ks cs
  | 0, t, ks, fuel, cs, x, h, _ => by cases h
  | d + 1, t, ks, fuel, cs, x, h, hx => by
    unfold vR at h
    split at h
    · rename_i k hu
      injection h with h; subst h
      obtain ⟨z, rfl, _, hw⟩ := DataW.trod_int hu hx
      exact .one ⟨z, rfl, hw⟩
    · rename_i hu
      injection h with h; subst h
      obtain ⟨b, rfl, _⟩ := DataW.trod_bool hu hx
      exact .one ⟨b, rfl⟩
    · rename_i hu
      injection h with h; subst h
      obtain ⟨s, rfl, _, hs⟩ := DataW.trod_string hu hx
      exact .one ⟨s, rfl, hs⟩
    · rename_i e hu
      injection h with h; subst h
      rcases DataW.trod_slice hu hx with ⟨rfl, _⟩ | ⟨a, len, cap, _, _, _, _, rfl, _⟩
      · exact .one ⟨_, _, hx⟩
      · exact .one ⟨_, _, hx⟩
    · rename_i fs hu
      obtain ⟨xs, n, rfl, _, hl, hxl, hf⟩ := DataW.trod_struct hu hx
      rw [Option.bind_eq_some_iff] at h
      obtain ⟨l, h1, h2⟩ := h
      split at h2
      · rename_i hc
        injection h2 with h2; subst h2
        have := nh (enc := enc) (W := W) (base := base) (sp := sp) (held := held) (n := n) (cs := cs) (fun t ks cs x h hx => qt d t ks n cs x h hx) fs.toList [] l ⟨by simp, fun j k v h => by simp at h⟩ (fun f hfm => by
          obtain ⟨i, hi, e⟩ := List.mem_iff_getElem.1 hfm
          have hi2 : i < fs.size := by simpa using hi
          have hg : fs[i]? = some f := by rw [Array.getElem?_eq_getElem hi2]; simpa using e
          have := hf i f hg
          rw [List.getElem?_eq_getElem (by omega)] at this
          exact ⟨_, this⟩) h1
        rw [hc, ← hl, List.take_length] at this
        exact this
      · cases h2
    · rename_i n e hu
      rw [Option.bind_eq_some_iff] at h
      obtain ⟨m, h1, h2⟩ := h
      split at h2
      · rename_i hc
        obtain ⟨hc1, hc2⟩ := hc
        injection h2 with h2; subst h2
        cases fuel with
        | zero => simp [DataW.trod] at hx
        | succ q =>
          rw [DataW.trod_step] at hx
          unfold DataW.trodStep at hx
          simp only [hu] at hx
          split at hx
          · rename_i hlen
            simp only [Option.map_eq_some_iff] at hx
            obtain ⟨ys, hy, _⟩ := hx
            have hyl := mapM_some_length hy
            have := sw (cs := cs) hc1 n (fun i hi => by
              have h3 := mapM_some_get hy i i (by simp [hi])
              rw [List.getElem?_eq_getElem (by rw [hyl]; simpa using hi)] at h3
              exact qt d e m q _ _ h1 h3)
            rw [← hc1, hc2, ← hlen, List.take_length] at this
            exact this
          · cases hx
      · cases h2
    · cases h
theorem y9 {α : Type} {c : Nat} : ∀ (rows : List (List α)), (∀ r ∈ rows, r.length = c) → ∀ i q, q < c → rows.flatten[i * c + q]? = (rows[i]?).bind (·[q]?)
  | [], _, i, q, _ => by simp
  | r :: rows, h, 0, q, hq => by
    have := h r List.mem_cons_self
    rw [List.flatten_cons, Nat.zero_mul, Nat.zero_add, List.getElem?_append_left (by omega)]; rfl
  | r :: rows, h, i + 1, q, hq => by
    have h1 := h r List.mem_cons_self
    rw [List.flatten_cons, List.getElem?_append_right (by rw [Nat.add_mul]; omega), show (i + 1) * c + q - r.length = i * c + q from by rw [Nat.add_mul]; omega]
    exact y9 rows (fun x hx => h x (List.mem_cons_of_mem _ hx)) i q hq
theorem vS {α : Type} {c : Nat} : ∀ (rows : List (List α)), (∀ r ∈ rows, r.length = c) → rows.flatten.length = rows.length * c
  | [], _ => by simp
  | r :: rows, h => by
    rw [List.flatten_cons, List.length_append, vS rows (fun x hx => h x (List.mem_cons_of_mem _ hx)), h r List.mem_cons_self, List.length_cons, Nat.add_mul]; omega
theorem C8 {a : Addr} {v : Value} (h : W.cell? a = some v) : ∃ c u fz, W.heap[a.block]? = some (.cells c u fz) ∧ a.spot = none ∧ c[a.off]? = some v := by
  unfold World.cell? at h
  split at h
  · rename_i c u fz hb
    split at h
    · cases h
    · rename_i hs
      exact ⟨c, u, fz, hb, by simpa using hs, h⟩
  · cases h
def jl : List Value → Int × Int
  | [.int _ a, .int _ b] => (a, b)
  | _ => (0, 0)
theorem vT {Tr : TypeId → Value → Prop} : ∀ {rows : List (List Value)}, (∀ r ∈ rows, gN Tr [.int .i64, .int .i64] r) → (rows.map fun r => r.map MN).flatten = smp (rows.map jl) ∧ ∀ x ∈ rows.map jl, aM x.1 ∧ aM x.2
  | [], _ => ⟨rfl, fun x h => by cases h⟩
  | r :: rows, h => by
    obtain ⟨h1, h2⟩ := vT (rows := rows) fun x hx => h x (List.mem_cons_of_mem _ hx)
    obtain ⟨g1, g2⟩ := h r List.mem_cons_self
    match r, g1, g2 with
    | [v, w], _, g2 =>
      obtain ⟨a, rfl, ha⟩ := g2 0 _ v rfl rfl
      obtain ⟨b, rfl, hb⟩ := g2 1 _ w rfl rfl
      refine ⟨by simp only [List.map_cons, List.flatten_cons, h1]; rfl, fun x hx => ?_⟩
      rcases List.mem_cons.1 hx with rfl | hx
      · simp [Lit.wf, IntKind.min, IntKind.max, IntKind.signed, IntKind.bits] at ha hb
        unfold aM jl; dsimp only; omega
      · exact h2 x hx
theorem aM.of {z : Int} (h : (Lit.int .i64 z).wf = true) : aM z := by
  simp [Lit.wf, IntKind.min, IntKind.max, IntKind.signed, IntKind.bits] at h
  unfold aM; omega
end
end Go.Proofs.Ythjggjhebbdkdaa
namespace Go.Proofs.Ythjggjhebbdkdaa
open Go Go.RowKit
section
variable {φ ψ : Ph} {H : AH} {n : Nat} {h0 hp : Hp}
theorem HR.za (hr : HR φ H n h0 hp) {φ0 : Ph} {H0 : AH} {n0 : Nat} (h : HR φ0 H0 n0 hp hp) (hn : ∀ b o, H0.get b = some o → o.own = false) (hz : ∀ q, ¬ φ0.z q) : HR ⟨φ0.f, φ.z, φ.z, φ0.s⟩ H0 n0 hp hp := by
  have hle : SLe φ0 ⟨φ0.f, φ.z, φ.z, φ0.s⟩ := ⟨fun _ _ e => e, fun q e => (hz q e).elim⟩
  have hz2 : ∀ q, φ.z q → (⟨φ0.f, φ.z, φ.z, φ0.s⟩ : Ph).z q := fun _ e => e
  refine ⟨h.dom, fun b o hb => (h.live b o hb).imp id fun ⟨p, ob, h1, h2, h3, h4⟩ => ⟨p, ob, h1, h2, h3, h4.cz hle⟩, h.inj, h.base, h.size, fun q hq => ⟨⟨FzR.mono hz2 (hr.frz q hq).1.1, .inl hq⟩, fun b o p hb hw _ => ?_⟩, fun b Q hb => by cases hn b _ hb⟩
  rw [hn b o hb] at hw; cases hw
def FrG (m k : Nat) (s : List AV) (u : AV) (H' : AH) : Prop :=
  (hd u = .nsl ∧ m = 0 ∧ s = []) ∨ (u = .fr m k s ∧ s.length = m * k) ∨
  (∃ b o x l z r, u = .rw b o m k x ∧ x ≠ 4 ∧ H'.get b = some (.cells l z) ∧ bu l o (m * k) = some r ∧ r.map mk = s.map mk) ∨
  ∃ b o c kk l z r, hd u = .sl b o m c kk ∧ m ≤ c ∧ H'.get b = some (.cells l z) ∧ bu l o (m * k) = some r ∧ r.map mk = s.map mk
theorem Ft {m k j b x : Nat} {l s : List AV} {z : Bool} {u : AV} {H' : AH} (h1 : u = .rw b 0 j k x) (hj : j = m) (hb : H'.get b = some (.cells l z)) (hl : l.map mk = s.map mk) (hs : s.length = m * k) (hx : x ≠ 4 := by decide) : FrG m k s u H' := by
  subst hj
  exact .inr (.inr (.inl ⟨b, 0, x, l, z, l, h1, hx, hb, cD (by have := congrArg List.length hl; simp only [List.length_map] at this; omega), hl⟩))
def Ph.more (φ : Ph) (z : Fz → Prop) : Ph := ⟨φ.f, fun q => φ.z q ∨ z q, φ.y, φ.s⟩
theorem Ph.tF (φ : Ph) (z : Fz → Prop) : PLe φ (φ.more z) := ⟨fun _ _ e => e, fun _ e => .inl e, fun _ e => e⟩
theorem HR.more {h : Hp} (hr : HR φ H n h0 h) {z : Fz → Prop} (hz : ∀ q, z q → FzR (φ.more z) h q ∧ h0.f q.B = none ∧ (∀ b o p, H.get b = some o → o.own = true → φ b = some p → p.B ≠ q.B) ∧ ∀ b Q, H.get b = some (.sep Q) → ¬ φ.s b q.B) : HR (φ.more z) H n h0 h := by
  refine ⟨hr.dom, fun b o hb => (hr.live b o hb).imp id fun ⟨p, ob, h1, h2, h3, h4⟩ => ⟨p, ob, h1, h2, h3, h4.mono (φ.tF z)⟩, hr.inj, hr.base, hr.size, fun q hq => ?_, hr.lR (Nat.le_refl _) (fun x Q hx => ⟨hx, rfl⟩) (fun _ h => .inl h) (fun q h => h.imp id fun h => (hz q h).2.2.2) (fun _ _ _ _ _ => rfl) fun b' o' p' e1 e2 e3 => .inl ⟨b', o', p', e1, e2, e3, rfl⟩⟩
  rcases hq with hq | hq
  · obtain ⟨⟨h1, h2⟩, h3⟩ := hr.frz q hq
    exact ⟨⟨FzR.mono (φ.tF z).z h1, h2⟩, h3⟩
  · obtain ⟨h1, h2, h3⟩ := hz q hq
    exact ⟨⟨h1, .inr h2⟩, h3.1⟩
theorem x7 {H' : AH} {n' : Nat} {g : Hp} {m k : Nat} {s : List AV} {u : AV} {w : Value} (hr : HR φ H n h0 hp) (hg : HR ψ H' n' hp g) (hy : ∀ q, ψ.y q → φ.z q) (hs : s.all flat.flat1 = true) (hsl : s.length = m * k) (hu : VR ψ u w) (he : FrG m k s u H') :
    ∃ χ, PLe φ χ ∧ HR χ H n h0 g ∧ VR χ (.fr m k s) w := by
  have hg2 : HR φ H n h0 g := hr.grow (fun b o hb => (hg.base b o hb).2) hg.size
  have hb0 : ∀ B, hp.f B = none → h0.f B = none := fun B e => by
    cases q : h0.f B with
    | none => rfl
    | some o => have := (hr.base B o q).2; rw [e] at this; cases this
  have own : ∀ B, hp.f B = none → ∀ b o p, H.get b = some o → o.own = true → φ b = some p → p.B ≠ B := fun B e b o p hb hw hp' q => by
    obtain ⟨ob, _, h1, _⟩ := hr.of hb hp'
    rw [q, e] at h1; cases h1
  have nsp : ∀ B, hp.f B = none → ∀ b Q, H.get b = some (.sep Q) → ¬ φ.s b B := fun B e b Q hb hB => by
    obtain ⟨o, ho⟩ := Q.ex _ _ _ _ (hr.sep b Q hb).1 hB
    rw [e] at ho; cases ho
  have none : ∀ {a : Option Addr} {C : Nat}, m = 0 → s = [] → w = .slice a 0 C → (a = none → C = 0) → ∃ χ, PLe φ χ ∧ HR χ H n h0 g ∧ VR χ (.fr m k s) w := fun {a C} h1 h2 h3 h4 => by
    subst h1 h2 h3
    exact ⟨φ, .refl φ, hg2, .fre h4⟩
  have new : ∀ (B a C : Nat) (c : Array Value) (t : TypeId) (fz : Nat × Nat), hp.f B = .none → B < g.n → g.f B = some (.cells c t fz) → a + m * k ≤ c.size → (∃ χ, CR χ c a s) → m ≤ C → w = .slice (some ⟨B, a, .none⟩) m C → ∃ χ, PLe φ χ ∧ HR χ H n h0 g ∧ VR χ (.fr m k s) w := by
    intro B a C c t fz h1 h2 h3 h4 ⟨χ, h5⟩ h6 h7
    subst h7
    have hst : s.all rI = true := by
      rw [List.all_eq_true] at hs ⊢
      intro x hx
      have := hs x hx
      cases x <;> first | rfl | cases this
    refine ⟨φ.more fun q => q = ⟨B, a, s⟩, φ.tF _, hg2.more fun q hq => ?_, ?_⟩
    · subst hq
      exact ⟨⟨⟨h2, hst⟩, c, t, fz, h3, (show a + s.length ≤ c.size by omega), CR.kf h5 rfl hs⟩, hb0 _ h1, own _ h1, nsp _ h1⟩
    · have : VR (φ.more fun q => q = ⟨B, a, s⟩) (.fr m k s) (.slice (some ⟨B, a + 0, .none⟩) m C) := .fr (q := ⟨B, a, s⟩) (o := 0) (.inr rfl) h6 (cD hsl)
      exact this
  rcases he with ⟨e, hm, hs0⟩ | ⟨rfl, _⟩ | ⟨b, o, x, l, z, r, rfl, hx, hb, hsub, hmk⟩ | ⟨b, o, c, kk, l, z, r, e, hc, hb, hsub, hmk⟩
  · have := hu.hd
    rw [e] at this
    exact none hm hs0 this.cg fun _ => rfl
  · rcases hu.nR with ⟨h1, h2, a, C, h3, h4⟩ | ⟨q, o, C, hq, rfl, hC, hl⟩
    · exact none h1 h2 h3 h4
    · obtain ⟨⟨hf, hyq⟩, _⟩ := hg.frz q hq
      rcases hyq with hyq | hyq
      · exact ⟨φ, .refl φ, hg2, .fr (hy q hyq) hC hl⟩
      · obtain ⟨⟨h1, h2⟩, c, t, fz, h3, h4, h5⟩ := hf
        obtain ⟨g1, g2⟩ := bj hl
        exact new q.B (q.s + o) C c t fz hyq h1 h3 (by omega) ⟨ψ, by rw [g2]; exact CR.drop h5⟩ hC rfl
  · rcases hu.eM with ⟨h1, hem⟩ | ⟨p, a, C, hpb, rfl, h2, h3, h4, h5, _, _⟩
    · exact none h1 (List.eq_nil_of_length_eq_zero (by rw [hsl, h1, Nat.zero_mul])) (hem.nil hx) fun _ => rfl
    · obtain ⟨ob, hq0, hq1, cc, t, fz, rfl, o1, o2, o3, o4, o5⟩ := hg.of hb hpb
      by_cases hm : m = 0
      · exact none (a := some ⟨p.B, a, .none⟩) hm (List.eq_nil_of_length_eq_zero (by rw [hsl, hm, Nat.zero_mul])) (by rw [hm]) fun q => by cases q
      · have ha := h2 hm
        subst ha
        obtain ⟨g1, g2⟩ := bj hsub
        have h6 : CR ψ cc (p.s + o) r := by rw [g2]; exact CR.drop o5
        exact new p.B (p.s + o) C cc t fz hq0 (hg.dom _ _ hpb).2 hq1 (by omega) ⟨ψ, CR.kf h6 hmk hs⟩ h4 rfl
  · have := hu.hd
    rw [e] at this
    obtain ⟨p, C, hpb, rfl, hC0, hC1⟩ := this.dI
    obtain ⟨ob, hq0, hq1, cc, t, fz, rfl, o1, o2, o3, o4, o5⟩ := hg.of hb hpb
    obtain ⟨g1, g2⟩ := bj hsub
    have h6 : CR ψ cc (p.s + o) r := by rw [g2]; exact CR.drop o5
    have hlC : m ≤ C := by
      by_cases hk0 : kk = 0
      · rw [hC0 hk0]; exact hc
      · exact Nat.le_trans hc (hC1 hk0).1
    exact new p.B (p.s + o) C cc t fz hq0 (hg.dom _ _ hpb).2 hq1 (by omega) ⟨ψ, CR.kf h6 hmk hs⟩ hlC rfl
theorem aB {F : FuncId → EP} (hF : bG F) (d : Nat) (f : FuncId) : aF f (az F d f) := fun args H n κ hs φ h0 h vs K hr hargs hk => cM (by kernel_rfl) hF d f args H n κ hs φ h0 h vs K hr hargs hk
theorem C9 {f : FuncId} {run : List AV → AH → Nat → PK → Prop} (hrun : aF f run) {args0 : List AV} {H0 : AH} {n0 m k : Nat} {s : List AV} (hs : s.all flat.flat1 = true) (hsl : s.length = m * k) (h : run args0 H0 n0 fun u H' _ => FrG m k s u H')
    {vs : Array Value} {κ : PK} {K : KH} (hk' : κ (.fr m k s) H n) (hr : HR φ H n h0 hp) (hk : bV φ h0 κ K) (hic : aj Try.prog f = true) {φ0 : Ph} (hr0 : Wf hp → HR φ0 H0 n0 hp hp) (hy : φ0.y = φ.z) (hargs : VRs φ0 args0 vs.toList) : cL Try.prog f vs hp K := by
  have key : Wf hp → cL Try.prog f vs hp K := fun hw => hrun args0 H0 n0 _ h φ0 hp hp vs K (hr0 hw) hargs fun ψ u H' n' w g hle hg hu he => by
    obtain ⟨χ, h1, h2, h3⟩ := x7 hr hg (fun q hq => hy ▸ hle.y q hq) hs hsl hu he
    exact hk χ _ H n w g h1 h2 h3 hk'
  exact ⟨hic, fun w hi => (key hi.wf).2 w hi⟩
theorem zb {F : FuncId → EP} (hF : bG F) {d : Nat} {f : FuncId} {args0 : List AV} {H0 : AH} {n0 m k : Nat} {s : List AV} (hs : s.all flat.flat1 = true) (hsl : s.length = m * k) (h : az F d f args0 H0 n0 fun u H' _ => FrG m k s u H')
    {vs : Array Value} {κ : PK} {K : KH} (hk' : κ (.fr m k s) H n) (hr : HR φ H n h0 hp) (hk : bV φ h0 κ K) (hic : aj Try.prog f = true) {φ0 : Ph} (hr0 : Wf hp → HR φ0 H0 n0 hp hp) (hy : φ0.y = φ.z) (hargs : VRs φ0 args0 vs.toList) : cL Try.prog f vs hp K :=
  C9 (aB hF d f) hs hsl h hk' hr hk hic hr0 hy hargs
end
end Go.Proofs.Ythjggjhebbdkdaa
