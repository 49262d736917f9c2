/- Texts of our own, joined: the engine, the machine that runs code, and what is known of the functions. -/
import Derived.Test.YtdfeigkooeeeaaaJe
set_option linter.unusedSimpArgs false
set_option linter.unusedVariables false
namespace Go.Proofs.Ytdfeigkooeeeaaa
open Go Go.RowKit
set_option maxRecDepth 20000
section
variable {φ : Ph} {H : AH} {n : Nat} {h0 h : Hp} {σ : AE} {ρ : Env}
theorem optP_inv {α : Type} {o : Option α} {k : α → Prop} (h : optP o k) : ∃ a, o = some a ∧ k a := by
  cases o with
  | none => exact h.elim
  | some a => exact ⟨a, rfl, h⟩
theorem optP_of {α : Type} {o : Option α} {k : α → Prop} {a : α} (h : o = some a) (hk : k a) : optP o k := by subst h; exact hk
theorem bifP_inv {b : Bool} {t : Prop} (h : bifP b t False) : b = true ∧ t := by
  cases b with
  | true => exact ⟨rfl, h⟩
  | false => exact h.elim
theorem Ask.inv {α : Type} {o : Option α} {k : α → Prop} (h : Ask o k) : ∃ a, o = some a ∧ k a := by
  obtain ⟨a, h1, h2⟩ := h; exact ⟨a, h1, h2⟩
theorem VR.hd {a : AV} {v : Value} (h : VR φ a v) : VR φ (hd a) v := by cases a <;> exact h
theorem VR.mk {a : AV} {v : Value} (h : VR φ a v) : VR φ (mk a) v := by cases a <;> exact h
theorem VRs.mapHd : ∀ {l : List AV} {vs : List Value}, VRs φ l vs → VRs φ (l.map Go.Proofs.Ytdfeigkooeeeaaa.hd) vs
  | [], vs, h => by rw [h.nil_inv]; exact .nil
  | a :: l, vs, h => by
    obtain ⟨v, us, rfl, h1, h2⟩ := h.cons_inv
    exact .cons h1.hd (VRs.mapHd h2)
theorem VR.aggHd {l : List AV} {v : Value} (h : VR φ (.agg l) v) : VR φ (.agg (l.map Go.Proofs.Ytdfeigkooeeeaaa.hd)) v := by
  obtain ⟨cs, rfl, h1⟩ := h.agg_inv
  exact .agg h1.mapHd
/-- What follows an operation of the machine that asks. -/
def ThenP (φ : Ph) (h0 : Hp) (κ : PK) (K : KH) : Prop := ∀ (ψ : Ph) (v : AV) (H : AH) (n : Nat) (u : Value) (g : Hp), PLe φ ψ → HR ψ H n h0 g → VR ψ v u → κ v H n → K u g
theorem ThenP.then {κ : PK} {K : KH} {v : AV} (hk : ThenP φ h0 κ K) (h : κ v H n) : Then φ h0 v H n K := fun ψ u g h1 h2 h3 => hk ψ v H n u g h1 h2 h3 h
theorem ThenP.thenMk {κ : PK} {K : KH} {r : AV × AH × Nat} (hk : ThenP φ h0 κ K) (h : mk3 κ r) : Then φ h0 r.1 r.2.1 r.2.2 K := fun ψ u g h1 h2 h3 => hk ψ _ _ _ u g h1 h2 h3.mk h
def CPok (call : CP) : Prop := ∀ (f : FuncId) (args : List AV) (H : AH) (n : Nat) (κ : PK), call f args H n κ → ∀ (φ : Ph) (h0 h : Hp) (vs : Array Value) (K : KH), HR φ H n h0 h → VRs φ args vs.toList → ThenP φ h0 κ K → CallF Try.prog f vs h K

/-! ### operations -/
theorem symP_sound {P : Program} {op : BinOp} {t : TypeId} {k j : IntKind} {a b : Int} {c : Bool} {κ : AV → Prop} {K : Value → Prop} (hs : symP op k j a b c κ) (hk : ∀ r u, κ r → VR φ r u → K u) : abin P op t (.int k a) (.int j b) K := by
  have hi : ∀ {x}, κ (.si k x) → K (.int k x) := fun h => hk _ _ h (.si _ _)
  have hb : ∀ {x}, κ (.sb x) → K (.bool x) := fun h => hk _ _ h (.sb _)
  have kd : ∀ {A : Prop}, bifP (kindq k j) A False → k = j ∧ A := fun h => by
    obtain ⟨h1, h2⟩ := bifP_inv h
    rw [kindq_eq] at h1
    exact ⟨by simpa using h1, h2⟩
  cases op <;> simp only [symP] at hs
  case shl =>
    cases c with
    | false => exact ⟨hs.1, hi hs.2⟩
    | true =>
      cases hl : ltq b 0 with
      | true => rw [hl] at hs; exact hs.elim
      | false =>
        rw [hl] at hs
        rw [ltq_eq] at hl
        have : ¬ b < 0 := by simpa using hl
        exact ⟨by omega, hi hs⟩
  case shr =>
    cases c with
    | false => exact ⟨hs.1, hi hs.2⟩
    | true =>
      cases hl : ltq b 0 with
      | true => rw [hl] at hs; exact hs.elim
      | false =>
        rw [hl] at hs
        rw [ltq_eq] at hl
        have : ¬ b < 0 := by simpa using hl
        exact ⟨by omega, hi hs⟩
  all_goals (obtain ⟨hkj, h2⟩ := kd hs; clear hs; subst hkj)
  case quo =>
    cases c with
    | false => exact ⟨rfl, h2.1, hi h2.2⟩
    | true =>
      cases hl : eqq b 0 with
      | true => rw [hl] at h2; exact h2.elim
      | false =>
        rw [hl] at h2
        rw [eqq_eq] at hl
        exact ⟨rfl, by simpa using hl, hi h2⟩
  case rem =>
    cases c with
    | false => exact ⟨rfl, h2.1, hi h2.2⟩
    | true =>
      cases hl : eqq b 0 with
      | true => rw [hl] at h2; exact h2.elim
      | false =>
        rw [hl] at h2
        rw [eqq_eq] at hl
        exact ⟨rfl, by simpa using hl, hi h2⟩
  case neq =>
    refine ⟨rfl, ?_⟩
    have : decide (a ≠ b) = !decide (a = b) := by simp
    rw [this]; exact hb h2
  all_goals first | exact ⟨rfl, hi h2⟩ | exact ⟨rfl, hb h2⟩
theorem strP_sound {P : Program} {op : BinOp} {t : TypeId} {a b : List Nat} {κ : AV → Prop} {K : Value → Prop} (ha : ∀ x ∈ a, x < 256) (hb : ∀ x ∈ b, x < 256) (hs : strP op a b κ) (hk : ∀ r u, κ r → VR φ r u → K u) : abin P op t (.string (vstr a)) (.string (vstr b)) K := by
  have key : ∀ {r : AV}, estr op a b = some r → κ (mk r) → abin P op t (.string (vstr a)) (.string (vstr b)) K := fun e h1 => estr_sound (φ := φ) ha hb e fun u hu => hk _ u h1 hu.mk
  cases op <;> simp only [strP] at hs
  case add => exact key (r := .str (a ++ b)) (by simp only [estr]; rw [if_pos hs.1]) hs.2
  all_goals first | exact hs.elim | exact key rfl hs
theorem bolP_sound {op : BinOp} {t : TypeId} {a b : Bool} {κ : AV → Prop} {K : Value → Prop} (hs : bolP op t a b κ) (hk : ∀ r u, κ r → VR φ r u → K u) : abin Try.prog op t (.bool a) (.bool b) K := by
  obtain ⟨h1, h2⟩ := bifP_inv hs
  have ht := isBoolT_spec h1
  cases op <;> first | exact h2.elim | exact ⟨ht, hk _ _ h2 (.sb _)⟩
theorem binP_sound (hr : HR φ H n h0 h) {op : BinOp} {t : TypeId} {x y : AV} {v u : Value} {κ : AV → Prop} {K : Value → Prop} (hx : VR φ x v) (hy : VR φ y u) (hs : binP op t x y H κ) (hk : ∀ r u, κ r → VR φ r u → K u) : abinH Try.prog op t v u h K := by
  unfold binP at hs
  split at hs
  · obtain ⟨r, h1, h2⟩ := optP_inv hs
    rw [hx.int_inv, hy.int_inv]
    show abin Try.prog op t (.int _ _) (.int _ _) K
    exact eint_sound (φ := φ) h1 fun u hu => hk _ u h2 hu
  · rw [hx.int_inv, hy.si_inv]; exact symP_sound (P := Try.prog) (t := t) hs hk
  · rw [hx.si_inv, hy.int_inv]; exact symP_sound (P := Try.prog) (t := t) hs hk
  · rw [hx.si_inv, hy.si_inv]; exact symP_sound (P := Try.prog) (t := t) hs hk
  · obtain ⟨rfl, h1⟩ := hx.ss_inv
    obtain ⟨rfl, h2⟩ := hy.ss_inv
    exact strP_sound (P := Try.prog) (t := t) h1 h2 hs hk
  · obtain ⟨rfl, h1⟩ := hx.ss_inv
    obtain ⟨rfl, h2⟩ := hy.str_inv
    exact strP_sound (P := Try.prog) (t := t) h1 h2 hs hk
  · obtain ⟨rfl, h1⟩ := hx.str_inv
    obtain ⟨rfl, h2⟩ := hy.ss_inv
    exact strP_sound (P := Try.prog) (t := t) h1 h2 hs hk
  · rw [hx.sb_inv, hy.sb_inv]; exact bolP_sound hs hk
  · rw [hx.sb_inv, hy.bool_inv]; exact bolP_sound hs hk
  · rw [hx.bool_inv, hy.sb_inv]; exact bolP_sound hs hk
  · rename_i xs ys
    cases hb : (xs.any isS || ys.any isS) with
    | true =>
      rw [hb] at hs
      obtain ⟨r, h1, h2⟩ := optP_inv hs
      exact ebin_sound hr hx.aggHd hy.aggHd h1 fun u hu => hk _ u h2 hu.mk
    | false =>
      rw [hb] at hs
      obtain ⟨r, h1, h2⟩ := optP_inv hs
      exact ebin_sound hr hx hy h1 fun u hu => hk _ u h2 hu
  · obtain ⟨r, h1, h2⟩ := optP_inv hs
    exact ebin_sound hr hx hy h1 fun u hu => hk _ u h2 hu
theorem unP_sound {op : UnOp} {x : AV} {v : Value} {κ : AV → Prop} {K : Value → Prop} (hx : VR φ x v) (hs : unP op x κ) (hk : ∀ r u, κ r → VR φ r u → K u) : aun op v K := by
  unfold unP at hs
  split at hs
  · rw [hx.sb_inv]; exact hk _ _ hs (.sb _)
  · rw [hx.si_inv]; exact hk _ _ hs (.si _ _)
  · rw [hx.si_inv]; exact hk _ _ hs (.si _ _)
  · obtain ⟨r, h1, h2⟩ := optP_inv hs
    exact eun_sound hx h1 fun u hu => hk _ u h2 hu
theorem mmP_sound {q : Bool} {x y : AV} {v u : Value} {κ : AV → Prop} {K : Value → Prop} (hx : VR φ x v) (hy : VR φ y u) (hs : mmP q x y κ) (hk : ∀ r u, κ r → VR φ r u → K u) : aminmax q v u K := by
  unfold mmP at hs
  split at hs
  · rw [hx.si_inv, hy.si_inv]; exact hk _ _ hs (.si _ _)
  · rw [hx.si_inv, hy.int_inv]; exact hk _ _ hs (.si _ _)
  · rw [hx.int_inv, hy.si_inv]; exact hk _ _ hs (.si _ _)
  · obtain ⟨r, h1, h2⟩ := optP_inv hs
    exact emm_sound hx hy h1 fun u hu => hk _ u h2 hu
theorem lenP_sound (hr : HR φ H n h0 h) {t : TypeId} {x : AV} {v : Value} {κ : AV → Prop} {K : Value → Prop} (hx : VR φ x v) (hs : lenP t x H κ) (hk : ∀ r u, κ r → VR φ r u → K u) : alen Try.prog t v h K := by
  unfold lenP at hs
  split at hs
  · obtain ⟨r, h1, h2⟩ := optP_inv hs
    exact elen_sound hr hx.hd h1 fun u hu => hk _ u h2 hu.mk
  · obtain ⟨r, h1, h2⟩ := optP_inv hs
    exact elen_sound hr hx.hd h1 fun u hu => hk _ u h2 hu.mk
  · obtain ⟨h1, h2⟩ := bifP_inv hs
    have hu : ∃ e, Try.prog.underlying t = some (.slice e) := by
      unfold isSlT at h1
      split at h1
      · rename_i e; exact ⟨_, e⟩
      · cases h1
    obtain ⟨e, hu⟩ := hu
    rcases hx.rw_inv with ⟨rfl, he⟩ | ⟨p, a, C, _, rfl, _⟩
    · obtain ⟨_, rfl⟩ := he.is; simp only [alen, hu]; exact hk _ _ h2 (.si _ _)
    · simp only [alen, hu]; exact hk _ _ h2 (.si _ _)
  · obtain ⟨h1, h2⟩ := bifP_inv hs
    have hu : ∃ e, Try.prog.underlying t = some (.slice e) := by
      unfold isSlT at h1
      split at h1
      · rename_i e; exact ⟨_, e⟩
      · cases h1
    obtain ⟨e, hu⟩ := hu
    obtain ⟨a, C, rfl⟩ := hx.fr_is
    simp only [alen, hu]; exact hk _ _ h2 (.si _ _)
  · obtain ⟨r, h1, h2⟩ := optP_inv hs
    exact elen_sound hr hx h1 fun u hu => hk _ u h2 hu
theorem ixP_spec {ix : AV} {len : Nat} {s : Bool} {v : Value} {κ : Nat → Prop} (hx : VR φ ix v) (hs : ixP ix len s κ) : ∃ i, i < len ∧ (∃ k, v = .int k (i : Int)) ∧ κ i := by
  unfold ixP at hs
  split at hs
  · obtain ⟨j, rfl, h1, h2⟩ := hs
    exact ⟨j, h1, ⟨_, hx.si_inv⟩, h2⟩
  · obtain ⟨j, rfl, h1, h2⟩ := hs
    exact ⟨j, h1, ⟨_, hx.int_inv⟩, h2⟩
  · obtain ⟨i, h1, h2⟩ := optP_inv hs
    obtain ⟨h3, h4⟩ := eix_spec hx h1
    exact ⟨i, h3, h4, h2⟩
theorem indexAddrP_sound {t : TypeId} {x ix : AV} {v u : Value} {κ : AV → Prop} {K : Value → Prop} (hx : VR φ x v) (hi : VR φ ix u) (hs : indexAddrP t x ix κ) (hk : ∀ r u, κ r → VR φ r u → K u) : aindexAddr Try.prog t v u K := by
  have sl : ∀ {e b o m c k s}, Try.prog.underlying t = some (.slice e) → VR φ (.sl b o m c k) v → optP (tySize Try.prog e) (fun k => ixP ix m s fun i => κ (.ptr b (o + i * k))) → aindexAddr Try.prog t v u K := fun {e b o m c k s} hu hx hs => by
    obtain ⟨es, h1, h2⟩ := optP_inv hs
    obtain ⟨i, h3, ⟨kk, rfl⟩, h4⟩ := ixP_spec hi h2
    obtain ⟨p, C, hp, rfl, _, _⟩ := hx.sl_inv
    simp only [aindexAddr, hu, h1]
    refine ⟨by omega, by omega, ?_⟩
    rw [Int.toNat_natCast, Nat.add_assoc]
    exact hk _ _ h4 (.ptr hp)
  unfold indexAddrP at hs
  split at hs
  · rename_i hu; exact sl hu hx hs
  · rename_i hu; exact sl hu hx.hd hs
  · rename_i hu
    obtain ⟨es, h1, h2⟩ := optP_inv hs
    obtain ⟨i, h3, ⟨kk, rfl⟩, h4⟩ := ixP_spec hi h2
    rcases hx.rw_inv with ⟨h5, _⟩ | ⟨p, a, C, hp, rfl, ha, _⟩
    · omega
    have ha := ha (by omega)
    subst ha
    simp only [aindexAddr, hu, h1]
    refine ⟨by omega, by omega, ?_⟩
    rw [Int.toNat_natCast, Nat.add_assoc]
    exact hk _ _ h4 (.ptr hp)
  · rename_i hu
    obtain ⟨es, h1, h2⟩ := optP_inv hs
    obtain ⟨hes, h2b⟩ := bifP_inv h2
    have := Nat.eq_of_beq_eq_true hes
    subst this
    obtain ⟨i, h3, ⟨kk, rfl⟩, h4⟩ := ixP_spec hi h2b
    rcases hx.fr_inv with ⟨h5, _⟩ | ⟨q, y, C, hq, rfl, hC, hl⟩
    · omega
    simp only [aindexAddr, hu, h1]
    refine ⟨by omega, by omega, ?_⟩
    rw [Int.toNat_natCast]
    have hlen : ∀ {n : Nat} {l : List AV}, subL q.L y n = some l → subL q.L y l.length = some l := fun {n l} hl => by
      have : l.length = n := by obtain ⟨g1, g2⟩ := subL_spec hl; rw [g2]; simp; omega
      rw [this]; exact hl
    exact hk _ _ h4 (.fa hq (hlen hl))
  · rename_i len el b o hu
    obtain ⟨es, h1, h2⟩ := optP_inv hs
    obtain ⟨i, h3, ⟨kk, rfl⟩, h4⟩ := ixP_spec hi h2
    obtain ⟨p, hp, rfl⟩ := hx.ptr_inv
    simp only [aindexAddr, hu, h1]
    refine ⟨by omega, by omega, ?_⟩
    rw [Int.toNat_natCast, Nat.add_assoc]
    exact hk _ _ h4 (.ptr hp)
  · exact hs.elim
theorem indexP_sound {t : TypeId} {x ix : AV} {v u : Value} {κ : AV → Prop} {K : Value → Prop} (hx : VR φ x v) (hi : VR φ ix u) (hs : indexP t x ix κ) (hk : ∀ r u, κ r → VR φ r u → K u) : aindex Try.prog t v u K := by
  have str : ∀ {s : List Nat} {i c : Nat} {kk : IntKind} {q : Bool}, Try.prog.underlying t = some .string → VR φ (.str s) v → u = .int kk (i : Int) → i < s.length → nth s i = some c → (∀ u, VR φ (.int .u8 (Int.ofNat c)) u → K u) → aindex Try.prog t v u K := fun {s i c kk q} hu hx he hlt hc hk => by
    obtain ⟨rfl, hs⟩ := hx.str_inv
    subst he
    rw [nth_eq] at hc
    have h2 := hs c (List.mem_of_getElem? hc)
    simp only [aindex, hu, vstr_toList, Int.toNat_natCast, List.getElem?_map, hc, Option.map_some]
    refine ⟨by omega, hk _ ?_⟩
    have : ((UInt8.ofNat c).toNat : Int) = Int.ofNat c := by
      rw [UInt8.toNat_ofNat', Nat.mod_eq_of_lt h2]; rfl
    rw [this]; exact .int _ _
  unfold indexP at hs
  split at hs
  · rename_i len el l hu
    obtain ⟨cs, rfl, hl⟩ := hx.agg_inv
    obtain ⟨k, h1, h2⟩ := optP_inv hs
    obtain ⟨i, h3, ⟨kk, rfl⟩, h4⟩ := ixP_spec hi h2
    obtain ⟨r, h5, h6⟩ := optP_inv h4
    simp only [aindex, hu, h1]
    refine ⟨by omega, by omega, ?_⟩
    rw [Int.toNat_natCast]
    exact epart_sound hl h5 fun u hu => hk _ u h6 hu
  · rename_i s hu
    obtain ⟨i, h3, ⟨kk, he⟩, h4⟩ := ixP_spec hi hs
    obtain ⟨c, h5, h6⟩ := optP_inv h4
    refine str (q := true) hu hx he h3 h5 fun u hu => ?_
    split at h6
    · exact hk _ u h6 hu
    · exact hk _ u h6 hu.mk
  · rename_i s hu
    obtain ⟨i, h3, ⟨kk, he⟩, h4⟩ := ixP_spec hi hs
    obtain ⟨c, h5, h6⟩ := h4.inv
    exact str (q := true) hu hx.hd he h3 h5 fun u hu => hk _ u h6 hu.mk
  · exact hs.elim
theorem getP_load {l : List AV} {t : TypeId} {b o : Nat} {κ : AV → Prop} {z : Bool} (hb : H.get b = some (.cells l z) ∨ H.get b = some (.ro l)) (hs : getP l t o κ) : ∃ r, eload Try.prog t (.ptr b o) H = some r ∧ κ r := by
  unfold getP at hs
  split at hs
  · rename_i hg
    obtain ⟨r, h1, h2⟩ := optP_inv hs
    exact ⟨r, by rcases hb with hb | hb <;> simp only [eload, hb, hg, h1], h2⟩
  · rename_i hg
    obtain ⟨m, h1, h2⟩ := optP_inv hs
    obtain ⟨r, h3, h4⟩ := optP_inv h2
    exact ⟨.agg r, by rcases hb with hb | hb <;> simp only [eload, hb, hg, h1, h3, Option.map_some], h4⟩
  · exact hs.elim
theorem loadP_sound (hr : HR φ H n h0 h) {t : TypeId} {a : AV} {v : Value} {κ : AV → Prop} {K : Value → Prop} (ha : VR φ a v) (hs : loadP t a H κ) (hk : ∀ r u, κ r → VR φ r u → K u) : aload Try.prog t v h K := by
  unfold loadP at hs
  split at hs
  · split at hs
    · rename_i hb
      obtain ⟨r, h1, h2⟩ := getP_load (.inl hb) hs
      exact eload_sound hr ha h1 fun u hu => hk _ u h2 hu
    · rename_i hb
      obtain ⟨r, h1, h2⟩ := getP_load (z := true) (.inr hb) hs
      exact eload_sound hr ha h1 fun u hu => hk _ u h2 hu
    · exact hs.elim
  · rename_i l o
    obtain ⟨q, y, hq, rfl, hl⟩ := ha.fa_inv
    obtain ⟨⟨⟨_, c, tt, fz, hc, hsz, hcr⟩, _⟩, _⟩ := hr.frz q hq
    have hcl : CR φ c (q.s + y) l := by
      obtain ⟨g1, g2⟩ := subL_spec hl
      rw [g2]; exact CR.drop hcr
    unfold getP at hs
    simp only [aload, hc]
    split at hs
    · rename_i hg
      obtain ⟨r, h1, h2⟩ := optP_inv hs
      obtain ⟨v, g1, g2⟩ := hcl.nth h1
      simp only [hg, g1]
      exact hk _ _ h2 g2
    · rename_i hg
      obtain ⟨m, h1, h2⟩ := optP_inv hs
      obtain ⟨r, h3, h4⟩ := optP_inv h2
      obtain ⟨vs, g1, g2⟩ := hcl.sub h3
      simp only [hg, h1, g1]
      exact hk _ _ h4 (.agg (by simpa using g2))
    · exact hs.elim
  · exact hs.elim
theorem storeP_sound (hr : HR φ H n h0 h) {t : TypeId} {a x : AV} {av xv : Value} {κ : PK} {K : KH} (ha : VR φ a av) (hx : VR φ x xv) (hs : storeP t a x H n κ) (hk : ThenP φ h0 κ K) : astore Try.prog t av xv h K := by
  unfold storeP at hs
  split at hs
  · split at hs
    · rename_i l z hb
      obtain ⟨s, h1, h2⟩ := optP_inv hs
      obtain ⟨h3, h4⟩ := bifP_inv h2
      obtain ⟨l', h5, h6⟩ := optP_inv h4
      refine estore_sound hr ha hx (r := undefA) ?_ (hk.then h6)
      simp only [estore, hb, h1, h3, h5]
    · exact hs.elim
  · exact hs.elim
theorem slow3 {κ : PK} {K : KH} {q : Bool} {e e' : AR} {A : Prop} (hk : ThenP φ h0 κ K) (hs : bifP q (Ask e' (mk3 κ)) (optP e (un3 κ)))
    (a : ∀ r H' n', e = some (r, H', n') → Then φ h0 r H' n' K → A) (b : ∀ r H' n', e' = some (r, H', n') → Then φ h0 r H' n' K → A) : A := by
  cases q with
  | true =>
    obtain ⟨r, h1, h2⟩ := Ask.inv hs
    exact b _ _ _ h1 (hk.thenMk h2)
  | false =>
    obtain ⟨r, h1, h2⟩ := optP_inv hs
    exact a _ _ _ h1 (hk.then h2)
theorem pickP_inv {c : AV} {v : Value} {A B : Prop} (hc : VR φ c v) (hs : pickP c A B) : ∃ q, v = .bool q ∧ (q = true → A) ∧ (q = false → B) := by
  unfold pickP at hs
  split at hs
  · exact ⟨true, hc.bool_inv, fun _ => hs, fun k => by cases k⟩
  · exact ⟨false, hc.bool_inv, (fun k => by cases k), fun _ => hs⟩
  · rename_i q; exact ⟨q, hc.sb_inv, hs.t, hs.f⟩
  · exact hs.elim
theorem noCall_ok : ∀ f, COk Try.prog f (noCall f) := fun f args H n v H' n' e => by cases e
theorem slowP_sound (hr : HR φ H n h0 h) (hf : FR φ σ ρ) {o : Op} {κ : PK} {K : KH} (hs : slowP o σ H n κ) (hk : ThenP φ h0 κ K) : astep Try.prog o ρ h K := by
  obtain ⟨⟨v, H', n'⟩, h1, h2⟩ := optP_inv hs
  exact estep_sound noCall_ok hr hf h1 (hk.then h2)
theorem Then.int {κ : PK} {K : KH} {k : IntKind} {a : Int} (hr : HR φ H n h0 h) (hk : ThenP φ h0 κ K) (h1 : κ (.si k a) H n) : K (.int k a) h := hk φ _ H n _ h (PLe.refl _) hr (.si k a) h1
/-- A slice's bounds as known ones. -/
theorem eslice_hd (hf : FR φ σ ρ) {t : TypeId} {x r : AV} {v : Value} {lo hi mx : Option Operand} {K : Value → Prop} (hx : VR φ x v) (e : eslice Try.prog t (hd x) ((lo.map (eev σ)).map hd) ((hi.map (eev σ)).map hd) ((mx.map (eev σ)).map hd) = some r)
    (hk : ∀ u, VR φ r u → K u) : aslice Try.prog t v (lo.map ρ.ev) (hi.map ρ.ev) (mx.map ρ.ev) K := by
  -- three slots that hold the bounds
  have key : ∀ (l h m : Option AV) (lv hv mv : Option Value), (∀ a, l = some a → ∃ u, lv = some u ∧ VR φ a u) → (l = none → lv = none) → (∀ a, h = some a → ∃ u, hv = some u ∧ VR φ a u) → (h = none → hv = none) → (∀ a, m = some a → ∃ u, mv = some u ∧ VR φ a u) → (m = none → mv = none) →
      eslice Try.prog t (hd x) l h m = some r → aslice Try.prog t v lv hv mv K := by
    intro l h m lv hv mv a1 a2 a3 a4 a5 a6 e
    let σ' : AE := ((PM.nil.set l depthE 0).set h depthE 1).set m depthE 2
    let ρ' : Env := fun i => if i = 0 then lv.getD undef else if i = 1 then hv.getD undef else mv.getD undef
    have hf' : FR φ σ' ρ' := fun i a ha => by
      rcases PM.get_set depthE _ 2 i a ha with ⟨rfl, h2⟩ | ⟨h1, h2⟩
      · obtain ⟨u, rfl, h3⟩ := a5 a h2; exact h3
      · rcases PM.get_set depthE _ 1 i a h2 with ⟨rfl, h4⟩ | ⟨h3, h4⟩
        · obtain ⟨u, rfl, h3⟩ := a3 a h4; exact h3
        · rcases PM.get_set depthE _ 0 i a h4 with ⟨rfl, h6⟩ | ⟨h5, h6⟩
          · obtain ⟨u, rfl, h3⟩ := a1 a h6; exact h3
          · cases h6
    have sl : ∀ (i : Nat) (q : Option AV) (qv : Option Value), (∀ a, q = some a → getq (pa i) σ' = a ∧ ∃ u, qv = some u ∧ ρ' i = u) → (q = none → qv = none) → ∃ o : Option Operand, o.map (eev σ') = q ∧ o.map ρ'.ev = qv := fun i q qv b1 b2 => by
      cases q with
      | none => exact ⟨none, rfl, by rw [b2 rfl]; rfl⟩
      | some a =>
        obtain ⟨c1, u, c2, c3⟩ := b1 a rfl
        exact ⟨some (.tmp i), by simp only [Option.map_some, eev, c1], by simp only [Option.map_some, Env.ev, c2, c3]⟩
    obtain ⟨o1, p1, q1⟩ := sl 0 l lv (fun a ha => by subst ha; obtain ⟨u, rfl, _⟩ := a1 a rfl; exact ⟨by cases h <;> cases m <;> rfl, u, rfl, rfl⟩) a2
    obtain ⟨o2, p2, q2⟩ := sl 1 h hv (fun a ha => by subst ha; obtain ⟨u, rfl, _⟩ := a3 a rfl; exact ⟨by cases l <;> cases m <;> rfl, u, rfl, rfl⟩) a4
    obtain ⟨o3, p3, q3⟩ := sl 2 m mv (fun a ha => by subst ha; obtain ⟨u, rfl, _⟩ := a5 a rfl; exact ⟨by cases l <;> cases h <;> rfl, u, rfl, rfl⟩) a6
    rw [← q1, ← q2, ← q3]
    rw [← p1, ← p2, ← p3] at e
    exact eslice_sound hf' hx.hd e hk
  have s1 : ∀ (o : Option Operand) (a : AV), (o.map (eev σ)).map hd = some a → ∃ u, o.map ρ.ev = some u ∧ VR φ a u := fun o a ha => by
    cases o with
    | none => cases ha
    | some y => injection ha with ha; subst ha; exact ⟨_, rfl, (hf.ev y).hd⟩
  have s2 : ∀ o : Option Operand, (o.map (eev σ)).map hd = none → o.map ρ.ev = none := fun o ha => by
    cases o with
    | none => rfl
    | some y => cases ha
  exact key _ _ _ _ _ _ (s1 lo) (s2 lo) (s1 hi) (s2 hi) (s1 mx) (s2 mx) e
theorem ebnd_hd (hf : FR φ σ ρ) {x : Option Operand} {d i : Nat} (e : ebnd ((x.map (eev σ)).map hd) d = some i) (d' : Int) (hd' : x = none → (i : Int) = d') : bnd (x.map ρ.ev) d' = some (i : Int) := by
  cases x with
  | none => simp only [Option.map_none, bnd]; rw [hd' rfl]
  | some y =>
    simp only [Option.map_some, ebnd] at e
    have hy := (hf.ev y).hd
    split at e
    · rename_i q; cases q
    · rename_i k j q
      injection e with e; subst e
      injection q with q
      rw [q] at hy
      simp only [Option.map_some, hy.int_inv, bnd]
      rfl
    · cases e
theorem rsl_sound (hf : FR φ σ ρ) {t : TypeId} {b o m k q : Nat} {v : Value} {lo hi mx : Option Operand} {κ : AV → Prop} {K : Value → Prop} (hx : VR φ (.rw b o m k q) v) (hs : rslP t b o m k q (lo.map (eev σ)) (hi.map (eev σ)) (mx.map (eev σ)) κ)
    (hk : ∀ r u, κ r → VR φ r u → K u) : aslice Try.prog t v (lo.map ρ.ev) (hi.map ρ.ev) (mx.map ρ.ev) K := by
  unfold rslP at hs
  split at hs
  case h_2 => exact hs.elim
  rename_i e hu
  obtain ⟨es, h1, h2⟩ := optP_inv hs
  obtain ⟨h3, l, hh, hl, he, hm, g1, g2, h4⟩ := bifP_inv h2
  have := Nat.eq_of_beq_eq_true h3
  subst this
  have e1 := ebnd_hd hf hl 0 (fun q => by subst q; rw [ebnd_none hl]; rfl)
  have e2 := ebnd_hd hf he (m : Int) (fun q => by subst q; rw [ebnd_none he])
  have him : (Option.map ρ.ev mx).isSome = true → (Option.map ρ.ev hi).isSome = true := fun q' => by
    rw [isSome_map] at q' ⊢
    rcases hm with hm | ⟨hm, _⟩
    · cases mx with
      | none => cases q'
      | some y => cases hm
    · rw [isSome_map] at hm; exact hm
  have hno : hi = none → hh = m := fun q => by subst q; exact ebnd_none he
  have hlo : lo = none → l = 0 := fun q => by subst q; exact ebnd_none hl
  have key : ∀ (base : Option Addr) (C M : Nat), bnd (mx.map ρ.ev) (C : Int) = some (M : Int) → hh ≤ M → M ≤ C → K (sliceOf base l hh M es) → aslice Try.prog t (.slice base m C) (lo.map ρ.ev) (hi.map ρ.ev) (mx.map ρ.ev) K := fun base C M e3 hM hMC hK => by
    simp only [aslice, hu, h1, e1, e2, e3]
    refine ⟨him, by omega, by omega, ?_, by omega, ?_⟩
    · unfold upTo; split
      · trivial
      · omega
    · rw [Int.toNat_natCast, Int.toNat_natCast, Int.toNat_natCast]; exact hK
  have bm : ∀ C : Nat, hh ≤ C → ∃ M : Nat, bnd (mx.map ρ.ev) (C : Int) = some (M : Int) ∧ hh ≤ M ∧ M ≤ C ∧ (mx = none → M = C) ∧ (mx ≠ none → M = hh) := fun C hC => by
    rcases hm with hm | ⟨_, hm⟩
    · have hmn : mx = none := by cases mx with | none => rfl | some y => cases hm
      subst hmn
      exact ⟨C, rfl, hC, Nat.le_refl _, fun _ => rfl, fun q => absurd rfl q⟩
    · by_cases hmn : mx = none
      · subst hmn
        exact ⟨C, rfl, hC, Nat.le_refl _, fun _ => rfl, fun q => absurd rfl q⟩
      · exact ⟨hh, ebnd_hd hf hm (C : Int) (fun q => absurd q hmn), Nat.le_refl _, hC, fun q => absurd q hmn, fun _ => rfl⟩
  have hlen : rwN m l hh (lo.map (eev σ)) (hi.map (eev σ)) = hh - l := by
    cases lo <;> cases hi
    · have := hno rfl; have := hlo rfl; show m = hh - l; omega
    · have := hlo rfl; show hh = hh - l; omega
    · have := hno rfl; show m - l = hh - l; omega
    · rfl
  have hoff : rwO o es l (lo.map (eev σ)) = o + l * es := by
    cases lo
    · have := hlo rfl; subst this; show o = o + 0 * es; omega
    · rfl
  rcases hx.rw_inv with ⟨rfl, hem⟩ | ⟨p, a, C, hp, rfl, ha, g3, g4, g7, g5, g6⟩
  · obtain ⟨base, rfl⟩ := hem.is
    have hh0 : hh = 0 := by omega
    have hl0 : l = 0 := by omega
    obtain ⟨M, e3, hM, hMC, _, _⟩ := bm 0 (by omega)
    have hM0 : M = 0 := by omega
    refine key base 0 M e3 hM hMC (hk _ _ h4 ?_)
    unfold rwSub
    rw [hlen, hoff, hh0, hl0, hM0]
    show VR φ _ (.slice base 0 0)
    refine .rwe rfl ?_
    rcases hem with h | ⟨h4, a, h⟩
    · exact .inl h
    · subst h4
      cases hi with
      | none => exact .inr ⟨rfl, a, h⟩
      | some y =>
        cases mx with
        | none => exact .inr ⟨rfl, a, h⟩
        | some z => exact .inr ⟨rfl, a, h⟩
  · obtain ⟨M, e3, hM, hMC, hM1, hM2⟩ := bm C (by omega)
    refine key _ C M e3 hM hMC (hk _ _ h4 ?_)
    unfold rwSub
    rw [hlen, hoff, sliceOf_some]
    have hmul : l * es + (M - l) * es ≤ C * es := by
      rw [← Nat.add_mul]; exact Nat.mul_le_mul_right es (by omega)
    have hmul2 : l * es + (hh - l) * es ≤ m * es := by
      rw [← Nat.add_mul]; exact Nat.mul_le_mul_right es (by omega)
    have hx5 : rwX q (hi.map (eev σ)) (mx.map (eev σ)) = 1 → M - l = hh - l := by
      cases hi with
      | none =>
        have hmn : mx = none := by
          cases mx with
          | none => rfl
          | some y => have := him rfl; cases this
        subst hmn
        intro hq
        have := g6 hq
        have := hno rfl
        have := hM1 rfl
        omega
      | some y =>
        cases mx with
        | none =>
          intro hq
          exfalso
          have hq : (match q with
            | 0 => 0
            | 1 => 0
            | x + 2 => x + 2) = 1 := hq
          split at hq <;> omega
        | some z => intro _; rw [hM2 (by simp)]
    have hx6 : rwX q (hi.map (eev σ)) (mx.map (eev σ)) < 2 → a + l * es + (M - l) * es ≤ p.s + p.T := by
      cases hi with
      | none => intro hq; have := g5 hq; omega
      | some y =>
        cases mx with
        | none =>
          intro hq
          have hq : (match q with
            | 0 => 0
            | 1 => 0
            | x + 2 => x + 2) < 2 := hq
          split at hq
          · have := g5 (by omega); omega
          · have := g5 (by omega); omega
          · omega
        | some z => intro _; rw [hM2 (by simp)]; omega
    split
    · rename_i hMl
      subst hMl
      have e0 : (M - M) * es = 0 := by rw [Nat.sub_self, Nat.zero_mul]
      have e1 : (hh - M) * es = 0 := by rw [show hh - M = 0 from by omega, Nat.zero_mul]
      have : 0 ≤ m * es := Nat.zero_le _
      exact .rwx hp (fun hne => by omega) g3 (by omega) (by omega) (fun hq => by omega) hx5
    · exact .rwx hp (fun hne => by have := ha (by omega); omega) (by omega) (by omega) (by omega) hx6 hx5
theorem subL_drop {α : Type} {M L : List α} {o n l : Nat} (h : subL M o n = some L) (hl : l ≤ n) : subL M (o + l) (n - l) = some (L.drop l) := by
  obtain ⟨h1, rfl⟩ := subL_spec h
  unfold subL
  rw [Nat.ble_eq_true_of_le (by omega)]
  simp only [List.drop_take, List.drop_drop]
theorem subL_take {α : Type} {M L : List α} {o n l : Nat} (h : subL M o n = some L) (hl : l ≤ n) : subL M o l = some (L.take l) := by
  obtain ⟨h1, rfl⟩ := subL_spec h
  unfold subL
  rw [Nat.ble_eq_true_of_le (by omega)]
  simp only [List.take_take]
  rw [Nat.min_eq_left hl]
theorem fsl_sound (hf : FR φ σ ρ) {t : TypeId} {m k : Nat} {L : List AV} {v : Value} {lo hi : Option Operand} {κ : AV → Prop} {K : Value → Prop} (hx : VR φ (.fr m k L) v) (hs : fslP t m k L (lo.map (eev σ)) (hi.map (eev σ)) κ)
    (hk : ∀ r u, κ r → VR φ r u → K u) : aslice Try.prog t v (lo.map ρ.ev) (hi.map ρ.ev) none K := by
  unfold fslP at hs
  split at hs
  case h_2 => exact hs.elim
  rename_i e hu
  obtain ⟨es, h1, h2⟩ := optP_inv hs
  obtain ⟨h3, l, hh, hl, he, hm, g1, g2, h4⟩ := bifP_inv h2
  have := Nat.eq_of_beq_eq_true h3
  subst this
  have e1 := ebnd_hd hf hl 0 (fun q => by subst q; rw [ebnd_none hl]; rfl)
  have e2 := ebnd_hd hf he (m : Int) (fun q => by subst q; rw [ebnd_none he])
  have hno : hi = none → hh = m := fun q => by subst q; exact ebnd_none he
  have hlo : lo = none → l = 0 := fun q => by subst q; exact ebnd_none hl
  have key : ∀ (base : Option Addr) (C : Nat), m ≤ C → K (sliceOf base l hh C es) → aslice Try.prog t (.slice base m C) (lo.map ρ.ev) (hi.map ρ.ev) none K := fun base C hC hK => by
    have e3 : bnd (none : Option Value) (C : Int) = some (C : Int) := rfl
    simp only [aslice, hu, h1, e1, e2, e3]
    refine ⟨fun q => (by cases q), by omega, by omega, ?_, by omega, ?_⟩
    · unfold upTo; split
      · trivial
      · omega
    · rw [Int.toNat_natCast, Int.toNat_natCast, Int.toNat_natCast]; exact hK
  have hlen : rwN m l hh (lo.map (eev σ)) (hi.map (eev σ)) = hh - l := by
    cases lo <;> cases hi
    · have := hno rfl; have := hlo rfl; show m = hh - l; omega
    · have := hlo rfl; show hh = hh - l; omega
    · have := hno rfl; show m - l = hh - l; omega
    · rfl
  have hfr : L.length = m * es → frL es L l hh (lo.map (eev σ)) (hi.map (eev σ)) = (L.drop (l * es)).take ((hh - l) * es) := fun hL => by
    cases lo <;> cases hi
    · have := hno rfl; have := hlo rfl
      subst this
      show L = _
      rw [Nat.zero_mul, List.drop_zero, List.take_of_length_le (by rw [hL]; subst_vars; simp)]
    · have := hlo rfl
      subst this
      show L.take (hh * es) = _
      rw [Nat.zero_mul, List.drop_zero, Nat.sub_zero]
    · have := hno rfl
      show L.drop (l * es) = _
      rw [List.take_of_length_le]
      rw [List.length_drop, hL, Nat.sub_mul]; subst_vars; exact Nat.le_refl _
    · rfl
  rcases hx.fr_inv with ⟨rfl, rfl, a, C, rfl, ha⟩ | ⟨q, y, C, hq, rfl, hC, hsub⟩
  · have hh0 : hh = 0 := by omega
    have hl0 : l = 0 := by omega
    subst hh0 hl0
    refine key a C (Nat.zero_le _) (hk _ _ h4 ?_)
    rw [hlen, hfr (by simp)]
    show VR φ (.fr (0 - 0) es ((([] : List AV).drop (0 * es)).take ((0 - 0) * es))) (sliceOf a 0 0 C es)
    have e5 : ((([] : List AV).drop (0 * es)).take ((0 - 0) * es)) = [] := by simp
    rw [e5]
    unfold sliceOf
    refine .fre fun q => ?_
    split at q
    · have := ha q; omega
    · cases a with
      | none => have := ha rfl; omega
      | some _ => cases q
  · have hL : L.length = m * es := by obtain ⟨g5, g6⟩ := subL_spec hsub; rw [g6]; simp; omega
    have hle : l * es + (hh - l) * es ≤ m * es := by rw [← Nat.add_mul]; exact Nat.mul_le_mul_right _ (by omega)
    have hs2 : subL q.L (y + l * es) ((hh - l) * es) = some ((L.drop (l * es)).take ((hh - l) * es)) := subL_take (subL_drop hsub (by omega)) (by omega)
    refine key _ C hC (hk _ _ h4 ?_)
    rw [hlen, hfr hL]
    unfold sliceOf
    split
    · rename_i hMl
      have h0 : hh - l = 0 := by omega
      rw [h0, Nat.zero_mul, List.take_zero]
      exact .fre fun q => by cases q
    · have e6 : Option.map (fun x : Addr => x.add (l * es)) (some ⟨q.B, q.s + y, none⟩) = some ⟨q.B, q.s + (y + l * es), none⟩ := by
        simp only [Option.map_some, Addr.add]
        split
        · rename_i h0; rw [h0]; rfl
        · rw [Nat.add_assoc]
      rw [e6]
      exact .fr hq (by omega) hs2
theorem sliceP_sound (hf : FR φ σ ρ) {t : TypeId} {x : Operand} {lo hi mx : Option Operand} {κ : AV → Prop} {K : Value → Prop} (hs : sliceP t (eev σ x) (lo.map (eev σ)) (hi.map (eev σ)) (mx.map (eev σ)) κ) (hk : ∀ r u, κ r → VR φ r u → K u) : aslice Try.prog t (ρ.ev x) (lo.map ρ.ev) (hi.map ρ.ev) (mx.map ρ.ev) K := by
  by_cases hx : ∃ b o n k q, eev σ x = .rw b o n k q
  · obtain ⟨b, o, m, k, q, hx⟩ := hx
    have hv := hf.ev x
    rw [hx] at hs hv
    exact rsl_sound hf hv hs hk
  by_cases hy : ∃ n k q, eev σ x = .fr n k q
  · obtain ⟨m, k, q, hy⟩ := hy
    have hv := hf.ev x
    rw [hy] at hs hv
    cases mx with
    | none => exact fsl_sound hf hv hs hk
    | some y => exact hs.elim
  have h : sliceP t (eev σ x) (lo.map (eev σ)) (hi.map (eev σ)) (mx.map (eev σ)) κ = bifP (isS (eev σ x) || (sliceP.optS (lo.map (eev σ)) || (sliceP.optS (hi.map (eev σ)) || sliceP.optS (mx.map (eev σ))))) (Ask (eslice Try.prog t (hd (eev σ x)) ((lo.map (eev σ)).map hd) ((hi.map (eev σ)).map hd) ((mx.map (eev σ)).map hd)) fun v => κ (mk v)) (optP (eslice Try.prog t (eev σ x) (lo.map (eev σ)) (hi.map (eev σ)) (mx.map (eev σ))) κ) := by
    cases q : eev σ x
    case rw => exact absurd ⟨_, _, _, _, _, q⟩ hx
    case fr => exact absurd ⟨_, _, _, q⟩ hy
    all_goals rfl
  rw [h] at hs
  cases hq : (isS (eev σ x) || (sliceP.optS (lo.map (eev σ)) || (sliceP.optS (hi.map (eev σ)) || sliceP.optS (mx.map (eev σ))))) with
  | true =>
    rw [hq] at hs
    obtain ⟨r, h1, h2⟩ := Ask.inv hs
    exact eslice_hd hf (hf.ev x) h1 fun u hu => hk _ u h2 hu.mk
  | false =>
    rw [hq] at hs
    obtain ⟨r, h1, h2⟩ := optP_inv hs
    exact eslice_sound hf (hf.ev x) h1 fun u hu => hk _ u h2 hu
theorem rsrc_spec (hr : HR φ H n h0 h) {k m : Nat} {x : AV} {xv : Value} {l : List AV} (hx : VR φ x xv) (e : RSrc H k x m l) : ∃ vs, srcCells h k xv = some (m, vs) ∧ VRs φ l vs := by
  cases e with
  | old e => exact esrc_spec hr hx.hd e
  | fr =>
    rcases hx.fr_inv with ⟨rfl, rfl, a, C, rfl, _⟩ | ⟨q, y, C, hq, rfl, hC, hsub⟩
    · refine ⟨[], ?_, VRs.nil⟩
      rcases a with _ | ⟨B, o, sp⟩
      · rfl
      · cases sp with
        | some _ => rfl
        | none =>
          simp only [srcCells]
          split
          · simp [cellsL]
          · rfl
    · obtain ⟨⟨⟨_, c, tt, fz, hc, hsz, hcr⟩, _⟩, _⟩ := hr.frz q hq
      obtain ⟨vs, g1, g2⟩ := hcr.sub hsub
      exact ⟨vs, by simp only [srcCells, hc, g1, Option.map_some], g2⟩
  | @rw b o m k' q l' _ hb hs =>
    rcases hx.rw_inv with ⟨rfl, hem⟩ | ⟨p, a, C, hp, rfl, ha, g3, g4, g7, g5, g6⟩
    · obtain ⟨_, rfl⟩ := subL_spec hs
      refine ⟨[], ?_, by simpa using VRs.nil⟩
      rcases hem with rfl | ⟨_, ⟨B, o, sp⟩, rfl⟩
      · rfl
      · cases sp with
        | some _ => rfl
        | none =>
          simp only [srcCells]
          split
          · simp [cellsL]
          · rfl
    · have key : ∃ c t fz, h.f p.B = some (.cells c t fz) ∧ CR φ c p.s l' := by
        rcases hb with hb | ⟨z, hb⟩
        · obtain ⟨ob, _, h2, c, t, fz, rfl, h3, h4, h5⟩ := hr.of hb hp
          exact ⟨c, t, fz, h2, h5⟩
        · obtain ⟨ob, _, h2, c, t, fz, rfl, h3, h4, _, _, h5⟩ := hr.of hb hp
          exact ⟨c, t, fz, h2, h5⟩
      obtain ⟨c, t, fz, h2, h5⟩ := key
      by_cases hm : m = 0
      · subst hm
        obtain ⟨_, rfl⟩ := subL_spec hs
        exact ⟨[], by simp only [srcCells, h2, Nat.zero_mul, cellsL, Option.map_some], by simpa using VRs.nil⟩
      · have := ha hm
        subst this
        obtain ⟨vs, g1, g2⟩ := h5.sub hs
        exact ⟨vs, by simp only [srcCells, h2, g1, Option.map_some], g2⟩
variable {call : CP} {κ : PK} {K : KH}
section
variable {t u e : TypeId} {ud : TypeDesc} {k by' m sn : Nat} {z : Value} {new old : List AV} {nv ov : List Value} {xv : Value}
/-- A new block for what was there, and more. -/
theorem app_new {G : AH} {zz : Bool} (hk : ThenP φ h0 κ K) (h1 : κ (.rw n 0 (sn + m) k 0) (G.set (some (.cells (old ++ new) zz)) depthH n) (n + 1)) (hG : HR φ G n h0 h) (ho : VRs φ old ov) (hn : VRs φ new nv) (hol : ov.length = sn * k) (hnl : new.length = m * k) (hz : z.cells.size = k) : growK e z (sn + m) ov nv h (Weak K) := by
  intro cap hcap
  refine ⟨_, Sub.refl _, ?_⟩
  have hcpl : ∀ q, (copies z.cells.toList q).length = q * k := fun q => by rw [copies_length]; simp [hz]
  have hlen : (ov ++ (nv ++ copies z.cells.toList (cap - (sn + m)))).length = cap * k := by
    simp only [List.length_append, hol, ← hn.length, hnl, hcpl]
    rw [← Nat.add_mul, ← Nat.add_mul]; congr 1; omega
  have hor : OR (PNew φ n ⟨h.n, 0, cap * k⟩) ⟨h.n, 0, cap * k⟩ (.cells (old ++ new) zz) (.cells (ov ++ (nv ++ copies z.cells.toList (cap - (sn + m)))).toArray e (0, 0)) := by
    refine ⟨_, e, _, rfl, ?_, by simp only [List.size_toArray, hlen]; omega, free_zero _ _, fun _ => rfl, ?_⟩
    · simp only [List.length_append, hnl, ho.length, hol]
      rw [← Nat.add_mul]; exact Nat.mul_le_mul_right k hcap
    · rw [← List.append_assoc]
      exact CR.mono (hG.ple _) (CR.of (ho.append hn) _)
  exact hk _ _ _ _ (.slice (some ⟨h.n, 0, none⟩) (sn + m) cap) _ (hG.ple _) (hG.new hor depthH) (.rw (p := ⟨h.n, 0, cap * k⟩) (PNew_same _ _ _) (fun _ => by simp) (Nat.le_refl _) hcap (by simp)) h1
theorem app_real {b C a : Nat} {p : Pl} {l : List AV} {z' : Bool} (hr : HR φ H n h0 h) (hk : ThenP φ h0 κ K) (h1 : κ (.rw n 0 (sn + m) k 0) ((H.set none depthH b).set (some (.cells (old ++ new) z')) depthH n) (n + 1))
    (hu : Try.prog.underlying t = some (.slice e)) (hud : Try.prog.underlying u = some ud) (hni : ∀ q, ud ≠ .int q) (hsz : tySize Try.prog e = some k) (hbz : tyBytes Try.prog e = some by') (hzz : tyZero Try.prog e = some z) (c1 : z.cells.size = k) (c2 : 0 < by')
    (hsrc : srcCells h k xv = some (m, nv)) (hn : VRs φ new nv) (hnl : new.length = m * k) (hone : new.all one1 = true) (big : (sn + m) * by' ≤ 140737488355328)
    (hb : H.get b = some (.cells l z')) (hp : φ b = some p) (ha : p.s ≤ a) (hC : sn ≤ C) (hT : a + C * k ≤ p.s + p.T) (hold : (sn = 0 ∧ old = []) ∨ subL l (a - p.s) (sn * k) = some old) : aappend Try.prog t u (.slice (some ⟨p.B, a, none⟩) sn C) xv h (Weak K) := by
  obtain ⟨ob, hB, hf, cc, ty, fz, rfl, q1, q2, q3, q4, q5⟩ := hr.of hb hp
  obtain ⟨ov, hov, ho, hkeep, hle⟩ : ∃ ov, cellsL cc a (sn * k) = some ov ∧ VRs φ old ov ∧ CR φ cc a old ∧ old.length = sn * k := by
    rcases hold with ⟨rfl, rfl⟩ | hold
    · exact ⟨[], by rw [Nat.zero_mul]; rfl, .nil, fun i a h => by simp at h, by simp⟩
    · obtain ⟨vs, g1, g2⟩ := q5.sub hold
      obtain ⟨g3, g4⟩ := subL_spec hold
      have e1 : p.s + (a - p.s) = a := by omega
      rw [e1] at g1
      refine ⟨vs, g1, g2, ?_, by rw [g4]; simp; omega⟩
      have := CR.drop (o := a - p.s) (m := sn * k) q5
      rw [e1, ← g4] at this
      exact this
  have hol : ov.length = sn * k := by rw [← ho.length]; exact hle
  refine ⟨e, ud, k, by', z, m, nv, hu, hud, hni, hsz, hbz, hzz, c1, c2, hsrc, fun hstay => ?_, fun _ => ⟨big, ov, by simp only [srcCells, hf, hov, Option.map_some], app_new hk h1 (hr.kill depthH b) ho hn hol hnl c1⟩⟩
  simp only [stayK, hf]
  have hCk : (sn + m) * k ≤ C * k := Nat.mul_le_mul_right k hstay
  have hadd : (sn + m) * k = sn * k + m * k := Nat.add_mul _ _ _
  have hnvl := hn.length
  refine ⟨all_one1 hn hone, by omega, q3.sub (by omega), _, Sub.refl _, ?_⟩
  have hor : OR (PNew φ n ⟨p.B, a, C * k⟩) ⟨p.B, a, C * k⟩ (.cells (old ++ new) z') (.cells (writeL cc (a + sn * k) nv) ty fz) := by
    refine ⟨_, ty, fz, rfl, by simp only [List.length_append]; omega, by rw [writeL_size]; simp only; omega, q3.sub (by simp only; omega), q4, CR.mono (hr.ple _) (CR.append ?_ ?_)⟩
    · exact CR.kept hkeep (by simp only; omega)
    · simp only
      rw [hle]
      exact CR.wrote hn (by omega)
  exact hk _ _ _ _ (.slice (some ⟨p.B, a, none⟩) (sn + m) C) _ (hr.ple _) (hr.rename (q := ⟨p.B, a, C * k⟩) hb hp rfl hor depthH depthH) (.rw (p := ⟨p.B, a, C * k⟩) (PNew_same _ _ _) (fun _ => by simp) (Nat.le_refl _) hstay (by simp)) h1
theorem app_none {G : AH} {zz : Bool} (hr : HR φ G n h0 h) (hk : ThenP φ h0 κ K) (h1 : κ (.rw n 0 (0 + m) k 0) (G.set (some (.cells ([] ++ new) zz)) depthH n) (n + 1))
    (hu : Try.prog.underlying t = some (.slice e)) (hud : Try.prog.underlying u = some ud) (hni : ∀ q, ud ≠ .int q) (hsz : tySize Try.prog e = some k) (hbz : tyBytes Try.prog e = some by') (hzz : tyZero Try.prog e = some z) (c1 : z.cells.size = k) (c2 : 0 < by')
    (hsrc : srcCells h k xv = some (m, nv)) (hn : VRs φ new nv) (hnl : new.length = m * k) (big : (0 + m) * by' ≤ 140737488355328) : aappend Try.prog t u (.slice none 0 0) xv h (Weak K) := by
  refine ⟨e, ud, k, by', z, m, nv, hu, hud, hni, hsz, hbz, hzz, c1, c2, hsrc, fun hstay => ?_, fun _ => ⟨big, [], rfl, app_new hk h1 hr .nil hn (by simp) hnl c1⟩⟩
  have hm : m = 0 := by omega
  subst hm
  have hnew : new = [] := List.eq_nil_of_length_eq_zero (by omega)
  subst hnew
  refine ⟨_, Sub.refl _, hk φ _ _ _ (.slice none 0 0) h (PLe.refl _) ?_ .rwn h1⟩
  -- a block that has no place
  have hno : φ n = none := by
    cases hq : φ n with
    | none => rfl
    | some p => exact absurd (hr.dom n p hq).1 (Nat.lt_irrefl _)
  refine ⟨fun b p hb => ⟨Nat.lt_succ_of_lt (hr.dom b p hb).1, (hr.dom b p hb).2⟩, fun b o hb => ?_, fun x y q q' px py hx hy hwx hwy hpx hpy ee => ?_, hr.base, hr.size, fun z hz => ⟨(hr.frz z hz).1, fun y oy py hy hwy hpy => ?_⟩⟩
  rotate_left 2
  · rcases PM.get_set depthH _ n y oy hy with ⟨rfl, _⟩ | ⟨_, h2⟩
    · rw [hno] at hpy; cases hpy
    · exact (hr.frz z hz).2 y oy py h2 hwy hpy
  · rcases PM.get_set depthH _ n b o hb with ⟨rfl, h2⟩ | ⟨_, h2⟩
    · injection h2 with h2; subst h2; exact .inl ⟨hno, rfl⟩
    · exact hr.live b o h2
  · have old : ∀ z r pz, (G.set (some (.cells ([] ++ []) zz)) depthH n).get z = some r → φ z = some pz → G.get z = some r := fun z r pz hz hpz => by
      rcases PM.get_set depthH _ n z r hz with ⟨rfl, _⟩ | ⟨_, h2⟩
      · rw [hno] at hpz; cases hpz
      · exact h2
    exact hr.inj x y q q' px py (old x q px hx hpx) (old y q' py hy hpy) hwx hwy hpx hpy ee
end
theorem rcopy_sound (hr : HR φ H n h0 h) {t : TypeId} {s x : AV} {sv xv : Value} {κ : PK} {K : KH} (hs : VR φ s sv) (hx : VR φ x xv) (ha : RCopy t s x H n κ) (hk : ThenP φ h0 κ K) : acopy Try.prog t sv xv h K := by
  cases ha with
  | mk k m dn b o c kk bx ox kx qx l lx new l' z hs' hx' hq ty hbx hsx hb hone hset k' =>
    obtain ⟨el, hu, hsz⟩ := ty
    have hd1 := hs.hd
    rw [hs'] at hd1
    rw [hx'] at hx
    obtain ⟨p, C, hp, rfl, _, _⟩ := hd1.sl_inv
    obtain ⟨ob, hB, hf, cc, ty, fz, rfl, h1, h2, h3, h4, h5⟩ := hr.of hb hp
    obtain ⟨s1, s2⟩ := subL_spec hsx
    have key : lenV xv = some m ∧ ∃ vs, firstC h k (min m dn) xv = some vs ∧ VRs φ (new.take (min m dn * k)) vs := by
      rcases hx.rw_inv with ⟨rfl, hem⟩ | ⟨q, a, D, hqp, rfl, ha, g3, g4, g7, g5, g6⟩
      · rw [hem.nil hq]
        exact ⟨rfl, [], rfl, by simpa using VRs.nil⟩
      · refine ⟨rfl, ?_⟩
        have kc : ∃ c t fz, h.f q.B = some (.cells c t fz) ∧ CR φ c q.s lx := by
          rcases hbx with hb | ⟨z, hb⟩
          · obtain ⟨ob, _, h2, c, t, fz, rfl, h3, h4, h5⟩ := hr.of hb hqp
            exact ⟨c, t, fz, h2, h5⟩
          · obtain ⟨ob, _, h2, c, t, fz, rfl, h3, h4, _, _, h5⟩ := hr.of hb hqp
            exact ⟨c, t, fz, h2, h5⟩
        obtain ⟨c2, t2, fz2, e1, e2⟩ := kc
        by_cases hz : min m dn = 0
        · rw [hz]
          exact ⟨[], by simp only [firstC, e1, Nat.zero_mul, cellsL], by simpa using VRs.nil⟩
        · have hm : m ≠ 0 := by omega
          have := ha hm
          subst this
          have hle : min m dn * k ≤ m * k := Nat.mul_le_mul_right _ (by omega)
          have hsub : subL lx ox (min m dn * k) = some (new.take (min m dn * k)) := by
            unfold subL
            rw [Nat.ble_eq_true_of_le (by omega), s2, List.take_take, Nat.min_eq_left hle]
          obtain ⟨vs, g1, g2⟩ := e2.sub hsub
          exact ⟨vs, by simp only [firstC, e1, g1], g2⟩
    obtain ⟨hlx, vs, g1, g2⟩ := key
    obtain ⟨q1, q2, q3⟩ := setL_spec _ _ _ _ hset
    have hgl := g2.length
    simp only [acopy, hu, hlx, hsz, g1, hf]
    refine ⟨all_one1 g2 hone, by omega, h3.sub (by omega), ?_⟩
    refine hk _ _ _ _ _ _ (PLe.refl _) (hr.put hb hp ?_ depthH) (.si _ _) k'
    exact ⟨_, ty, fz, rfl, by omega, by rw [writeL_size]; omega, h3, h4, h5.set hset g2 (by omega)⟩
theorem rapp_sound (hr : HR φ H n h0 h) {t u : TypeId} {s x : AV} {sv xv : Value} (hs : VR φ s sv) (hx : VR φ x xv) (ha : RApp t u s x H n κ) (hk : ThenP φ h0 κ K) : aappend Try.prog t u sv xv h (Weak K) := by
  cases ha with
  | grow k by' m sn new old G zz ty src hnew hone row big h1 =>
    obtain ⟨e, ud, z, hu, hud, hni, hsz, hbz, hzz, c1, c2, c3⟩ := ty.h
    obtain ⟨nv, hn1, hn2⟩ := rsrc_spec hr hx src
    cases row with
    | nsl =>
      rw [hs.nsl_inv]
      exact app_none hr hk h1 hu hud hni hsz hbz hzz c1 c2 hn1 hn2 hnew big
    | @rw b o _ l _ _ hb hsub =>
      rcases hs.rw_inv with ⟨rfl, hem⟩ | ⟨p, a, C, hp, rfl, ha, g3, g4, g7, g5, g6⟩
      · have := hem.nil (by decide)
        subst this
        obtain ⟨_, rfl⟩ := subL_spec hsub
        rw [Nat.zero_mul, List.take_zero] at h1
        exact app_none (hr.kill depthH b) hk h1 hu hud hni hsz hbz hzz c1 c2 hn1 hn2 hnew big
      · refine app_real hr hk h1 hu hud hni hsz hbz hzz c1 c2 hn1 hn2 hnew hone big hb hp g3 g4 (g5 (by decide)) ?_
        by_cases hsn : sn = 0
        · subst hsn
          obtain ⟨_, rfl⟩ := subL_spec hsub
          exact .inl ⟨rfl, by simp⟩
        · have := ha hsn
          subst this
          exact .inr (by rw [Nat.add_sub_cancel_left]; exact hsub)
    | @sl b o _ c l _ _ hb hsub hnc hc =>
      obtain ⟨p, C, hp, rfl, hC0, _⟩ := hs.sl_inv
      have := hC0 rfl
      subst this
      obtain ⟨ob, _, _, cc, ty, fz, rfl, q1, _⟩ := hr.of hb hp
      exact app_real hr hk h1 hu hud hni hsz hbz hzz c1 c2 hn1 hn2 hnew hone big hb hp (Nat.le_add_right _ _) hnc (by omega) (.inr (by rw [Nat.add_sub_cancel_left]; exact hsub))
  | exact k by' m b o sn new old hse ty src hnew hone hm row big h1 =>
    obtain ⟨e, ud, z, hu, hud, hni, hsz, hbz, hzz, c1, c2, c3⟩ := ty.h
    obtain ⟨nv, hn1, hn2⟩ := rsrc_spec hr hx src
    obtain ⟨ov, ho1, ho2⟩ := rsrc_spec hr hs row
    subst hse
    have hol : ov.length = sn * k := by
      cases row with
      | rw _ hsub => obtain ⟨g1, g2⟩ := subL_spec hsub; rw [← ho2.length, g2]; simp; omega
      | old e => cases e
    rcases hs.rw_inv with ⟨rfl, hem⟩ | ⟨p, a, C, hp, rfl, ha, g3, g4, g7, g5, g6⟩
    · have := hem.nil (by decide)
      subst this
      exact ⟨e, ud, k, by', z, m, nv, hu, hud, hni, hsz, hbz, hzz, c1, c2, hn1, fun hstay => by omega, fun _ => ⟨big, ov, ho1, app_new hk h1 hr ho2 hn2 hol hnew c1⟩⟩
    · have := g6 rfl
      exact ⟨e, ud, k, by', z, m, nv, hu, hud, hni, hsz, hbz, hzz, c1, c2, hn1, fun hstay => by omega, fun _ => ⟨big, ov, ho1, app_new hk h1 hr ho2 hn2 hol hnew c1⟩⟩
theorem quiet_step {o : Op} (ho : loudOp o = false) (h1 : apure Try.prog o ρ h fun v => K v h) : astep Try.prog o ρ h K := by
  unfold astep; rw [ho]; exact h1
theorem loud_step {o : Op} (ho : loudOp o = true) (h1 : aloud Try.prog o ρ h K) : astep Try.prog o ρ h K := by
  unfold astep; rw [ho]; exact h1
theorem args2 {l : List Operand} {s x : AV} (hf : FR φ σ ρ) (e : l.map (eev σ) = [s, x]) : ∃ v u, l.map ρ.ev = [v, u] ∧ VR φ s v ∧ VR φ x u := by
  have hm := VRs.map hf.ev l
  rw [e] at hm
  obtain ⟨v1, us, h1, h2, h3⟩ := hm.cons_inv
  obtain ⟨v2, ws, h4, h5, h6⟩ := h3.cons_inv
  rw [h4, h6.nil_inv] at h1
  exact ⟨v1, v2, h1, h2, h5⟩
theorem args1 {l : List Operand} {s : AV} (hf : FR φ σ ρ) (e : l.map (eev σ) = [s]) : ∃ v, l.map ρ.ev = [v] ∧ VR φ s v := by
  have hm := VRs.map hf.ev l
  rw [e] at hm
  obtain ⟨v1, us, h1, h2, h3⟩ := hm.cons_inv
  rw [h3.nil_inv] at h1
  exact ⟨v1, h1, h2⟩
theorem callP_sound (hcall : CPok call) (hr : HR φ H n h0 h) (hf : FR φ σ ρ) {c : Call} (hs : callP c call σ H n κ) (hk : ThenP φ h0 κ K) : astep Try.prog (.call c) ρ h K := by
  have hm := VRs.map hf.ev c.args.toList
  have fin : ∀ r u, κ r H n → VR φ r u → K u h := fun r u h1 hu => hk φ r H n u h (PLe.refl _) hr hu h1
  obtain ⟨callee, args, ats⟩ := c
  unfold callP at hs
  dsimp only at hs hm
  split at hs
  · rename_i f
    have hfv := hf.ev f
    split at hs
    · rename_i g a cs q
      rw [q] at hfv
      obtain ⟨a', c', hv, h1, h2⟩ := hfv.fn_inv
      refine loud_step rfl ?_
      show acall Try.prog (ρ.ev f) (args.map ρ.ev) h K
      rw [hv]
      show CallF Try.prog g (a' ++ args.map ρ.ev ++ c') h K
      refine hcall g _ _ _ _ hs φ h0 h _ K hr ?_ hk
      rw [Array.toList_append, Array.toList_append, Array.toList_map]
      exact (h1.append hm).append h2
    · exact hs.elim
  · refine quiet_step rfl ?_
    show qbuiltin Try.prog .len ats.toList (args.toList.map ρ.ev) h fun v => K v h
    split at hs
    · rename_i t x e1 e2
      obtain ⟨v, e3, h1⟩ := args1 hf e2
      rw [e1, e3]
      exact lenP_sound hr h1 hs fun r u => fin r u
    · exact hs.elim
  · refine quiet_step rfl ?_
    show qbuiltin Try.prog .min ats.toList (args.toList.map ρ.ev) h fun v => K v h
    split at hs
    · rename_i x y e2
      obtain ⟨v, u, e3, h1, h2⟩ := args2 hf e2
      rw [e3]
      exact mmP_sound h1 h2 hs fun r u => fin r u
    · exact hs.elim
  · refine quiet_step rfl ?_
    show qbuiltin Try.prog .max ats.toList (args.toList.map ρ.ev) h fun v => K v h
    split at hs
    · rename_i x y e2
      obtain ⟨v, u, e3, h1, h2⟩ := args2 hf e2
      rw [e3]
      exact mmP_sound h1 h2 hs fun r u => fin r u
    · exact hs.elim
  · refine loud_step rfl ?_
    show lbuiltin Try.prog .append ats.toList (args.toList.map ρ.ev) h K
    split at hs
    · rename_i t u s x e1 e2
      obtain ⟨v, w, e3, h1, h2⟩ := args2 hf e2
      rw [e1, e3]
      unfold appendP at hs
      cases hq : (isR s || isR x) with
      | true => rw [hq] at hs; exact rapp_sound hr h1 h2 hs hk
      | false => rw [hq] at hs; exact slow3 hk hs (fun _ _ _ e => eappend_sound hr h1 h2 e) (fun _ _ _ e => eappend_sound hr h1.hd h2.hd e)
    · exact hs.elim
  · refine loud_step rfl ?_
    show lbuiltin Try.prog .copy ats.toList (args.toList.map ρ.ev) h K
    split at hs
    · rename_i t u s x e1 e2
      obtain ⟨v, w, e3, h1, h2⟩ := args2 hf e2
      rw [e1, e3]
      unfold copyP at hs
      cases hq : isR x with
      | true => rw [hq] at hs; exact rcopy_sound hr h1 h2 hs hk
      | false => rw [hq] at hs; exact slow3 hk hs (fun _ _ _ e => ecopy_sound hr h1 h2 e) (fun _ _ _ e => ecopy_sound hr h1.hd h2.hd e)
    · exact hs.elim
  · exact hs.elim
theorem intKindOf_spec {t : TypeId} {k : IntKind} (h : intKindOf Try.prog t = some k) : Try.prog.underlying t = some (.int k) := by
  unfold intKindOf at h
  split at h
  · rename_i e; injection h with h; subst h; exact e
  · cases h
theorem MR.at {φ : Ph} : ∀ {es : List (AV × AV)} {ms : List MapEntry}, MR φ es ms → ∀ {i : Nat} {m : MapEntry}, ms[i]? = some m → ∃ e, es[i]? = some e ∧ VR φ e.1 m.key ∧ VR φ e.2 m.val
  | [], ms, h, i, m, e => by rw [show ms = [] from h] at e; simp at e
  | x :: es, ms, ⟨m', us, h1, h2, h3, h4⟩, 0, m, e => by
    subst h1
    simp only [List.getElem?_cons_zero, Option.some.injEq] at e
    subst e
    exact ⟨x, rfl, h2, h3⟩
  | x :: es, ms, ⟨m', us, h1, h2, h3, h4⟩, i + 1, m, e => by
    subst h1
    simp only [List.getElem?_cons_succ] at e ⊢
    exact MR.at h4 e
theorem iter_spec (hr : HR φ H n h0 h) {a : AV} {v : Value} {it b m : Nat} {seen : List Nat} {es : List (AV × AV)} (ha : a = .ptr it 0) (hv : VR φ a v) (hi : H.get it = some (.iter b m seen)) (hb : H.get b = some (.map es)) (hm : es.length = m) :
    ∃ p q ms, p.s + 0 = 0 ∧ φ it = some p ∧ φ b = some q ∧ v = .pointer (some ⟨p.B, p.s + 0, none⟩) ∧ h.f p.B = some (.mapIter (some q.B) m seen.toArray m) ∧ h.f q.B = some (.map ms m) ∧ MR φ es ms.toList ∧ Stmp ms.toList m := by
  subst ha hm
  obtain ⟨p, hp, rfl⟩ := hv.ptr_inv
  obtain ⟨ob, _, h1, hs0, q, hq, rfl⟩ := hr.of hi hp
  obtain ⟨ob, _, h2, ms, cl, rfl, h3, h4⟩ := hr.of hb hq
  have : cl = es.length := h4.1.trans h3.length.symm
  subst this
  exact ⟨p, q, ms, by omega, hp, hq, rfl, h1, h2, h3, h4⟩
theorem nxt_sound (hr : HR φ H n h0 h) {a : AV} {v : Value} {s : Bool} {κ : PK} {K : KH} (hv : VR φ a v) (hs : Nxt H a s fun v H => κ v H n) (hk : ThenP φ h0 κ K) : anext v s h K := by
  obtain ⟨it, b, m, seen, es, rfl, ha, hi, hb, hm, over, step⟩ := hs
  obtain ⟨p, q, ms, ps, hp, hq, rfl, h1, h2, h3, h4⟩ := iter_spec hr ha hv hi hb hm
  rw [ps]
  simp only [anext, h1, h2]
  refine ⟨fun e he => ?_, Nat.le_refl _, fun h0 => ?_, fun e he => ?_⟩
  · obtain ⟨i, hi'⟩ := List.getElem?_of_mem he
    have := (List.getElem?_eq_some_iff.1 hi').1
    rw [h4.2 i e hi', h4.1]; omega
  · refine hk φ _ H n _ h (PLe.refl _) hr (.tup (.cons (.bool _) .nil)) (over fun i hlt => ?_)
    have hlt' : i < ms.toList.length := by rw [← h4.1]; exact hlt
    have hmem : ms.toList[i] ∉ leftL ms.toList seen.toArray := by rw [h0]; simp
    have hb' := h4.2 i _ (List.getElem?_eq_getElem hlt')
    simp only [leftL, List.mem_filter, List.getElem_mem, true_and, hb'] at hmem
    simpa using hmem
  · simp only [leftL, List.mem_filter] at he
    obtain ⟨he1, he2⟩ := he
    obtain ⟨i, hi'⟩ := List.getElem?_of_mem he1
    have hbi := h4.2 i e hi'
    obtain ⟨x, hx, hx1, hx2⟩ := h3.at hi'
    have hns : i ∉ seen := by rw [hbi] at he2; simpa using he2
    have ho : OR φ p (.iter b m (seen ++ [i])) (.mapIter (some q.B) m (seen.toArray.push e.born) m) := ⟨by omega, q, hq, by rw [hbi]; simp⟩
    exact hk φ _ _ n _ _ (PLe.refl _) (hr.put hi hp ho depthH) (.tup (.cons (.bool _) (.cons hx1.mk (.cons hx2 .nil)))) (step i x hx hns)
theorem ent_sound (hr : HR φ H n h0 h) {a : AV} {v : Value} {κ : AV → Prop} {K : Value → Prop} (hv : VR φ a v) (hs : Ent H a κ) (hk : ∀ r u, κ r → VR φ r u → K u) : aentry v h K := by
  obtain ⟨it, b, m, i, seen, es, e, ha, hi, hb, hm, he, k⟩ := hs
  obtain ⟨p, q, ms, ps, hp, hq, rfl, h1, h2, h3, h4⟩ := iter_spec hr ha hv hi hb hm
  rw [ps]
  have hil : i < ms.toList.length := by rw [← h4.1, ← hm]; exact (List.getElem?_eq_some_iff.1 he).1
  obtain ⟨x, hx, hx1, hx2⟩ := h3.at (List.getElem?_eq_getElem hil)
  have hbi := h4.2 i _ (List.getElem?_eq_getElem hil)
  rw [he] at hx
  injection hx with hx
  subst hx
  have hbk : (seen ++ [i]).toArray.back? = some i := by simp
  have hfd : ms.find? (·.born == i) = some ms.toList[i] := by
    rw [← Array.find?_toList, List.find?_eq_some_iff_getElem]
    refine ⟨by simpa using hbi, i, hil, rfl, fun j hj => ?_⟩
    have := h4.2 j _ (List.getElem?_eq_getElem (by omega))
    have hne : ¬ (ms.toList[j]'(by omega)).born = i := by rw [this]; omega
    simpa using hne
  simp only [aentry, h1, h2, hbk, hfd]
  exact ⟨trivial, hk _ _ k (.tup (.cons hx1.mk (.cons hx2 .nil)))⟩
theorem stepP_sound (hcall : CPok call) (hr : HR φ H n h0 h) (hf : FR φ σ ρ) {o : Op} (hs : stepP o call σ H n κ) (hk : ThenP φ h0 κ K) : astep Try.prog o ρ h K := by
  have fin : ∀ r u, κ r H n → VR φ r u → K u h := fun r u h1 hu => hk φ r H n u h (PLe.refl _) hr hu h1
  unfold stepP at hs
  split at hs
  · exact quiet_step rfl (fin _ _ hs (hf.ev _))
  · exact quiet_step rfl (fin _ _ hs (hf.ev _))
  · rename_i c a b
    obtain ⟨q, h1, h2, h3⟩ := pickP_inv (hf.ev c) hs
    refine quiet_step rfl ?_
    simp only [apure, h1]
    cases q with
    | true => exact fin _ _ (h2 rfl) (hf.ev _)
    | false => exact fin _ _ (h3 rfl) (hf.ev _)
  · exact quiet_step rfl (loadP_sound hr (hf.ev _) hs fun r u => fin r u)
  · exact loud_step rfl (storeP_sound hr (hf.ev _) (hf.ev _) hs hk)
  · exact quiet_step rfl (binP_sound hr (hf.ev _) (hf.ev _) hs fun r u => fin r u)
  · exact quiet_step rfl (unP_sound (hf.ev _) hs fun r u => fin r u)
  · exact quiet_step rfl (indexAddrP_sound (hf.ev _) (hf.ev _) hs fun r u => fin r u)
  · exact quiet_step rfl (indexP_sound (hf.ev _) (hf.ev _) hs fun r u => fin r u)
  · rename_i t x lo hi mx
    refine quiet_step rfl ?_
    show aslice Try.prog t (ρ.ev x) (lo.map ρ.ev) (hi.map ρ.ev) (mx.map ρ.ev) fun v => K v h
    exact sliceP_sound (κ := fun v => κ v H n) hf hs fun r u => fin r u
  · exact loud_step rfl (slow3 hk hs (fun _ _ _ e => emake_sound hr (hf.ev _) (hf.ev _) e) (fun _ _ _ e => emake_sound hr (hf.ev _).hd (hf.ev _).hd e))
  · rename_i s d x
    refine loud_step rfl ?_
    show aconv Try.prog s d (ρ.ev x) h K
    unfold convP at hs
    split at hs
    · rename_i a q
      have hx := hf.ev x
      rw [q] at hx
      rw [hx.si_inv]
      split at hs
      · rename_i k1 k2 e1 e2
        simp only [aconv, intKindOf_spec e1, intKindOf_spec e2]
        exact fin _ _ hs (.si _ _)
      · exact hs.elim
    · have hx := hf.ev x
      cases hs with
      | mk b o m k' q l' new s' hx' hq ty hb hl hsb hκ =>
        obtain ⟨el, t1, t2, t3⟩ := ty
        rw [hx'] at hx
        rcases hx.rw_inv with ⟨rfl, hem⟩ | ⟨p, y, C, hp, hv, ha, g3, g4, g7, g5, g6⟩
        · rw [hem.nil hq]
          obtain ⟨_, rfl⟩ := subL_spec hl
          have hsb : ebytes [] = some s' := by simpa using hsb
          injection hsb with hsb; subst hsb
          simp only [aconv, t1, t3]
          exact ⟨t2, fin _ _ hκ (.ss (s := []) (fun _ hx => by cases hx))⟩
        · rw [hv]
          have key : ∃ c t fz, h.f p.B = some (.cells c t fz) ∧ CR φ c p.s l' := by
            rcases hb with hb | ⟨z, hb⟩
            · obtain ⟨ob, _, h2, c, t, fz, rfl, h3, h4, h5⟩ := hr.of hb hp
              exact ⟨c, t, fz, h2, h5⟩
            · obtain ⟨ob, _, h2, c, t, fz, rfl, h3, h4, _, _, h5⟩ := hr.of hb hp
              exact ⟨c, t, fz, h2, h5⟩
          obtain ⟨c, t, fz, h2, h5⟩ := key
          obtain ⟨vs, k1, k2⟩ : ∃ vs, cellsL c y m = some vs ∧ VRs φ new vs := by
            by_cases hm : m = 0
            · subst hm
              obtain ⟨_, rfl⟩ := subL_spec hl
              exact ⟨[], rfl, by simpa using VRs.nil⟩
            · have := ha hm
              subst this
              exact h5.sub hl
          obtain ⟨k3, k4⟩ := ebytes_spec new s' vs k2 hsb
          simp only [aconv, t1, t3, h2, k1, Option.bind_some, k3]
          exact ⟨t2, fin _ _ hκ (.ss k4)⟩
    · exact slow3 hk hs (fun _ _ _ e => econv_sound hr (hf.ev x) e) (fun _ _ _ e => econv_sound hr (hf.ev x).hd e)
  · exact callP_sound hcall hr hf hs hk
  · rename_i t m k ok
    refine quiet_step rfl ?_
    show alookup Try.prog t (ρ.ev m) (ρ.ev k) ok h fun v => K v h
    cases q : isS (eev σ k) with
    | true =>
      rw [q] at hs
      obtain ⟨r, h1, h2⟩ := Ask.inv hs
      exact elookup_sound hr (hf.ev _) (hf.ev _).hd h1 fun u hu => fin r u h2 hu
    | false =>
      rw [q] at hs
      obtain ⟨r, h1, h2⟩ := optP_inv hs
      exact elookup_sound hr (hf.ev _) (hf.ev _) h1 fun u hu => fin r u h2 hu
  · exact loud_step rfl (nxt_sound hr (hf.ev _) hs hk)
  · exact quiet_step rfl (ent_sound hr (hf.ev _) hs fun r u => fin r u)
  · exact slowP_sound hr hf hs hk
end
end Go.Proofs.Ytdfeigkooeeeaaa
namespace Go.Proofs.Ytdfeigkooeeeaaa
open Go Go.RowKit
set_option maxRecDepth 20000
/-- One outcome. -/
def Sg {α : Type} (m : (α → Prop) → Prop) : Prop := ∀ κ, m κ → ∃ v, κ v ∧ ∀ κ' : α → Prop, κ' v → m κ'
section
variable {α β : Type}
theorem Sg.one (a : α) : Sg (fun κ => κ a) := fun _ h => ⟨a, h, fun _ h => h⟩
theorem Sg.no : Sg (fun _ : α → Prop => False) := fun _ h => h.elim
theorem Sg.opt (o : Option α) : Sg (fun κ => optP o κ) := fun κ h => by
  obtain ⟨a, rfl, k⟩ := optP_inv h
  exact ⟨a, k, fun _ h => h⟩
theorem Sg.ask (o : Option α) : Sg (fun κ => Ask o κ) := fun _ ⟨a, h, k⟩ => ⟨a, k, fun _ k' => ⟨a, h, k'⟩⟩
theorem Sg.idx (i : Int) (len : Nat) : Sg (fun κ => Idx i len κ) := fun _ ⟨j, h, lt, k⟩ => ⟨j, k, fun _ k' => ⟨j, h, lt, k'⟩⟩
theorem Sg.bind {m : (α → Prop) → Prop} {k : α → (β → Prop) → Prop} (hm : Sg m) (hk : ∀ a, Sg (k a)) : Sg (fun κ => m (fun a => k a κ)) := fun κ h => by
  obtain ⟨a, h1, h2⟩ := hm _ h
  obtain ⟨v, h3, h4⟩ := hk a _ h1
  exact ⟨v, h3, fun κ' k' => h2 _ (h4 _ k')⟩
theorem Sg.map {m : (α → Prop) → Prop} (f : α → β) (hm : Sg m) : Sg (fun κ => m (fun a => κ (f a))) := hm.bind fun a => Sg.one (f a)
theorem Sg.optb {k : α → (β → Prop) → Prop} (o : Option α) (hk : ∀ a, Sg (k a)) : Sg (fun κ => optP o fun a => k a κ) := Sg.bind (Sg.opt o) hk
theorem Sg.bif {b : Bool} {m : (α → Prop) → Prop} (hm : Sg m) : Sg (fun κ => bifP b (m κ) False) := by
  cases b
  · exact Sg.no
  · exact hm
theorem Sg.bif2 {b : Bool} {m m' : (α → Prop) → Prop} (hm : Sg m) (hm' : Sg m') : Sg (fun κ => bifP b (m κ) (m' κ)) := by
  cases b
  · exact hm'
  · exact hm
theorem Sg.bifn {b : Bool} {m : (α → Prop) → Prop} (hm : Sg m) : Sg (fun κ => bifP b False (m κ)) := Sg.bif2 Sg.no hm
theorem Sg.and {p : Prop} {m : (α → Prop) → Prop} (hm : Sg m) : Sg (fun κ => p ∧ m κ) := fun κ ⟨h1, h2⟩ => by
  obtain ⟨v, h3, h4⟩ := hm κ h2
  exact ⟨v, h3, fun κ' k' => ⟨h1, h4 κ' k'⟩⟩
theorem Sg.fork {q : Bool} {m m' : (α → Prop) → Prop} (hm : Sg m) (hm' : Sg m') : Sg (fun κ => Fork q (m κ) (m' κ)) := fun κ h => by
  cases q with
  | true =>
    obtain ⟨v, h3, h4⟩ := hm κ (h.t rfl)
    exact ⟨v, h3, fun κ' k' => ⟨fun _ => h4 κ' k', fun q => by cases q⟩⟩
  | false =>
    obtain ⟨v, h3, h4⟩ := hm' κ (h.f rfl)
    exact ⟨v, h3, fun κ' k' => ⟨(fun q => by cases q), fun _ => h4 κ' k'⟩⟩
theorem Sg.pick (c a b : AV) : Sg (fun κ => pickP c (κ a) (κ b)) := by
  cases c
  case bool q => cases q <;> exact Sg.one _
  case sb q => exact Sg.fork (Sg.one _) (Sg.one _)
  all_goals exact Sg.no
end
theorem Sg.sym {op : BinOp} {k j : IntKind} {a b : Int} {c : Bool} : Sg (fun κ => symP op k j a b c κ) := by
  cases op
  case shl => cases c <;> first | exact Sg.and (Sg.one _) | exact Sg.bifn (Sg.one _)
  case shr => cases c <;> first | exact Sg.and (Sg.one _) | exact Sg.bifn (Sg.one _)
  case quo => cases c <;> first | exact Sg.bif (Sg.and (Sg.one _)) | exact Sg.bif (Sg.bifn (Sg.one _))
  case rem => cases c <;> first | exact Sg.bif (Sg.and (Sg.one _)) | exact Sg.bif (Sg.bifn (Sg.one _))
  all_goals exact Sg.bif (Sg.one _)
theorem Sg.str {op : BinOp} {a b : List Nat} : Sg (fun κ => strP op a b κ) := by
  cases op
  case add => exact Sg.and (Sg.one _)
  all_goals first | exact Sg.one _ | exact Sg.no
theorem Sg.bol {op : BinOp} {t : TypeId} {a b : Bool} : Sg (fun κ => bolP op t a b κ) := by
  cases op <;> first | exact Sg.bif (Sg.one _) | exact Sg.bif Sg.no
theorem Sg.bin {op : BinOp} {t : TypeId} {x y : AV} {H : AH} : Sg (fun κ => binP op t x y H κ) := by
  unfold binP
  split <;> first | exact Sg.sym | exact Sg.str | exact Sg.bol | exact Sg.bif2 (Sg.map mk (Sg.opt _)) (Sg.opt _) | exact Sg.opt _
theorem Sg.un {op : UnOp} {x : AV} : Sg (fun κ => unP op x κ) := by
  unfold unP
  split <;> first | exact Sg.one _ | exact Sg.opt _
theorem Sg.mm {q : Bool} {x y : AV} : Sg (fun κ => mmP q x y κ) := by
  unfold mmP
  split <;> first | exact Sg.one _ | exact Sg.opt _
theorem Sg.len {t : TypeId} {x : AV} {H : AH} : Sg (fun κ => lenP t x H κ) := by
  unfold lenP
  split <;> first | exact Sg.map mk (Sg.opt _) | exact Sg.opt _ | exact Sg.bif (Sg.one _)
theorem Sg.ix {ix : AV} {len : Nat} {s : Bool} : Sg (fun κ => ixP ix len s κ) := by
  unfold ixP
  split <;> first | exact Sg.idx _ _ | exact Sg.opt _
theorem Sg.indexAddr {t : TypeId} {x ix : AV} : Sg (fun κ => indexAddrP t x ix κ) := by
  have h : ∀ κ, indexAddrP t x ix κ = (match Try.prog.underlying t, x with
    | some (.slice e), .sl b o n _ _ => optP (tySize Try.prog e) fun k => ixP ix n false fun i => κ (.ptr b (o + i * k))
    | some (.slice e), .sy b o n _ _ => optP (tySize Try.prog e) fun k => ixP ix n true fun i => κ (.ptr b (o + i * k))
    | some (.slice e), .rw b o n _ _ => optP (tySize Try.prog e) fun k => ixP ix n true fun i => κ (.ptr b (o + i * k))
    | some (.slice e), .fr n k' l => optP (tySize Try.prog e) fun k => bifP (Nat.beq k k') (ixP ix n true fun i => κ (.fa l (i * k))) False
    | some (.array len e), .ptr b o => optP (tySize Try.prog e) fun k => ixP ix len false fun i => κ (.ptr b (o + i * k))
    | _, _ => False) := fun _ => rfl
  simp only [h]
  split <;> first | exact Sg.no | exact Sg.optb _ fun k => Sg.map _ Sg.ix | exact Sg.optb _ fun k => Sg.bif (Sg.map _ Sg.ix)
theorem Sg.index {t : TypeId} {x ix : AV} : Sg (fun κ => indexP t x ix κ) := by
  have h : ∀ κ, indexP t x ix κ = (match Try.prog.underlying t, x with
    | some (.array len e), .agg l => optP (tySize Try.prog e) fun k => ixP ix len false fun i => optP (epart Try.prog e l (i * k)) κ
    | some .string, .str s => ixP ix s.length false fun i => optP (nth s i) fun c => (match ix with
      | .int _ _ => κ (.int .u8 (Int.ofNat c))
      | _ => κ (.si .u8 (Int.ofNat c)))
    | some .string, .ss s => ixP ix s.length true fun i => Ask (nth s i) fun c => κ (.si .u8 (Int.ofNat c))
    | _, _ => False) := fun _ => rfl
  simp only [h]
  split
  · exact Sg.optb _ fun k => Sg.bind Sg.ix fun i => Sg.opt _
  · refine Sg.bind Sg.ix fun i => Sg.optb _ fun c => ?_
    split <;> exact Sg.one _
  · exact Sg.bind Sg.ix fun i => Sg.map _ (Sg.ask _)
  · exact Sg.no
theorem Sg.get {l : List AV} {t : TypeId} {o : Nat} : Sg (fun κ => getP l t o κ) := by
  have h : ∀ κ, getP l t o κ = (match tyAgg Try.prog t with
    | some false => optP (nth l o) κ
    | some true => optP (tySize Try.prog t) fun m => optP (subL l o m) fun r => κ (.agg r)
    | none => False) := fun _ => rfl
  simp only [h]
  split
  · exact Sg.opt _
  · exact Sg.optb _ fun m => Sg.map _ (Sg.opt _)
  · exact Sg.no
theorem Sg.load {t : TypeId} {a : AV} {H : AH} : Sg (fun κ => loadP t a H κ) := by
  have h : ∀ κ, loadP t a H κ = (match a with
    | .ptr b o => (match H.get b with
      | some (.cells l _) => getP l t o κ
      | some (.ro l) => getP l t o κ
      | _ => False)
    | .fa l o => getP l t o κ
    | _ => False) := fun _ => rfl
  simp only [h]
  split
  · split <;> first | exact Sg.get | exact Sg.no
  · exact Sg.get
  · exact Sg.no
theorem Sg.rsl {t : TypeId} {b o n k x : Nat} {lo hi mx : Option AV} : Sg (fun κ => rslP t b o n k x lo hi mx κ) := by
  have h : ∀ κ, rslP t b o n k x lo hi mx κ = (match Try.prog.underlying t with
    | some (.slice e) => optP (tySize Try.prog e) fun es => bifP (Nat.beq es k) (RSl lo hi mx n fun l h => κ (rwSub b o n k x lo hi mx l h)) False
    | _ => False) := fun _ => rfl
  simp only [h]
  split
  · exact Sg.optb _ fun es => Sg.bif (fun κ ⟨l, h, a, b, c, d, e, f⟩ => ⟨_, f, fun κ' k' => ⟨l, h, a, b, c, d, e, k'⟩⟩)
  · exact Sg.no
theorem Sg.fsl {t : TypeId} {n k : Nat} {L : List AV} {lo hi : Option AV} : Sg (fun κ => fslP t n k L lo hi κ) := by
  have h : ∀ κ, fslP t n k L lo hi κ = (match Try.prog.underlying t with
    | some (.slice e) => optP (tySize Try.prog e) fun es => bifP (Nat.beq es k) (RSl lo hi none n fun l h => κ (.fr (rwN n l h lo hi) k (frL k L l h lo hi))) False
    | _ => False) := fun _ => rfl
  simp only [h]
  split
  · exact Sg.optb _ fun es => Sg.bif (fun κ ⟨l, h, a, b, c, d, e, f⟩ => ⟨_, f, fun κ' k' => ⟨l, h, a, b, c, d, e, k'⟩⟩)
  · exact Sg.no
theorem Sg.slice {t : TypeId} {x : AV} {lo hi mx : Option AV} : Sg (fun κ => sliceP t x lo hi mx κ) := by
  by_cases hx : ∃ b o n k q, x = .rw b o n k q
  · obtain ⟨b, o, n, k, q, rfl⟩ := hx
    exact Sg.rsl
  by_cases hy : ∃ n k q, x = .fr n k q
  · obtain ⟨n, k, q, rfl⟩ := hy
    cases mx with
    | none => exact Sg.fsl
    | some y => exact Sg.no
  · have h : ∀ κ, sliceP t x lo hi mx κ = bifP (isS x || (sliceP.optS lo || (sliceP.optS hi || sliceP.optS mx))) (Ask (eslice Try.prog t (hd x) (lo.map hd) (hi.map hd) (mx.map hd)) fun v => κ (mk v)) (optP (eslice Try.prog t x lo hi mx) κ) := fun κ => by
      cases x <;> first | rfl | exact absurd ⟨_, _, _, _, _, rfl⟩ hx | exact absurd ⟨_, _, _, rfl⟩ hy
    simp only [h]
    exact Sg.bif2 (Sg.map mk (Sg.ask _)) (Sg.opt _)
theorem Sg.q {o : Op} {σ : AE} {H : AH} : Sg (fun κ => qP o σ H κ) := by
  unfold qP
  split
  · exact Sg.one _
  · exact Sg.one _
  · exact Sg.pick _ _ _
  · exact Sg.load
  · exact Sg.bin
  · exact Sg.un
  · exact Sg.indexAddr
  · exact Sg.index
  · exact Sg.slice
  · split <;> first | exact Sg.len | exact Sg.no
  · split <;> first | exact Sg.mm | exact Sg.no
  · split <;> first | exact Sg.mm | exact Sg.no
  · exact Sg.opt _
section
variable {φ : Ph} {H : AH} {n : Nat} {h0 h : Hp} {σ : AE} {ρ : Env} {cd : CP}
theorem qP_sound (hr : HR φ H n h0 h) (hf : FR φ σ ρ) {o : Op} {κ : AV → Prop} {K : Value → Prop} (hs : qP o σ H κ) (hk : ∀ r u, κ r → VR φ r u → K u) : apure Try.prog o ρ h K := by
  have slow : optP (epure Try.prog o σ H) κ → apure Try.prog o ρ h K := fun hs => by
    obtain ⟨r, h1, h2⟩ := optP_inv hs
    exact epure_sound hr hf h1 fun u hu => hk _ u h2 hu
  unfold qP at hs
  split at hs
  · exact hk _ _ hs (hf.ev _)
  · exact hk _ _ hs (hf.ev _)
  · rename_i c a b
    obtain ⟨q, h1, h2, h3⟩ := pickP_inv (hf.ev c) hs
    simp only [apure, h1]
    cases q with
    | true => exact hk _ _ (h2 rfl) (hf.ev _)
    | false => exact hk _ _ (h3 rfl) (hf.ev _)
  · exact loadP_sound hr (hf.ev _) hs hk
  · exact binP_sound hr (hf.ev _) (hf.ev _) hs hk
  · exact unP_sound (hf.ev _) hs hk
  · exact indexAddrP_sound (hf.ev _) (hf.ev _) hs hk
  · exact indexP_sound (hf.ev _) (hf.ev _) hs hk
  · rename_i t x lo hi mx
    show aslice Try.prog t (ρ.ev x) (lo.map ρ.ev) (hi.map ρ.ev) (mx.map ρ.ev) K
    exact sliceP_sound hf hs hk
  · rename_i xs ts
    show qbuiltin Try.prog .len ts.toList (xs.toList.map ρ.ev) h K
    split at hs
    · rename_i t x e1 e2
      obtain ⟨v, e3, h1⟩ := args1 hf e2
      rw [e1, e3]
      exact lenP_sound hr h1 hs hk
    · exact hs.elim
  · rename_i xs ts
    show qbuiltin Try.prog .min ts.toList (xs.toList.map ρ.ev) h K
    split at hs
    · rename_i x y e2
      obtain ⟨v, u, e3, h1, h2⟩ := args2 hf e2
      rw [e3]
      exact mmP_sound h1 h2 hs hk
    · exact hs.elim
  · rename_i xs ts
    show qbuiltin Try.prog .max ts.toList (xs.toList.map ρ.ev) h K
    split at hs
    · rename_i x y e2
      obtain ⟨v, u, e3, h1, h2⟩ := args2 hf e2
      rw [e3]
      exact mmP_sound h1 h2 hs hk
    · exact hs.elim
  · exact slow hs
theorem getq_setq {v : AV} : ∀ {p : Pa} {σ : AE}, getq p σ ≠ .bad → getq p (setq v p σ) = v
  | .stop, σ, h => (h rfl).elim
  | .here, .nil, h => rfl
  | .here, .node _ _ _, h => rfl
  | .lo p, .nil, h => (h rfl).elim
  | .lo p, .node l u r, h => getq_setq (p := p) (σ := l) h
  | .hi p, .nil, h => (h rfl).elim
  | .hi p, .node l u r, h => getq_setq (p := p) (σ := r) h
def GrowsA (H H' : AH) : Prop := ∀ b o, H.get b = some o → H'.get b = some o
theorem GrowsA.refl (H : AH) : GrowsA H H := fun _ _ h => h
theorem GrowsA.trans {A B C : AH} (h : GrowsA A B) (k : GrowsA B C) : GrowsA A C := fun b o e => k b o (h b o e)
theorem HR.less {H' : AH} (hr : HR φ H' n h0 h) (hg : GrowsA H H') : HR φ H n h0 h :=
  ⟨hr.dom, fun b o hb => hr.live b o (hg b o hb), fun b b' o o' p p' hb hb' => hr.inj b b' o o' p p' (hg _ _ hb) (hg _ _ hb'), hr.base, hr.size, fun z hz => ⟨(hr.frz z hz).1, fun y oy py hy => (hr.frz z hz).2 y oy py (hg _ _ hy)⟩⟩
/-- A call has one outcome, and leaves what there was. -/
def CSing (cd : CP) : Prop := ∀ f args H n κ, cd f args H n κ → ∃ v H' n', κ v H' n' ∧ GrowsA H H' ∧ n ≤ n' ∧ ∀ κ' : PK, κ' v H' n' → cd f args H n κ'
def SlotR (φ : Ph) (σ : AE) (ts : List Nat) (ρ : Env) : Prop := ∀ t ∈ ts, VR φ (getq (pa t) σ) (ρ t)
theorem filtq_FR : ∀ {ts : List Nat}, SlotR φ σ ts ρ → FR φ (filtq σ ts) ρ
  | [], _, t, a, h => by cases h
  | s :: ts, hs, t, a, h => by
    have h : (setq (getq (pa s) σ) (pa s) (filtq σ ts)).get t = some a := h
    rcases setq_get depthE _ s t a h with ⟨rfl, h2⟩ | ⟨_, h2⟩
    · rw [← h2]; exact hs _ List.mem_cons_self
    · exact filtq_FR (fun x hx => hs x (List.mem_cons_of_mem _ hx)) t a h2
def StillF (ops : Array Oper) (o : Oper) (ts : List Nat) (σ : AE) (H : AH) (v : AV) : Prop := ∀ (φ : Ph) (n : Nat) (h0 h : Hp) (ρ : Env) (K : Env → Hp → Prop), HR φ H n h0 h → SlotR φ σ ts ρ → (∀ u, VR φ v u → K (ρ.put o.dst u) h) → gstep Try.prog ops o ρ h K
def LoudF (ops : Array Oper) (o : Oper) (ts : List Nat) (σ : AE) (H : AH) (n : Nat) (v : AV) (H' : AH) (n' : Nat) : Prop := ∀ (φ : Ph) (h0 h : Hp) (ρ : Env) (K : Env → Hp → Prop), HR φ H n h0 h → SlotR φ σ ts ρ →
  (∀ ψ u g, PLe φ ψ → HR ψ H' n' h0 g → VR ψ v u → K (ρ.put o.dst u) g) → gstep Try.prog ops o ρ h K
/-- What stands for a slot stands for it by another value too. -/
def Sup (x : Option AV) (a : AV) : Prop := ∀ φ u, (∀ a', x = some a' → VR φ a' u) → VR φ a u
theorem Sup.refl {x : Option AV} {a : AV} (h : x = some a) : Sup x a := fun φ u k => k a h
theorem Sup.trans {x y : Option AV} {a : AV} (h : ∀ b, y = some b → Sup x b) (k : Sup y a) : Sup x a := fun φ u q => k φ u fun b hb => h b hb φ u q
structure StepOk (ops : Array Oper) (o : Oper) (b : DB) (hist : List (AH × Nat)) (σ : AE) (H : AH) (n : Nat) (σr : AE) (v : AV) (H1 : AH) (n1 : Nat) : Prop where
  sup : ∀ t a, σr.get t = some a → Sup (σ.get t) a
  grow : GrowsA H H1
  le : n ≤ n1
  loud : loudOp o.op = true → LoudF ops o b.2 σr H n v H1 n1
  still : loudOp o.op = false → H1 = H ∧ n1 = n ∧ ∃ G, (∀ k r, b.1 = some k → nth ((H, n) :: hist) k = some r → G = r.1) ∧ StillF ops o b.2 σr G v
def bOk (o : Oper) (b : DB) : Prop := match b.1 with
  | none => isCallV o.op = true
  | some _ => loudOp o.op = false
theorem dynOp_step (hcd : CPok cd) (hcs : CSing cd) {ops : Array Oper} {o : Oper} {b : DB} {hist : List (AH × Nat)} {k : KP} (hb : bOk o b) (hgs : gslotIn ops o b.2 = true) (hs : dynOp ops o b cd hist σ H n k) :
    ∃ σr v H1 n1, StepOk ops o b hist σ H n σr v H1 n1 ∧ k (eput σr o.dst v) H1 n1 := by
  let go : AE → Prop := fun σ => (match b.1 with
    | none => (match o.op with
      | .call c => callP c cd (filtq σ b.2) H n fun v H n => k (eput σ o.dst v) H n
      | _ => False)
    | some j => optP (nth ((H, n) :: hist) j) fun r => qP o.op (filtq σ b.2) r.1 fun v => k (eput σ o.dst v) H n)
  have did : ∀ σr, (∀ t a, σr.get t = some a → Sup (σ.get t) a) → (∀ φ ρ h K, SlotR φ σr b.2 ρ → astep Try.prog o.op ρ h (fun v h' => K (ρ.put o.dst v) h') → gstep Try.prog ops o ρ h K) → go σr →
      ∃ σr v H1 n1, StepOk ops o b hist σ H n σr v H1 n1 ∧ k (eput σr o.dst v) H1 n1 := by
    intro σr hsup hg hs
    unfold bOk at hb
    simp only [go] at hs
    cases hb1 : b.1 with
    | none =>
      rw [hb1] at hs hb
      dsimp only at hs hb
      split at hs
      · rename_i c hop
        obtain ⟨callee, args, ats⟩ := c
        rw [hop] at hb
        cases callee with
        | builtin _ => cases hb
        | invoke _ _ => cases hb
        | value f =>
          unfold callP at hs
          dsimp only at hs
          split at hs
          · rename_i g a cs q
            obtain ⟨v, H', n', h1, h2, h3, h4⟩ := hcs _ _ _ _ _ hs
            refine ⟨σr, v, H', n', ⟨hsup, h2, h3, fun _ => ?_, fun hl => ?_⟩, h1⟩
            · intro φ h0 h ρ K hr hsl hk
              refine hg φ ρ h K hsl ?_
              have hs2 : callP ⟨.value f, args, ats⟩ cd (filtq σr b.2) H n fun v2 H2 n2 => v2 = v ∧ H2 = H' ∧ n2 = n' := by
                unfold callP
                dsimp only
                rw [q]
                exact h4 _ ⟨rfl, rfl, rfl⟩
              rw [hop]
              exact callP_sound hcd hr (filtq_FR hsl) hs2 fun ψ v2 H2 n2 u g q1 q2 q3 ⟨e1, e2, e3⟩ => by
                rw [e1] at q3
                rw [e2, e3] at q2
                exact hk ψ u g q1 q2 q3
            · rw [hop] at hl; cases hl
          · exact hs.elim
      · exact hs.elim
    | some j =>
      rw [hb1] at hs hb
      dsimp only at hs hb
      obtain ⟨r, h1, h2⟩ := optP_inv hs
      obtain ⟨v, h3, h4⟩ := Sg.q _ h2
      refine ⟨σr, v, H, n, ⟨hsup, .refl _, Nat.le_refl _, fun hl => (by rw [hl] at hb; cases hb), fun _ => ⟨rfl, rfl, r.1, fun k' r' e1 e2 => ?_, ?_⟩⟩, h3⟩
      · rw [hb1] at e1
        injection e1 with e1
        subst e1
        rw [h1] at e2
        injection e2 with e2
        rw [e2]
      · intro φ n h0 h ρ K hr hsl hk
        refine hg φ ρ h K hsl (quiet_step hb ?_)
        exact qP_sound hr (filtq_FR hsl) (h4 (fun x => x = v) rfl) fun r u e hu => by
          subst e
          exact hk u hu
  have skip : ∀ σr, (∀ t a, σr.get t = some a → Sup (σ.get t) a) → (∀ φ ρ h K, SlotR φ σr b.2 ρ → K (ρ.put o.dst undef) h → gstep Try.prog ops o ρ h K) → k (eput σr o.dst undefA) H n →
      ∃ σr v H1 n1, StepOk ops o b hist σ H n σr v H1 n1 ∧ k (eput σr o.dst v) H1 n1 := by
    intro σr hsup hg hs
    refine ⟨σr, undefA, H, n, ⟨hsup, .refl _, Nat.le_refl _, fun hl => ?_, fun _ => ?_⟩, hs⟩
    · intro φ h0 h ρ K hr hsl hk
      exact hg φ ρ h K hsl (hk φ undef h (PLe.refl _) hr .undef)
    · refine ⟨rfl, rfl, (match b.1 with
        | some k => (match nth ((H, n) :: hist) k with
          | some r => r.1
          | none => H)
        | none => H), fun k r e1 e2 => by rw [e1]; dsimp only; rw [e2], ?_⟩
      intro φ n h0 h ρ K hr hsl hk
      exact hg φ ρ h K hsl (hk undef .undef)
  have same : ∀ t a, σ.get t = some a → Sup (σ.get t) a := fun t a h => .refl h
  have put : ∀ (t : Nat) (q : Bool), getq (pa t) σ = .sb q → ∀ s a, (eput σ (some t) (.bool q)).get s = some a → Sup (σ.get s) a := fun t q hq s a hg => by
    rcases setq_get depthE σ t s a hg with ⟨rfl, h2⟩ | ⟨_, h2⟩
    · subst h2
      intro φ u hu
      rcases getq_some depthE s σ _ hq with e | e
      · cases e
      · have := (hu _ e).sb_inv
        subst this
        exact .bool q
    · exact .refl h2
  have hs : (match o.guard with
    | none => go σ
    | some (j, want) => (match gslot ops j with
      | none => False
      | some t => (match getq (pa t) σ with
        | .bool q => (match q == want with
          | true => go σ
          | false => k (eput σ o.dst undefA) H n)
        | .sb q => (match want with
          | true => Fork q (go (eput σ (some t) (.bool true))) (k (eput (eput σ (some t) (.bool false)) o.dst undefA) H n)
          | false => Fork q (k (eput (eput σ (some t) (.bool true)) o.dst undefA) H n) (go (eput σ (some t) (.bool false))))
        | .tup _ => k (eput σ o.dst undefA) H n
        | _ => False))) := hs
  split at hs
  · rename_i hg
    exact did σ same (fun φ ρ h K _ ha => by unfold gstep; simp only [hg]; exact ha) hs
  · rename_i j want hg
    split at hs
    · exact hs.elim
    · rename_i t ht
      have htm : t ∈ b.2 := by
        unfold gslotIn at hgs
        rw [hg] at hgs
        dsimp only at hgs
        rw [ht] at hgs
        simpa using hgs
      have gw : ∀ (ρ : Env) (h : Hp) (K : Env → Hp → Prop), ρ t = .bool want → astep Try.prog o.op ρ h (fun v h' => K (ρ.put o.dst v) h') → gstep Try.prog ops o ρ h K := fun ρ h K hv ha => by
        unfold gstep; simp only [hg, ht, hv]
        rw [if_pos trivial]; exact ha
      have gn : ∀ (ρ : Env) (h : Hp) (K : Env → Hp → Prop), ρ t = .bool (!want) → K (ρ.put o.dst undef) h → gstep Try.prog ops o ρ h K := fun ρ h K hv ha => by
        unfold gstep; simp only [hg, ht, hv]
        rw [if_neg (by cases want <;> simp)]; exact ha
      split at hs
      · rename_i q hq
        split at hs
        · rename_i hqw
          have hqw2 : q = want := by simpa using hqw
          subst hqw2
          exact did σ same (fun φ ρ h K hsl ha => gw ρ h K (by have := hsl t htm; rw [hq] at this; exact this.bool_inv) ha) hs
        · rename_i hqw
          have hqw2 : q = !want := by cases q <;> cases want <;> simp_all
          exact skip σ same (fun φ ρ h K hsl ha => gn ρ h K (by have := hsl t htm; rw [hq] at this; rw [this.bool_inv, hqw2]) ha) hs
      · rename_i q hq
        -- the slot, by which way it is
        have gb : ∀ (q' : Bool), getq (pa t) (eput σ (some t) (.bool q')) = .bool q' := fun q' => by
          exact getq_setq (by rw [hq]; simp)
        split at hs
        · cases q with
          | true => exact did _ (put t true hq) (fun φ ρ h K hsl ha => gw ρ h K (by have := hsl t htm; rw [gb] at this; exact this.bool_inv) ha) (hs.t rfl)
          | false => exact skip _ (put t false hq) (fun φ ρ h K hsl ha => gn ρ h K (by have := hsl t htm; rw [gb] at this; rw [this.bool_inv]; rfl) ha) (hs.f rfl)
        · cases q with
          | true => exact skip _ (put t true hq) (fun φ ρ h K hsl ha => gn ρ h K (by have := hsl t htm; rw [gb] at this; rw [this.bool_inv]; rfl) ha) (hs.t rfl)
          | false => exact did _ (put t false hq) (fun φ ρ h K hsl ha => gw ρ h K (by have := hsl t htm; rw [gb] at this; exact this.bool_inv) ha) (hs.f rfl)
      · rename_i us hq
        refine skip σ same (fun φ ρ h K hsl ha => ?_) hs
        have := hsl t htm
        rw [hq] at this
        obtain ⟨cs, hv, _⟩ := this.tup_inv
        unfold gstep; simp only [hg, ht, hv]
        exact ha
      · exact hs.elim
end
end Go.Proofs.Ytdfeigkooeeeaaa
namespace Go.Proofs.Ytdfeigkooeeeaaa
open Go Go.RowKit
set_option maxRecDepth 20000
structure TR where
  v : AV
  σ : AE
  H : AH
  n : Nat
inductive Tr (ops : Array Oper) : List Oper → List DB → List (AH × Nat) → AE → AH → Nat → List TR → AE → AH → Nat → Prop
  | nil {bs : List DB} {hist : List (AH × Nat)} {σ : AE} {H : AH} {n : Nat} : Tr ops [] bs hist σ H n [] σ H n
  | cons {o : Oper} {l : List Oper} {b : DB} {bs : List DB} {hist : List (AH × Nat)} {σ : AE} {H : AH} {n : Nat} {σr : AE} {v : AV} {H1 : AH} {n1 : Nat} {tr : List TR} {σ' : AE} {H' : AH} {n' : Nat}
    (s : StepOk ops o b hist σ H n σr v H1 n1) (r : Tr ops l bs ((H, n) :: hist) (eput σr o.dst v) H1 n1 tr σ' H' n') : Tr ops (o :: l) (b :: bs) hist σ H n (⟨v, σr, H, n⟩ :: tr) σ' H' n'
section
variable {φ : Ph} {h0 h : Hp} {ρ : Env} {cd : CP} {ops : Array Oper}
theorem dynL_tr (hcd : CPok cd) (hcs : CSing cd) {kn : KP} : ∀ (l : List Oper) (bs : List DB) (hist : List (AH × Nat)) (σ : AE) (H : AH) (n : Nat), (∀ (i : Nat) o b, l[i]? = some o → bs[i]? = some b → bOk o b ∧ gslotIn ops o b.2 = true) → dynL ops l bs cd hist σ H n kn →
    ∃ tr σ' H' n', Tr ops l bs hist σ H n tr σ' H' n' ∧ kn σ' H' n'
  | [], bs, hist, σ, H, n, _, hs => ⟨[], σ, H, n, .nil, hs⟩
  | o :: l, [], hist, σ, H, n, _, hs => hs.elim
  | o :: l, b :: bs, hist, σ, H, n, hb, hs => by
    have hs : dynOp ops o b cd hist σ H n (fun σ' H' n' => dynL ops l bs cd ((H, n) :: hist) σ' H' n' kn) := hs
    obtain ⟨h1, h2⟩ := hb 0 o b rfl rfl
    obtain ⟨σr, v, H1, n1, h3, h4⟩ := dynOp_step hcd hcs h1 h2 hs
    obtain ⟨tr, σ', H', n', h5, h6⟩ := dynL_tr hcd hcs l bs _ _ H1 n1 (fun i o b e1 e2 => hb (i + 1) o b (by simpa using e1) (by simpa using e2)) h4
    exact ⟨_, σ', H', n', .cons h3 h5, h6⟩
theorem tr_length {l : List Oper} {bs : List DB} {hist : List (AH × Nat)} {σ : AE} {H : AH} {n : Nat} {tr : List TR} {σ' : AE} {H' : AH} {n' : Nat} (ht : Tr ops l bs hist σ H n tr σ' H' n') : tr.length = l.length := by
  induction ht with
  | nil => rfl
  | cons s r ih => simp [ih]
/-- What is told of one operation. -/
structure At (ops : Array Oper) (Bs : List DB) (σ0 : AE) (val : Nat → AV) (σs : Nat → AE) (Hs : Nat → AH) (ns : Nat → Nat) (i : Nat) (o : Oper) : Prop where
  look : ∀ t a, (σs i).get t = some a → Sup (curN ops val σ0 (fun _ => true) i t) a
  grow : GrowsA (Hs i) (Hs (i + 1))
  bs : ∃ b, Bs[i]? = some b ∧ (loudOp o.op = true → LoudF ops o b.2 (σs i) (Hs i) (ns i) (val i) (Hs (i + 1)) (ns (i + 1))) ∧
    (loudOp o.op = false → Hs (i + 1) = Hs i ∧ ns (i + 1) = ns i ∧ ∀ k, b.1 = some k → k ≤ i → StillF ops o b.2 (σs i) (Hs (i - k)) (val i))
theorem tr_told {Bs : List DB} {σ0 : AE} {val : Nat → AV} {σs : Nat → AE} {Hs : Nat → AH} {ns : Nat → Nat} {l : List Oper} {bs : List DB} {hist : List (AH × Nat)} {σ : AE} {H : AH} {n : Nat} {tr : List TR} {σ' : AE} {H' : AH} {n' : Nat} (ht : Tr ops l bs hist σ H n tr σ' H' n') :
    ∀ k, (∀ j : Nat, l[j]? = ops[k + j]?) → (∀ j : Nat, bs[j]? = Bs[k + j]?) → (∀ t a, σ.get t = some a → Sup (curN ops val σ0 (fun _ => true) k t) a) → (∀ j, j < k → nth hist j = some (Hs (k - 1 - j), ns (k - 1 - j))) → H = Hs k → n = ns k →
    (∀ (j : Nat) e, tr[j]? = some e → val (k + j) = e.v ∧ σs (k + j) = e.σ ∧ Hs (k + j) = e.H ∧ ns (k + j) = e.n) → Hs (k + l.length) = H' → ns (k + l.length) = n' →
    (∀ i o, k ≤ i → i < k + l.length → ops[i]? = some o → At ops Bs σ0 val σs Hs ns i o) ∧ tr.length = l.length ∧ ∀ t a, σ'.get t = some a → Sup (curN ops val σ0 (fun _ => true) (k + l.length) t) a := by
  induction ht with
  | nil => exact fun k _ _ hσ _ _ _ _ _ _ => ⟨fun i o h1 h2 => by simp at h2; omega, rfl, hσ⟩
  | @cons o l b bs hist σ H n σr v H1 n1 tr σ' H' n' s r ih =>
    intro k hl hb hσ hh hH hn htr hH' hn'
    have ho : ops[k]? = some o := by simpa using (hl 0).symm
    have hbk : Bs[k]? = some b := by simpa using (hb 0).symm
    obtain ⟨t1, t3, t4, t5⟩ := htr 0 _ rfl
    simp only [Nat.add_zero] at t1 t3 t4 t5
    have hH1 : H1 = Hs (k + 1) ∧ n1 = ns (k + 1) := by
      cases r with
      | nil => exact ⟨by simpa using hH'.symm, by simpa using hn'.symm⟩
      | cons s2 r2 =>
        obtain ⟨_, _, q4, q5⟩ := htr 1 _ rfl
        exact ⟨q4.symm, q5.symm⟩
    have hσr : ∀ t a, σr.get t = some a → Sup (curN ops val σ0 (fun _ => true) k t) a := fun t a hg => Sup.trans (fun b hb => hσ t b hb) (s.sup t a hg)
    have hσ1 : ∀ t a, (eput σr o.dst v).get t = some a → Sup (curN ops val σ0 (fun _ => true) (k + 1) t) a := fun t a hg => by
      simp only [curN, dstAt, ho, Option.bind_some, true_and]
      cases hd : o.dst with
      | none => rw [hd] at hg; rw [if_neg (by simp)]; exact hσr t a hg
      | some d =>
        rw [hd] at hg
        rcases setq_get depthE σr d t a hg with ⟨rfl, h2⟩ | ⟨h1, h2⟩
        · rw [if_pos rfl, t1, h2]; exact .refl rfl
        · rw [if_neg (by simpa using Ne.symm h1)]; exact hσr t a h2
    obtain ⟨r1, r2, r3⟩ := ih (k + 1) (fun j => by have := hl (j + 1); simpa [Nat.add_assoc, Nat.add_comm 1 j] using this) (fun j => by have := hb (j + 1); simpa [Nat.add_assoc, Nat.add_comm 1 j] using this) hσ1
      (fun j hj => by
        cases j with
        | zero =>
          show some (H, n) = _
          rw [hH, hn]; simp
        | succ j =>
          show nth hist j = _
          rw [hh j (by omega)]
          have : k - 1 - j = k + 1 - 1 - (j + 1) := by omega
          rw [this]) hH1.1 hH1.2
      (fun j e he => by
        have := htr (j + 1) e (by simpa using he)
        rwa [show k + (j + 1) = k + 1 + j from by omega] at this)
      (by rw [← hH']; congr 1; simp; omega) (by rw [← hn']; congr 1; simp; omega)
    have hlen : k + (o :: l).length = k + 1 + l.length := by simp; omega
    rw [hlen]
    refine ⟨fun i o' h1 h2 ho' => ?_, by simp [r2], r3⟩
    by_cases hi : i = k
    · subst hi
      rw [ho] at ho'; injection ho' with ho'; subst ho'
      refine ⟨?_, ?_, b, hbk, fun hl => ?_, fun hl => ?_⟩
      · rw [t3]; exact hσr
      · rw [← hH, ← hH1.1]; exact s.grow
      · rw [t3, t1, ← hH, ← hn, ← hH1.1, ← hH1.2]; exact s.loud hl
      · obtain ⟨g1, g2, G, g3, g4⟩ := s.still hl
        refine ⟨by rw [← hH1.1, ← hH]; exact g1, by rw [← hH1.2, ← hn]; exact g2, fun j hj hji => ?_⟩
        rw [t3, t1]
        have hr : ∃ r, nth ((H, n) :: hist) j = some r ∧ r.1 = Hs (i - j) := by
          cases j with
          | zero => exact ⟨(H, n), rfl, by rw [Nat.sub_zero]; exact hH⟩
          | succ j =>
            refine ⟨_, hh j (by omega), ?_⟩
            show Hs (i - 1 - j) = _
            rw [show i - 1 - j = i - (j + 1) from by omega]
        obtain ⟨r, e1, e2⟩ := hr
        rw [← e2, ← g3 j r hj e1]
        exact g4
    · exact r1 i o' (by omega) h2 ho'
/-! ### bits of what is ahead -/
theorem fold_or {A : List Nat} {i j : Nat} : ∀ (l : List Edge) (m : Nat), (l.foldl (fun m e => if Region.binds .any e && decide (e.on < i) then m ||| (2 ^ e.on ||| A.getD e.on 0) else m) m).testBit j = true →
    m.testBit j = true ∨ ∃ e ∈ l, Region.binds .any e = true ∧ e.on < i ∧ (e.on = j ∨ (A.getD e.on 0).testBit j = true)
  | [], m, h => .inl h
  | e :: l, m, h => by
    simp only [List.foldl_cons] at h
    rcases fold_or l _ h with h1 | ⟨e', h1, h2⟩
    · split at h1
      · rename_i hc
        simp only [Bool.and_eq_true, decide_eq_true_eq] at hc
        simp only [Nat.testBit_or, Bool.or_eq_true, Nat.testBit_two_pow, decide_eq_true_eq] at h1
        rcases h1 with h1 | h1 | h1
        · exact .inl h1
        · exact .inr ⟨e, List.mem_cons_self, hc.1, hc.2, .inl h1⟩
        · exact .inr ⟨e, List.mem_cons_self, hc.1, hc.2, .inr h1⟩
      · exact .inl h1
    · exact .inr ⟨e', List.mem_cons_of_mem _ h1, h2⟩
theorem befA_listed {A : List Nat} (hA : ancOk A ops = true) {listed : Array Bool} (hd : Down ops listed) {j : Nat} : ∀ (m i : Nat), i < m → (∀ o, ops[i]? = some o → ∀ e ∈ o.after, Region.binds .any e = true → listed.getD e.on false = true) → i < ops.size → befA A j i = true → listed.getD j false = true
  | 0, i, hm, _, _, _ => by omega
  | m + 1, i, hm, hi, hsz, hb => by
    have ho := Array.getElem?_eq_getElem hsz
    have h1 := List.all_eq_true.1 hA i (by simpa using hsz)
    simp only [ho, beq_iff_eq] at h1
    unfold befA at hb
    rw [h1] at hb
    rcases fold_or _ _ hb with h2 | ⟨e, h2, h3, h4, h5⟩
    · simp at h2
    · have hl := hi _ ho e (by simpa using h2) h3
      rcases h5 with h5 | h5
      · exact h5 ▸ hl
      · exact befA_listed hA hd m e.on (by omega) (fun o' ho' e' he' hb' => hd e.on o' ho' hl e' he' hb') (by omega) h5
theorem no_loud3 {Bs : List DB} {σ0 : AE} {val : Nat → AV} {σs : Nat → AE} {Hs : Nat → AH} {ns : Nat → Nat} (ht : ∀ i o, ops[i]? = some o → At ops Bs σ0 val σs Hs ns i o) : ∀ (d p : Nat), p + d ≤ ops.size → (∀ j o, p ≤ j → j < p + d → ops[j]? = some o → loudOp o.op = false) → Hs (p + d) = Hs p ∧ ns (p + d) = ns p
  | 0, _, _, _ => ⟨rfl, rfl⟩
  | d + 1, p, hle, hq => by
    obtain ⟨h1, h2⟩ := no_loud3 ht d p (by omega) fun j o a b => hq j o a (by omega)
    have hlt : p + d < ops.size := by omega
    have ho := Array.getElem?_eq_getElem hlt
    obtain ⟨b, _, _, hs⟩ := (ht _ _ ho).bs
    obtain ⟨g1, g2, _⟩ := hs (hq (p + d) _ (by omega) (by omega) ho)
    exact ⟨by rw [← h1]; exact g1, by rw [← h2]; exact g2⟩
theorem grows3 {Bs : List DB} {σ0 : AE} {val : Nat → AV} {σs : Nat → AE} {Hs : Nat → AH} {ns : Nat → Nat} (ht : ∀ i o, ops[i]? = some o → At ops Bs σ0 val σs Hs ns i o) : ∀ (d p : Nat), p + d ≤ ops.size → GrowsA (Hs p) (Hs (p + d))
  | 0, _, _ => .refl _
  | d + 1, p, hle => (grows3 ht d p (by omega)).trans (ht _ _ (Array.getElem?_eq_getElem (show p + d < ops.size by omega))).grow
theorem dyn3_any {Bs : List DB} {σ0 σ' : AE} {val : Nat → AV} {σs : Nat → AE} {Hs : Nat → AH} {ns : Nat → Nat} {N : Env → Hp → Prop} (ht : ∀ i o, ops[i]? = some o → At ops Bs σ0 val σs Hs ns i o) (hst : dynOk ops Bs = true)
    (hσ' : ∀ t a, σ'.get t = some a → Sup (curN ops val σ0 (fun _ => true) ops.size t) a) (hr : HR φ (Hs 0) (ns 0) h0 h) (hf : FR φ σ0 ρ) (hN : ∀ ψ ρ' h', PLe φ ψ → HR ψ (Hs ops.size) (ns ops.size) h0 h' → FR ψ σ' ρ' → N ρ' h') : AnyI Try.prog ops ρ h N := by
  simp only [dynOk, Bool.and_eq_true] at hst
  obtain ⟨hed, hanc, hst⟩ := hst
  generalize ancsGo ops.toList 0 [] = A at hanc hst
  have per : ∀ i o, ops[i]? = some o → ∃ b, Bs[i]? = some b ∧ (∀ t ∈ b.2, t ∈ looks ops o) ∧ (match b.1 with
      | none => isCallV o.op = true
      | some k => loudOp o.op = false ∧ k ≤ i ∧ ∀ j, j < i - k → loudAt ops j = true → befA A j i = true) ∧
      ∀ j a, j < i → ops[j]? = some a → (a.apart ops o = true ∧ (loudOp a.op = false ∨ loudOp o.op = false)) ∨ befA A j i = true := fun i o ho => by
    have hisz := (Array.getElem?_eq_some_iff.1 ho).1
    have h1 := List.all_eq_true.1 hst i (by simpa using hisz)
    unfold opOk at h1
    rw [ho] at h1
    split at h1
    · rename_i o' b e1 e2
      injection e1 with e1
      subst e1
      simp only [Bool.and_eq_true, List.all_eq_true] at h1
      obtain ⟨⟨⟨h1, _⟩, h2⟩, h3⟩ := h1
      refine ⟨b, e2, fun t htm => by simpa using h1 t htm, ?_, fun j a hlt hj => ?_⟩
      · split at h2
        · rename_i e; try simp only [e]
          exact h2
        · rename_i k e
          try simp only [e]
          simp only [Bool.and_eq_true, Bool.not_eq_true', decide_eq_true_eq, List.all_eq_true, Bool.or_eq_true] at h2
          exact ⟨h2.1, h2.2.1, fun j hj hl => by
            rcases h2.2.2 j (by simpa using hj) with q | q
            · rw [hl] at q; cases q
            · exact q⟩
      · have := h3 j (by simpa using hlt)
        rw [hj] at this
        simpa only [Bool.or_eq_true, Bool.and_eq_true, Bool.not_eq_true'] using this
    · cases h1
  have pair : ∀ i j a b, j < i → ops[i]? = some b → ops[j]? = some a → (a.apart ops b = true ∧ (loudOp a.op = false ∨ loudOp b.op = false)) ∨ befA A j i = true := fun i j a b hlt hi hj => by
    obtain ⟨_, _, _, _, h4⟩ := per i b hi
    exact h4 j a hlt hj
  refine ⟨hed, fun listed ρ1 h1 => ∃ ψ p, PLe φ ψ ∧ p ≤ ops.size ∧ HR ψ (Hs p) (ns p) h0 h1 ∧ (∀ j o, ops[j]? = some o → loudOp o.op = true → (listed.getD j false = true ↔ j < p)) ∧
      ∀ t a, curN ops val σ0 (fun j => listed.getD j false) ops.size t = some a → VR ψ a (ρ1 t), ?_, ?_, ?_⟩
  · refine ⟨φ, 0, PLe.refl _, Nat.zero_le _, hr, fun j o hj _ => ?_, fun t a e => ?_⟩
    · have : (Array.replicate ops.size false).getD j false = false := by simp [Array.getD]
      rw [this]; simp
    · have : curN ops val σ0 (fun j => (Array.replicate ops.size false).getD j false) ops.size t = curN ops val σ0 (fun j => decide (j < 0)) ops.size t :=
        curN_congr _ fun j _ _ => by simp [Array.getD]
      rw [this, curN_cut _ (Nat.zero_le _)] at e
      exact hf t a e
  · intro listed i o ρ1 h1 hsz hdn ho hun hedge ⟨ψ, p, hp, hple, hr1, hlo, henv⟩ _
    have hi : i < ops.size := (Array.getElem?_eq_some_iff.1 ho).1
    have before : ∀ j, befA A j i = true → listed.getD j false = true := fun j hb => befA_listed hanc hdn (i + 1) i (by omega) (fun o' ho' e he hb' => by
      rw [ho] at ho'; injection ho' with ho'; subst ho'
      exact hedge e he hb') hi hb
    have behind : ∀ j, j < ops.size → befA A i j = true → listed.getD j false = false := fun j hj hb => by
      cases hl : listed.getD j false with
      | false => rfl
      | true =>
        have := befA_listed hanc hdn (j + 1) j (by omega) (fun o' ho' e he hb' => hdn j o' ho' hl e he hb') hj hb
        rw [hun] at this; cases this
    have hlook : ∀ t, t ∈ looks ops o → curN ops val σ0 (fun j => listed.getD j false) ops.size t = curN ops val σ0 (fun _ => true) i t := fun t htl => by
      rw [← curN_cut (val := val) ops.size (Nat.le_of_lt hi)]
      refine curN_congr _ fun j hj hd => ?_
      have hjo := Array.getElem?_eq_getElem hj
      have hd2 : ops[j].dst = some t := by simpa [dstAt, hjo] using hd
      by_cases hji : j = i
      · subst hji; simp [hun]
      · by_cases hlt : j < i
        · rcases pair i j _ _ hlt ho hjo with ⟨ha, _⟩ | hb
          · exact absurd htl ((Oper.apart_spec ha).1 t hd2)
          · rw [before j hb]; simp [hlt]
        · rcases pair j i _ _ (by omega) hjo ho with ⟨ha, _⟩ | hb
          · exact absurd htl ((Oper.apart_spec ha).2.2 t hd2)
          · rw [behind j hj hb]; simp [hlt]
    have hat := ht i o ho
    obtain ⟨b, hb1, hb2, hb3, _⟩ := per i o ho
    obtain ⟨b', hb4, hloud, hstill⟩ := hat.bs
    rw [hb1] at hb4
    injection hb4 with hb4
    subst hb4
    have hsl : SlotR ψ (σs i) b.2 ρ1 := fun t htm => by
      rcases getq_some depthE t (σs i) _ rfl with e | e
      · show VR ψ (getq (pathOf depthE t) (σs i)) (ρ1 t)
        rw [e]; exact .bad _
      · refine hat.look t _ e ψ _ fun a' ha' => henv t a' ?_
        rw [hlook t (hb2 t htm)]; exact ha'
    have hset : ∀ j, (listed.setIfInBounds i true).getD j false = if j = i then true else listed.getD j false := fun j => getD_set (by omega)
    have henv2 : ∀ {χ : Ph} {u : Value}, PLe ψ χ → VR χ (val i) u → ∀ t a, curN ops val σ0 (fun j => (listed.setIfInBounds i true).getD j false) ops.size t = some a → VR χ a ((ρ1.put o.dst u) t) := fun {χ u} hpχ hu t a e => by
      rw [curN_upd (L := fun j => listed.getD j false) (i := i) (fun j hj => by simp only [hset, if_neg hj]) (by simp only [hset, if_true]) ops.size hi (fun j h1 h2 hd1 hd2 => by
        have hjo := Array.getElem?_eq_getElem h2
        have e1 : o.dst = some t := by simpa [dstAt, ho] using hd1
        have e2 : ops[j].dst = some t := by simpa [dstAt, hjo] using hd2
        rcases pair j i _ _ h1 hjo ho with ⟨ha, _⟩ | hb
        · exact absurd e2 ((Oper.apart_spec ha).2.1 t e1)
        · exact behind j h2 hb)] at e
      by_cases hd : o.dst = some t
      · rw [if_pos (by simpa [dstAt, ho] using hd)] at e
        injection e with e
        subst e
        rw [hd, put_some, upd_same]; exact hu
      · rw [if_neg (by simpa [dstAt, ho] using hd)] at e
        have := VR.mono hpχ _ _ (henv t a e)
        rwa [put_agree (fun x hx => by intro q; exact hd (by rw [hx, q]))]
    cases hl : loudOp o.op with
    | true =>
      have hpi : p ≤ i := by
        have := (hlo i o ho hl)
        rw [hun] at this
        by_cases hc : i < p
        · have := this.2 hc; cases this
        · omega
      have hnol : ∀ j o', p ≤ j → j < p + (i - p) → ops[j]? = some o' → loudOp o'.op = false := fun j o' h1 h2 hj => by
        cases hlj : loudOp o'.op with
        | false => rfl
        | true =>
          rcases pair i j _ _ (by omega) ho hj with ⟨_, hx⟩ | hb
          · rcases hx with hx | hx
            · rw [hlj] at hx; cases hx
            · rw [hl] at hx; cases hx
          · have := (hlo j o' hj hlj).1 (before j hb)
            omega
      obtain ⟨c1, c2⟩ := no_loud3 ht (i - p) p (by omega) hnol
      rw [show p + (i - p) = i from by omega] at c1 c2
      rw [← c1, ← c2] at hr1
      refine hloud hl ψ h0 h1 ρ1 _ hr1 hsl fun χ u g hpχ hg hu => ⟨χ, i + 1, hp.trans hpχ, hi, hg, fun j o' hj hlj => ?_, henv2 hpχ hu⟩
      rw [hset]
      by_cases hji : j = i
      · subst hji; simp
      · rw [if_neg hji]
        have hjsz := (Array.getElem?_eq_some_iff.1 hj).1
        by_cases hlt : j < i
        · have : listed.getD j false = true := by
            rcases pair i j _ _ hlt ho hj with ⟨_, hx⟩ | hb
            · rcases hx with hx | hx
              · rw [hlj] at hx; cases hx
              · rw [hl] at hx; cases hx
            · exact before j hb
          rw [this]; simp; omega
        · have : listed.getD j false = false := by
            rcases pair j i _ _ (by omega) hj ho with ⟨_, hx⟩ | hb
            · rcases hx with hx | hx
              · rw [hl] at hx; cases hx
              · rw [hlj] at hx; cases hx
            · exact behind j hjsz hb
          rw [this]; simp; omega
    | false =>
      obtain ⟨_, _, hsf⟩ := hstill hl
      have hk : ∃ k, b.1 = some k ∧ k ≤ i ∧ ∀ j, j < i - k → loudAt ops j = true → befA A j i = true := by
        split at hb3
        · rename_i e
          unfold isCallV at hb3
          split at hb3
          · rename_i f xs ts e2
            rw [e2] at hl; cases hl
          · cases hb3
        · rename_i k e
          exact ⟨k, e, hb3.2⟩
      obtain ⟨k, hk1, hk2, hk3⟩ := hk
      have hGr : GrowsA (Hs (i - k)) (Hs p) := by
        by_cases hpk : i - k ≤ p
        · have := grows3 ht (p - (i - k)) (i - k) (by omega)
          rwa [show i - k + (p - (i - k)) = p from by omega] at this
        · obtain ⟨c1, _⟩ := no_loud3 ht (i - k - p) p (by omega) fun j o' h1 h2 hj => by
            cases hlj : loudOp o'.op with
            | false => rfl
            | true =>
              have h3 := hk3 j (by omega) (by unfold loudAt; rw [hj]; exact hlj)
              have := (hlo j o' hj hlj).1 (before j h3)
              omega
          rw [show p + (i - k - p) = i - k from by omega] at c1
          rw [c1]; exact .refl _
      refine hsf k hk1 hk2 ψ (ns p) h0 h1 ρ1 _ (hr1.less hGr) hsl fun u hu => ⟨ψ, p, hp, hple, hr1, fun j o' hj hlj => ?_, henv2 (PLe.refl _) hu⟩
      rw [hset]
      by_cases hji : j = i
      · subst hji; rw [ho] at hj; injection hj with hj; subst hj; rw [hl] at hlj; cases hlj
      · rw [if_neg hji]; exact hlo j o' hj hlj
  · intro listed ρ1 h1 hsz hall ⟨ψ, p, hp, hple, hr1, hlo, henv⟩
    obtain ⟨c1, c2⟩ := no_loud3 ht (ops.size - p) p (by omega) fun j o a b hj => by
      cases hl : loudOp o.op with
      | false => rfl
      | true =>
        have := (hlo j o hj hl).1 (hall j (by omega))
        omega
    rw [show p + (ops.size - p) = ops.size from by omega] at c1 c2
    rw [← c1, ← c2] at hr1
    refine hN ψ ρ1 h1 hp hr1 fun t a e => hσ' t a e ψ _ fun a' ha' => henv t a' ?_
    rw [← ha']
    exact curN_congr _ fun j hj _ => hall j hj
theorem dynL_sound (hcd : CPok cd) (hcs : CSing cd) {Bs : List DB} {σ : AE} {H : AH} {n : Nat} {kn : KP} {N : Env → Hp → Prop} (hst : dynOk ops Bs = true) (hs : dynL ops ops.toList Bs cd [] σ H n kn) (hr : HR φ H n h0 h) (hf : FR φ σ ρ)
    (hN : ∀ ψ σ' H' n' ρ' h', PLe φ ψ → HR ψ H' n' h0 h' → FR ψ σ' ρ' → kn σ' H' n' → N ρ' h') : AnyI Try.prog ops ρ h N := by
  have hst2 := hst
  simp only [dynOk, Bool.and_eq_true] at hst2
  obtain ⟨tr, σ', H', n', h1, h2⟩ := dynL_tr hcd hcs ops.toList Bs [] σ H n (fun i o b ho hb => by
    rw [Array.getElem?_toList] at ho
    have hisz := (Array.getElem?_eq_some_iff.1 ho).1
    have h1 := List.all_eq_true.1 hst2.2.2 i (by simpa using hisz)
    unfold opOk at h1
    rw [ho, hb] at h1
    simp only [Bool.and_eq_true] at h1
    refine ⟨?_, h1.1.1.2⟩
    unfold bOk
    have h2 := h1.1.2
    split at h2
    · rename_i e; try rw [e]
      exact h2
    · rename_i k e
      try rw [e]
      simp only [Bool.and_eq_true, Bool.not_eq_true'] at h2
      exact h2.1) hs
  let dflt : TR := ⟨.bad, .nil, H', n'⟩
  let at_ : Nat → TR := fun j => (tr[j]?).getD dflt
  have hat : ∀ (j : Nat) e, tr[j]? = some e → at_ j = e := fun j e hj => by simp only [at_, hj, Option.getD_some]
  have hsize : ops.toList.length = ops.size := Array.length_toList
  have hlen : tr.length = ops.size := by
    rw [← hsize]
    exact tr_length h1
  let Hs : Nat → AH := fun j => if j < tr.length then (at_ j).H else H'
  let ns : Nat → Nat := fun j => if j < tr.length then (at_ j).n else n'
  have hend : Hs ops.size = H' ∧ ns ops.size = n' := ⟨by simp only [Hs]; rw [if_neg (by omega)], by simp only [ns]; rw [if_neg (by omega)]⟩
  have hs0 : H = Hs 0 ∧ n = ns 0 := by
    cases hl : ops.toList with
    | nil =>
      have e0 : ops.size = 0 := by rw [← hsize, hl]; rfl
      rw [hl] at h1
      cases h1
      simp only [Hs, ns]
      rw [if_neg (by omega), if_neg (by omega)]
      exact ⟨rfl, rfl⟩
    | cons o l =>
      rw [hl] at h1
      cases h1 with
      | cons s r => exact ⟨rfl, rfl⟩
  obtain ⟨told, _, hfin⟩ := tr_told (Bs := Bs) (σ0 := σ) (val := fun j => (at_ j).v) (σs := fun j => (at_ j).σ) (Hs := Hs) (ns := ns) h1 0 (fun j => by rw [Nat.zero_add, Array.getElem?_toList]) (fun j => by rw [Nat.zero_add]) (fun t a q => .refl q) (fun j hj => by omega) hs0.1 hs0.2
    (fun j e hj => by
      have hjl := (List.getElem?_eq_some_iff.1 hj).1
      rw [Nat.zero_add]
      refine ⟨by rw [hat j e hj], by rw [hat j e hj], ?_, ?_⟩
      · simp only [Hs]; rw [if_pos hjl, hat j e hj]
      · simp only [ns]; rw [if_pos hjl, hat j e hj])
    (by simp only [Hs]; rw [if_neg (by rw [hlen, hsize]; omega)])
    (by simp only [ns]; rw [if_neg (by rw [hlen, hsize]; omega)])
  rw [Nat.zero_add, hsize] at told hfin
  refine dyn3_any (fun i o ho => told i o (Nat.zero_le _) (Array.getElem?_eq_some_iff.1 ho).1 ho) hst hfin (by rw [← hs0.1, ← hs0.2]; exact hr) hf ?_
  rw [hend.1, hend.2]
  exact fun ψ ρ' h' a b c => hN ψ σ' H' n' ρ' h' a b c h2
end
end Go.Proofs.Ytdfeigkooeeeaaa
