/- The machine that asks: what it asks is enough. -/
import Derived.Test.YtaejmcgcfopmkaaEvP
namespace Go.Proofs.Ytaejmcgcfopmkaa
open Go Go.RowKit
section
variable {φ : Ph} {H : AH} {n : Nat} {h0 h : Hp} {σ : AE} {ρ : Env}
theorem optP_inv {α : Type} {o : Option α} {k : α → Prop} (h : optP o k) : ∃ a, o = some a ∧ k a := by
  cases o with
  | none => exact h.elim
  | some a => exact ⟨a, rfl, h⟩
theorem optP_of {α : Type} {o : Option α} {k : α → Prop} {a : α} (h : o = some a) (hk : k a) : optP o k := by subst h; exact hk
theorem bifP_inv {b : Bool} {t : Prop} (h : bifP b t False) : b = true ∧ t := by
  cases b with
  | true => exact ⟨rfl, h⟩
  | false => exact h.elim
theorem Ask.inv {α : Type} {o : Option α} {k : α → Prop} (h : Ask o k) : ∃ a, o = some a ∧ k a := by
  obtain ⟨a, h1, h2⟩ := h; exact ⟨a, h1, h2⟩
theorem VR.hd {a : AV} {v : Value} (h : VR φ a v) : VR φ (hd a) v := by cases a <;> exact h
theorem VR.mk {a : AV} {v : Value} (h : VR φ a v) : VR φ (mk a) v := by cases a <;> exact h
/-- What follows an operation of the machine that asks. -/
def ThenP (φ : Ph) (h0 : Hp) (κ : PK) (K : KH) : Prop := ∀ (ψ : Ph) (v : AV) (H : AH) (n : Nat) (u : Value) (g : Hp), PLe φ ψ → HR ψ H n h0 g → VR ψ v u → κ v H n → K u g
theorem ThenP.then {κ : PK} {K : KH} {v : AV} (hk : ThenP φ h0 κ K) (h : κ v H n) : Then φ h0 v H n K := fun ψ u g h1 h2 h3 => hk ψ v H n u g h1 h2 h3 h
theorem ThenP.thenMk {κ : PK} {K : KH} {r : AV × AH × Nat} (hk : ThenP φ h0 κ K) (h : mk3 κ r) : Then φ h0 r.1 r.2.1 r.2.2 K := fun ψ u g h1 h2 h3 => hk ψ _ _ _ u g h1 h2 h3.mk h
def CPok (call : CP) : Prop := ∀ (f : FuncId) (args : List AV) (H : AH) (n : Nat) (κ : PK), call f args H n κ → ∀ (φ : Ph) (h0 h : Hp) (vs : Array Value) (K : KH), HR φ H n h0 h → VRs φ args vs.toList → ThenP φ h0 κ K → CallF Try.prog f vs h K

/-! ### operations -/
theorem symP_sound {P : Program} {op : BinOp} {t : TypeId} {k j : IntKind} {a b : Int} {c : Bool} {κ : AV → Prop} {K : Value → Prop} (hs : symP op k j a b c κ) (hk : ∀ r u, κ r → VR φ r u → K u) : abin P op t (.int k a) (.int j b) K := by
  have hi : ∀ {x}, κ (.si k x) → K (.int k x) := fun h => hk _ _ h (.si _ _)
  have hb : ∀ {x}, κ (.sb x) → K (.bool x) := fun h => hk _ _ h (.sb _)
  have kd : ∀ {A : Prop}, bifP (kindq k j) A False → k = j ∧ A := fun h => by
    obtain ⟨h1, h2⟩ := bifP_inv h
    rw [kindq_eq] at h1
    exact ⟨by simpa using h1, h2⟩
  cases op <;> simp only [symP] at hs
  case shl =>
    cases c with
    | false => exact ⟨hs.1, hi hs.2⟩
    | true =>
      cases hl : ltq b 0 with
      | true => rw [hl] at hs; exact hs.elim
      | false =>
        rw [hl] at hs
        rw [ltq_eq] at hl
        have : ¬ b < 0 := by simpa using hl
        exact ⟨by omega, hi hs⟩
  case shr =>
    cases c with
    | false => exact ⟨hs.1, hi hs.2⟩
    | true =>
      cases hl : ltq b 0 with
      | true => rw [hl] at hs; exact hs.elim
      | false =>
        rw [hl] at hs
        rw [ltq_eq] at hl
        have : ¬ b < 0 := by simpa using hl
        exact ⟨by omega, hi hs⟩
  all_goals (obtain ⟨hkj, h2⟩ := kd hs; clear hs; subst hkj)
  case quo =>
    cases c with
    | false => exact ⟨rfl, h2.1, hi h2.2⟩
    | true =>
      cases hl : eqq b 0 with
      | true => rw [hl] at h2; exact h2.elim
      | false =>
        rw [hl] at h2
        rw [eqq_eq] at hl
        exact ⟨rfl, by simpa using hl, hi h2⟩
  case rem =>
    cases c with
    | false => exact ⟨rfl, h2.1, hi h2.2⟩
    | true =>
      cases hl : eqq b 0 with
      | true => rw [hl] at h2; exact h2.elim
      | false =>
        rw [hl] at h2
        rw [eqq_eq] at hl
        exact ⟨rfl, by simpa using hl, hi h2⟩
  case neq =>
    refine ⟨rfl, ?_⟩
    have : decide (a ≠ b) = !decide (a = b) := by simp
    rw [this]; exact hb h2
  all_goals first | exact ⟨rfl, hi h2⟩ | exact ⟨rfl, hb h2⟩
theorem strP_sound {P : Program} {op : BinOp} {t : TypeId} {a b : List Nat} {κ : AV → Prop} {K : Value → Prop} (ha : ∀ x ∈ a, x < 256) (hb : ∀ x ∈ b, x < 256) (hs : strP op a b κ) (hk : ∀ r u, κ r → VR φ r u → K u) : abin P op t (.string (vstr a)) (.string (vstr b)) K := by
  have key : ∀ {r : AV}, estr op a b = some r → κ (mk r) → abin P op t (.string (vstr a)) (.string (vstr b)) K := fun e h1 => estr_sound (φ := φ) ha hb e fun u hu => hk _ u h1 hu.mk
  cases op <;> simp only [strP] at hs
  case add => exact key (r := .str (a ++ b)) (by simp only [estr]; rw [if_pos hs.1]) hs.2
  all_goals first | exact hs.elim | exact key rfl hs
theorem bolP_sound {op : BinOp} {t : TypeId} {a b : Bool} {κ : AV → Prop} {K : Value → Prop} (hs : bolP op t a b κ) (hk : ∀ r u, κ r → VR φ r u → K u) : abin Try.prog op t (.bool a) (.bool b) K := by
  obtain ⟨h1, h2⟩ := bifP_inv hs
  have ht := isBoolT_spec h1
  cases op <;> first | exact h2.elim | exact ⟨ht, hk _ _ h2 (.sb _)⟩
theorem binP_sound (hr : HR φ H n h0 h) {op : BinOp} {t : TypeId} {x y : AV} {v u : Value} {κ : AV → Prop} {K : Value → Prop} (hx : VR φ x v) (hy : VR φ y u) (hs : binP op t x y H κ) (hk : ∀ r u, κ r → VR φ r u → K u) : abinH Try.prog op t v u h K := by
  unfold binP at hs
  split at hs
  · obtain ⟨r, h1, h2⟩ := optP_inv hs
    rw [hx.int_inv, hy.int_inv]
    show abin Try.prog op t (.int _ _) (.int _ _) K
    exact eint_sound (φ := φ) h1 fun u hu => hk _ u h2 hu
  · rw [hx.int_inv, hy.si_inv]; exact symP_sound (P := Try.prog) (t := t) hs hk
  · rw [hx.si_inv, hy.int_inv]; exact symP_sound (P := Try.prog) (t := t) hs hk
  · rw [hx.si_inv, hy.si_inv]; exact symP_sound (P := Try.prog) (t := t) hs hk
  · obtain ⟨rfl, h1⟩ := hx.ss_inv
    obtain ⟨rfl, h2⟩ := hy.ss_inv
    exact strP_sound (P := Try.prog) (t := t) h1 h2 hs hk
  · obtain ⟨rfl, h1⟩ := hx.ss_inv
    obtain ⟨rfl, h2⟩ := hy.str_inv
    exact strP_sound (P := Try.prog) (t := t) h1 h2 hs hk
  · obtain ⟨rfl, h1⟩ := hx.str_inv
    obtain ⟨rfl, h2⟩ := hy.ss_inv
    exact strP_sound (P := Try.prog) (t := t) h1 h2 hs hk
  · rw [hx.sb_inv, hy.sb_inv]; exact bolP_sound hs hk
  · rw [hx.sb_inv, hy.bool_inv]; exact bolP_sound hs hk
  · rw [hx.bool_inv, hy.sb_inv]; exact bolP_sound hs hk
  · obtain ⟨r, h1, h2⟩ := optP_inv hs
    exact ebin_sound hr hx hy h1 fun u hu => hk _ u h2 hu
theorem unP_sound {op : UnOp} {x : AV} {v : Value} {κ : AV → Prop} {K : Value → Prop} (hx : VR φ x v) (hs : unP op x κ) (hk : ∀ r u, κ r → VR φ r u → K u) : aun op v K := by
  unfold unP at hs
  split at hs
  · rw [hx.sb_inv]; exact hk _ _ hs (.sb _)
  · rw [hx.si_inv]; exact hk _ _ hs (.si _ _)
  · rw [hx.si_inv]; exact hk _ _ hs (.si _ _)
  · obtain ⟨r, h1, h2⟩ := optP_inv hs
    exact eun_sound hx h1 fun u hu => hk _ u h2 hu
theorem mmP_sound {q : Bool} {x y : AV} {v u : Value} {κ : AV → Prop} {K : Value → Prop} (hx : VR φ x v) (hy : VR φ y u) (hs : mmP q x y κ) (hk : ∀ r u, κ r → VR φ r u → K u) : aminmax q v u K := by
  unfold mmP at hs
  split at hs
  · rw [hx.si_inv, hy.si_inv]; exact hk _ _ hs (.si _ _)
  · rw [hx.si_inv, hy.int_inv]; exact hk _ _ hs (.si _ _)
  · rw [hx.int_inv, hy.si_inv]; exact hk _ _ hs (.si _ _)
  · obtain ⟨r, h1, h2⟩ := optP_inv hs
    exact emm_sound hx hy h1 fun u hu => hk _ u h2 hu
theorem lenP_sound (hr : HR φ H n h0 h) {t : TypeId} {x : AV} {v : Value} {κ : AV → Prop} {K : Value → Prop} (hx : VR φ x v) (hs : lenP t x H κ) (hk : ∀ r u, κ r → VR φ r u → K u) : alen Try.prog t v h K := by
  unfold lenP at hs
  split at hs
  · obtain ⟨r, h1, h2⟩ := optP_inv hs
    exact elen_sound hr hx.hd h1 fun u hu => hk _ u h2 hu.mk
  · obtain ⟨r, h1, h2⟩ := optP_inv hs
    exact elen_sound hr hx.hd h1 fun u hu => hk _ u h2 hu.mk
  · obtain ⟨r, h1, h2⟩ := optP_inv hs
    exact elen_sound hr hx h1 fun u hu => hk _ u h2 hu
theorem ixP_spec {ix : AV} {len : Nat} {s : Bool} {v : Value} {κ : Nat → Prop} (hx : VR φ ix v) (hs : ixP ix len s κ) : ∃ i, i < len ∧ (∃ k, v = .int k (i : Int)) ∧ κ i := by
  unfold ixP at hs
  split at hs
  · obtain ⟨j, rfl, h1, h2⟩ := hs
    exact ⟨j, h1, ⟨_, hx.si_inv⟩, h2⟩
  · obtain ⟨j, rfl, h1, h2⟩ := hs
    exact ⟨j, h1, ⟨_, hx.int_inv⟩, h2⟩
  · obtain ⟨i, h1, h2⟩ := optP_inv hs
    obtain ⟨h3, h4⟩ := eix_spec hx h1
    exact ⟨i, h3, h4, h2⟩
theorem indexAddrP_sound {t : TypeId} {x ix : AV} {v u : Value} {κ : AV → Prop} {K : Value → Prop} (hx : VR φ x v) (hi : VR φ ix u) (hs : indexAddrP t x ix κ) (hk : ∀ r u, κ r → VR φ r u → K u) : aindexAddr Try.prog t v u K := by
  have sl : ∀ {e b o m c k s}, Try.prog.underlying t = some (.slice e) → VR φ (.sl b o m c k) v → optP (tySize Try.prog e) (fun k => ixP ix m s fun i => κ (.ptr b (o + i * k))) → aindexAddr Try.prog t v u K := fun {e b o m c k s} hu hx hs => by
    obtain ⟨es, h1, h2⟩ := optP_inv hs
    obtain ⟨i, h3, ⟨kk, rfl⟩, h4⟩ := ixP_spec hi h2
    obtain ⟨p, C, hp, rfl, _, _⟩ := hx.sl_inv
    simp only [aindexAddr, hu, h1]
    refine ⟨by omega, by omega, ?_⟩
    rw [Int.toNat_natCast, Nat.add_assoc]
    exact hk _ _ h4 (.ptr hp)
  unfold indexAddrP at hs
  split at hs
  · rename_i hu; exact sl hu hx hs
  · rename_i hu; exact sl hu hx.hd hs
  · rename_i len el b o hu
    obtain ⟨es, h1, h2⟩ := optP_inv hs
    obtain ⟨i, h3, ⟨kk, rfl⟩, h4⟩ := ixP_spec hi h2
    obtain ⟨p, hp, rfl⟩ := hx.ptr_inv
    simp only [aindexAddr, hu, h1]
    refine ⟨by omega, by omega, ?_⟩
    rw [Int.toNat_natCast, Nat.add_assoc]
    exact hk _ _ h4 (.ptr hp)
  · exact hs.elim
theorem indexP_sound {t : TypeId} {x ix : AV} {v u : Value} {κ : AV → Prop} {K : Value → Prop} (hx : VR φ x v) (hi : VR φ ix u) (hs : indexP t x ix κ) (hk : ∀ r u, κ r → VR φ r u → K u) : aindex Try.prog t v u K := by
  have str : ∀ {s : List Nat} {i c : Nat} {kk : IntKind} {q : Bool}, Try.prog.underlying t = some .string → VR φ (.str s) v → u = .int kk (i : Int) → i < s.length → nth s i = some c → (∀ u, VR φ (.int .u8 (Int.ofNat c)) u → K u) → aindex Try.prog t v u K := fun {s i c kk q} hu hx he hlt hc hk => by
    obtain ⟨rfl, hs⟩ := hx.str_inv
    subst he
    rw [nth_eq] at hc
    have h2 := hs c (List.mem_of_getElem? hc)
    simp only [aindex, hu, vstr_toList, Int.toNat_natCast, List.getElem?_map, hc, Option.map_some]
    refine ⟨by omega, hk _ ?_⟩
    have : ((UInt8.ofNat c).toNat : Int) = Int.ofNat c := by
      rw [UInt8.toNat_ofNat', Nat.mod_eq_of_lt h2]; rfl
    rw [this]; exact .int _ _
  unfold indexP at hs
  split at hs
  · rename_i len el l hu
    obtain ⟨cs, rfl, hl⟩ := hx.agg_inv
    obtain ⟨k, h1, h2⟩ := optP_inv hs
    obtain ⟨i, h3, ⟨kk, rfl⟩, h4⟩ := ixP_spec hi h2
    obtain ⟨r, h5, h6⟩ := optP_inv h4
    simp only [aindex, hu, h1]
    refine ⟨by omega, by omega, ?_⟩
    rw [Int.toNat_natCast]
    exact epart_sound hl h5 fun u hu => hk _ u h6 hu
  · rename_i s hu
    obtain ⟨i, h3, ⟨kk, he⟩, h4⟩ := ixP_spec hi hs
    obtain ⟨c, h5, h6⟩ := optP_inv h4
    refine str (q := true) hu hx he h3 h5 fun u hu => ?_
    split at h6
    · exact hk _ u h6 hu
    · exact hk _ u h6 hu.mk
  · rename_i s hu
    obtain ⟨i, h3, ⟨kk, he⟩, h4⟩ := ixP_spec hi hs
    obtain ⟨c, h5, h6⟩ := h4.inv
    exact str (q := true) hu hx.hd he h3 h5 fun u hu => hk _ u h6 hu.mk
  · exact hs.elim
theorem getP_load {l : List AV} {t : TypeId} {b o : Nat} {κ : AV → Prop} {z : Bool} (hb : H.get b = some (.cells l z) ∨ H.get b = some (.ro l)) (hs : getP l t o κ) : ∃ r, eload Try.prog t (.ptr b o) H = some r ∧ κ r := by
  unfold getP at hs
  split at hs
  · rename_i hg
    obtain ⟨r, h1, h2⟩ := optP_inv hs
    exact ⟨r, by rcases hb with hb | hb <;> simp only [eload, hb, hg, h1], h2⟩
  · rename_i hg
    obtain ⟨m, h1, h2⟩ := optP_inv hs
    obtain ⟨r, h3, h4⟩ := optP_inv h2
    exact ⟨.agg r, by rcases hb with hb | hb <;> simp only [eload, hb, hg, h1, h3, Option.map_some], h4⟩
  · exact hs.elim
theorem loadP_sound (hr : HR φ H n h0 h) {t : TypeId} {a : AV} {v : Value} {κ : AV → Prop} {K : Value → Prop} (ha : VR φ a v) (hs : loadP t a H κ) (hk : ∀ r u, κ r → VR φ r u → K u) : aload Try.prog t v h K := by
  unfold loadP at hs
  split at hs
  · split at hs
    · rename_i hb
      obtain ⟨r, h1, h2⟩ := getP_load (.inl hb) hs
      exact eload_sound hr ha h1 fun u hu => hk _ u h2 hu
    · rename_i hb
      obtain ⟨r, h1, h2⟩ := getP_load (z := true) (.inr hb) hs
      exact eload_sound hr ha h1 fun u hu => hk _ u h2 hu
    · exact hs.elim
  · exact hs.elim
theorem storeP_sound (hr : HR φ H n h0 h) {t : TypeId} {a x : AV} {av xv : Value} {κ : PK} {K : KH} (ha : VR φ a av) (hx : VR φ x xv) (hs : storeP t a x H n κ) (hk : ThenP φ h0 κ K) : astore Try.prog t av xv h K := by
  unfold storeP at hs
  split at hs
  · split at hs
    · rename_i l z hb
      obtain ⟨s, h1, h2⟩ := optP_inv hs
      obtain ⟨h3, h4⟩ := bifP_inv h2
      obtain ⟨l', h5, h6⟩ := optP_inv h4
      refine estore_sound hr ha hx (r := undefA) ?_ (hk.then h6)
      simp only [estore, hb, h1, h3, h5]
    · exact hs.elim
  · exact hs.elim
theorem slow3 {κ : PK} {K : KH} {q : Bool} {e e' : AR} {A : Prop} (hk : ThenP φ h0 κ K) (hs : bifP q (Ask e' (mk3 κ)) (optP e (un3 κ)))
    (a : ∀ r H' n', e = some (r, H', n') → Then φ h0 r H' n' K → A) (b : ∀ r H' n', e' = some (r, H', n') → Then φ h0 r H' n' K → A) : A := by
  cases q with
  | true =>
    obtain ⟨r, h1, h2⟩ := Ask.inv hs
    exact b _ _ _ h1 (hk.thenMk h2)
  | false =>
    obtain ⟨r, h1, h2⟩ := optP_inv hs
    exact a _ _ _ h1 (hk.then h2)
theorem pickP_inv {c : AV} {v : Value} {A B : Prop} (hc : VR φ c v) (hs : pickP c A B) : ∃ q, v = .bool q ∧ (q = true → A) ∧ (q = false → B) := by
  unfold pickP at hs
  split at hs
  · exact ⟨true, hc.bool_inv, fun _ => hs, fun k => by cases k⟩
  · exact ⟨false, hc.bool_inv, (fun k => by cases k), fun _ => hs⟩
  · rename_i q; exact ⟨q, hc.sb_inv, hs.t, hs.f⟩
  · exact hs.elim
theorem noCall_ok : ∀ f, COk Try.prog f (noCall f) := fun f args H n v H' n' e => by cases e
theorem slowP_sound (hr : HR φ H n h0 h) (hf : FR φ σ ρ) {o : Op} {κ : PK} {K : KH} (hs : slowP o σ H n κ) (hk : ThenP φ h0 κ K) : astep Try.prog o ρ h K := by
  obtain ⟨⟨v, H', n'⟩, h1, h2⟩ := optP_inv hs
  exact estep_sound noCall_ok hr hf h1 (hk.then h2)
theorem Then.int {κ : PK} {K : KH} {k : IntKind} {a : Int} (hr : HR φ H n h0 h) (hk : ThenP φ h0 κ K) (h1 : κ (.si k a) H n) : K (.int k a) h := hk φ _ H n _ h (PLe.refl _) hr (.si k a) h1
/-- A slice's bounds as known ones. -/
theorem eslice_hd (hf : FR φ σ ρ) {t : TypeId} {x r : AV} {v : Value} {lo hi mx : Option Operand} {K : Value → Prop} (hx : VR φ x v) (e : eslice Try.prog t (hd x) ((lo.map (eev σ)).map hd) ((hi.map (eev σ)).map hd) ((mx.map (eev σ)).map hd) = some r)
    (hk : ∀ u, VR φ r u → K u) : aslice Try.prog t v (lo.map ρ.ev) (hi.map ρ.ev) (mx.map ρ.ev) K := by
  -- three slots that hold the bounds
  have key : ∀ (l h m : Option AV) (lv hv mv : Option Value), (∀ a, l = some a → ∃ u, lv = some u ∧ VR φ a u) → (l = none → lv = none) → (∀ a, h = some a → ∃ u, hv = some u ∧ VR φ a u) → (h = none → hv = none) → (∀ a, m = some a → ∃ u, mv = some u ∧ VR φ a u) → (m = none → mv = none) →
      eslice Try.prog t (hd x) l h m = some r → aslice Try.prog t v lv hv mv K := by
    intro l h m lv hv mv a1 a2 a3 a4 a5 a6 e
    let σ' : AE := ((PM.nil.set l depthE 0).set h depthE 1).set m depthE 2
    let ρ' : Env := fun i => if i = 0 then lv.getD undef else if i = 1 then hv.getD undef else mv.getD undef
    have hf' : FR φ σ' ρ' := fun i a ha => by
      rcases PM.get_set depthE _ 2 i a ha with ⟨rfl, h2⟩ | ⟨h1, h2⟩
      · obtain ⟨u, rfl, h3⟩ := a5 a h2; exact h3
      · rcases PM.get_set depthE _ 1 i a h2 with ⟨rfl, h4⟩ | ⟨h3, h4⟩
        · obtain ⟨u, rfl, h3⟩ := a3 a h4; exact h3
        · rcases PM.get_set depthE _ 0 i a h4 with ⟨rfl, h6⟩ | ⟨h5, h6⟩
          · obtain ⟨u, rfl, h3⟩ := a1 a h6; exact h3
          · cases h6
    have sl : ∀ (i : Nat) (q : Option AV) (qv : Option Value), (∀ a, q = some a → getq (pa i) σ' = a ∧ ∃ u, qv = some u ∧ ρ' i = u) → (q = none → qv = none) → ∃ o : Option Operand, o.map (eev σ') = q ∧ o.map ρ'.ev = qv := fun i q qv b1 b2 => by
      cases q with
      | none => exact ⟨none, rfl, by rw [b2 rfl]; rfl⟩
      | some a =>
        obtain ⟨c1, u, c2, c3⟩ := b1 a rfl
        exact ⟨some (.tmp i), by simp only [Option.map_some, eev, c1], by simp only [Option.map_some, Env.ev, c2, c3]⟩
    obtain ⟨o1, p1, q1⟩ := sl 0 l lv (fun a ha => by subst ha; obtain ⟨u, rfl, _⟩ := a1 a rfl; exact ⟨by cases h <;> cases m <;> rfl, u, rfl, rfl⟩) a2
    obtain ⟨o2, p2, q2⟩ := sl 1 h hv (fun a ha => by subst ha; obtain ⟨u, rfl, _⟩ := a3 a rfl; exact ⟨by cases l <;> cases m <;> rfl, u, rfl, rfl⟩) a4
    obtain ⟨o3, p3, q3⟩ := sl 2 m mv (fun a ha => by subst ha; obtain ⟨u, rfl, _⟩ := a5 a rfl; exact ⟨by cases l <;> cases h <;> rfl, u, rfl, rfl⟩) a6
    rw [← q1, ← q2, ← q3]
    rw [← p1, ← p2, ← p3] at e
    exact eslice_sound hf' hx.hd e hk
  have s1 : ∀ (o : Option Operand) (a : AV), (o.map (eev σ)).map hd = some a → ∃ u, o.map ρ.ev = some u ∧ VR φ a u := fun o a ha => by
    cases o with
    | none => cases ha
    | some y => injection ha with ha; subst ha; exact ⟨_, rfl, (hf.ev y).hd⟩
  have s2 : ∀ o : Option Operand, (o.map (eev σ)).map hd = none → o.map ρ.ev = none := fun o ha => by
    cases o with
    | none => rfl
    | some y => cases ha
  exact key _ _ _ _ _ _ (s1 lo) (s2 lo) (s1 hi) (s2 hi) (s1 mx) (s2 mx) e
variable {call : CP} {κ : PK} {K : KH}
theorem quiet_step {o : Op} (ho : loudOp o = false) (h1 : apure Try.prog o ρ h fun v => K v h) : astep Try.prog o ρ h K := by
  unfold astep; rw [ho]; exact h1
theorem loud_step {o : Op} (ho : loudOp o = true) (h1 : aloud Try.prog o ρ h K) : astep Try.prog o ρ h K := by
  unfold astep; rw [ho]; exact h1
theorem args2 {l : List Operand} {s x : AV} (hf : FR φ σ ρ) (e : l.map (eev σ) = [s, x]) : ∃ v u, l.map ρ.ev = [v, u] ∧ VR φ s v ∧ VR φ x u := by
  have hm := VRs.map hf.ev l
  rw [e] at hm
  obtain ⟨v1, us, h1, h2, h3⟩ := hm.cons_inv
  obtain ⟨v2, ws, h4, h5, h6⟩ := h3.cons_inv
  rw [h4, h6.nil_inv] at h1
  exact ⟨v1, v2, h1, h2, h5⟩
theorem args1 {l : List Operand} {s : AV} (hf : FR φ σ ρ) (e : l.map (eev σ) = [s]) : ∃ v, l.map ρ.ev = [v] ∧ VR φ s v := by
  have hm := VRs.map hf.ev l
  rw [e] at hm
  obtain ⟨v1, us, h1, h2, h3⟩ := hm.cons_inv
  rw [h3.nil_inv] at h1
  exact ⟨v1, h1, h2⟩
theorem callP_sound (hcall : CPok call) (hr : HR φ H n h0 h) (hf : FR φ σ ρ) {c : Call} (hs : callP c call σ H n κ) (hk : ThenP φ h0 κ K) : astep Try.prog (.call c) ρ h K := by
  have hm := VRs.map hf.ev c.args.toList
  have fin : ∀ r u, κ r H n → VR φ r u → K u h := fun r u h1 hu => hk φ r H n u h (PLe.refl _) hr hu h1
  obtain ⟨callee, args, ats⟩ := c
  unfold callP at hs
  dsimp only at hs hm
  split at hs
  · rename_i f
    have hfv := hf.ev f
    split at hs
    · rename_i g a cs q
      rw [q] at hfv
      obtain ⟨a', c', hv, h1, h2⟩ := hfv.fn_inv
      refine loud_step rfl ?_
      show acall Try.prog (ρ.ev f) (args.map ρ.ev) h K
      rw [hv]
      show CallF Try.prog g (a' ++ args.map ρ.ev ++ c') h K
      refine hcall g _ _ _ _ hs φ h0 h _ K hr ?_ hk
      rw [Array.toList_append, Array.toList_append, Array.toList_map]
      exact (h1.append hm).append h2
    · exact hs.elim
  · refine quiet_step rfl ?_
    show qbuiltin Try.prog .len ats.toList (args.toList.map ρ.ev) h fun v => K v h
    split at hs
    · rename_i t x e1 e2
      obtain ⟨v, e3, h1⟩ := args1 hf e2
      rw [e1, e3]
      exact lenP_sound hr h1 hs fun r u => fin r u
    · exact hs.elim
  · refine quiet_step rfl ?_
    show qbuiltin Try.prog .min ats.toList (args.toList.map ρ.ev) h fun v => K v h
    split at hs
    · rename_i x y e2
      obtain ⟨v, u, e3, h1, h2⟩ := args2 hf e2
      rw [e3]
      exact mmP_sound h1 h2 hs fun r u => fin r u
    · exact hs.elim
  · refine quiet_step rfl ?_
    show qbuiltin Try.prog .max ats.toList (args.toList.map ρ.ev) h fun v => K v h
    split at hs
    · rename_i x y e2
      obtain ⟨v, u, e3, h1, h2⟩ := args2 hf e2
      rw [e3]
      exact mmP_sound h1 h2 hs fun r u => fin r u
    · exact hs.elim
  · refine loud_step rfl ?_
    show lbuiltin Try.prog .append ats.toList (args.toList.map ρ.ev) h K
    split at hs
    · rename_i t u s x e1 e2
      obtain ⟨v, w, e3, h1, h2⟩ := args2 hf e2
      rw [e1, e3]
      exact slow3 hk hs (fun _ _ _ e => eappend_sound hr h1 h2 e) (fun _ _ _ e => eappend_sound hr h1.hd h2.hd e)
    · exact hs.elim
  · refine loud_step rfl ?_
    show lbuiltin Try.prog .copy ats.toList (args.toList.map ρ.ev) h K
    split at hs
    · rename_i t u s x e1 e2
      obtain ⟨v, w, e3, h1, h2⟩ := args2 hf e2
      rw [e1, e3]
      exact slow3 hk hs (fun _ _ _ e => ecopy_sound hr h1 h2 e) (fun _ _ _ e => ecopy_sound hr h1.hd h2.hd e)
    · exact hs.elim
  · exact hs.elim
theorem intKindOf_spec {t : TypeId} {k : IntKind} (h : intKindOf Try.prog t = some k) : Try.prog.underlying t = some (.int k) := by
  unfold intKindOf at h
  split at h
  · rename_i e; injection h with h; subst h; exact e
  · cases h
theorem stepP_sound (hcall : CPok call) (hr : HR φ H n h0 h) (hf : FR φ σ ρ) {o : Op} (hs : stepP o call σ H n κ) (hk : ThenP φ h0 κ K) : astep Try.prog o ρ h K := by
  have fin : ∀ r u, κ r H n → VR φ r u → K u h := fun r u h1 hu => hk φ r H n u h (PLe.refl _) hr hu h1
  unfold stepP at hs
  split at hs
  · exact quiet_step rfl (fin _ _ hs (hf.ev _))
  · exact quiet_step rfl (fin _ _ hs (hf.ev _))
  · rename_i c a b
    obtain ⟨q, h1, h2, h3⟩ := pickP_inv (hf.ev c) hs
    refine quiet_step rfl ?_
    simp only [apure, h1]
    cases q with
    | true => exact fin _ _ (h2 rfl) (hf.ev _)
    | false => exact fin _ _ (h3 rfl) (hf.ev _)
  · exact quiet_step rfl (loadP_sound hr (hf.ev _) hs fun r u => fin r u)
  · exact loud_step rfl (storeP_sound hr (hf.ev _) (hf.ev _) hs hk)
  · exact quiet_step rfl (binP_sound hr (hf.ev _) (hf.ev _) hs fun r u => fin r u)
  · exact quiet_step rfl (unP_sound (hf.ev _) hs fun r u => fin r u)
  · exact quiet_step rfl (indexAddrP_sound (hf.ev _) (hf.ev _) hs fun r u => fin r u)
  · exact quiet_step rfl (indexP_sound (hf.ev _) (hf.ev _) hs fun r u => fin r u)
  · rename_i t x lo hi mx
    refine quiet_step rfl ?_
    show aslice Try.prog t (ρ.ev x) (lo.map ρ.ev) (hi.map ρ.ev) (mx.map ρ.ev) fun v => K v h
    unfold sliceP at hs
    cases hq : (isS (eev σ x) || (sliceP.optS (lo.map (eev σ)) || (sliceP.optS (hi.map (eev σ)) || sliceP.optS (mx.map (eev σ))))) with
    | true =>
      rw [hq] at hs
      obtain ⟨r, h1, h2⟩ := Ask.inv hs
      exact eslice_hd hf (hf.ev x) h1 fun u hu => fin _ u h2 hu.mk
    | false =>
      rw [hq] at hs
      obtain ⟨r, h1, h2⟩ := optP_inv hs
      exact eslice_sound hf (hf.ev x) h1 fun u hu => fin _ u h2 hu
  · exact loud_step rfl (slow3 hk hs (fun _ _ _ e => emake_sound hr (hf.ev _) (hf.ev _) e) (fun _ _ _ e => emake_sound hr (hf.ev _).hd (hf.ev _).hd e))
  · rename_i s d x
    refine loud_step rfl ?_
    show aconv Try.prog s d (ρ.ev x) h K
    unfold convP at hs
    split at hs
    · rename_i a q
      have hx := hf.ev x
      rw [q] at hx
      rw [hx.si_inv]
      split at hs
      · rename_i k1 k2 e1 e2
        simp only [aconv, intKindOf_spec e1, intKindOf_spec e2]
        exact fin _ _ hs (.si _ _)
      · exact hs.elim
    · exact slow3 hk hs (fun _ _ _ e => econv_sound hr (hf.ev x) e) (fun _ _ _ e => econv_sound hr (hf.ev x).hd e)
  · exact callP_sound hcall hr hf hs hk
  · exact slowP_sound hr hf hs hk
end
end Go.Proofs.Ytaejmcgcfopmkaa
