/- The machine of our own: each operation that looks at most yields what the code's yields. -/
import Derived.Test.YtaejmcgcfopmkaaEvB
namespace Go.Proofs.Ytaejmcgcfopmkaa
open Go Go.RowKit
theorem VRs.of {φ : Ph} : ∀ {l : List AV} {vs : List Value}, l.length = vs.length → (∀ (i : Nat) (a : AV), l[i]? = some a → ∃ v, vs[i]? = some v ∧ VR φ a v) → VRs φ l vs
  | [], [], _, _ => .nil
  | [], _ :: _, h, _ => by simp at h
  | _ :: _, [], h, _ => by simp at h
  | a :: l, v :: vs, h, k => by
    obtain ⟨u, h1, h2⟩ := k 0 a rfl
    simp only [List.getElem?_cons_zero, Option.some.injEq] at h1
    subst h1
    refine .cons h2 (VRs.of (by simpa using h) fun i b e => ?_)
    obtain ⟨w, h3, h4⟩ := k (i + 1) b (by simpa using e)
    exact ⟨w, by simpa using h3, h4⟩
theorem VRs.toCR {φ : Ph} {l : List AV} {c : Array Value} (h : VRs φ l c.toList) : CR φ c 0 l := CR.of' h
theorem CR.toVRs {φ : Ph} {l : List AV} {c : Array Value} (hl : l.length = c.size) (h : CR φ c 0 l) : VRs φ l c.toList :=
  VRs.of (by simpa using hl) fun i a e => by
    obtain ⟨v, h1, h2⟩ := h i a e
    exact ⟨v, by simpa using h1, h2⟩
theorem ofV_cells (φ : Ph) (z : Value) : VRs φ (ofV z).cells z.cells.toList := by
  have h := ofV_sound (φ := φ) z
  have hc : okC (ofV z) = true := by
    unfold ofV
    split
    · rfl
    · rfl
    · rename_i h1 h2
      unfold ofV1
      split <;> first | rfl | (cases z <;> first | rfl | exact (h1 _ rfl).elim | exact (h2 _ rfl).elim)
  exact h.cells hc
section
variable {P : Program} {φ : Ph} {H : AH} {n : Nat} {h0 h : Hp} {K : Value → Prop}
theorem eload_sound (hr : HR φ H n h0 h) {t : TypeId} {a r : AV} {v : Value} (ha : VR φ a v) (e : eload P t a H = some r) (hk : ∀ u, VR φ r u → K u) : aload P t v h K := by
  unfold eload at e
  split at e
  · rename_i b o
    obtain ⟨p, hp, rfl⟩ := ha.ptr_inv
    split at e
    · rename_i l z hb
      obtain ⟨ob, hB, hf, c, t', fz, rfl, h1, h2, h3, h4, h5⟩ := hr.of hb hp
      simp only [aload, hf]
      split at e
      · rename_i hg
        obtain ⟨v, h6, h7⟩ := h5.nth e
        simp only [hg, h6]
        exact hk v h7
      · rename_i hg
        split at e
        · rename_i m hm
          simp only [Option.map_eq_some_iff] at e
          obtain ⟨l', e1, rfl⟩ := e
          obtain ⟨vs, h6, h7⟩ := h5.sub e1
          simp only [hg, hm, h6]
          exact hk _ (.agg (by simpa using h7))
        · cases e
      · cases e
    · rename_i l hb
      obtain ⟨ob, hB, hf, c, t', fz, rfl, h1, h2, h5⟩ := hr.of hb hp
      simp only [aload, hf]
      split at e
      · rename_i hg
        obtain ⟨v, h6, h7⟩ := h5.nth e
        simp only [hg, h6]
        exact hk v h7
      · rename_i hg
        split at e
        · rename_i m hm
          simp only [Option.map_eq_some_iff] at e
          obtain ⟨l', e1, rfl⟩ := e
          obtain ⟨vs, h6, h7⟩ := h5.sub e1
          simp only [hg, hm, h6]
          exact hk _ (.agg (by simpa using h7))
        · cases e
      · cases e
    · cases e
  · cases e
theorem qbool_sound {op : BinOp} {q : Option Bool} {r : AV} (e : qbool op q = some r) : ∃ b, q = some b ∧ (op = .eql ∧ r = .bool b ∨ op = .neq ∧ r = .bool (!b)) := by
  unfold qbool at e
  split at e
  · cases e
  · rename_i b
    cases op <;> simp only at e <;> first | (cases e; done) | (injection e with e; subst e; exact ⟨b, rfl, by simp⟩)
theorem eplan_spec {xs ys : List AV} {vs us : Array Value} (hx : VRs φ xs vs.toList) (hy : VRs φ ys us.toList) : ∀ (l : List (Nat × Nat)) (q : Bool), eplan xs ys l = some q → planEq vs us l = some q
  | [], q, e => e
  | (k, o) :: l, q, e => by
    unfold eplan at e
    simp only [nth_eq] at e
    split at e
    · rename_i k1 a k2 b e1 e2
      obtain ⟨v1, g1, g2⟩ := hx.at e1
      obtain ⟨v2, g3, g4⟩ := hy.at e2
      rw [g2.int_inv, Array.getElem?_toList] at g1
      rw [g4.int_inv, Array.getElem?_toList] at g3
      split at e
      · rename_i hc
        simp only [Option.map_eq_some_iff] at e
        obtain ⟨q', e3, rfl⟩ := e
        simp only [planEq, g1, g3]
        rw [if_pos hc, eplan_spec hx hy l q' e3]; rfl
      · cases e
    · rename_i a b e1 e2
      obtain ⟨v1, g1, g2⟩ := hx.at e1
      obtain ⟨v2, g3, g4⟩ := hy.at e2
      rw [g2.str_inv.1, Array.getElem?_toList] at g1
      rw [g4.str_inv.1, Array.getElem?_toList] at g3
      split at e
      · rename_i hc
        simp only [Option.map_eq_some_iff] at e
        obtain ⟨q', e3, rfl⟩ := e
        simp only [planEq, g1, g3]
        rw [if_pos hc, eplan_spec hx hy l q' e3, vstr_toList, vstr_toList, beqL_spec a b g2.str_inv.2 g4.str_inv.2]; rfl
      · cases e
    · rename_i a b e1 e2
      obtain ⟨v1, g1, g2⟩ := hx.at e1
      obtain ⟨v2, g3, g4⟩ := hy.at e2
      rw [g2.bool_inv, Array.getElem?_toList] at g1
      rw [g4.bool_inv, Array.getElem?_toList] at g3
      split at e
      · rename_i hc
        simp only [Option.map_eq_some_iff] at e
        obtain ⟨q', e3, rfl⟩ := e
        simp only [planEq, g1, g3]
        rw [if_pos hc, eplan_spec hx hy l q' e3]; rfl
      · cases e
    · cases e
theorem isPtrT_spec {t : TypeId} (e : isPtrT P t = true) : ∃ x, P.underlying t = some (.pointer x) := by
  unfold isPtrT at e
  split at e
  · exact ⟨_, by assumption⟩
  · cases e
theorem isSlT_spec {t : TypeId} (e : isSlT P t = true) : ∃ x, P.underlying t = some (.slice x) := by
  unfold isSlT at e
  split at e
  · exact ⟨_, by assumption⟩
  · cases e
theorem isBoolT_spec {t : TypeId} (e : isBoolT P t = true) : P.underlying t = some .bool := by
  unfold isBoolT at e
  split at e
  · assumption
  · cases e
theorem eplain_spec (hr : HR φ H n h0 h) {b : Nat} {p : Pl} (hp : φ b = some p) (e : eplain H b = true) : ∃ c t o, H.get b = some o ∧ o.own = true ∧ h.f p.B = some (.cells c t (0, 0)) := by
  unfold eplain at e
  split at e
  · rename_i l hb
    obtain ⟨ob, hB, hf, c, t', fz, rfl, _, _, _, h4, _⟩ := hr.of hb hp
    have := h4 rfl
    subst this
    exact ⟨c, t', _, hb, rfl, hf⟩
  · cases e
theorem ebin_sound (hr : HR φ H n h0 h) {op : BinOp} {t : TypeId} {x y r : AV} {v u : Value} (hx : VR φ x v) (hy : VR φ y u) (e : ebin P op t x y H = some r) (hk : ∀ u, VR φ r u → K u) : abinH P op t v u h K := by
  unfold ebin at e
  split at e
  · rename_i k a k' b
    rw [hx.int_inv, hy.int_inv]
    show abin P op t (.int k a) (.int k' b) K
    exact eint_sound e hk
  · rename_i a b
    obtain ⟨rfl, ha⟩ := hx.str_inv
    obtain ⟨rfl, hb⟩ := hy.str_inv
    show abin P op t (.string (vstr a)) (.string (vstr b)) K
    exact estr_sound ha hb e hk
  · rename_i a b
    rw [hx.bool_inv, hy.bool_inv]
    split at e
    · rename_i ht
      have ht := isBoolT_spec ht
      obtain ⟨q, hq, ⟨rfl, rfl⟩ | ⟨rfl, rfl⟩⟩ := qbool_sound e
      · injection hq with hq; subst hq
        exact ⟨ht, hk _ (.bool _)⟩
      · injection hq with hq; subst hq
        exact ⟨ht, hk _ (.bool _)⟩
    · cases e
  · rename_i b o b' o'
    obtain ⟨p, hp, rfl⟩ := hx.ptr_inv
    obtain ⟨p', hp', rfl⟩ := hy.ptr_inv
    obtain ⟨q, hq, hop⟩ := qbool_sound e
    have key : ∃ el k, P.underlying t = some (.pointer el) ∧ tySize P el = some (k + 1) ∧
        ((⟨p.B, p.s + o, none⟩ : Addr) = ⟨p'.B, p'.s + o', none⟩ ∨ (∃ ca ta cb tb, h.f p.B = some (.cells ca ta (0, 0)) ∧ h.f p'.B = some (.cells cb tb (0, 0)))) ∧ q = decide ((⟨p.B, p.s + o, none⟩ : Addr) = ⟨p'.B, p'.s + o', none⟩) := by
      unfold eptr at hq
      split at hq
      · rename_i el hu
        split at hq
        · rename_i k hs
          refine ⟨el, k, hu, hs, ?_⟩
          split at hq
          · rename_i hbb
            simp only [Bool.and_eq_true] at hbb
            have h1 := Nat.eq_of_beq_eq_true hbb.1
            have h2 := Nat.eq_of_beq_eq_true hbb.2
            subst h1 h2
            rw [hp] at hp'
            injection hp' with hp'
            subst hp'
            injection hq with hq
            subst hq
            exact ⟨.inl rfl, by simp⟩
          · rename_i hbb
            split at hq
            · rename_i hpl
              injection hq with hq
              subst hq
              simp only [Bool.and_eq_true] at hpl
              obtain ⟨c, ty, ob, g1, g5, g2⟩ := eplain_spec hr hp hpl.1
              obtain ⟨c', ty', ob', g3, g6, g4⟩ := eplain_spec hr hp' hpl.2
              refine ⟨.inr ⟨c, ty, c', ty', g2, g4⟩, ?_⟩
              have hne : ¬ (⟨p.B, p.s + o, none⟩ : Addr) = ⟨p'.B, p'.s + o', none⟩ := fun q => by
                injection q with q1 q2
                have := hr.inj b b' _ _ p p' g1 g3 g5 g6 hp hp' q1
                subst this
                rw [hp] at hp'
                injection hp' with hp'
                subst hp'
                have : o = o' := by omega
                subst this
                simp at hbb
              simp [hne]
            · cases hq
        · cases hq
      · cases hq
    obtain ⟨el, k, hu, hs, hc, rfl⟩ := key
    rcases hop with ⟨rfl, rfl⟩ | ⟨rfl, rfl⟩
    · simp only [abinH, aptr, hu]
      exact ⟨⟨k, hs⟩, hc, hk _ (.bool _)⟩
    · simp only [abinH, aptr, hu]
      exact ⟨⟨k, hs⟩, hc, hk _ (.bool _)⟩
  · rw [hy.nil_inv]
    split at e
    · rename_i ht
      obtain ⟨el, ht⟩ := isPtrT_spec ht
      obtain ⟨q, hq, hop⟩ := qbool_sound e
      have key : ∃ a, v = .pointer a ∧ q = a.isNone := by
        unfold eisnil at hq
        split at hq
        · injection hq with hq; exact ⟨none, hx.nil_inv, hq.symm⟩
        · obtain ⟨p, _, rfl⟩ := hx.ptr_inv
          injection hq with hq; exact ⟨_, rfl, hq.symm⟩
        · cases hq
      obtain ⟨a, rfl, rfl⟩ := key
      have hab : abinH P op t (.pointer a) (.pointer none) h K = abin P op t (.pointer a) (.pointer none) K := by cases a <;> rfl
      rw [hab]
      rcases hop with ⟨rfl, rfl⟩ | ⟨rfl, rfl⟩
      · simp only [abin, ht]; exact hk _ (.bool _)
      · simp only [abin, ht]; exact hk _ (.bool _)
    · cases e
  · rw [hy.nsl_inv]
    split at e
    · rename_i ht
      obtain ⟨el, ht⟩ := isSlT_spec ht
      obtain ⟨q, hq, hop⟩ := qbool_sound e
      have key : ∃ a m c, v = .slice a m c ∧ q = a.isNone := by
        unfold eisnsl at hq
        split at hq
        · injection hq with hq; exact ⟨none, _, _, hx.nsl_inv, hq.symm⟩
        · obtain ⟨p, C, _, rfl, _⟩ := hx.sl_inv
          injection hq with hq; exact ⟨_, _, _, rfl, hq.symm⟩
        · obtain ⟨p, x, C, _, rfl, _⟩ := hx.esl_inv
          injection hq with hq; exact ⟨_, _, _, rfl, hq.symm⟩
        · cases hq
      obtain ⟨a, m, c, rfl, rfl⟩ := key
      rcases hop with ⟨rfl, rfl⟩ | ⟨rfl, rfl⟩
      · simp only [abinH, abin, ht]; exact hk _ (.bool _)
      · simp only [abinH, abin, ht]; exact hk _ (.bool _)
    · cases e
  · rename_i xs ys
    obtain ⟨vs, rfl, h1⟩ := hx.agg_inv
    obtain ⟨us, rfl, h2⟩ := hy.agg_inv
    obtain ⟨q, hq, hop⟩ := qbool_sound e
    have key : aggEq P t vs us = some q := by
      simp only [Option.bind_eq_some_iff] at hq
      obtain ⟨l, hl, hq⟩ := hq
      simp only [aggEq, hl, Option.bind_some]
      exact eplan_spec h1 h2 l q hq
    rcases hop with ⟨rfl, rfl⟩ | ⟨rfl, rfl⟩
    · simp only [abinH, abin, key]; exact hk _ (.bool _)
    · simp only [abinH, abin, key]; exact hk _ (.bool _)
  · cases e
theorem eun_sound {op : UnOp} {x r : AV} {v : Value} (hx : VR φ x v) (e : eun op x = some r) (hk : ∀ u, VR φ r u → K u) : aun op v K := by
  unfold eun at e
  split at e
  · rw [hx.bool_inv]; injection e with e; subst e; exact hk _ (.bool _)
  · rw [hx.int_inv]; injection e with e; subst e; exact hk _ (.int _ _)
  · rw [hx.int_inv]; injection e with e; subst e; exact hk _ (.int _ _)
  · cases e
theorem epart_sound {t : TypeId} {l : List AV} {off : Nat} {r : AV} {cs : Array Value} (hl : VRs φ l cs.toList) (e : epart P t l off = some r) (hk : ∀ u, VR φ r u → K u) : apart_ P t cs off K := by
  unfold epart at e
  split at e
  · rename_i hg
    obtain ⟨v, h1, h2⟩ := hl.at (by rw [← nth_eq]; exact e)
    rw [Array.getElem?_toList] at h1
    simp only [apart_, hg, h1]
    exact hk v h2
  · rename_i hg
    split at e
    · rename_i m hm
      simp only [Option.map_eq_some_iff] at e
      obtain ⟨l', e1, rfl⟩ := e
      obtain ⟨h1, rfl⟩ := subL_spec e1
      simp only [apart_, hg, hm]
      refine hk _ (.agg ?_)
      have := (hl.drop off).take m
      rw [Array.toList_extract, List.extract_eq_take_drop]
      rw [show off + m - off = m from by omega]
      exact this
    · cases e
  · cases e
theorem efield_sound {s : TypeId} {x r : AV} {i : Nat} {v : Value} (hx : VR φ x v) (e : efield P s x i = some r) (hk : ∀ u, VR φ r u → K u) : afield P s v i K := by
  unfold efield at e
  split at e
  · rename_i l t off ht
    obtain ⟨cs, rfl, h1⟩ := hx.agg_inv
    simp only [afield, ht]
    exact epart_sound h1 e hk
  · cases e
theorem efieldAddr_sound {s : TypeId} {x r : AV} {i : Nat} {v : Value} (hx : VR φ x v) (e : efieldAddr P s x i = some r) (hk : ∀ u, VR φ r u → K u) : afieldAddr P s v i K := by
  unfold efieldAddr at e
  split at e
  · rename_i b o t off ht
    obtain ⟨p, hp, rfl⟩ := hx.ptr_inv
    injection e with e; subst e
    simp only [afieldAddr, ht]
    rw [Nat.add_assoc]
    exact hk _ (.ptr hp)
  · cases e
theorem eix_spec {ix : AV} {len i : Nat} {v : Value} (hx : VR φ ix v) (e : eix ix len = some i) : i < len ∧ ∃ k, v = .int k (i : Int) := by
  unfold eix at e
  split at e
  · rename_i k j
    split at e
    · rename_i hb
      injection e with e; subst e
      exact ⟨by simpa [Nat.blt_eq] using hb, k, hx.int_inv⟩
    · cases e
  · cases e
theorem eindexAddr_sound {t : TypeId} {x ix r : AV} {v u : Value} (hx : VR φ x v) (hi : VR φ ix u) (e : eindexAddr P t x ix = some r) (hk : ∀ u, VR φ r u → K u) : aindexAddr P t v u K := by
  unfold eindexAddr at e
  split at e
  · rename_i el b o m c k hu
    obtain ⟨p, C, hp, rfl, _, _⟩ := hx.sl_inv
    split at e
    · rename_i i es e1 e2
      obtain ⟨h1, kk, rfl⟩ := eix_spec hi e1
      injection e with e; subst e
      simp only [aindexAddr, hu, e2]
      refine ⟨by omega, by omega, ?_⟩
      rw [Int.toNat_natCast, Nat.add_assoc]
      exact hk _ (.ptr hp)
    · cases e
  · rename_i len el b o hu
    obtain ⟨p, hp, rfl⟩ := hx.ptr_inv
    split at e
    · rename_i i es e1 e2
      obtain ⟨h1, kk, rfl⟩ := eix_spec hi e1
      injection e with e; subst e
      simp only [aindexAddr, hu, e2]
      refine ⟨by omega, by omega, ?_⟩
      rw [Int.toNat_natCast, Nat.add_assoc]
      exact hk _ (.ptr hp)
    · cases e
  · cases e
theorem eindex_sound {t : TypeId} {x ix r : AV} {v u : Value} (hx : VR φ x v) (hi : VR φ ix u) (e : eindex P t x ix = some r) (hk : ∀ u, VR φ r u → K u) : aindex P t v u K := by
  unfold eindex at e
  split at e
  · rename_i len el l hu
    obtain ⟨cs, rfl, hl⟩ := hx.agg_inv
    split at e
    · rename_i i es e1 e2
      obtain ⟨h1, kk, rfl⟩ := eix_spec hi e1
      simp only [aindex, hu, e2]
      refine ⟨by omega, by omega, ?_⟩
      rw [Int.toNat_natCast]
      exact epart_sound hl e hk
    · cases e
  · rename_i s hu
    obtain ⟨rfl, hs⟩ := hx.str_inv
    split at e
    · rename_i i e1
      obtain ⟨h1, kk, rfl⟩ := eix_spec hi e1
      simp only [Option.map_eq_some_iff, nth_eq] at e
      obtain ⟨c, hc, rfl⟩ := e
      have h2 := hs c (List.mem_of_getElem? hc)
      simp only [aindex, hu, vstr_toList, Int.toNat_natCast, List.getElem?_map, hc, Option.map_some]
      refine ⟨by omega, hk _ ?_⟩
      have : ((UInt8.ofNat c).toNat : Int) = Int.ofNat c := by
        rw [UInt8.toNat_ofNat', Nat.mod_eq_of_lt h2]; rfl
      rw [this]; exact .int _ _
    · cases e
  · cases e
theorem eextract_sound {x r : AV} {i : Nat} {v : Value} (hx : VR φ x v) (e : eextract x i = some r) (hk : ∀ u, VR φ r u → K u) : aextract v i K := by
  unfold eextract at e
  split at e
  · rename_i l
    obtain ⟨cs, rfl, hl⟩ := hx.tup_inv
    obtain ⟨v, h1, h2⟩ := hl.at (by rw [← nth_eq]; exact e)
    rw [Array.getElem?_toList] at h1
    simp only [aextract, h1]
    exact hk v h2
  · cases e
theorem elen_sound (hr : HR φ H n h0 h) {t : TypeId} {x r : AV} {v : Value} (hx : VR φ x v) (e : elen P t x H = some r) (hk : ∀ u, VR φ r u → K u) : alen P t v h K := by
  unfold elen at e
  split at e
  · rename_i s hu
    obtain ⟨rfl, _⟩ := hx.str_inv
    injection e with e; subst e
    simp only [alen, hu, vstr_size]
    exact hk _ (.int _ _)
  · rename_i el hu
    rw [hx.nsl_inv]
    injection e with e; subst e
    simp only [alen, hu]
    exact hk _ (.int _ _)
  · rename_i el b hu
    obtain ⟨p, x, C, _, rfl, _⟩ := hx.esl_inv
    injection e with e; subst e
    simp only [alen, hu]
    exact hk _ (.int _ _)
  · rename_i el b o m c k hu
    obtain ⟨p, C, hp, rfl, _, _⟩ := hx.sl_inv
    injection e with e; subst e
    simp only [alen, hu]
    exact hk _ (.int _ _)
  · rename_i m el x hu
    injection e with e; subst e
    simp only [alen, hu]
    exact hk _ (.int _ _)
  · rename_i k el b hu
    obtain ⟨p, hp, rfl⟩ := hx.map_inv
    split at e
    · rename_i es hb
      obtain ⟨ob, hB, hf, ms, cl, rfl, h1⟩ := hr.of hb hp
      injection e with e; subst e
      have := MR.length h1
      simp only [alen, hu, hf]
      rw [show (ms.size : Int) = (es.length : Int) from by simp [this]]
      exact hk _ (.int _ _)
    · cases e
  · cases e
theorem emm_sound {q : Bool} {x y r : AV} {v u : Value} (hx : VR φ x v) (hy : VR φ y u) (e : emm q x y = some r) (hk : ∀ u, VR φ r u → K u) : aminmax q v u K := by
  unfold emm at e
  split at e
  · rw [hx.int_inv, hy.int_inv]
    injection e with e; subst e
    exact hk _ (.int _ _)
  · cases e
end
end Go.Proofs.Ytaejmcgcfopmkaa
