/- The machine that asks: a function that only looks at memory, run on a small memory of its own. -/
import Derived.Test.YtaejmcgcfopmkaaEvN
namespace Go.Proofs.Ytaejmcgcfopmkaa
open Go Go.RowKit
section
variable {φ : Ph} {H : AH} {n : Nat} {h0 hp : Hp}
/-- What lies at a place, seen from anywhere. -/
def RoAt (hp : Hp) (p : Pl) (l : List AV) : Prop := ∃ c t fz, hp.f p.B = some (.cells c t fz) ∧ l.length ≤ p.T ∧ p.s + p.T ≤ c.size ∧ ∀ ψ, CR ψ c p.s l
def ph1 (p : Pl) : Ph := fun b => if b = 0 then some p else none
def ph2 (p q : Pl) : Ph := fun b => if b = 0 then some p else if b = 1 then some q else none
theorem HR.ro1 (hw : Wf hp) {p : Pl} {l : List AV} (h : RoAt hp p l) : HR (ph1 p) (mkH [(0, .ro l)]) 1 hp hp := by
  obtain ⟨c, t, fz, h1, h2, h3, h4⟩ := h
  refine ⟨fun b q e => ?_, fun b o e => ?_, fun b b' o o' q q' e _ hw' => ?_, fun b o e => ⟨hw b o e, e⟩, Nat.le_refl _⟩
  · simp only [ph1] at e
    split at e
    · injection e with e; subst e; exact ⟨by omega, hw _ _ h1⟩
    · cases e
  · have hm := mkH_get e
    simp only [List.mem_cons, List.not_mem_nil, or_false] at hm
    injection hm with e1 e2
    subst e1 e2
    exact ⟨p, _, rfl, h1, h1, c, t, fz, rfl, h2, h3, h4 _⟩
  · have hm := mkH_get e
    simp only [List.mem_cons, List.not_mem_nil, or_false] at hm
    injection hm with e1 e2
    subst e2
    cases hw'
theorem HR.ro2 (hw : Wf hp) {p q : Pl} {l m : List AV} (h : RoAt hp p l) (k : RoAt hp q m) : HR (ph2 p q) (mkH [(0, .ro l), (1, .ro m)]) 2 hp hp := by
  obtain ⟨c, t, fz, h1, h2, h3, h4⟩ := h
  obtain ⟨c', t', fz', k1, k2, k3, k4⟩ := k
  have mem : ∀ b o, (mkH [(0, AO.ro l), (1, AO.ro m)]).get b = some o → (b = 0 ∧ o = .ro l) ∨ (b = 1 ∧ o = .ro m) := fun b o e => by
    have hm := mkH_get e
    simp only [List.mem_cons, List.not_mem_nil, or_false] at hm
    rcases hm with hm | hm
    · injection hm with e1 e2; exact .inl ⟨e1, e2⟩
    · injection hm with e1 e2; exact .inr ⟨e1, e2⟩
  refine ⟨fun b r e => ?_, fun b o e => ?_, fun b b' o o' r r' e _ hw' => ?_, fun b o e => ⟨hw b o e, e⟩, Nat.le_refl _⟩
  · simp only [ph2] at e
    split at e
    · injection e with e; subst e; exact ⟨by omega, hw _ _ h1⟩
    · split at e
      · injection e with e; subst e; exact ⟨by omega, hw _ _ k1⟩
      · cases e
  · rcases mem b o e with ⟨rfl, rfl⟩ | ⟨rfl, rfl⟩
    · exact ⟨p, _, rfl, h1, h1, c, t, fz, rfl, h2, h3, h4 _⟩
    · exact ⟨q, _, rfl, k1, k1, c', t', fz', rfl, k2, k3, k4 _⟩
  · rcases mem b o e with ⟨_, rfl⟩ | ⟨_, rfl⟩ <;> cases hw'
theorem HR.ro0 (hw : Wf hp) : HR (fun _ => none) .nil 0 hp hp := start_none hw
/-- A run on a small memory, all other memory being its base: only its value is kept. -/
theorem smallN {F : FuncId → EP} (hF : TabP F) {d : Nat} {f : FuncId} {args0 : List AV} {H0 : AH} {n0 : Nat} {v : AV} (hv : flat v = true) (h : callT F d f args0 H0 n0 fun u _ _ => mkT u = mkT v)
    {vs : Array Value} {κ : PK} {K : KH} (hs : κ (mkT v) H n) (hr : HR φ H n h0 hp) (hk : ThenP φ h0 κ K) (hic : isCall Try.prog f = true) {φ0 : Ph} (hr0 : Wf hp → HR φ0 H0 n0 hp hp) (hargs : VRs φ0 args0 vs.toList) : CallF Try.prog f vs hp K := by
  have key : Wf hp → CallF Try.prog f vs hp K := fun hw => callT_sound (by kernel_rfl) hF d f args0 H0 n0 _ h φ0 hp hp vs K (hr0 hw) hargs fun ψ u H' n' w g _ hg hu he => by
    have hg2 : HR φ H n h0 g := hr.grow (fun b o hb => (hg.base b o hb).2) hg.size
    have h3 : VR φ (mkT v) w := (flat_VR (φ := ψ) (flat_mkT hv) (he ▸ hu.mkT))
    exact hk φ _ H n w g (PLe.refl _) hg2 h3 hs
  exact ⟨hic, fun w hi => (key hi.wf).2 w hi⟩
/-- Cells that are known, looked at from a place of their own. -/
theorem RoAt.of (hr : HR φ H n h0 hp) {b o m : Nat} {l r s : List AV} {p : Pl} (hb : H.get b = some (.ro l) ∨ ∃ z, H.get b = some (.cells l z)) (hpb : φ b = some p) (hs : subL l o m = some r) (hm : r.map mk = s.map mk) (hf : s.all flat.flat1 = true) : RoAt hp ⟨p.B, p.s + o, m⟩ s := by
  have key : ∃ c t fz, hp.f p.B = some (.cells c t fz) ∧ l.length ≤ p.T ∧ p.s + p.T ≤ c.size ∧ CR φ c p.s l := by
    rcases hb with hb | ⟨z, hb⟩
    · obtain ⟨ob, _, h2, c, t, fz, rfl, h3, h4, h5⟩ := hr.of hb hpb
      exact ⟨c, t, fz, h2, h3, h4, h5⟩
    · obtain ⟨ob, _, h2, c, t, fz, rfl, h3, h4, _, _, h5⟩ := hr.of hb hpb
      exact ⟨c, t, fz, h2, h3, h4, h5⟩
  obtain ⟨c, t, fz, h1, h2, h3, h4⟩ := key
  obtain ⟨h5, h6⟩ := subL_spec hs
  have hlen : s.length = m := by
    have := congrArg List.length hm
    simp only [List.length_map] at this
    rw [← this, h6]
    simp; omega
  refine ⟨c, t, fz, h1, by simp only; omega, by simp only; omega, fun ψ i a hi => ?_⟩
  have hi2 := (List.getElem?_eq_some_iff.1 hi).1
  have h7 : ∃ a', r[i]? = some a' ∧ mk a' = mk a := by
    have e := congrArg (fun x : List AV => x[i]?) hm
    simp only [List.getElem?_map, hi, Option.map_some] at e
    rw [Option.map_eq_some_iff] at e
    exact e
  obtain ⟨a', h8, h9⟩ := h7
  have h10 : l[o + i]? = some a' := by
    rw [h6] at h8
    rw [List.getElem?_take, if_pos (by omega), List.getElem?_drop] at h8
    exact h8
  obtain ⟨v, h11, h12⟩ := h4 (o + i) a' h10
  refine ⟨v, by simp only; rw [Nat.add_assoc]; exact h11, ?_⟩
  have h13 : VR φ (mk a) v := h9 ▸ h12.mk
  have h14 : flat.flat1 a = true := List.all_eq_true.1 hf a (List.mem_of_getElem? hi)
  exact flat1_VR h14 (by cases a <;> first | exact h13 | cases h14)
end
end Go.Proofs.Ytaejmcgcfopmkaa
