/- The machine that asks: a state that stands for another one, its blocks named anew. -/
import Derived.Test.YtaejmcgcfopmkaaEvV
namespace Go.Proofs.Ytaejmcgcfopmkaa
open Go Go.RowKit
noncomputable def mkE : List (Nat × AV) → AE
  | [] => .nil
  | x :: l => (mkE l).set (some x.2) depthE x.1
noncomputable def mkH : List (Nat × AO) → AH
  | [] => .nil
  | x :: l => (mkH l).set (some x.2) depthH x.1
theorem mkE_get : ∀ {l : List (Nat × AV)} {t : Nat} {a : AV}, (mkE l).get t = some a → (t, a) ∈ l
  | [], t, a, h => by cases h
  | x :: l, t, a, h => by
    rcases PM.get_set depthE _ x.1 t a h with ⟨rfl, h2⟩ | ⟨_, h2⟩
    · injection h2 with h2; subst h2; exact List.mem_cons_self
    · exact List.mem_cons_of_mem _ (mkE_get h2)
theorem mkH_get : ∀ {l : List (Nat × AO)} {t : Nat} {a : AO}, (mkH l).get t = some a → (t, a) ∈ l
  | [], t, a, h => by cases h
  | x :: l, t, a, h => by
    rcases PM.get_set depthH _ x.1 t a h with ⟨rfl, h2⟩ | ⟨_, h2⟩
    · injection h2 with h2; subst h2; exact List.mem_cons_self
    · exact List.mem_cons_of_mem _ (mkH_get h2)
/-- Places by new names: 'r' tells the old one. -/
def Ren (m : Nat) (r : Nat → Nat) (φ ψ : Ph) : Prop := ∀ b, b < m → ψ b = φ (r b)
def SubV (m : Nat) (r : Nat → Nat) (a a' : AV) : Prop := ∀ φ ψ v, Ren m r φ ψ → VR φ a v → VR ψ a' v
def SubO (m : Nat) (r : Nat → Nat) (o o' : AO) : Prop := o.own = o'.own ∧ ∀ φ ψ p ob, Ren m r φ ψ → OR φ p o ob → OR ψ p o' ob
section
variable {m : Nat} {r : Nat → Nat}
theorem SubV.bad (a : AV) : SubV m r a .bad := fun _ _ _ _ _ => .bad _
theorem SubV.flat {a a' : AV} (h : Go.Proofs.Ytaejmcgcfopmkaa.flat a' = true) (e : mk a = mk a') : SubV m r a a' := fun φ ψ v _ hv => by
  have h1 : VR φ (mk a') v := e ▸ hv.mk
  have h2 : VR φ a' v := by cases a' <;> exact h1
  exact flat_VR h h2
theorem SubV.int {k : IntKind} {a : AV} {x : Int} (e : mk a = .si k x) : SubV m r a (.si k x) := SubV.flat rfl e
theorem SubV.bool {a : AV} {x : Bool} (e : mk a = .sb x) : SubV m r a (.sb x) := SubV.flat rfl e
theorem SubV.str {a : AV} {x : List Nat} (e : mk a = .ss x) : SubV m r a (.ss x) := SubV.flat rfl e
theorem SubV.ptr {a : AV} {b o : Nat} (hb : b < m) (e : a = .ptr (r b) o) : SubV m r a (.ptr b o) := fun φ ψ v hr hv => by
  subst e
  obtain ⟨p, h1, rfl⟩ := hv.ptr_inv
  exact .ptr (by rw [hr b hb]; exact h1)
theorem SubV.map {a : AV} {b : Nat} (hb : b < m) (e : a = .map (r b)) : SubV m r a (.map b) := fun φ ψ v hr hv => by
  subst e
  obtain ⟨p, h1, rfl⟩ := hv.map_inv
  exact .map (by rw [hr b hb]; exact h1)
theorem SubV.sy {a : AV} {b o n c k : Nat} (hb : b < m) (e : mk a = .sy (r b) o n c k) : SubV m r a (.sy b o n c k) := fun φ ψ v hr hv => by
  have h1 : VR φ (.sy (r b) o n c k) v := e ▸ hv.mk
  obtain ⟨p, C, h4, rfl, h2, h3⟩ := h1.sy_inv
  exact .sy (by rw [hr b hb]; exact h4) h2 h3
theorem SubV.sl {a : AV} {b o n c k : Nat} (hb : b < m) (e : mk a = .sy (r b) o n c k) : SubV m r a (.sl b o n c k) := fun φ ψ v hr hv => (SubV.sy hb e φ ψ v hr hv).hd
theorem SubV.same {a : AV} (h : Go.Proofs.Ytaejmcgcfopmkaa.flat a = true) : SubV m r a a := SubV.flat h rfl
theorem SubO.cells {l l' : List AV} {z z' : Bool} (hl : l'.length ≤ l.length) (hz : z' = true → z = true) (h : ∀ (i : Nat) (a' : AV), l'[i]? = some a' → ∃ a, l[i]? = some a ∧ SubV m r a a') : SubO m r (.cells l z) (.cells l' z') :=
  ⟨rfl, fun φ ψ p ob hr ⟨c, t, fz, h1, h2, h3, h4, h5, h6⟩ => ⟨c, t, fz, h1, Nat.le_trans hl h2, h3, h4, fun q => h5 (hz q), fun i a' hi => by
    obtain ⟨a, h7, h8⟩ := h i a' hi
    obtain ⟨v, h9, h10⟩ := h6 i a h7
    exact ⟨v, h9, h8 φ ψ v hr h10⟩⟩⟩
theorem SubO.ro {l l' : List AV} (hl : l'.length ≤ l.length) (h : ∀ (i : Nat) (a' : AV), l'[i]? = some a' → ∃ a, l[i]? = some a ∧ SubV m r a a') : SubO m r (.ro l) (.ro l') :=
  ⟨rfl, fun φ ψ p ob hr ⟨c, t, fz, h1, h2, h3, h6⟩ => ⟨c, t, fz, h1, Nat.le_trans hl h2, h3, fun i a' hi => by
    obtain ⟨a, h7, h8⟩ := h i a' hi
    obtain ⟨v, h9, h10⟩ := h6 i a h7
    exact ⟨v, h9, h8 φ ψ v hr h10⟩⟩⟩
theorem SubO.maps {β : Type} {f g : β → AV} {l : List β} {z : Bool} (h : ∀ x, SubV m r (f x) (g x)) : SubO m r (.cells (l.map f) z) (.cells (l.map g) z) :=
  SubO.cells (by simp) (fun q => q) fun i a' hi => by
    rw [List.getElem?_map, Option.map_eq_some_iff] at hi
    obtain ⟨x, hx, rfl⟩ := hi
    exact ⟨f x, by rw [List.getElem?_map, hx]; rfl, h x⟩
theorem flat_of1 {a : AV} (h : Go.Proofs.Ytaejmcgcfopmkaa.flat.flat1 a = true) : Go.Proofs.Ytaejmcgcfopmkaa.flat a = true := by cases a <;> first | exact h | cases h
theorem SubV.mk1 {a a' : AV} (hf : Go.Proofs.Ytaejmcgcfopmkaa.flat.flat1 a' = true) (e : mk a = mk a') : SubV m r a a' := SubV.flat (flat_of1 hf) e
theorem map_mk_at {l l' : List AV} (hf : l'.all Go.Proofs.Ytaejmcgcfopmkaa.flat.flat1 = true) (h : l.map mk = l'.map mk) (i : Nat) (a' : AV) (hi : l'[i]? = some a') : ∃ a, l[i]? = some a ∧ SubV m r a a' := by
  have e := congrArg (fun x : List AV => x[i]?) h
  simp only [List.getElem?_map, hi, Option.map_some] at e
  rw [Option.map_eq_some_iff] at e
  obtain ⟨a, h1, h2⟩ := e
  exact ⟨a, h1, .mk1 (List.all_eq_true.1 hf a' (List.mem_of_getElem? hi)) h2⟩
theorem SubO.cells_mk {l l' : List AV} {z z' : Bool} (hf : l'.all Go.Proofs.Ytaejmcgcfopmkaa.flat.flat1 = true) (h : l.map mk = l'.map mk) (hz : z' = true → z = true) : SubO m r (.cells l z) (.cells l' z') :=
  SubO.cells (by have := congrArg List.length h; simp only [List.length_map] at this; omega) hz (map_mk_at hf h)
theorem SubO.ro_mk {l l' : List AV} (hf : l'.all Go.Proofs.Ytaejmcgcfopmkaa.flat.flat1 = true) (h : l.map mk = l'.map mk) : SubO m r (.ro l) (.ro l') :=
  SubO.ro (by have := congrArg List.length h; simp only [List.length_map] at this; omega) (map_mk_at hf h)
theorem ebytes_map : ∀ {s : List Nat}, (∀ x ∈ s, x < 256) → ebytes (s.map fun c : Nat => .si .u8 (Int.ofNat c)) = some s
  | [], _ => rfl
  | c :: s, h => by
    have hc : Nat.blt c 256 = true := by rw [Nat.blt_eq]; exact h c List.mem_cons_self
    simp only [List.map_cons, ebytes, hc, ebytes_map (s := s) fun x hx => h x (List.mem_cons_of_mem _ hx), Option.map_some]
theorem conv_str {P : Program} {src dst e : TypeId} {x : AV} {H : AH} {n b o len c k : Nat} {l l2 : List AV} {z : Bool} {s : List Nat} (hx : x = .sl b o len c k) (hb : H.get b = some (.cells l z)) (hu : P.underlying src = some (.slice e)) (hd : P.underlying dst = some .string) (he : P.underlying e = some (.int .u8))
    (hl : subL l o len = some l2) (hs : ebytes l2 = some s) : econv P src dst x H n = some (.str s, H, n) := by
  subst hx
  simp only [econv, hu, hd, he, hb, hl, Option.bind_some, hs, Option.map_some]
theorem app_grow {P : Program} {t u e e2 : TypeId} {s x : AV} {H : AH} {n k by' m b o sn c : Nat} {z : Value} {l new old : List AV} {z' : Bool} (hs : s = .sl b o sn c (k + 1)) (hb : H.get b = some (.cells l z')) (hu : P.underlying t = some (.slice e)) (hu2 : P.underlying u = some (.slice e2))
    (hk : tySize P e = some (k + 1)) (hby : tyBytes P e = some by') (hz : tyZero P e = some z) (hzc : z.cells.size = k + 1) (hb0 : 0 < by') (hsrc : esrc H (k + 1) x = some (m, new)) (hnew : new.length = m * (k + 1)) (hone : new.all one1 = true) (hgt : c < sn + m) (hbig : (sn + m) * by' ≤ 140737488355328) (hold : subL l o (sn * (k + 1)) = some old) :
    eappend P t u s x H n = some (.sl n 0 (sn + m) (sn + m) (k + 1), (H.set none depthH b).set (some (.cells (old ++ new) z')) depthH n, n + 1) := by
  subst hs
  simp only [eappend, hu, hu2, hk, hby, hz, hsrc, hb, hold]
  rw [if_pos ⟨hzc, hb0, Nat.succ_pos k, hnew, hone⟩, if_neg (by omega), if_pos hbig]
  simp
theorem subL_all {α : Type} {l : List α} {n : Nat} (h : l.length = n) : subL l 0 n = some l := by
  subst h
  unfold subL
  rw [Nat.zero_add, Nat.ble_eq_true_of_le (Nat.le_refl _)]
  simp
theorem Cov.of {p n : Nat} {σ : AE} {H : AH} {le : List (Nat × AV)} {lh : List (Nat × AO)} (r : Nat → Nat) (hp : p ≤ m) (hr : ∀ b, b < p → r b = b) (he : ∀ x ∈ le, SubV m r (getq (pa x.1) σ) x.2)
    (hh : ∀ x ∈ lh, x.1 < m ∧ ∃ o, H.get (r x.1) = some o ∧ SubO m r o x.2) (hi : ∀ x ∈ lh, ∀ y ∈ lh, r x.1 = r y.1 → x.1 = y.1) : Cov p σ H n (mkE le, mkH lh, m) := fun φ h0 h ρ hR hF => by
  let ψ : Ph := fun b => if b < m then φ (r b) else none
  have hren : Ren m r φ ψ := fun b hb => by simp only [ψ, if_pos hb]
  refine ⟨ψ, fun b q hb hq => ?_, ⟨fun b q hq => ?_, fun b o hb => ?_, fun b b' o o' q q' hb hb' hw hw' hq hq' e => ?_, hR.base, hR.size⟩, fun t a ht => ?_⟩
  · simp only [ψ, if_pos (Nat.lt_of_lt_of_le hb hp), hr b hb]; exact hq
  · simp only [ψ] at hq
    split at hq
    · rename_i hb; exact ⟨hb, (hR.dom _ _ hq).2⟩
    · cases hq
  · obtain ⟨h1, o2, h2, h3, h4⟩ := hh _ (mkH_get hb)
    obtain ⟨q, ob, g1, g2, g3, g4⟩ := hR.live _ _ h2
    refine ⟨q, ob, by simp only [ψ, if_pos h1]; exact g1, ?_, g3, h4 φ ψ q ob hren g4⟩
    rw [g2]
    cases o2 <;> cases o <;> first | rfl | cases h3
  · obtain ⟨h1, o2, h2, h3, h4⟩ := hh _ (mkH_get hb)
    obtain ⟨h1', o2', h2', h3', h4'⟩ := hh _ (mkH_get hb')
    simp only [ψ, if_pos h1] at hq
    simp only [ψ, if_pos h1'] at hq'
    exact hi _ (mkH_get hb) _ (mkH_get hb') (hR.inj _ _ _ _ _ _ h2 h2' (h3.trans hw) (h3'.trans hw') hq hq' e)
  · exact he _ (mkE_get ht) φ ψ _ hren (hF.at t)
end
end Go.Proofs.Ytaejmcgcfopmkaa
