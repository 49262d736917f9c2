/- The quick machine: a law's fixed calls, known by themselves. -/
import Derived.Test.YtaejmcgcfopmkaaEvR
namespace Go.Proofs.Ytaejmcgcfopmkaa
open Go Go.RowKit
theorem HR.grow {φ : Ph} {H : AH} {n : Nat} {h0 h g : Hp} (hr : HR φ H n h0 h) (hs : ∀ b o, h.f b = some o → g.f b = some o) (hn : h.n ≤ g.n) : HR φ H n h0 g :=
  ⟨fun b p e => ⟨(hr.dom b p e).1, Nat.lt_of_lt_of_le (hr.dom b p e).2 hn⟩, fun b o e =>
    let ⟨p, ob, h1, h2, h3, h4⟩ := hr.live b o e
    ⟨p, ob, h1, h2, hs _ _ h3, h4⟩, hr.inj, fun b o e => ⟨Nat.lt_of_lt_of_le (hr.base b o e).1 hn, hs _ _ (hr.base b o e).2⟩, Nat.le_trans hr.size hn⟩
theorem start_none {h : Hp} (hw : Wf h) : HR (fun _ => none) .nil 0 h h :=
  ⟨fun _ _ k => (by cases k), fun _ _ k => (by cases k), fun _ _ _ _ _ _ k => (by cases k), fun b o k => ⟨hw b o k, k⟩, Nat.le_refl _⟩
theorem isTrue_inv {r : AR} (h : isTrue r = true) : ∃ H n, r = some (.bool true, H, n) := by
  unfold isTrue at h
  split at h
  · exact ⟨_, _, rfl⟩
  · cases h
/-- A function without arguments that was found to answer true. -/
def trueN (args : List AV) (H : AH) (n : Nat) (κ : KA) : AR := match args with
  | [] => κ (.bool true) H n
  | _ => none
theorem trueN_N : NatN trueN := fun args H n κ r h => by
  cases args with
  | nil => exact ⟨_, _, _, fun _ => rfl⟩
  | cons _ _ => cases h
theorem trueN_ok {F : FuncId → EQ} (hF : TabQ F) {d : Nat} {f : FuncId} (he : isTrue (callq F d f [] .nil 0 topq) = true) : COk Try.prog f fun args H n => trueN args H n topq := fun args H n v H' n' e φ h0 h vs K hr hargs hk => by
  cases args with
  | cons _ _ => cases e
  | nil =>
    injection e with e; injection e with e1 e2; injection e2 with e2 e3
    subst e1 e2 e3
    obtain ⟨H1, n1, e4⟩ := isTrue_inv he
    have hv : vs = #[] := by
      have := hargs.nil_inv
      cases vs; simp_all
    subst hv
    have key : ∀ {g : Hp} {K : KH}, Wf g → (∀ u g', (∀ b o, g.f b = some o → g'.f b = some o) → g.n ≤ g'.n → u = .bool true → K u g') → CallF Try.prog f #[] g K := fun {g K} hw hK =>
      callq_sound (by kernel_rfl) hF d f [] .nil 0 _ H1 n1 e4 (fun _ => none) g g #[] K (start_none hw) .nil fun ψ u g' _ hg hu => hK u g' (fun b o hb => (hg.base b o hb).2) hg.size hu.bool_inv
    have hic : isCall Try.prog f = true := (key (g := ⟨fun _ => none, 0⟩) (K := fun _ _ => True) (fun _ _ q => by cases q) fun _ _ _ _ _ => trivial).1
    refine ⟨hic, fun w hi => ?_⟩
    exact (key hi.wf fun u g' h1 h2 h3 => by
      subst h3
      exact hk φ _ g' (PLe.refl _) (hr.grow h1 h2) (.bool true)).2 w hi
/-- The table, one function known to answer true. -/
noncomputable def withTrue (k : FuncId) (F : FuncId → EQ) (f : FuncId) : EQ := Bool.rec (F f) (.nat trueN) (Nat.beq f k)
theorem withTrue_ok {F G : FuncId → EQ} (hF : TabQ F) (hG : TabQ G) {d : Nat} {k : FuncId} (he : isTrue (callq G d k [] .nil 0 topq) = true) : TabQ (withTrue k F) := fun f => by
  unfold withTrue
  cases hb : Nat.beq f k with
  | false => exact hF f
  | true =>
    have := Nat.eq_of_beq_eq_true hb
    subst this
    exact ⟨trueN_N, trueN_ok hG he⟩
theorem two_cells {cs : Array Value} (h : cs.size = 2) : ∃ a b, cs = #[a, b] := by
  obtain ⟨l⟩ := cs
  match l, h with
  | [a, b], _ => exact ⟨a, b, rfl⟩
/-- Any values, as values that nobody looks into. -/
theorem VRs.anys (φ : Ph) (l : List Value) : VRs φ (l.map AV.any) l := by
  have := VRs.map (φ := φ) (f := AV.any) (g := id) VR.any l
  simpa using this
end Go.Proofs.Ytaejmcgcfopmkaa
