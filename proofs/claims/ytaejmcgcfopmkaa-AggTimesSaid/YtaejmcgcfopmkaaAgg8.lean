/- Functions of package agg's as known ones, for the machine that asks. -/
import Derived.Test.YtaejmcgcfopmkaaAgg7
namespace Go.Proofs.Ytaejmcgcfopmkaa
open Go Go.RowKit
/-- A number, known or not. -/
def asI (a : AV) (κ : Int → Prop) : Prop := match a with
  | .int .i64 n => κ n
  | .si .i64 n => κ n
  | _ => False
theorem asI_inv {φ : Ph} {a : AV} {v : Value} {κ : Int → Prop} (h : VR φ a v) (k : asI a κ) : ∃ n, v = .int .i64 n ∧ κ n := by
  unfold asI at k
  split at k
  · exact ⟨_, h.int_inv, k⟩
  · exact ⟨_, h.si_inv, k⟩
  · exact k.elim
theorem vs3 {φ : Ph} {a b c : AV} {vs : Array Value} (h : VRs φ [a, b, c] vs.toList) : ∃ x y z, vs = #[x, y, z] ∧ VR φ a x ∧ VR φ b y ∧ VR φ c z := by
  obtain ⟨x, l1, e1, h1, h2⟩ := h.cons_inv
  obtain ⟨y, l2, e2, h3, h4⟩ := h2.cons_inv
  obtain ⟨z, l3, e3, h5, h6⟩ := h4.cons_inv
  have := h6.nil_inv
  subst this e3 e2
  exact ⟨x, y, z, by cases vs; simp_all, h1, h3, h5⟩
theorem vs2 {φ : Ph} {a b : AV} {vs : Array Value} (h : VRs φ [a, b] vs.toList) : ∃ x y, vs = #[x, y] ∧ VR φ a x ∧ VR φ b y := by
  obtain ⟨x, l1, e1, h1, h2⟩ := h.cons_inv
  obtain ⟨y, l2, e2, h3, h4⟩ := h2.cons_inv
  have := h4.nil_inv
  subst this e2
  exact ⟨x, y, by cases vs; simp_all, h1, h3⟩
theorem vs1 {φ : Ph} {a : AV} {vs : Array Value} (h : VRs φ [a] vs.toList) : ∃ x, vs = #[x] ∧ VR φ a x := by
  obtain ⟨x, l1, e1, h1, h2⟩ := h.cons_inv
  have := h2.nil_inv
  subst this
  exact ⟨x, by cases vs; simp_all, h1⟩
def nat3 (f : Int → Int → Int → Int) (args : List AV) (H : AH) (n : Nat) (κ : PK) : Prop := match args with
  | [x, y, z] => asI x fun t => asI y fun s => asI z fun a => κ (.si .i64 (f t s a)) H n
  | _ => False
theorem nat3_ok {F : FuncId} {f : Int → Int → Int → Int} (hc : ∀ (t s a : Int) (h : Hp) (K : KH), K (.int .i64 (f t s a)) h → CallF Try.prog F #[.int .i64 t, .int .i64 s, .int .i64 a] h K) : NatP F (nat3 f) := fun args H n κ hs φ h0 h vs K hr hargs hk => by
  unfold nat3 at hs
  split at hs
  · obtain ⟨x, y, z, rfl, h1, h2, h3⟩ := vs3 hargs
    obtain ⟨t, rfl, hs⟩ := asI_inv h1 hs
    obtain ⟨s, rfl, hs⟩ := asI_inv h2 hs
    obtain ⟨a, rfl, hs⟩ := asI_inv h3 hs
    exact hc t s a h K (Then.int hr hk hs)
  · exact hs.elim
theorem n_start : NatP 17 (nat3 sStart) := nat3_ok fun t s a h K hk => c_start (K := ⟨K⟩) t s a h hk
theorem n_end : NatP 19 (nat3 sEnd) := nat3_ok fun t s a h K hk => c_end (K := ⟨K⟩) t s a h hk
theorem n_known : NatP 11 (natQ trueN) := natTrue known_true
noncomputable def F1 : FuncId → EP := withN 11 (natQ trueN) (withN 17 (nat3 sStart) (withN 19 (nat3 sEnd) evP))
theorem F1_ok : TabP F1 := withN_ok (withN_ok (withN_ok evP_ok n_end) n_start) n_known
set_option maxRecDepth 100000 in
theorem w_aggTimes (t s a : Int) : callT F1 3 6 [.si .i64 t, .si .i64 s, .si .i64 a] .nil 0 fun v _ _ => v = .bool true ∨ v = .sb true := by
  repeat' (conv => whnf
           first | refine Fork.dec (fun _ => ?_) (fun _ => ?_) | refine Fork.ndec (fun _ => ?_) (fun _ => ?_) | exact .inl rfl)
  all_goals
    exfalso
    obtain ⟨L1, L2, L3, L4, L5, L6, L7⟩ := times_law (t := t) (s := s) (a := a) ⟨by omega, by omega, by omega, by omega, by omega, by omega⟩
    have hb := sStart_bounds (t := t) (s := s) (a := a)
    have e1 : IntKind.i64.wrap (sEnd (sStart t s a) s a - sStart t s a) = sEnd (sStart t s a) s a - sStart t s a := wrap_i64_of (by omega) (by omega)
    have e2 : IntKind.i64.wrap (sStart t s a - 1) = sStart t s a - 1 := wrap_i64_of (by omega) (by omega)
    rw [← e2] at L7
    omega
end Go.Proofs.Ytaejmcgcfopmkaa
