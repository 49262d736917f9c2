/- Functions known by a proof: of numbers and texts. -/
import Derived.Test.YtaejmcgcfopmkaaEvW
namespace Go.Proofs.Ytaejmcgcfopmkaa
open Go Go.RowKit
/-- A number, known or not. -/
def asI (a : AV) (κ : Int → Prop) : Prop := match a with
  | .int .i64 n => κ n
  | .si .i64 n => κ n
  | _ => False
theorem asI_inv {φ : Ph} {a : AV} {v : Value} {κ : Int → Prop} (h : VR φ a v) (k : asI a κ) : ∃ n, v = .int .i64 n ∧ κ n := by
  unfold asI at k
  split at k
  · exact ⟨_, h.int_inv, k⟩
  · exact ⟨_, h.si_inv, k⟩
  · exact k.elim
theorem vs3 {φ : Ph} {a b c : AV} {vs : Array Value} (h : VRs φ [a, b, c] vs.toList) : ∃ x y z, vs = #[x, y, z] ∧ VR φ a x ∧ VR φ b y ∧ VR φ c z := by
  obtain ⟨x, l1, e1, h1, h2⟩ := h.cons_inv
  obtain ⟨y, l2, e2, h3, h4⟩ := h2.cons_inv
  obtain ⟨z, l3, e3, h5, h6⟩ := h4.cons_inv
  have := h6.nil_inv
  subst this e3 e2
  exact ⟨x, y, z, by cases vs; simp_all, h1, h3, h5⟩
theorem vs2 {φ : Ph} {a b : AV} {vs : Array Value} (h : VRs φ [a, b] vs.toList) : ∃ x y, vs = #[x, y] ∧ VR φ a x ∧ VR φ b y := by
  obtain ⟨x, l1, e1, h1, h2⟩ := h.cons_inv
  obtain ⟨y, l2, e2, h3, h4⟩ := h2.cons_inv
  have := h4.nil_inv
  subst this e2
  exact ⟨x, y, by cases vs; simp_all, h1, h3⟩
theorem vs1 {φ : Ph} {a : AV} {vs : Array Value} (h : VRs φ [a] vs.toList) : ∃ x, vs = #[x] ∧ VR φ a x := by
  obtain ⟨x, l1, e1, h1, h2⟩ := h.cons_inv
  have := h2.nil_inv
  subst this
  exact ⟨x, by cases vs; simp_all, h1⟩
def nat3 (f : Int → Int → Int → Int) (args : List AV) (H : AH) (n : Nat) (κ : PK) : Prop := match args with
  | [x, y, z] => asI x fun t => asI y fun s => asI z fun a => κ (.si .i64 (f t s a)) H n
  | _ => False

theorem Then.sb {φ : Ph} {H : AH} {n : Nat} {h0 h : Hp} {κ : PK} {K : KH} {b : Bool} (hr : HR φ H n h0 h) (hk : ThenP φ h0 κ K) (h1 : κ (.sb b) H n) : K (.bool b) h := hk φ _ H n _ h (PLe.refl _) hr (.sb b) h1
def mkK (κ : PK) : PK := fun v H n => κ (mk v) H n
theorem ThenP.mkK {φ : Ph} {h0 : Hp} {κ : PK} {K : KH} (hk : ThenP φ h0 κ K) : ThenP φ h0 (mkK κ) K := fun ψ v H n u g h1 h2 h3 h4 => hk ψ _ H n u g h1 h2 h3.mk h4
theorem leafB {κ : PK} {H : AH} {n : Nat} {b c : Bool} (hk : κ (.sb b) H n) (h : b = c) : κ (.sb c) H n := by subst h; exact hk
theorem leafI {κ : PK} {H : AH} {n : Nat} {k : IntKind} {b c : Int} (hk : κ (.si k b) H n) (h : b = c) : κ (.si k c) H n := by subst h; exact hk
def nat1b (f : Int → Bool) (args : List AV) (H : AH) (n : Nat) (κ : PK) : Prop := match args with
  | [x] => asI x fun t => κ (.sb (f t)) H n
  | _ => False
def nat2b (f : Int → Int → Bool) (args : List AV) (H : AH) (n : Nat) (κ : PK) : Prop := match args with
  | [x, y] => asI x fun t => asI y fun s => κ (.sb (f t s)) H n
  | _ => False
/-- Numbers as unknown ones. -/
theorem asI_si {φ : Ph} {a : AV} {v : Value} {κ : Int → Prop} (h : VR φ a v) (k : asI a κ) : ∃ n, VR φ (.si .i64 n) v ∧ κ n := by
  obtain ⟨n, rfl, k⟩ := asI_inv h k
  exact ⟨n, .si _ _, k⟩
theorem nat1b_ok {F : FuncId → EP} (hF : TabP F) {d : Nat} {f : FuncId} {g : Int → Bool} (h : ∀ (t : Int) (H : AH) (n : Nat) (κ : PK), κ (.sb (g t)) H n → callT F d f [.si .i64 t] H n (mkK κ)) : NatP f (nat1b g) := fun args H n κ hs φ h0 hp vs K hr hargs hk => by
  unfold nat1b at hs
  split at hs
  · obtain ⟨x, rfl, h1⟩ := vs1 hargs
    obtain ⟨t, h1, hs⟩ := asI_si h1 hs
    exact callT_sound (by kernel_rfl) hF d f _ H n (mkK κ) (h t H n κ hs) φ h0 hp _ K hr (.cons h1 .nil) hk.mkK
  · exact hs.elim
theorem nat2b_ok {F : FuncId → EP} (hF : TabP F) {d : Nat} {f : FuncId} {g : Int → Int → Bool} (h : ∀ (t s : Int) (H : AH) (n : Nat) (κ : PK), κ (.sb (g t s)) H n → callT F d f [.si .i64 t, .si .i64 s] H n (mkK κ)) : NatP f (nat2b g) := fun args H n κ hs φ h0 hp vs K hr hargs hk => by
  unfold nat2b at hs
  split at hs
  · obtain ⟨x, y, rfl, h1, h2⟩ := vs2 hargs
    obtain ⟨t, h1, hs⟩ := asI_si h1 hs
    obtain ⟨s, h2, hs⟩ := asI_si h2 hs
    exact callT_sound (by kernel_rfl) hF d f _ H n (mkK κ) (h t s H n κ hs) φ h0 hp _ K hr (.cons h1 (.cons h2 .nil)) hk.mkK
  · exact hs.elim
theorem nat3_ok {F : FuncId → EP} (hF : TabP F) {d : Nat} {f : FuncId} {g : Int → Int → Int → Int} (h : ∀ (t s a : Int) (H : AH) (n : Nat) (κ : PK), κ (.si .i64 (g t s a)) H n → callT F d f [.si .i64 t, .si .i64 s, .si .i64 a] H n (mkK κ)) : NatP f (nat3 g) := fun args H n κ hs φ h0 hp vs K hr hargs hk => by
  unfold nat3 at hs
  split at hs
  · obtain ⟨x, y, z, rfl, h1, h2, h3⟩ := vs3 hargs
    obtain ⟨t, h1, hs⟩ := asI_si h1 hs
    obtain ⟨s, h2, hs⟩ := asI_si h2 hs
    obtain ⟨a, h3, hs⟩ := asI_si h3 hs
    exact callT_sound (by kernel_rfl) hF d f _ H n (mkK κ) (h t s a H n κ hs) φ h0 hp _ K hr (.cons h1 (.cons h2 (.cons h3 .nil))) hk.mkK
  · exact hs.elim
def nat1s (f : Int → List Nat) (args : List AV) (H : AH) (n : Nat) (κ : PK) : Prop := match args with
  | [x] => asI x fun t => κ (.ss (f t)) H n
  | _ => False
theorem nat1s_ok {F : FuncId → EP} (hF : TabP F) {d : Nat} {f : FuncId} {g : Int → List Nat} (h : ∀ t : Int, callT F d f [.si .i64 t] .nil 0 fun u _ _ => mkT u = .ss (g t)) : NatP f (nat1s g) := fun args H n κ hs φ h0 hp vs K hr hargs hk => by
  unfold nat1s at hs
  split at hs
  · obtain ⟨x, rfl, h1⟩ := vs1 hargs
    obtain ⟨t, h1, hs⟩ := asI_si h1 hs
    exact pureN (v := .ss (g t)) hF rfl rfl (h t) hs hr (.cons h1 .nil) hk
  · exact hs.elim
/-- A text, known or not. -/
def asS (a : AV) (κ : List Nat → Prop) : Prop := match a with
  | .str s => κ s
  | .ss s => κ s
  | _ => False
theorem asS_inv {φ : Ph} {a : AV} {v : Value} {κ : List Nat → Prop} (h : VR φ a v) (k : asS a κ) : ∃ s, VR φ (.ss s) v ∧ (∀ x ∈ s, x < 256) ∧ κ s := by
  unfold asS at k
  split at k
  · exact ⟨_, h.mk, h.str_inv.2, k⟩
  · exact ⟨_, h, h.ss_inv.2, k⟩
  · exact k.elim
def natS (f : List Nat → AV) (args : List AV) (H : AH) (n : Nat) (κ : PK) : Prop := match args with
  | [x] => asS x fun s => s.length ≤ 1000000 ∧ κ (mkT (f s)) H n
  | _ => False
theorem natS_ok {F : FuncId → EP} (hF : TabP F) {d : Nat} {f : FuncId} {g : List Nat → AV} (hg : ∀ s, flat (g s) = true) (h : ∀ s : List Nat, (∀ x ∈ s, x < 256) → s.length ≤ 1000000 → callT F d f [.ss s] .nil 0 fun u _ _ => mkT u = mkT (g s)) : NatP f (natS g) := fun args H n κ hs φ h0 hp vs K hr hargs hk => by
  unfold natS at hs
  split at hs
  · obtain ⟨x, rfl, h1⟩ := vs1 hargs
    obtain ⟨s, h1, h2, h3, hs⟩ := asS_inv h1 hs
    exact pureN (v := g s) hF rfl (hg s) (h s h2 h3) hs hr (.cons h1 .nil) hk
  · exact hs.elim
def nat2i (f : Int → Int → Int) (args : List AV) (H : AH) (n : Nat) (κ : PK) : Prop := match args with
  | [x, y] => asI x fun t => asI y fun s => κ (.si .i64 (f t s)) H n
  | _ => False
theorem nat2i_ok {F : FuncId → EP} (hF : TabP F) {d : Nat} {f : FuncId} {g : Int → Int → Int} (h : ∀ (t s : Int) (H : AH) (n : Nat) (κ : PK), κ (.si .i64 (g t s)) H n → callT F d f [.si .i64 t, .si .i64 s] H n (mkK κ)) : NatP f (nat2i g) := fun args H n κ hs φ h0 hp vs K hr hargs hk => by
  unfold nat2i at hs
  split at hs
  · obtain ⟨x, y, rfl, h1, h2⟩ := vs2 hargs
    obtain ⟨t, h1, hs⟩ := asI_si h1 hs
    obtain ⟨s, h2, hs⟩ := asI_si h2 hs
    exact callT_sound (by kernel_rfl) hF d f _ H n (mkK κ) (h t s H n κ hs) φ h0 hp _ K hr (.cons h1 (.cons h2 .nil)) hk.mkK
  · exact hs.elim
/-! ### one outcome -/
theorem SingG.pure {g : List AV → AH → Nat → PK → Prop} (h : ∀ args H n κ, g args H n κ → ∃ v, κ v H n ∧ ∀ κ' : PK, κ' v H n → g args H n κ') : SingG g := fun args H n κ hs => by
  obtain ⟨v, h1, h2⟩ := h args H n κ hs
  exact ⟨v, H, n, h1, .refl _, Nat.le_refl _, h2⟩
theorem asI_sing {a : AV} {κ : Int → Prop} (h : asI a κ) : ∃ n, κ n ∧ ∀ κ' : Int → Prop, κ' n → asI a κ' := by
  unfold asI at *
  split at h
  · exact ⟨_, h, fun _ k => k⟩
  · exact ⟨_, h, fun _ k => k⟩
  · exact h.elim
theorem asS_sing {a : AV} {κ : List Nat → Prop} (h : asS a κ) : ∃ n, κ n ∧ ∀ κ' : List Nat → Prop, κ' n → asS a κ' := by
  unfold asS at *
  split at h
  · exact ⟨_, h, fun _ k => k⟩
  · exact ⟨_, h, fun _ k => k⟩
  · exact h.elim
theorem sing1b {f : Int → Bool} : SingG (nat1b f) := .pure fun args H n κ hs => by
  unfold nat1b at *
  split at hs
  · obtain ⟨x, h1, k1⟩ := asI_sing hs
    exact ⟨_, h1, fun κ' h => k1 _ h⟩
  · exact hs.elim
theorem sing1s {f : Int → List Nat} : SingG (nat1s f) := .pure fun args H n κ hs => by
  unfold nat1s at *
  split at hs
  · obtain ⟨x, h1, k1⟩ := asI_sing hs
    exact ⟨_, h1, fun κ' h => k1 _ h⟩
  · exact hs.elim
theorem sing2b {f : Int → Int → Bool} : SingG (nat2b f) := .pure fun args H n κ hs => by
  unfold nat2b at *
  split at hs
  · obtain ⟨x, h1, k1⟩ := asI_sing hs
    obtain ⟨y, h2, k2⟩ := asI_sing h1
    exact ⟨_, h2, fun κ' h => k1 _ (k2 _ h)⟩
  · exact hs.elim
theorem sing2i {f : Int → Int → Int} : SingG (nat2i f) := .pure fun args H n κ hs => by
  unfold nat2i at *
  split at hs
  · obtain ⟨x, h1, k1⟩ := asI_sing hs
    obtain ⟨y, h2, k2⟩ := asI_sing h1
    exact ⟨_, h2, fun κ' h => k1 _ (k2 _ h)⟩
  · exact hs.elim
theorem sing3 {f : Int → Int → Int → Int} : SingG (nat3 f) := .pure fun args H n κ hs => by
  unfold nat3 at *
  split at hs
  · obtain ⟨x, h1, k1⟩ := asI_sing hs
    obtain ⟨y, h2, k2⟩ := asI_sing h1
    obtain ⟨z, h3, k3⟩ := asI_sing h2
    exact ⟨_, h3, fun κ' h => k1 _ (k2 _ (k3 _ h))⟩
  · exact hs.elim
theorem singS {f : List Nat → AV} : SingG (natS f) := .pure fun args H n κ hs => by
  unfold natS at *
  split at hs
  · obtain ⟨s, ⟨h0, h1⟩, k1⟩ := asS_sing hs
    exact ⟨_, h1, fun κ' h => k1 _ ⟨h0, h⟩⟩
  · exact hs.elim
theorem singTrue : SingG (natQ trueN) := natQ_sing fun args H n r h => by
  cases args with
  | nil =>
    injection h with h
    subst h
    exact ⟨.refl _, Nat.le_refl _⟩
  | cons _ _ => cases h
end Go.Proofs.Ytaejmcgcfopmkaa
