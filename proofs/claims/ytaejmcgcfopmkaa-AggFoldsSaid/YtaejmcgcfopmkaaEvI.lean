/- Rows of samples, and of numbers, in memory; functions of such, known by a proof. -/
import Derived.Test.YtaejmcgcfopmkaaEvS
import Derived.Test.YtaejmcgcfopmkaaEvO
namespace Go.Proofs.Ytaejmcgcfopmkaa
open Go Go.RowKit
/-! ### samples -/
abbrev Smp := List (Int × Int)
def smp (L : Smp) : List AV := L.flatMap fun x => [.si .i64 x.1, .si .i64 x.2]
theorem smp_length (L : Smp) : (smp L).length = L.length * 2 := by
  induction L with
  | nil => rfl
  | cons x L ih => simp only [smp, List.flatMap_cons, List.length_append, List.length_cons, List.length_nil] at ih ⊢; omega
theorem smp_flat (L : Smp) : (smp L).all flat.flat1 = true := by
  induction L with
  | nil => rfl
  | cons x L ih => exact ih
theorem smp_map (L : Smp) : (smp L).map mk = smp L := by
  induction L with
  | nil => rfl
  | cons x L ih =>
    show mk (.si .i64 x.1) :: mk (.si .i64 x.2) :: (smp L).map mk = _
    rw [ih]; rfl
theorem smp_drop : ∀ (L : Smp) (i : Nat), (smp L).drop (i * 2) = smp (L.drop i)
  | L, 0 => by simp
  | [], i + 1 => by simp [smp]
  | x :: L, i + 1 => by
    rw [show (i + 1) * 2 = i * 2 + 2 from by omega]
    exact smp_drop L i
theorem smp_at {L : Smp} {i : Nat} (h : i < L.length) : (smp L).drop (i * 2) = .si .i64 L[i].1 :: .si .i64 L[i].2 :: smp (L.drop (i + 1)) := by
  rw [smp_drop, List.drop_eq_getElem_cons h]; rfl
theorem smp_sub {L : Smp} {i o : Nat} (h : i < L.length) (ho : o = i * 2) : subL (smp L) o 2 = some [.si .i64 L[i].1, .si .i64 L[i].2] := by
  subst ho
  unfold subL
  rw [Nat.ble_eq_true_of_le (by rw [smp_length]; omega), smp_at h]; rfl
theorem smp_nth0 {L : Smp} {i o : Nat} (h : i < L.length) (ho : o = i * 2) : nth (smp L) o = some (.si .i64 L[i].1) := by
  subst ho
  have := congrArg (fun l => l[0]?) (smp_at h)
  simp only [List.getElem?_drop, Nat.add_zero, List.getElem?_cons_zero] at this
  rw [nth_eq, this]
theorem smp_nth1 {L : Smp} {i o : Nat} (h : i < L.length) (ho : o = i * 2 + 1) : nth (smp L) o = some (.si .i64 L[i].2) := by
  subst ho
  have := congrArg (fun l => l[1]?) (smp_at h)
  simp only [List.getElem?_drop, List.getElem?_cons_succ, List.getElem?_cons_zero] at this
  rw [nth_eq, this]
/-- A slice that holds these samples. -/
def SmpAt (H : AH) (a : AV) (L : Smp) : Prop := (hd a = .nsl ∧ L = []) ∨ ∃ b o c k l r, hd a = .sl b o L.length c k ∧ (H.get b = some (.ro l) ∨ ∃ z, H.get b = some (.cells l z)) ∧ subL l o (L.length * 2) = some r ∧ r.map mk = smp L
/-! ### rows of numbers -/
def ints (V : List Int) : List AV := V.map fun v => .si .i64 v
theorem ints_flat (V : List Int) : (ints V).all flat.flat1 = true := by
  induction V with
  | nil => rfl
  | cons x L ih => exact ih
theorem ints_map (V : List Int) : (ints V).map mk = ints V := by simp [ints, mk, Function.comp_def]
theorem ints_length (V : List Int) : (ints V).length = V.length := by simp [ints]
theorem ints_nth {V : List Int} {i o : Nat} (h : i < V.length) (ho : o = i) : nth (ints V) o = some (.si .i64 V[i]) := by
  subst ho
  rw [nth_eq, ints, List.getElem?_map, List.getElem?_eq_getElem h]; rfl
def IntAt (H : AH) (a : AV) (V : List Int) : Prop := (hd a = .nsl ∧ V = []) ∨ ∃ b o c k l r, hd a = .sl b o V.length c k ∧ (H.get b = some (.ro l) ∨ ∃ z, H.get b = some (.cells l z)) ∧ subL l o V.length = some r ∧ r.map mk = ints V
theorem eix_of {ix : AV} {k : IntKind} {i : Int} {j len : Nat} (h : ix = .int k i) (hi : i = (j : Int)) (lt : j < len) : eix ix len = some j := by
  subst h hi
  unfold eix
  have : Nat.blt j len = true := by rw [Nat.blt_eq]; exact lt
  simp only [Int.ofNat_eq_natCast, this]
theorem foldl_take {α β : Type} {f : β → α → β} {l : List α} {b : β} {i : Nat} (h : i < l.length) : (l.take (i + 1)).foldl f b = f ((l.take i).foldl f b) l[i] := by
  rw [List.take_succ_eq_append_getElem h, List.foldl_append]; rfl
def vals (L : Smp) : List Int := L.map (·.2)
theorem vals_take {L : Smp} {i : Nat} (h : i < L.length) : vals (L.take (i + 1)) = vals (L.take i) ++ [L[i].2] := by
  unfold vals
  rw [List.take_succ_eq_append_getElem h, List.map_append]; rfl
theorem vals_len {L : Smp} {i : Nat} (h : i ≤ L.length) : (vals (L.take i)).length = i := by simp [vals]; omega
theorem ints_snoc (W : List Int) (v : Int) : (ints W ++ [AV.si .i64 v]).map mk = ints (W ++ [v]) := by simp [ints, mk, Function.comp_def]
theorem eslice_to {P : Program} {t e : TypeId} {es b o n c j : Nat} {i : Int} {kk : IntKind} (hu : P.underlying t = some (.slice e)) (hs : tySize P e = some es) (hi : i = (j : Int)) (hj : j ≤ c) : eslice P t (.sl b o n c 0) none (some (.int kk i)) none = some (.sl b o j c 0) := by
  subst hi
  have e1 : ebnd (some (AV.int kk (j : Int))) n = some j := rfl
  simp only [eslice, hu, hs, e1]
  simp only [ebnd]
  rw [if_pos ⟨Nat.zero_le _, hj, Nat.le_refl _⟩]
  simp
theorem smp_take : ∀ (L : Smp) (i : Nat), (smp L).take (i * 2) = smp (L.take i)
  | L, 0 => by simp [smp]
  | [], i + 1 => by simp [smp]
  | x :: L, i + 1 => by
    rw [show (i + 1) * 2 = i * 2 + 2 from by omega]
    show AV.si .i64 x.1 :: AV.si .i64 x.2 :: (smp L).take (i * 2) = _
    rw [smp_take L i]; rfl
theorem smp_sub0 {L : Smp} {j : Nat} (h : j ≤ L.length) : subL (smp L) 0 ((L.take j).length * 2) = some (smp (L.take j)) := by
  have : (L.take j).length = j := by rw [List.length_take]; omega
  rw [this]
  unfold subL
  rw [Nat.ble_eq_true_of_le (by rw [smp_length]; omega)]
  simp [smp_take]
theorem smp_whole (L : Smp) : subL (smp L) 0 (L.length * 2) = some (smp L) := subL_all (smp_length L)
/-- A function of a number and samples. -/
def natKS (B : Nat) (f : Int → Smp → AV) (args : List AV) (H : AH) (n : Nat) (κ : PK) : Prop := match args with
  | [x, l] => asI x fun k => ∃ L, SmpAt H l L ∧ L.length ≤ B ∧ κ (mkT (f k L)) H n
  | _ => False
theorem singKS {B : Nat} {f : Int → Smp → AV} : SingG (natKS B f) := .pure fun args H n κ hs => by
  unfold natKS at *
  split at hs
  · obtain ⟨k, ⟨L, h1, h2, h3⟩, k1⟩ := asI_sing hs
    exact ⟨_, h3, fun κ' h => k1 _ ⟨L, h1, h2, h⟩⟩
  · exact hs.elim
theorem natKS_ok {B : Nat} {F : FuncId → EP} (hF : TabP F) {d : Nat} {f : FuncId} {g : Int → Smp → AV} (hic : isCall Try.prog f = true) (hg : ∀ k L, flat (g k L) = true) (h0 : ∀ k, callT F d f [.si .i64 k, .nsl] .nil 0 fun u _ _ => mkT u = mkT (g k []))
    (h1 : ∀ k L cap, L.length ≤ B → callT F d f [.si .i64 k, .sl 0 0 L.length cap 0] (mkH [(0, .ro (smp L))]) 1 fun u _ _ => mkT u = mkT (g k L)) : NatP f (natKS B g) := fun args H n κ hs φ h0' hp vs K hr hargs hk => by
  unfold natKS at hs
  split at hs
  · obtain ⟨x, y, rfl, e1, e2⟩ := vs2 hargs
    obtain ⟨k, e1, L, hS, hL, hs2⟩ := asI_si e1 hs
    rcases hS with ⟨ey, rfl⟩ | ⟨b, o, c, kk, l, r, ey, hb, hsub, hmk⟩
    · exact smallN hF (hg k []) (h0 k) hs2 hr hk hic HR.ro0 (.cons (e1 : VR _ (.si .i64 k) x) (.cons (by have := e2.hd; rw [ey] at this; rw [this.nsl_inv]; exact .nsl) .nil))
    · have e3 := e2.hd
      rw [ey] at e3
      obtain ⟨p, C, hpb, rfl, _, _⟩ := e3.sl_inv
      have hro := RoAt.of (s := smp L) hr hb hpb hsub (by rw [hmk, smp_map]) (smp_flat L)
      exact smallN hF (hg k L) (h1 k L C hL) hs2 hr hk hic (fun hw => HR.ro1 hw hro) (.cons (by rw [e1.si_inv]; exact .si _ _) (.cons (.sl (p := ⟨p.B, p.s + o, L.length * 2⟩) (b := 0) (o := 0) (C := C) rfl (fun _ => rfl) (fun q => absurd rfl q)) .nil))
  · exact hs.elim
def natKI (f : Int → List Int → AV) (args : List AV) (H : AH) (n : Nat) (κ : PK) : Prop := match args with
  | [x, l] => asI x fun k => ∃ V, IntAt H l V ∧ V.length ≤ 9223372036854775807 ∧ κ (mkT (f k V)) H n
  | _ => False
theorem singKI {f : Int → List Int → AV} : SingG (natKI f) := .pure fun args H n κ hs => by
  unfold natKI at *
  split at hs
  · obtain ⟨k, ⟨L, h1, h2, h3⟩, k1⟩ := asI_sing hs
    exact ⟨_, h3, fun κ' h => k1 _ ⟨L, h1, h2, h⟩⟩
  · exact hs.elim
theorem natKI_ok {F : FuncId → EP} (hF : TabP F) {d : Nat} {f : FuncId} {g : Int → List Int → AV} (hic : isCall Try.prog f = true) (hg : ∀ k L, flat (g k L) = true) (h0 : ∀ k, callT F d f [.si .i64 k, .nsl] .nil 0 fun u _ _ => mkT u = mkT (g k []))
    (h1 : ∀ k V cap, V.length ≤ 9223372036854775807 → callT F d f [.si .i64 k, .sl 0 0 V.length cap 0] (mkH [(0, .ro (ints V))]) 1 fun u _ _ => mkT u = mkT (g k V)) : NatP f (natKI g) := fun args H n κ hs φ h0' hp vs K hr hargs hk => by
  unfold natKI at hs
  split at hs
  · obtain ⟨x, y, rfl, e1, e2⟩ := vs2 hargs
    obtain ⟨k, e1, V, hS, hL, hs2⟩ := asI_si e1 hs
    rcases hS with ⟨ey, rfl⟩ | ⟨b, o, c, kk, l, r, ey, hb, hsub, hmk⟩
    · exact smallN hF (hg k []) (h0 k) hs2 hr hk hic HR.ro0 (.cons (e1 : VR _ (.si .i64 k) x) (.cons (by have := e2.hd; rw [ey] at this; rw [this.nsl_inv]; exact .nsl) .nil))
    · have e3 := e2.hd
      rw [ey] at e3
      obtain ⟨p, C, hpb, rfl, _, _⟩ := e3.sl_inv
      have hro := RoAt.of (s := ints V) hr hb hpb hsub (by rw [hmk, ints_map]) (ints_flat V)
      exact smallN hF (hg k V) (h1 k V C hL) hs2 hr hk hic (fun hw => HR.ro1 hw hro) (.cons (by rw [e1.si_inv]; exact .si _ _) (.cons (.sl (p := ⟨p.B, p.s + o, V.length⟩) (b := 0) (o := 0) (C := C) rfl (fun _ => rfl) (fun q => absurd rfl q)) .nil))
  · exact hs.elim
end Go.Proofs.Ytaejmcgcfopmkaa
