/- Texts of our own, joined: the engine, the machine that runs code, and what is known of the functions. -/
import Derived.Test.YtdfeigkooeeeaaaJh
import Derived.Test.YtdfeigkooeeeaaaJe
set_option linter.unusedSimpArgs false
set_option linter.unusedVariables false
namespace Go.Proofs.Ytdfeigkooeeeaaa
open Go Go.RowKit
def Recast (H : AH) (n : Nat) (H' : AH) (n' : Nat) : Prop := ∀ (φ : Ph) (h0 h : Hp), HR φ H n h0 h → HR φ H' n' h0 h
def VTo (u v : AV) : Prop := ∀ (φ : Ph) (w : Value), VR φ u w → VR φ v w
theorem Recast.refl (H : AH) (n : Nat) : Recast H n H n := fun _ _ _ h => h
theorem Recast.trans {H1 H2 H3 : AH} {n1 n2 n3 : Nat} (h : Recast H1 n1 H2 n2) (k : Recast H2 n2 H3 n3) : Recast H1 n1 H3 n3 := fun φ h0 hp q => k φ h0 hp (h φ h0 hp q)
theorem Recast.remk {H : AH} {n b : Nat} {l l' : List AV} {z : Bool} (hb : H.get b = some (.cells l z)) (hf : l'.all flat.flat1 = true) (e : l.map Go.Proofs.Ytdfeigkooeeeaaa.mk = l'.map Go.Proofs.Ytdfeigkooeeeaaa.mk) : Recast H n (H.set (some (.cells l' z)) depthH b) n := fun _ _ _ hr => hr.remk hb hf e
theorem Recast.kill (H : AH) (n b : Nat) : Recast H n (H.set none depthH b) n := fun _ _ _ hr => hr.kill depthH b
theorem VTo.refl (u : AV) : VTo u u := fun _ _ h => h
theorem VTo.flat {u v : AV} (hv : Go.Proofs.Ytdfeigkooeeeaaa.flat v = true) (e : mkT u = mkT v) : VTo u (mkT v) := fun φ w h => flat_VR (φ := φ) (flat_mkT hv) (e ▸ h.mkT)
def post (g : List AV → AH → Nat → PK → Prop) (args : List AV) (H : AH) (n : Nat) (κ : PK) : Prop := g args H n fun u H' n' => ∃ v H2 n2, VTo u v ∧ Recast H' n' H2 n2 ∧ κ v H2 n2
theorem NatP.post {f : FuncId} {g : List AV → AH → Nat → PK → Prop} (hg : NatP f g) : NatP f (post g) := fun args H n κ hs φ h0 h vs K hr ha hk => hg args H n _ hs φ h0 h vs K hr ha fun ψ u H' n' w g' hle hg' hu ⟨v, H2, n2, h1, h2, h3⟩ => hk ψ v H2 n2 w g' hle (h2 _ _ _ hg') (h1 _ _ hu) h3
/-! ### bytes -/
theorem bytA_at {s : List Nat} {i : Nat} (h : i < s.length) : (bytA s)[i]? = some (.si .u8 (Int.ofNat s[i])) := by
  unfold bytA
  rw [List.getElem?_map, List.getElem?_eq_getElem h]; rfl
theorem setL_one : ∀ (l : List AV) (o : Nat) (x : AV), o < l.length → setL l o [x] = some (l.set o x)
  | [], o, x, h => by simp at h
  | y :: l, 0, x, _ => by cases l <;> simp [setL]
  | y :: l, o + 1, x, h => by simp [setL, setL_one l o x (by simpa using h)]
theorem bytA_set (s : List Nat) (o : Nat) (c : Nat) : (bytA s).set o (.si .u8 (Int.ofNat c)) = bytA (s.set o c) := by simp [bytA, List.map_set]
theorem bytA_app (s t : List Nat) : bytA (s ++ t) = bytA s ++ bytA t := by simp [bytA]
theorem ebytes_bytA {s : List Nat} (h : ∀ x ∈ s, x < 256) : ebytes (bytA s) = some s := ebytes_map h
/-- Bytes' cells, told in any way. -/
theorem ebytes_mk : ∀ {l : List AV} {s : List Nat}, l.map mk = bytA s → (∀ x ∈ s, x < 256) → bytA s = l → ebytes l = some s := fun e h q => q ▸ ebytes_bytA h
/-- How far a bit is moved. -/
def shN (N : Nat) : Nat := 7 - N % 8
theorem sh_eq (N : Nat) : IntKind.i64.wrap (7 - ((N : Nat) : Int).tmod 8) = ((shN N : Nat) : Int) := by
  have h : ((N : Nat) : Int).tmod 8 = ((N % 8 : Nat) : Int) := by
    rw [Int.tmod_eq_emod_of_nonneg (Int.natCast_nonneg _)]; rfl
  rw [h]
  have := Nat.mod_lt N (show 8 > 0 by decide)
  unfold shN
  rw [IntKind.wrap_i64]; omega
theorem sh_pow (N : Nat) : min (IntKind.i64.wrap (7 - ((N : Nat) : Int).tmod 8)).toNat 8 = shN N := by
  rw [sh_eq]; unfold shN; simp; omega
theorem div_eq (N : Nat) (h : N ≤ 9223372036854775807) : IntKind.i64.wrap (((N : Nat) : Int).tdiv 8) = ((N / 8 : Nat) : Int) := by
  have e : ((N : Nat) : Int).tdiv 8 = ((N / 8 : Nat) : Int) := by
    rw [Int.tdiv_eq_ediv_of_nonneg (Int.natCast_nonneg _)]; rfl
  rw [e, IntKind.wrap_i64]; omega
theorem tmod0 (N : Nat) : (((N : Nat) : Int).tmod 8 = 0) ↔ N % 8 = 0 := by
  have h : ((N : Nat) : Int).tmod 8 = ((N % 8 : Nat) : Int) := by
    rw [Int.tmod_eq_emod_of_nonneg (Int.natCast_nonneg _)]; rfl
  rw [h]; omega
theorem fdiv_pow (U m : Nat) : ((U : Nat) : Int).fdiv ((2 : Int) ^ m) = ((U / 2 ^ m : Nat) : Int) := by
  have : ((2 : Int) ^ m) = ((2 ^ m : Nat) : Int) := by rw [Int.natCast_pow]; rfl
  rw [this, fdiv_nat]
/-- A bit of the number. -/
theorem bit_eq {U m : Nat} {i : Int} (hi : i = (m : Int)) (hm : m < 64) : bitsV .and .u8 (IntKind.u8.wrap (((U : Nat) : Int).fdiv ((2 : Int) ^ min i.toNat 64))) 1 = ((U / 2 ^ m % 2 : Nat) : Int) := by
  subst hi
  rw [show min (Int.toNat (m : Int)) 64 = m from by simp; omega, fdiv_pow, wr_and]
theorem wrU (x : Int) (b : Nat) (hb : b < 2) (hx : x = (b : Int)) (N : Nat) : IntKind.u8.wrap (x * (2 : Int) ^ min (IntKind.i64.wrap (7 - ((N : Nat) : Int).tmod 8)).toNat 8) = ((b * 2 ^ shN N : Nat) : Int) := by
  subst hx
  rw [sh_pow]
  exact wr_shl hb (by unfold shN; omega)
/-- A bit more, in a new byte. -/
theorem one_new {B : List Nat} {x : Int} {b : Nat} (hb : b < 2) (hx : x = (b : Int)) (h8 : B.length % 8 = 0) {o : Nat} (ho : o = B.length / 8) :
    setL (bytA (pack B) ++ [.int .u8 0]) o [.si .u8 (bitsV .or .u8 0 (IntKind.u8.wrap (x * (2 : Int) ^ min (IntKind.i64.wrap (7 - ((B.length : Nat) : Int).tmod 8)).toNat 8)))] = some (bytA (pack (B ++ [b]))) := by
  have hl : (bytA (pack B)).length = B.length / 8 := by rw [bytA_length, pack_length]; omega
  have hs : shN B.length = 7 := by unfold shN; omega
  rw [setL_one _ _ _ (by simp [hl, ho]), wrU x b hb hx, hs, pack_new h8, bytA_app]
  have e : bitsV .or .u8 0 ((b * 2 ^ 7 : Nat) : Int) = Int.ofNat (b * 2 ^ 7) := by
    have := wr_or (a := 0) (b := b) (r := 7) (by decide) (by decide) hb (by decide)
    rw [Nat.zero_add] at this
    exact this
  rw [e, List.set_append_right _ _ (by omega), hl, ho, Nat.sub_self]
  rfl
theorem new_at {B : List Nat} (h8 : B.length % 8 = 0) {o : Nat} (ho : o = B.length / 8) : nth (bytA (pack B) ++ [.int .u8 0]) o = some (.int .u8 0) := by
  have hl : (bytA (pack B)).length = B.length / 8 := by rw [bytA_length, pack_length]; omega
  rw [nth_eq, List.getElem?_append_right (by omega), hl, ho, Nat.sub_self]; rfl
/-- .. in the last byte. -/
theorem old_at {B : List Nat} (h8 : B.length % 8 ≠ 0) {o : Nat} (ho : o = B.length / 8) : nth (bytA (pack B)) o = some (.si .u8 (Int.ofNat (byteN (B.drop (8 * (B.length / 8)))))) := by
  have hp := pack_at B (B.length / 8) (by omega)
  have hl : B.length / 8 < (pack B).length := by rw [pack_length]; omega
  rw [nth_eq, ho, bytA_at hl]
  rw [List.getElem?_eq_getElem hl] at hp
  injection hp with hp
  rw [hp, List.take_of_length_le (by rw [List.length_drop]; omega)]
theorem one_old {B : List Nat} {x : Int} {b : Nat} (hB : Bits B) (hb : b < 2) (hx : x = (b : Int)) (h8 : B.length % 8 ≠ 0) {o : Nat} (ho : o = B.length / 8) :
    setL (bytA (pack B)) o [.si .u8 (bitsV .or .u8 (Int.ofNat (byteN (B.drop (8 * (B.length / 8))))) (IntKind.u8.wrap (x * (2 : Int) ^ min (IntKind.i64.wrap (7 - ((B.length : Nat) : Int).tmod 8)).toNat 8)))] = some (bytA (pack (B ++ [b]))) := by
  have hl : B.length / 8 < (bytA (pack B)).length := by rw [bytA_length, pack_length]; omega
  have hd : (B.drop (8 * (B.length / 8))).length = B.length % 8 := by rw [List.length_drop]; omega
  have hd8 : (B.drop (8 * (B.length / 8))).length < 8 := by rw [hd]; exact Nat.mod_lt _ (by decide)
  have hc := byteN_lt (C := B.drop (8 * (B.length / 8))) (fun c hc => hB c (List.mem_of_mem_drop hc)) (by omega)
  have hr := byteN_room hd8
  have hs : shN B.length = 7 - (B.drop (8 * (B.length / 8))).length := by rw [hd]; rfl
  rw [setL_one _ _ _ (by omega), wrU x b hb hx, pack_or h8, hs, ← bytA_set, ho]
  have e := wr_or (a := byteN (B.drop (8 * (B.length / 8)))) (b := b) (r := 7 - (B.drop (8 * (B.length / 8))).length) hc hr hb (by omega)
  rw [show (Int.ofNat (byteN (B.drop (8 * (B.length / 8))))) = ((byteN (B.drop (8 * (B.length / 8))) : Nat) : Int) from rfl, e, hd]
  rfl
/-! ### a bit read -/
theorem rd_bit {s : List Nat} (hs : ∀ x ∈ s, x < 256) {a c : Nat} (hc : nth s (a / 8) = some c) : bitsV .and .u8 ((Int.ofNat c).fdiv ((2 : Int) ^ min (IntKind.i64.wrap (7 - ((a : Nat) : Int).tmod 8)).toNat 8)) 1 = ((rdBit s a : Nat) : Int) := by
  rw [nth_eq] at hc
  have hc2 : c < 256 := hs c (List.mem_of_getElem? hc)
  rw [sh_pow, show (Int.ofNat c) = ((c : Nat) : Int) from rfl, fdiv_pow, rd_and hc2]
  unfold rdBit shN
  rw [hc]; rfl
theorem rd_step {s : List Nat} (hs : ∀ x ∈ s, x < 256) {a c u : Nat} (hc : nth s (a / 8) = some c) (hu : u < 9223372036854775808) :
    bitsV .or .u64 (IntKind.u64.wrap (((u : Nat) : Int) * 2)) (IntKind.u64.wrap (bitsV .and .u8 ((Int.ofNat c).fdiv ((2 : Int) ^ min (IntKind.i64.wrap (7 - ((a : Nat) : Int).tmod 8)).toNat 8)) 1)) = ((2 * u + rdBit s a : Nat) : Int) := by
  rw [rd_bit hs hc]
  exact rd_or hu (Nat.mod_lt _ (by decide))
theorem rdBits_app (s : List Nat) (a i j : Nat) : rdBits s a (i + j) = rdBits s a i ++ rdBits s (a + i) j := by
  unfold rdBits
  rw [List.range_add, List.map_append, List.map_map]
  congr 1
  exact List.map_congr_left fun k _ => by simp [Nat.add_assoc]
theorem rdBits_lt (s : List Nat) (a : Nat) {j : Nat} (h : j ≤ 63) : numB 0 (rdBits s a j) < 9223372036854775808 := by
  have := numB_lt _ (rdBits_bits s a j)
  rw [rdBits_length] at this
  have h2 : 2 ^ j ≤ 2 ^ 63 := Nat.pow_le_pow_right (by decide) h
  omega
/-! ### a sample told again -/
theorem w64_eq (x : Int) : W64 x = (x + 9223372036854775808) % 18446744073709551616 - 9223372036854775808 := by
  show IntKind.i64.wrap x = _
  rw [IntKind.wrap_i64]
theorem W64_add_sub (a d : Int) : W64 (a + W64 (W64 d - a)) = W64 d := by
  simp only [w64_eq]; omega
theorem W64_back {a b : Int} (h : In64 b) : W64 (a + W64 (b - a)) = b := by
  have := h.1; have := h.2
  simp only [w64_eq]; omega
theorem dec_step (X : Smp) {i : Nat} (h : i ≠ 0) : W64 (stepAt X i + zagI (dT X i)) = stepAt X (i + 1) := by
  unfold dT
  rw [zag_zig, W64_add_sub]
  unfold stepAt
  rw [if_neg (by omega)]
  congr 2
theorem dec_T {X : Smp} {i : Nat} (h : i ≠ 0) (hx : In64 (tAt X i)) : W64 (tAt X (i - 1) + stepAt X (i + 1)) = tAt X i := by
  unfold stepAt
  rw [if_neg (by omega), show i + 1 - 1 = i from rfl, show i + 1 - 2 = i - 1 from by omega]
  exact W64_back hx
theorem dec_V {X : Smp} {i : Nat} (hx : In64 (vAt X i)) : W64 (vAt X (i - 1) + zagI (dV X i)) = vAt X i := by
  unfold dV
  rw [zag_zig]
  exact W64_back hx
theorem dT_lt (X : Smp) (i : Nat) : dT X i < 18446744073709551616 := zig_lt (W64_in _)
theorem dV_lt (X : Smp) (i : Nat) : dV X i < 18446744073709551616 := zig_lt (W64_in _)
theorem tAt_in {X : Smp} (h : ∀ x ∈ X, In64 x.1 ∧ In64 x.2) (i : Nat) : In64 (tAt X i) ∧ In64 (vAt X i) := by
  unfold tAt vAt
  cases e : X[i]? with
  | none => exact ⟨⟨by decide, by decide⟩, ⟨by decide, by decide⟩⟩
  | some x => exact h x (List.mem_of_getElem? e)
end Go.Proofs.Ytdfeigkooeeeaaa
namespace Go.Proofs.Ytdfeigkooeeeaaa
open Go Go.RowKit
set_option maxRecDepth 20000
def upC (c : Nat) : Nat := if 97 ≤ c ∧ c ≤ 122 then c - 32 else c
def upF (s : List Nat) : List Nat := s.map upC
/-- The command whose name a word is. -/
noncomputable def whF : List (Nat × List Nat) → List Nat → Nat
  | [], _ => 0
  | e :: N, u => match beqL e.2 u with
    | true => e.1
    | false => whF N u
def entC (N : List (Nat × List Nat)) : List (AV × AV) := N.map fun e => (.int .i64 (e.1 : Int), .str e.2)
noncomputable def decC : List (AV × AV) → Option (List (Nat × List Nat))
  | [] => some []
  | (.int .i64 (.ofNat k), .str s) :: es => (match decC es with
    | some N => some ((k, s) :: N)
    | none => none)
  | _ => none
noncomputable def apartC : List (Nat × List Nat) → Bool
  | [] => true
  | e :: N => N.all (fun f => !beqL e.2 f.2) && apartC N
noncomputable def whQ (args : List AV) (H : AH) (n : Nat) (κ : KA) : AR := match args with
  | [.str w, .map b] => (match H.get b with
    | some (.map es) => (match decC es with
      | some N => (match apartC N && (w.all (fun c => Nat.blt c 256) && Nat.blt w.length 1000) with
        | true => κ (.int .i64 (Int.ofNat (whF N (upF w)))) H n
        | false => none)
      | none => none)
    | _ => none)
  | _ => none
noncomputable def withQ (k : FuncId) (g : List AV → AH → Nat → KA → AR) (F : FuncId → EQ) (f : FuncId) : EQ := Bool.rec (F f) (.nat g) (Nat.beq f k)
noncomputable def evC : FuncId → EQ := withQ 23 whQ evQ
end Go.Proofs.Ytdfeigkooeeeaaa
namespace Go.Proofs.Ytdfeigkooeeeaaa
open Go Go.RowKit
set_option maxRecDepth 20000
theorem beqL_is : ∀ {a b : List Nat}, beqL a b = true ↔ a = b
  | [], [] => by simp [beqL]
  | [], _ :: _ => by simp [beqL]
  | _ :: _, [] => by simp [beqL]
  | a :: x, b :: y => by
    unfold beqL
    cases h : Nat.beq a b with
    | true =>
      have := Nat.eq_of_beq_eq_true h
      subst this
      simp [beqL_is (a := x) (b := y)]
    | false =>
      have : a ≠ b := fun e => by subst e; rw [Nat.beq_refl] at h; cases h
      simp [this]
theorem handsA {H : AH} {n b : Nat} {o : AO} (hb : b < n) (h : H.get b = some (renO (nmOf [b] n) o)) (hv : o.void = false ∨ o.own = true) : Hands H n [b] [o] := ⟨by simp, rfl, fun i s q h1 h2 => by
  match i, h1, h2 with
  | 0, h1, h2 => injection h1 with h1; injection h2 with h2; subst h1 h2; exact ⟨hb, h, hv⟩⟩
/-! ### letters made great -/
def upTp (s : List Nat) (i : Nat) : List Nat := (s.take i).map upC ++ s.drop i
theorem upTp_length (s : List Nat) (i : Nat) : (upTp s i).length = s.length := by simp [upTp]; omega
theorem upTp_at {s : List Nat} {i : Nat} (h : i < s.length) : (upTp s i)[i]? = some s[i] := by
  unfold upTp
  rw [List.getElem?_append_right (by simp; omega), List.getElem?_drop]
  simp [Nat.min_eq_left (Nat.le_of_lt h), h]
theorem upTp_succ {s : List Nat} {i : Nat} (h : i < s.length) : upTp s (i + 1) = (upTp s i).set i (upC s[i]) := by
  unfold upTp
  rw [List.take_succ_eq_append_getElem h, List.map_append, List.set_append, if_neg (by simp; omega)]
  have hd := List.drop_eq_getElem_cons h
  have hz : i - (List.map upC (List.take i s)).length = 0 := by simp; omega
  rw [hz, hd, List.append_assoc]; rfl
theorem upTp_same {s : List Nat} {i : Nat} (h : i < s.length) (e : upC s[i] = s[i]) : upTp s (i + 1) = upTp s i := by
  rw [upTp_succ h, e]
  apply List.ext_getElem?
  intro j
  by_cases hj : j = i
  · subst hj; rw [upTp_at h]; simp [upTp_length, h]
  · rw [List.getElem?_set_ne (Ne.symm hj)]
theorem upTp_all (s : List Nat) : upTp s s.length = upF s := by simp [upTp, upF]
theorem upF_lt {s : List Nat} (h : ∀ c ∈ s, c < 256) : ∀ c ∈ upF s, c < 256 := fun c hc => by
  obtain ⟨a, ha, rfl⟩ := List.mem_map.1 hc
  have := h a ha
  unfold upC
  split <;> omega
noncomputable def upb (s : List Nat) (i : Nat) : AE × AH := (mkE [(3, .sy 0 0 s.length s.length 1), (8, .sy 0 0 s.length s.length 1), (9, .si .i64 (((s.length : Nat) : Int))), (10, .si .i64 (((i : Nat) : Int)))], mkH [(0, .cells (bytA (upTp s i)) false)])
theorem upb_cov {s : List Nat} {i : Nat} {p n : Nat} {σ : AE} {H : AH} {l0 : List AV} (hp : p ≤ 0) (e3 : mk (getq (pa 3) σ) = .sy 0 0 s.length s.length 1) (e8 : mk (getq (pa 8) σ) = .sy 0 0 s.length s.length 1) (e9 : mk (getq (pa 9) σ) = .si .i64 (((s.length : Nat) : Int))) (e10 : mk (getq (pa 10) σ) = .si .i64 (((i : Nat) : Int))) (h0 : H.get 0 = some (.cells l0 false)) (g0 : l0.map mk = bytA (upTp s i)) : Cov p σ H n ((upb s i).1, (upb s i).2, 1) := by
  refine Cov.ofR (fun b => b) (by omega) (fun b hb => rfl) ?_ ?_ ?_
  · intro x hx
    simp only [List.mem_cons, List.not_mem_nil, or_false] at hx
    rcases hx with rfl | rfl | rfl | rfl
    · exact .sy (by decide) e3
    · exact .sy (by decide) e8
    · exact .int e9
    · exact .int e10
  · intro x hx
    simp only [List.mem_cons, List.not_mem_nil, or_false] at hx
    subst hx
    exact ⟨by simp, .inl ⟨_, h0, SubO.cells_mk (bytA_flat _) (by rw [g0, bytA_map]) (fun q => q)⟩⟩
  · intro x hx y hy
    simp only [List.mem_cons, List.not_mem_nil, or_false] at hx hy
    subst hx hy
    exact fun q => rfl
noncomputable def KUp : FuncId → EP := withD 44 [] evP
theorem KUp_ok : TabP KUp := withD_ok evP_ok (by kernel_rfl) (by kernel_rfl)
set_option maxHeartbeats 4000000 in
set_option maxRecDepth 100000 in
theorem up_run (s : List Nat) (hs : ∀ c ∈ s, c < 256) (hl : s.length ≤ 1000000) : callT KUp 3 44 [.ss s] .nil 0 fun u _ _ => mkT u = mkT (.ss (upF s)) := by
  conv => whnf
  refine Ask.mk (.sl 0 0 s.length s.length 1, _, 1) rfl ?_
  conv => whnf
  refine LoopP.mk { i : Nat // i ≤ s.length } 1 (fun i => upb s i.val) (fun i => s.length - i.val) ⟨0, Nat.zero_le _⟩ ?_ ?_
  · exact upb_cov (Nat.le_refl 0) rfl rfl rfl rfl rfl (by simp [upTp, bytA, mk])
  · intro ⟨i, hi⟩
    have hsub : subL (bytA (upTp s i)) 0 (s.length * 1) = some (bytA (upTp s i)) := subL_all (by rw [bytA_length, upTp_length, Nat.mul_one])
    conv => whnf
    refine Fork.dec (fun h => ?_) (fun h => ?_)
    · have hi2 : i < s.length := by exact Int.ofNat_lt.1 h
      have hc := hs _ (List.getElem_mem hi2)
      have hi1 : IntKind.i64.wrap ((i : Int) + 1) = ((i + 1 : Nat) : Int) := W64_of ⟨by omega, by omega⟩
      have hnth : nth (bytA (upTp s i)) (0 + i * 1) = some (.si .u8 (Int.ofNat s[i])) := by
        rw [nth_eq, Nat.zero_add, Nat.mul_one]
        simp only [bytA, List.getElem?_map, upTp_at hi2]; rfl
      have hset : 97 ≤ s[i] → s[i] ≤ 122 → setL (bytA (upTp s i)) (0 + i * 1) [.si .u8 (IntKind.u8.wrap (Int.ofNat s[i] - 32))] = some (bytA (upTp s (i + 1))) := fun h1 h2 => by
        rw [Nat.zero_add, Nat.mul_one, setL_one _ _ _ (by rw [bytA_length, upTp_length]; exact hi2)]
        have e : IntKind.u8.wrap (Int.ofNat s[i] - 32) = Int.ofNat (upC s[i]) := by
          unfold upC; rw [if_pos ⟨h1, h2⟩]
          simp [IntKind.wrap, IntKind.bits, IntKind.signed]
          omega
        rw [e, bytA_set, ← upTp_succ hi2]
      have hsame : ¬ (97 ≤ s[i] ∧ s[i] ≤ 122) → (bytA (upTp s i)).map mk = bytA (upTp s (i + 1)) := fun q => by
        rw [upTp_same hi2 (by unfold upC; rw [if_neg q]), bytA_map]
      conv => whnf
      refine Idx.mk i rfl hi2 ?_
      conv => whnf
      refine optP_of hnth ?_
      conv => whnf
      refine Fork.dec (fun h1 => ?_) (fun h1 => ?_)
      · have h1 : 97 ≤ s[i] := by exact Int.ofNat_le.1 h1
        conv => whnf
        refine Fork.dec (fun h2 => ?_) (fun h2 => ?_)
        · have h2 : s[i] ≤ 122 := by exact Int.ofNat_le.1 h2
          conv => whnf
          refine Idx.mk i rfl hi2 ?_
          conv => whnf
          refine optP_of (hset h1 h2) ?_
          conv => whnf
          exact ⟨⟨i + 1, hi2⟩, (show s.length - (i + 1) < s.length - i by omega), upb_cov (Nat.le_refl 0) rfl rfl rfl (congrArg (AV.si .i64) hi1) rfl (bytA_map _)⟩
        · have h2 : ¬ s[i] ≤ 122 := fun q => h2 (by exact Int.ofNat_le.2 q)
          conv => whnf
          exact ⟨⟨i + 1, hi2⟩, (show s.length - (i + 1) < s.length - i by omega), upb_cov (Nat.le_refl 0) rfl rfl rfl (congrArg (AV.si .i64) hi1) rfl (hsame fun q => h2 q.2)⟩
      · have h1 : ¬ 97 ≤ s[i] := fun q => h1 (by exact Int.ofNat_le.2 q)
        conv => whnf
        exact ⟨⟨i + 1, hi2⟩, (show s.length - (i + 1) < s.length - i by omega), upb_cov (Nat.le_refl 0) rfl rfl rfl (congrArg (AV.si .i64) hi1) rfl (hsame fun q => h1 q.1)⟩
    · have hi3 : i = s.length := by have : ¬ i < s.length := fun q => h (Int.ofNat_lt.2 q); omega
      have hconv : (subL (bytA (upTp s i)) 0 s.length).bind ebytes = some (upF s) := by
        rw [hi3, upTp_all, subL_all (by rw [bytA_length]; simp [upF])]
        exact ebytes_bytA (upF_lt hs)
      conv => whnf
      refine Ask.mk (.str (upF s), _, _) (congrArg (Option.map fun s => (AV.str s, _, _)) hconv) ?_
      conv => whnf
      rfl
def natUp (args : List AV) (H : AH) (n : Nat) (κ : PK) : Prop := match args with
  | [x] => ∃ s, mk x = .ss s ∧ (∀ c ∈ s, c < 256) ∧ s.length ≤ 1000000 ∧ κ (.ss (upF s)) H n
  | _ => False
theorem n_upper : NatP 44 natUp := fun args H n κ hs φ h0' hp vs K hr hargs hk => by
  unfold natUp at hs
  split at hs
  · obtain ⟨x, rfl, e1⟩ := vs1 hargs
    obtain ⟨s, hx, h1, h2, hs⟩ := hs
    exact smallN KUp_ok (v := .ss (upF s)) rfl (up_run s h1 h2) hs hr hk (by kernel_rfl) HR.ro0 (.cons (flat1_VR rfl (hx ▸ e1.mk)) .nil)
  · exact hs.elim
theorem singUp : SingG natUp := .pure fun args H n κ hs => by
  unfold natUp at *
  split at hs
  · obtain ⟨s, h1, h2, h3, h4⟩ := hs
    exact ⟨_, h4, fun κ' h => ⟨s, h1, h2, h3, h⟩⟩
  · exact hs.elim
/-! ### the command whose name a word is -/
theorem whF_no : ∀ {N : List (Nat × List Nat)} {u : List Nat}, (∀ i (h : i < N.length), beqL N[i].2 u = false) → whF N u = 0
  | [], _, _ => rfl
  | e :: N, u, h => by
    unfold whF
    have h0 := h 0 (by simp)
    simp only [List.getElem_cons_zero] at h0
    rw [h0]
    exact whF_no fun i hi => h (i + 1) (by simp; omega)
theorem whF_of : ∀ {N : List (Nat × List Nat)} {u : List Nat} {i : Nat} (h : i < N.length), apartC N = true → beqL N[i].2 u = true → whF N u = N[i].1
  | [], _, _, h, _, _ => by simp at h
  | e :: N, u, i, h, ha, hb => by
    unfold apartC at ha
    simp only [Bool.and_eq_true] at ha
    unfold whF
    cases i with
    | zero => simp only [List.getElem_cons_zero] at hb ⊢; rw [hb]
    | succ i =>
      simp only [List.getElem_cons_succ] at hb ⊢
      have hi : i < N.length := by simp at h; omega
      have h1 := List.all_eq_true.1 ha.1 _ (List.getElem_mem hi)
      have h2 : beqL e.2 u = false := by
        cases q : beqL e.2 u with
        | false => rfl
        | true => rw [beqL_is.1 q, beqL_is.1 hb, beqL_is.2 rfl] at h1; cases h1
      rw [h2]
      exact whF_of hi ha.2 hb
theorem SubO.mapC {H : AH} {m : Nat} {r : Nat → Nat} {es : List (AV × AV)} (h : ∀ e ∈ es, stab e.1 = true ∧ stab e.2 = true) : SubO H m r (.map es) (.map es) :=
  ⟨rfl, fun φ ψ p ob hr _ ⟨ms, cl, h1, h2, h3⟩ => ⟨ms, cl, h1, by
    have : ∀ (es : List (AV × AV)) (ms : List MapEntry), (∀ e ∈ es, stab e.1 = true ∧ stab e.2 = true) → MR φ es ms → MR ψ es ms := fun es => by
      induction es with
      | nil => intro ms _ k; exact k
      | cons e es ih => intro ms h ⟨m, us, k1, k2, k3, k4⟩; exact ⟨m, us, k1, stab_VR hr.2 (h e List.mem_cons_self).1 k2, stab_VR hr.2 (h e List.mem_cons_self).2 k3, ih us (fun e he => h e (List.mem_cons_of_mem _ he)) k4⟩
    exact this es _ h h2, h3⟩⟩
theorem SubO.iterC {H : AH} {m : Nat} {r : Nat → Nat} {b k : Nat} {seen : List Nat} (hb : b < m) (hr : r b = b) : SubO H m r (.iter b k seen) (.iter b k seen) :=
  ⟨rfl, fun φ ψ p ob hren _ ⟨h0, q, h1, h2⟩ => ⟨h0, q, by rw [hren.1 b hb, hr]; exact h1, h2⟩⟩
theorem entC_stab (N : List (Nat × List Nat)) : ∀ e ∈ entC N, stab e.1 = true ∧ stab e.2 = true := fun e he => by
  simp only [entC, List.mem_map] at he
  obtain ⟨x, _, rfl⟩ := he
  exact ⟨rfl, rfl⟩
theorem entC_length (N : List (Nat × List Nat)) : (entC N).length = N.length := by simp [entC]
theorem entC_at {N : List (Nat × List Nat)} {i : Nat} {e : AV × AV} (h : (entC N)[i]? = some e) : ∃ hl : i < N.length, e = (.int .i64 (N[i].1 : Int), .str N[i].2) := by
  simp only [entC, List.getElem?_map, Option.map_eq_some_iff] at h
  obtain ⟨x, h1, rfl⟩ := h
  obtain ⟨h2, h3⟩ := List.getElem?_eq_some_iff.1 h1
  exact ⟨h2, by rw [h3]⟩
theorem entC_ren (r : Nat → Nat) : ∀ N : List (Nat × List Nat), renE r (entC N) = entC N
  | [] => rfl
  | e :: N => by
    have := entC_ren r N
    show (_, _) :: renE r (entC N) = _
    rw [this]; rfl
theorem entC_lt (m : Nat) : ∀ N : List (Nat × List Nat), ltE m (entC N) = true
  | [] => rfl
  | e :: N => by
    have := entC_lt m N
    show (ltV m _ && (ltV m _ && ltE m (entC N))) = true
    rw [this]; rfl
noncomputable def whs (N : List (Nat × List Nat)) (w : List Nat) (seen : List Nat) : AE × AH := (mkE [(0, .ss (w)), (8, .ptr 1 (0))], mkH [(0, AO.map (entC N)), (1, AO.iter 0 (entC N).length seen)])
theorem whs_cov {N : List (Nat × List Nat)} {w : List Nat} {seen : List Nat} {p n : Nat} {σ : AE} {H : AH} (hp : p ≤ 1) (e0 : mk (getq (pa 0) σ) = .ss (w)) (e8 : getq (pa 8) σ = .ptr 1 (0)) (h0 : H.get 0 = some (AO.map (entC N))) (h1 : H.get 1 = some (AO.iter 0 (entC N).length seen)) : Cov p σ H n ((whs N w seen).1, (whs N w seen).2, 2) := by
  refine Cov.ofR (fun b => b) (by omega) (fun b hb => rfl) ?_ ?_ ?_
  · intro x hx
    simp only [List.mem_cons, List.not_mem_nil, or_false] at hx
    rcases hx with rfl | rfl
    · exact .str e0
    · exact .ptr (by decide) e8
  · intro x hx
    simp only [List.mem_cons, List.not_mem_nil, or_false] at hx
    rcases hx with rfl | rfl
    · exact ⟨by simp, .inl ⟨_, h0, SubO.mapC (entC_stab N)⟩⟩
    · exact ⟨by simp, .inl ⟨_, h1, SubO.iterC (by decide) rfl⟩⟩
  · intro x hx y hy
    simp only [List.mem_cons, List.not_mem_nil, or_false] at hx hy
    rcases hx with rfl | rfl <;> rcases hy with rfl | rfl <;> simp <;> omega
noncomputable def KWh : FuncId → EP := withD 23 [] (withN 44 natUp evP)
theorem KWh_ok : TabP KWh := withD_ok (withN_ok evP_ok n_upper) (by kernel_rfl) (by kernel_rfl)
def WhQ (N : List (Nat × List Nat)) (k : Nat) : PK := fun u H' _ => u = .si .i64 (k : Int) ∧ PM.get H' 0 = some (.map (entC N))
theorem whLeaf {u : AV} {H' : AH} {n' k : Nat} {N : List (Nat × List Nat)} (hu : mk u = .si .i64 (k : Int)) (hm : PM.get H' 0 = some (.map (entC N))) : ∃ v H2 n2, VTo u v ∧ Recast H' n' H2 n2 ∧ WhQ N k v H2 n2 := ⟨_, H', n', (fun φ w h => by rw [← hu]; exact h.mk), .refl _ _, rfl, hm⟩
set_option maxHeartbeats 4000000 in
set_option maxRecDepth 100000 in
theorem wh_run (N : List (Nat × List Nat)) (w : List Nat) (hN : apartC N = true) (hw : ∀ c ∈ w, c < 256) (hl : w.length ≤ 1000000) : post (callT KWh 4 23) [.ss w, .map 0] (mkH [(0, .map (entC N))]) 1 (WhQ N (whF N (upF w))) := by
  show callT KWh 4 23 _ _ _ _
  conv => whnf
  refine LoopP.mk { seen : List Nat // seen.Nodup ∧ ∀ i ∈ seen, ∃ h : i < N.length, beqL N[i].2 (upF w) = false } 2 (fun s => whs N w s.val) (fun s => N.length - s.val.length) ⟨[], by simp, by simp⟩ ?_ ?_
  · exact whs_cov (seen := []) (Nat.le_refl 1) rfl rfl rfl rfl
  · intro ⟨seen, hn, hs⟩
    have hsl : seen.length ≤ N.length := by
      have := (List.Nodup.length_le_of_subset hn (l₂ := List.range N.length) fun i hi => List.mem_range.2 (hs i hi).1)
      simpa using this
    conv => whnf
    refine Nxt.mk 1 0 _ seen _ rfl rfl rfl rfl rfl (fun hall => ?_) (fun i e he hns => ?_)
    · have hz : AV.si .i64 0 = .si .i64 ((whF N (upF w) : Nat) : Int) := by rw [whF_no fun i hi => (hs i (hall i (by rw [entC_length]; exact hi))).2]; rfl
      conv => whnf
      exact whLeaf hz rfl
    · obtain ⟨hi, rfl⟩ := entC_at he
      have hnd : (seen ++ [i]).Nodup := by rw [List.nodup_append]; exact ⟨hn, by simp, fun a ha b hb e => by simp at hb; subst hb e; exact hns ha⟩
      have hlt : beqL N[i].2 (upF w) = false → N.length - (seen ++ [i]).length < N.length - seen.length := fun _ => by
        have := List.Nodup.length_le_of_subset (l₁ := seen ++ [i]) (l₂ := List.range N.length) hnd (fun j hj => List.mem_range.2 (by rcases List.mem_append.1 hj with hj | hj; exact (hs j hj).1; simp at hj; subst hj; exact hi))
        simp at this ⊢; omega
      conv => whnf
      refine Ent.mk 1 0 _ i seen _ _ rfl rfl rfl rfl he ?_
      conv => whnf
      refine ⟨w, rfl, hw, hl, ?_⟩
      conv => whnf
      refine Fork.sb (fun hy => ?_) (fun hno => ?_)
      · have hz : AV.si .i64 (N[i].1 : Int) = .si .i64 ((whF N (upF w) : Nat) : Int) := by rw [whF_of hi hN hy]
        conv => whnf
        exact whLeaf hz rfl
      · conv => whnf
        exact ⟨⟨seen ++ [i], hnd, fun j hj => by rcases List.mem_append.1 hj with hj | hj; exact hs j hj; simp at hj; subst hj; exact ⟨hi, hno⟩⟩, hlt hno, whs_cov (Nat.le_refl 1) rfl rfl rfl rfl⟩
def natWh (args : List AV) (H : AH) (n : Nat) (κ : PK) : Prop := match args with
  | [x, y] => ∃ (b : Nat) (N : List (Nat × List Nat)) (w : List Nat), mk x = .ss w ∧ y = .map b ∧ b < n ∧ H.get b = some (.map (entC N)) ∧ apartC N = true ∧ (∀ c ∈ w, c < 256) ∧ w.length ≤ 1000000 ∧ κ (.si .i64 ((whF N (upF w) : Nat) : Int)) H n
  | _ => False
theorem n_which : NatP 23 natWh := fun args H n κ hs φ h0' hp vs K hr hargs hk => by
  unfold natWh at hs
  split at hs
  · obtain ⟨x, y, rfl, e1, e2⟩ := vs2 hargs
    obtain ⟨b, N, w, hx, rfl, hbn, hb, hN, h1, h2, hs⟩ := hs
    refine framed (S := [b]) (O := [.map (entC N)]) (args0 := [.ss w, .map 0]) (NatP.post (callT_nat KWh_ok 4 _)) (by kernel_rfl) hr
      (handsA hbn (by rw [renO, entC_ren]; exact hb) (.inr rfl)) (.cons (flat1_VR rfl (hx ▸ e1.mk)) (.cons e2 .nil)) hk (wh_run N w hN h1 h2) fun u H' n' ⟨g1, g2⟩ => ?_
    subst g1
    refine ⟨1, H, Nat.le_refl _, After.same fun i s o h3 h4 _ => ?_, rfl, hs⟩
    cases i with
    | zero =>
      injection h3 with h3; subst h3
      rw [hb] at h4; injection h4 with h4; subst h4
      exact ⟨_, g2, rfl, entC_lt _ N, by rw [renO, entC_ren]⟩
    | succ i => simp at h3
  · exact hs.elim
end Go.Proofs.Ytdfeigkooeeeaaa
namespace Go.Proofs.Ytdfeigkooeeeaaa
open Go Go.RowKit
set_option maxRecDepth 20000
theorem decC_spec : ∀ {es : List (AV × AV)} {N : List (Nat × List Nat)}, decC es = some N → es = entC N
  | [], N, h => by
    injection h with h; subst h; rfl
  | (a, b) :: es, N, h => by
    unfold decC at h
    split at h
    · rename_i q; cases q
    · rename_i k s es' e
      injection e with e1 e2; injection e1 with e1 e3; subst e1 e2 e3
      split at h
      · rename_i N' hN'
        injection h with h; subst h
        rw [decC_spec hN']; rfl
      · cases h
    · cases h
theorem whQ_inv {args : List AV} {H : AH} {n : Nat} {κ : KA} {r : AV × AH × Nat} (h : whQ args H n κ = some r) : ∃ (b : Nat) (N : List (Nat × List Nat)) (w : List Nat), args = [.str w, .map b] ∧ H.get b = some (.map (entC N)) ∧ apartC N = true ∧ (∀ c ∈ w, c < 256) ∧ w.length ≤ 1000000 ∧ ∀ κ' : KA, whQ args H n κ' = κ' (.int .i64 (Int.ofNat (whF N (upF w)))) H n := by
  unfold whQ at h
  split at h
  · rename_i w b
    split at h
    · rename_i es hb
      split at h
      · rename_i N hN
        split at h
        · rename_i hok
          simp only [Bool.and_eq_true] at hok
          have e := decC_spec hN
          subst e
          refine ⟨b, N, w, rfl, hb, hok.1, fun c hc => ?_, ?_, fun κ' => ?_⟩
          · have := List.all_eq_true.1 hok.2.1 c hc
            exact Nat.le_of_ble_eq_true this
          · have : w.length < 1000 := Nat.le_of_ble_eq_true hok.2.2
            omega
          · unfold whQ
            simp only [hb, hN, hok.1, hok.2.1, hok.2.2, Bool.and_self]
        · cases h
      · cases h
    · cases h
  · cases h
theorem whQ_N : NatN whQ := fun args H n κ r h => by
  obtain ⟨b, N, w, _, _, _, _, _, hk⟩ := whQ_inv h
  exact ⟨_, _, _, hk⟩
theorem whQ_ok : COk Try.prog 23 fun args H n => whQ args H n topq := fun args H n v H' n' e φ h0 h vs K hr hargs hk => by
  have e : whQ args H n topq = some (v, H', n') := e
  obtain ⟨b, N, w, rfl, hb, hN, h1, h2, hq⟩ := whQ_inv e
  rw [hq topq] at e
  injection e with e; injection e with e1 e2; injection e2 with e2 e3
  subst e1 e2 e3
  obtain ⟨x, y, rfl, ex, ey⟩ := vs2 hargs
  obtain ⟨p, hp, _⟩ := ey.map_inv
  exact n_which [.str w, .map b] H n (fun v' H1 n1 => v' = .si .i64 ((whF N (upF w) : Nat) : Int) ∧ H1 = H ∧ n1 = n) ⟨b, N, w, rfl, rfl, (hr.dom b p hp).1, hb, hN, h1, h2, rfl, rfl, rfl⟩ φ h0 h _ K hr hargs
    fun ψ v' H1 n1 u g hle hg hu ⟨f1, f2, f3⟩ => by
      subst f1 f2 f3
      exact hk ψ u g hle hg hu.hd
theorem withQ_ok {F : FuncId → EQ} (hF : TabQ F) {k : FuncId} {g : List AV → AH → Nat → KA → AR} (h1 : NatN g) (h2 : COk Try.prog k fun args H n => g args H n topq) : TabQ (withQ k g F) := fun f => by
  unfold withQ
  cases hb : Nat.beq f k with
  | false => exact hF f
  | true =>
    have := Nat.eq_of_beq_eq_true hb
    subst this
    exact ⟨h1, h2⟩
theorem evC_ok : TabQ evC := withQ_ok evQ_ok whQ_N whQ_ok
theorem command_known_ran : isTrue (callq evC 60 8 [] .nil 0 topq) = true := by kernel_rfl
theorem n_known14 : NatP 8 (natQ trueN) := natQ_ok (trueN_ok evC_ok command_known_ran)
end Go.Proofs.Ytdfeigkooeeeaaa
namespace Go.Proofs.Ytdfeigkooeeeaaa
open Go Go.RowKit
set_option maxRecDepth 20000
def digN : Nat → Nat → List Nat
  | 0, _ => []
  | f + 1, k => if k < 10 then [48 + k] else digN f (k / 10) ++ [48 + k % 10]
def digs (z : Int) : List Nat := if z < 0 then 45 :: digN 20 z.natAbs else digN 20 z.natAbs
def dgo : Nat → Nat → List Nat → List Nat
  | 0, _, l => l
  | f + 1, k, l => if k = 0 ∧ l ≠ [] then l else dgo f (k / 10) ((48 + k % 10) :: l)
theorem dgo_stop {f : Nat} {l : List Nat} (h : l ≠ []) : dgo f 0 l = l := by
  cases f with
  | zero => rfl
  | succ f => unfold dgo; rw [if_pos ⟨rfl, h⟩]
theorem dgo_eq : ∀ (f k : Nat) (l : List Nat), k < 10 ^ (f + 1) → (k ≠ 0 ∨ l = []) → dgo (f + 2) k l = digN (f + 1) k ++ l := by
  intro f
  induction f with
  | zero =>
    intro k l h h0
    have hk : k < 10 := by simpa using h
    unfold dgo digN
    rw [if_neg (fun q => h0.elim (fun n => n q.1) (fun e => q.2 e)), if_pos hk, show k / 10 = 0 by omega, dgo_stop (by simp), show k % 10 = k by omega]
    rfl
  | succ f ih =>
    intro k l h h0
    unfold dgo digN
    rw [if_neg (fun q => h0.elim (fun n => n q.1) (fun e => q.2 e))]
    by_cases hk : k < 10
    · rw [if_pos hk, show k / 10 = 0 by omega, dgo_stop (by simp), show k % 10 = k by omega]
      rfl
    · rw [if_neg hk, ih (k / 10) _ (by rw [Nat.pow_succ] at h; omega) (.inl (by omega)), List.append_assoc]
      rfl
theorem digN_ne : ∀ (f k : Nat), digN (f + 1) k ≠ [] := fun f k => by
  unfold digN
  split <;> simp
theorem digN_fuel : ∀ (f g k : Nat), k < 10 ^ (f + 1) → k < 10 ^ (g + 1) → digN (f + 1) k = digN (g + 1) k := by
  intro f
  induction f with
  | zero =>
    intro g k h1 h2
    have hk : k < 10 := by simpa using h1
    unfold digN
    rw [if_pos hk, if_pos hk]
  | succ f ih =>
    intro g k h1 h2
    unfold digN
    by_cases hk : k < 10
    · rw [if_pos hk, if_pos hk]
    · rw [if_neg hk, if_neg hk]
      cases g with
      | zero => simp at h2; omega
      | succ g => rw [ih g (k / 10) (by rw [Nat.pow_succ] at h1; omega) (by rw [Nat.pow_succ] at h2; omega)]
theorem digN_digit : ∀ (f k : Nat), ∀ c ∈ digN f k, 48 ≤ c ∧ c ≤ 57 := by
  intro f
  induction f with
  | zero => intro k c h; cases h
  | succ f ih =>
    intro k c h
    unfold digN at h
    split at h
    · simp at h; omega
    · rcases List.mem_append.1 h with h | h
      · exact ih _ _ h
      · simp at h; omega
theorem digN_len : ∀ (f k : Nat), (digN f k).length ≤ f := by
  intro f
  induction f with
  | zero => intro k; exact Nat.le_refl _
  | succ f ih =>
    intro k
    unfold digN
    split
    · simp
    · rw [List.length_append]; have := ih (k / 10); simp; omega
theorem digs_lt (z : Int) : ∀ c ∈ digs z, c < 256 := fun c h => by
  unfold digs at h
  split at h
  · rcases List.mem_cons.1 h with h | h
    · omega
    · have := digN_digit _ _ _ h; omega
  · have := digN_digit _ _ _ h; omega
theorem digs_len (z : Int) : (digs z).length ≤ 21 := by
  have := digN_len 20 z.natAbs
  unfold digs
  split
  · simp; omega
  · omega
theorem abs_lt {z : Int} (h : In64 z) : z.natAbs < 10 ^ 20 := by unfold In64 at h; omega
/-! ### a text's number -/
def pgo : Nat → List Nat → Int → Int → Option Int
  | _, [], n, _ => some n
  | i, c :: r, n, sg => if 48 ≤ c ∧ c ≤ 57 then pgo (i + 1) r (W64 (W64 (10 * n) + W64 (sg * ((c : Int) - 48)))) sg else if i = 0 ∧ c = 45 then pgo (i + 1) r n (-1) else none
def numF (s : List Nat) : Int × Int := match pgo 0 s 0 1 with
  | some n => if digs n = s then (n, 0) else (0, 16)
  | none => (0, 16)
def rgo (g : Bool) : List Nat → Int → Int
  | [], n => n
  | c :: r, n => if 48 ≤ c ∧ c ≤ 57 then rgo g r (if g then W64 (W64 (10 * n) - ((c : Int) - 48)) else W64 (W64 (10 * n) + ((c : Int) - 48))) else rgo g r n
theorem pgo_dig : ∀ (f k i : Nat) (r : List Nat) (sg : Int), k < 10 ^ (f + 1) → (sg = 1 ∧ k ≤ 9223372036854775807 ∨ sg = -1 ∧ k ≤ 9223372036854775808) → pgo i (digN (f + 1) k ++ r) 0 sg = pgo (i + (digN (f + 1) k).length) r (sg * k) sg := by
  intro f
  have one : ∀ (i c : Nat) (r : List Nat) (a sg : Int), c < 10 → pgo i ((48 + c) :: r) a sg = pgo (i + 1) r (W64 (W64 (10 * a) + W64 (sg * (c : Int)))) sg := fun i c r a sg hc => by
    rw [pgo, if_pos (by omega)]
    congr 3
    congr 1
    have : ((48 + c : Nat) : Int) - 48 = (c : Int) := by omega
    rw [this]
  induction f with
  | zero =>
    intro k i r sg h hs
    have hk : k < 10 := by simpa using h
    unfold digN
    rw [if_pos hk]
    show pgo i ((48 + k) :: r) 0 sg = _
    rw [one i k r 0 sg hk]
    rcases hs with ⟨rfl, h1⟩ | ⟨rfl, h1⟩
    · have e : W64 (W64 (10 * 0) + W64 (1 * (k : Int))) = 1 * (k : Int) := by simp only [w64_eq]; omega
      rw [e]; rfl
    · have e : W64 (W64 (10 * 0) + W64 (-1 * (k : Int))) = -1 * (k : Int) := by simp only [w64_eq]; omega
      rw [e]; rfl
  | succ f ih =>
    intro k i r sg h hs
    unfold digN
    by_cases hk : k < 10
    · rw [if_pos hk]
      show pgo i ((48 + k) :: r) 0 sg = _
      rw [one i k r 0 sg hk]
      rcases hs with ⟨rfl, h1⟩ | ⟨rfl, h1⟩
      · have e : W64 (W64 (10 * 0) + W64 (1 * (k : Int))) = 1 * (k : Int) := by simp only [w64_eq]; omega
        rw [e]; rfl
      · have e : W64 (W64 (10 * 0) + W64 (-1 * (k : Int))) = -1 * (k : Int) := by simp only [w64_eq]; omega
        rw [e]; rfl
    · rw [if_neg hk, List.append_assoc, ih (k / 10) i _ sg (by rw [Nat.pow_succ] at h; omega) (by omega)]
      show pgo _ ((48 + k % 10) :: r) _ sg = _
      rw [one _ (k % 10) r _ sg (by omega), List.length_append]
      rcases hs with ⟨rfl, h1⟩ | ⟨rfl, h1⟩
      · have e : W64 (W64 (10 * (1 * ((k / 10 : Nat) : Int))) + W64 (1 * ((k % 10 : Nat) : Int))) = 1 * (k : Int) := by simp only [w64_eq]; omega
        rw [e]; rfl
      · have e : W64 (W64 (10 * (-1 * ((k / 10 : Nat) : Int))) + W64 (-1 * ((k % 10 : Nat) : Int))) = -1 * (k : Int) := by simp only [w64_eq]; omega
        rw [e]; rfl
theorem num_digs {n : Int} (h : In64 n) : numF (digs n) = (n, 0) := by
  have key : pgo 0 (digs n) 0 1 = some n := by
    unfold In64 at h
    unfold digs
    by_cases hn : n < 0
    · rw [if_pos hn]
      rw [pgo, if_neg (by omega), if_pos ⟨rfl, rfl⟩]
      have := pgo_dig 19 n.natAbs 1 [] (-1) (by omega) (.inr ⟨rfl, by omega⟩)
      rw [List.append_nil] at this
      rw [this]
      simp only [pgo]
      congr 1; omega
    · rw [if_neg hn]
      have := pgo_dig 19 n.natAbs 0 [] 1 (by omega) (.inl ⟨rfl, by omega⟩)
      rw [List.append_nil] at this
      rw [this]
      simp only [pgo]
      congr 1; omega
  unfold numF
  rw [key]
  simp
theorem rgo_eq (g : Bool) : ∀ (r : List Nat) (i : Nat) (n sg m : Int), (sg = if g then -1 else 1) → 0 < i → (∀ c ∈ r, c < 256) → pgo i r n sg = some m → rgo g r n = m
  | [], _, n, _, m, _, _, _, h => by injection h
  | c :: r, i, n, sg, m, hs, hi, hb, h => by
    rw [pgo] at h
    split at h
    · rename_i hc
      rw [rgo, if_pos hc]
      refine rgo_eq g r (i + 1) _ sg m hs (by omega) (fun x hx => hb x (List.mem_cons_of_mem _ hx)) ?_
      rw [← h]
      congr 1
      cases g with
      | true => simp only [if_true] at hs ⊢; subst hs; simp only [w64_eq]; omega
      | false => simp only [Bool.false_eq_true, if_false] at hs ⊢; subst hs; simp only [w64_eq]; omega
    · split at h
      · omega
      · cases h
/-- The document's number. -/
def rnumF (s : List Nat) : Int × Int := if digs (rgo (decide (s[0]? = some 45)) s 0) = s then (rgo (decide (s[0]? = some 45)) s 0, 0) else (0, 16)
theorem pgo_none : ∀ (r : List Nat) (i : Nat) (n sg : Int), 0 < i → pgo i r n sg = none → ∃ c ∈ r, ¬ (48 ≤ c ∧ c ≤ 57)
  | [], _, _, _, _, h => by cases h
  | c :: r, i, n, sg, hi, h => by
    rw [pgo] at h
    split at h
    · obtain ⟨d, h1, h2⟩ := pgo_none r (i + 1) _ _ (by omega) h
      exact ⟨d, List.mem_cons_of_mem _ h1, h2⟩
    · rename_i hc
      exact ⟨c, List.mem_cons_self, hc⟩
theorem digs_form (z : Int) : ∀ (c : Nat) (r : List Nat), digs z = c :: r → (c = 45 ∨ (48 ≤ c ∧ c ≤ 57)) ∧ ∀ d ∈ r, 48 ≤ d ∧ d ≤ 57 := fun c r h => by
  unfold digs at h
  split at h
  · injection h with h1 h2
    subst h1
    exact ⟨.inl rfl, fun d hd => digN_digit _ _ _ (h2 ▸ hd)⟩
  · exact ⟨.inr (digN_digit _ _ _ (h ▸ List.mem_cons_self)), fun d hd => digN_digit _ _ _ (h ▸ List.mem_cons_of_mem _ hd)⟩
theorem rnum_eq {s : List Nat} (hb : ∀ c ∈ s, c < 256) : rnumF s = numF s := by
  cases s with
  | nil => rfl
  | cons c r =>
    have hbr : ∀ x ∈ r, x < 256 := fun x hx => hb x (List.mem_cons_of_mem _ hx)
    unfold rnumF numF
    cases hp : pgo 0 (c :: r) 0 1 with
    | some m =>
      have e : rgo (decide ((c :: r)[0]? = some 45)) (c :: r) 0 = m := by
        rw [pgo] at hp
        split at hp
        · rename_i hc
          have hg : decide ((c :: r)[0]? = some 45) = false := by simp; omega
          rw [hg, rgo, if_pos hc]
          refine rgo_eq false r 1 _ 1 m rfl (by omega) hbr ?_
          rw [← hp]
          congr 1
          simp only [Bool.false_eq_true, if_false, w64_eq]; omega
        · rename_i hc
          split at hp
          · rename_i hc2
            have hg : decide ((c :: r)[0]? = some 45) = true := by simp [hc2.2]
            rw [hg, rgo, if_neg hc]
            exact rgo_eq true r 1 0 (-1) m rfl (by omega) hbr hp
          · cases hp
      dsimp only
      rw [e]
    | none =>
      have hne : ∀ z, digs z ≠ c :: r := fun z hz => by
        obtain ⟨h1, h2⟩ := digs_form z c r hz
        rw [pgo] at hp
        split at hp
        · obtain ⟨d, h3, h4⟩ := pgo_none r 1 _ _ (by omega) hp
          exact h4 (h2 d h3)
        · rename_i hc
          split at hp
          · obtain ⟨d, h3, h4⟩ := pgo_none r 1 _ _ (by omega) hp
            exact h4 (h2 d h3)
          · rename_i hc2
            rcases h1 with h1 | h1
            · exact hc2 ⟨rfl, h1⟩
            · exact hc h1
      dsimp only
      rw [if_neg (hne _)]
end Go.Proofs.Ytdfeigkooeeeaaa
namespace Go.Proofs.Ytdfeigkooeeeaaa
open Go Go.RowKit
set_option maxRecDepth 20000
theorem tyU8 : RTy 43 43 1 1 := ⟨_, _, _, rfl, rfl, (fun q h => by cases h), rfl, rfl, rfl, rfl, by decide, by decide⟩
theorem bytA_one (s : List Nat) : (bytA s).all one1 = true := by
  rw [List.all_eq_true]
  intro y hy
  have := List.all_eq_true.1 (bytA_flat s) y hy
  cases y <;> first | rfl | cases this
theorem bytA_whole (s : List Nat) : subL (bytA s) 0 (s.length * 1) = some (bytA s) := subL_all (by rw [bytA_length, Nat.mul_one])
theorem bytA_whole' (s : List Nat) : subL (bytA s) 0 s.length = some (bytA s) := subL_all (bytA_length s)
theorem bytA_nth {s : List Nat} {i o : Nat} (h : i < s.length) (ho : o = i) : nth (bytA s) o = some (.si .u8 (Int.ofNat s[i])) := by
  subst ho
  rw [nth_eq]
  simp only [bytA, List.getElem?_map, List.getElem?_eq_getElem h]; rfl
/-! ### a number's text -/
theorem dig_byte {m : Int} (h : In64 m) : AV.si .u8 (IntKind.u8.wrap (IntKind.i64.wrap (48 + max (m.tmod 10) (IntKind.i64.wrap (0 - m.tmod 10))))) = .si .u8 (Int.ofNat (48 + m.natAbs % 10)) := by
  unfold In64 at h
  have h1 : m.tmod 10 = if m < 0 then -((m.natAbs % 10 : Nat) : Int) else ((m.natAbs % 10 : Nat) : Int) := by
    split
    · rename_i hn
      rw [show m = -((m.natAbs : Nat) : Int) by omega, Int.neg_tmod]
      simp [Int.tmod]
    · rename_i hn
      rw [show m = ((m.natAbs : Nat) : Int) by omega]
      simp [Int.tmod]
  have h2 : m.natAbs % 10 < 10 := Nat.mod_lt _ (by decide)
  have h3 : IntKind.i64.wrap (0 - m.tmod 10) = -(m.tmod 10) := (W64_of (by unfold In64; split at h1 <;> omega)).trans (by omega)
  have h4 : max (m.tmod 10) (-(m.tmod 10)) = ((m.natAbs % 10 : Nat) : Int) := by
    split at h1 <;> (rw [h1]; omega)
  rw [h3, h4]
  have h5 : IntKind.i64.wrap (48 + ((m.natAbs % 10 : Nat) : Int)) = ((48 + m.natAbs % 10 : Nat) : Int) := (W64_of (by unfold In64; omega)).trans (by omega)
  rw [h5]
  congr 1
  simp [IntKind.wrap, IntKind.bits, IntKind.signed]
  omega
theorem dig_next {m : Int} (h : In64 m) : IntKind.i64.wrap (m.tdiv 10) = m.tdiv 10 ∧ In64 (m.tdiv 10) ∧ (m.tdiv 10).natAbs = m.natAbs / 10 := by
  have h1 : (m.tdiv 10).natAbs = m.natAbs / 10 := by rw [Int.natAbs_tdiv]; rfl
  unfold In64 at h
  have h2 : In64 (m.tdiv 10) := by unfold In64; omega
  exact ⟨W64_of h2, h2, h1⟩
noncomputable def dgt (z : Int) (m : Int) (D : List Nat) : AE × AH := (mkE [(0, .si .i64 (z)), (3, .rw 0 0 D.length 1 0), (4, .si .i64 (m))], mkH [(0, .cells (bytA (D)) true)])
theorem dgt_cov {z : Int} {m : Int} {D : List Nat} {p n : Nat} {σ : AE} {H : AH} (j0 : Nat) (hp : p ≤ 0) (e0 : mk (getq (pa 0) σ) = .si .i64 (z)) (e3 : SubV H 1 (fun b => if b = 0 then j0 else b) (getq (pa 3) σ) (.rw 0 0 D.length 1 0)) (e4 : mk (getq (pa 4) σ) = .si .i64 (m)) (h0 : (∃ l, H.get j0 = some (.cells l true) ∧ l.map mk = bytA (D)) ∨ ((D) = [] ∧ n ≤ j0)) : Cov p σ H n ((dgt z m D).1, (dgt z m D).2, 1) := by
  refine Cov.ofR (fun b => if b = 0 then j0 else b) (by omega) (fun b hb => by repeat' rw [if_neg (by omega)]) ?_ ?_ ?_
  · intro x hx
    simp only [List.mem_cons, List.not_mem_nil, or_false] at hx
    rcases hx with rfl | rfl | rfl
    · exact .int e0
    · exact e3
    · exact .int e4
  · intro x hx
    simp only [List.mem_cons, List.not_mem_nil, or_false] at hx
    subst hx
    exact ⟨by simp, h0.elim (fun ⟨l, h, g⟩ => .inl ⟨_, h, SubO.cells_mk (bytA_flat _) (by rw [g, bytA_map]) (fun q => q)⟩) (fun h => .inr ⟨by rw [h.1]; rfl, h.2⟩)⟩
  · intro x hx y hy
    simp only [List.mem_cons, List.not_mem_nil, or_false] at hx hy
    subst hx hy
    exact fun q => rfl
noncomputable def KDg : FuncId → EP := withD 11 [] evP
theorem KDg_ok : TabP KDg := withD_ok evP_ok (by kernel_rfl) (by kernel_rfl)
/-- What is so ahead of each round: rounds that are left, the number that is left, the digits so far. -/
def DgI (z : Int) (x : Nat × Int × List Nat) : Prop := In64 x.2.1 ∧ x.2.1.natAbs < 10 ^ x.1 ∧ dgo (x.1 + 1) x.2.1.natAbs x.2.2 = digN 20 z.natAbs ∧ x.2.2.length + x.1 ≤ 20 ∧ (∀ c ∈ x.2.2, c < 256) ∧ (x.2.2 = [] → x.1 = 20)
theorem DgI.step {z m : Int} {f : Nat} {l : List Nat} (h : DgI z (f, m, l)) (hc : m ≠ 0 ∨ l.length = 0) : 1 ≤ f ∧ DgI z (f - 1, m.tdiv 10, (48 + m.natAbs % 10) :: l) := by
  obtain ⟨h1, h2, h3, h4, h5, h6⟩ := h
  dsimp only at h1 h2 h3 h4 h5 h6
  have hf : 1 ≤ f := by
    rcases Nat.eq_zero_or_pos f with q | q
    · subst q
      rcases hc with hc | hc
      · simp at h2; omega
      · have := h6 (List.eq_nil_of_length_eq_zero hc); omega
    · exact q
  obtain ⟨g, rfl⟩ : ∃ g, f = g + 1 := ⟨f - 1, by omega⟩
  obtain ⟨d1, d2, d3⟩ := dig_next h1
  refine ⟨hf, d2, ?_, ?_, ?_, ?_, fun q => by cases q⟩
  · show (m.tdiv 10).natAbs < 10 ^ g
    rw [d3]; rw [Nat.pow_succ] at h2; omega
  · show dgo (g + 1) (m.tdiv 10).natAbs _ = _
    rw [d3, ← h3]
    conv => rhs; unfold dgo
    rw [if_neg (fun q => hc.elim (fun n => n (Int.natAbs_eq_zero.1 q.1)) (fun e => q.2 (List.eq_nil_of_length_eq_zero e)))]
  · show ((48 + m.natAbs % 10) :: l).length + (g + 1 - 1) ≤ 20
    simp; omega
  · intro c hc
    rcases List.mem_cons.1 hc with rfl | hc
    · omega
    · exact h5 c hc
theorem DgI.stop {z m : Int} {f : Nat} {l : List Nat} (h : DgI z (f, m, l)) (h0 : m = 0) (hl : ¬ l.length = 0) : l = digN 20 z.natAbs := by
  obtain ⟨h1, h2, h3, _⟩ := h
  dsimp only at h3
  rw [h0] at h3
  rw [← h3]
  exact (dgo_stop (fun e => hl (by rw [e]; rfl))).symm
set_option maxHeartbeats 8000000 in
set_option maxRecDepth 100000 in
theorem dg_run (z : Int) (hz : In64 z) : callT KDg 3 11 [.si .i64 z] .nil 0 fun u _ _ => mkT u = mkT (.ss (digs z)) := by
  conv => whnf
  refine LoopP.mk { x : Nat × Int × List Nat // DgI z x } 1 (fun x => dgt z x.val.2.1 x.val.2.2) (fun x => x.val.1) ⟨(20, z, []), hz, abs_lt hz, dgo_eq 19 _ _ (abs_lt hz) (.inr rfl) |>.trans (List.append_nil _), Nat.le_refl _, (fun c h => by cases h), fun _ => rfl⟩ ?_ ?_
  · exact dgt_cov (j0 := 0) (Nat.le_refl 0) rfl (.nslRw rfl) rfl (.inr ⟨rfl, Nat.le_refl _⟩)
  · intro ⟨(f, m, l), hI⟩
    have hm : In64 m := hI.1
    have hll : l.length ≤ 20 := by have := hI.2.2.2.1; dsimp only at this; omega
    have hb256 : ∀ c ∈ l, c < 256 := hI.2.2.2.2.1
    have hrow := bytA_whole l
    have hbig : (1 + l.length) * 1 ≤ 140737488355328 := by omega
    have hlen : 1 + l.length = ((48 + m.natAbs % 10) :: l).length := by simp; omega
    have hby := dig_byte hm
    have hcell : ([AV.si .u8 (IntKind.u8.wrap (IntKind.i64.wrap (48 + max (m.tmod 10) (IntKind.i64.wrap (0 - m.tmod 10)))))] ++ bytA l).map mk = bytA ((48 + m.natAbs % 10) :: l) := by
      rw [hby, List.map_append, bytA_map]; rfl
    have hmt : AV.si .i64 (IntKind.i64.wrap (m.tdiv 10)) = .si .i64 (m.tdiv 10) := by rw [(dig_next hm).1]
    have go : ∀ hc : m ≠ 0 ∨ l.length = 0, f - 1 < f := fun hc => by have := (hI.step hc).1; omega
    conv => whnf
    refine Fork.ndec (fun h0 => ?_) (fun h0 => ?_)
    · have hst := hI.step (.inl h0)
      conv => whnf
      refine RApp.grow 1 1 _ _ _ _ _ _ tyU8 (.rw (.inr ⟨_, rfl⟩) hrow) (by rw [bytA_length, Nat.mul_one]) (bytA_one l) (.sl rfl rfl (Nat.le_refl _) (Nat.le_refl _)) hbig ?_
      conv => whnf
      exact ⟨⟨(f - 1, m.tdiv 10, (48 + m.natAbs % 10) :: l), hst.2⟩, go (.inl h0), dgt_cov (j0 := 2) (Nat.le_refl 0) rfl (SubV.rw (by decide) rfl (hn := hlen)) hmt (.inl ⟨_, rfl, hcell⟩)⟩
    · conv => whnf
      refine Fork.dec (fun h1 => ?_) (fun h1 => ?_)
      · have h1 : l.length = 0 := by exact Int.ofNat_inj.1 h1
        have hst := hI.step (.inr h1)
        conv => whnf
        refine RApp.grow 1 1 _ _ _ _ _ _ tyU8 (.rw (.inr ⟨_, rfl⟩) hrow) (by rw [bytA_length, Nat.mul_one]) (bytA_one l) (.sl rfl rfl (Nat.le_refl _) (Nat.le_refl _)) hbig ?_
        conv => whnf
        exact ⟨⟨(f - 1, m.tdiv 10, (48 + m.natAbs % 10) :: l), hst.2⟩, go (.inr h1), dgt_cov (j0 := 2) (Nat.le_refl 0) rfl (SubV.rw (by decide) rfl (hn := hlen)) hmt (.inl ⟨_, rfl, hcell⟩)⟩
      · have h1 : ¬ l.length = 0 := fun q => h1 (by exact Int.ofNat_inj.2 q)
        have hl := hI.stop h0 h1
        have hbyt : ebytes (bytA l) = some l := ebytes_bytA hb256
        have hwh := bytA_whole' l
        have hadd : ([45] : List Nat).length + l.length ≤ 9223372036854775807 := by simp; omega
        conv => whnf
        refine Fork.dec (fun hn => ?_) (fun hn => ?_)
        · have e : mkT (AV.ss ([45] ++ l)) = mkT (.ss (digs z)) := by unfold digs; rw [if_pos hn, hl]; rfl
          conv => whnf
          refine RStr.mk _ _ _ _ _ _ _ _ rfl (by decide) ⟨_, rfl, rfl, rfl⟩ (.inr ⟨_, rfl⟩) hwh hbyt ?_
          conv => whnf
          refine ⟨hadd, ?_⟩
          conv => whnf
          exact e
        · have e : mkT (AV.ss l) = mkT (.ss (digs z)) := by unfold digs; rw [if_neg hn, hl]
          conv => whnf
          refine RStr.mk _ _ _ _ _ _ _ _ rfl (by decide) ⟨_, rfl, rfl, rfl⟩ (.inr ⟨_, rfl⟩) hwh hbyt ?_
          conv => whnf
          exact e
def natDg (args : List AV) (H : AH) (n : Nat) (κ : PK) : Prop := match args with
  | [x] => ∃ z : Int, mk x = .si .i64 z ∧ In64 z ∧ κ (.ss (digs z)) H n
  | _ => False
theorem n_digits : NatP 11 natDg := fun args H n κ hs φ h0' hp vs K hr hargs hk => by
  unfold natDg at hs
  split at hs
  · obtain ⟨x, rfl, e1⟩ := vs1 hargs
    obtain ⟨z, hx, h1, hs⟩ := hs
    exact smallN KDg_ok (v := .ss (digs z)) rfl (dg_run z h1) hs hr hk (by kernel_rfl) HR.ro0 (.cons (flat1_VR rfl (hx ▸ e1.mk)) .nil)
  · exact hs.elim
theorem singDg : SingG natDg := .pure fun args H n κ hs => by
  unfold natDg at *
  split at hs
  · obtain ⟨z, h1, h2, h3⟩ := hs
    exact ⟨_, h3, fun κ' h => ⟨z, h1, h2, h⟩⟩
  · exact hs.elim
/-! ### a text's number -/
theorem sub48 {c : Nat} (h1 : 48 ≤ c) (h2 : c ≤ 57) : IntKind.i64.wrap (IntKind.u8.wrap (Int.ofNat c - 48)) = (c : Int) - 48 := by
  have e : IntKind.u8.wrap (Int.ofNat c - 48) = (c : Int) - 48 := by
    simp [IntKind.wrap, IntKind.bits, IntKind.signed]
    omega
  rw [e]
  exact W64_of (by unfold In64; omega)
noncomputable def nmt (s : List Nat) (m : Int) (g : Int) (i : Nat) : AE × AH := (mkE [(0, .ss (s)), (4, .si .i64 (m)), (5, .si .i64 (g)), (9, .sy 0 0 s.length s.length 1), (10, .si .i64 (((s.length : Nat) : Int))), (11, .si .i64 (((i : Nat) : Int)))], mkH [(0, .cells (bytA (s)) false)])
theorem nmt_cov {s : List Nat} {m : Int} {g : Int} {i : Nat} {p n : Nat} {σ : AE} {H : AH} {l0 : List AV} (hp : p ≤ 0) (e0 : mk (getq (pa 0) σ) = .ss (s)) (e4 : mk (getq (pa 4) σ) = .si .i64 (m)) (e5 : mk (getq (pa 5) σ) = .si .i64 (g)) (e9 : mk (getq (pa 9) σ) = .sy 0 0 s.length s.length 1) (e10 : mk (getq (pa 10) σ) = .si .i64 (((s.length : Nat) : Int))) (e11 : mk (getq (pa 11) σ) = .si .i64 (((i : Nat) : Int))) (h0 : H.get 0 = some (.cells l0 false)) (g0 : l0.map mk = bytA (s)) : Cov p σ H n ((nmt s m g i).1, (nmt s m g i).2, 1) := by
  refine Cov.ofR (fun b => b) (by omega) (fun b hb => rfl) ?_ ?_ ?_
  · intro x hx
    simp only [List.mem_cons, List.not_mem_nil, or_false] at hx
    rcases hx with rfl | rfl | rfl | rfl | rfl | rfl
    · exact .str e0
    · exact .int e4
    · exact .int e5
    · exact .sy (by decide) e9
    · exact .int e10
    · exact .int e11
  · intro x hx
    simp only [List.mem_cons, List.not_mem_nil, or_false] at hx
    subst hx
    exact ⟨by simp, .inl ⟨_, h0, SubO.cells_mk (bytA_flat _) (by rw [g0, bytA_map]) (fun q => q)⟩⟩
  · intro x hx y hy
    simp only [List.mem_cons, List.not_mem_nil, or_false] at hx hy
    subst hx hy
    exact fun q => rfl
noncomputable def KNm : FuncId → EP := withN 11 natDg evP
theorem KNm_ok : TabP KNm := withN_ok evP_ok n_digits
theorem drop_cons {s : List Nat} {i : Nat} (h : i < s.length) : s.drop i = s[i] :: s.drop (i + 1) := List.drop_eq_getElem_cons h
set_option maxHeartbeats 8000000 in
set_option maxRecDepth 100000 in
theorem nm_run (s : List Nat) (hs : ∀ c ∈ s, c < 256) (hl : s.length ≤ 1000000) : callT KNm 3 9 [.ss s] .nil 0 fun u _ _ => mkT u = mkT (.tup [.si .i64 (numF s).1, .si .i64 (numF s).2]) := by
  have key : ∀ {x y : Int}, numF s = (x, y) → mkT (.tup [.si .i64 x, .si .i64 y]) = mkT (.tup [.si .i64 (numF s).1, .si .i64 (numF s).2]) := fun e => by rw [e]
  conv => whnf
  refine Ask.mk (.sl 0 0 s.length s.length 1, _, 1) rfl ?_
  conv => whnf
  refine LoopP.mk { x : Nat × Int × Int // x.1 ≤ s.length ∧ In64 x.2.1 ∧ pgo x.1 (s.drop x.1) x.2.1 x.2.2 = pgo 0 s 0 1 } 1 (fun x => nmt s x.val.2.1 x.val.2.2 x.val.1) (fun x => s.length - x.val.1) ⟨(0, 0, 1), Nat.zero_le _, (show In64 0 by unfold In64; omega), rfl⟩ ?_ ?_
  · exact nmt_cov (Nat.le_refl 0) rfl rfl rfl rfl rfl rfl rfl (by simp [bytA, mk])
  · intro ⟨(i, m, g), hi, hm, hp⟩
    dsimp only at hi hm hp
    conv => whnf
    refine Fork.dec (fun h => ?_) (fun h => ?_)
    · have hi2 : i < s.length := by exact Int.ofNat_lt.1 h
      have hc := hs _ (List.getElem_mem hi2)
      have hi1 : IntKind.i64.wrap ((i : Int) + 1) = ((i + 1 : Nat) : Int) := W64_of ⟨by omega, by omega⟩
      have hlt : s.length - (i + 1) < s.length - i := by omega
      rw [drop_cons hi2, pgo] at hp
      have hno : ¬ (48 ≤ s[i] ∧ s[i] ≤ 57) → pgo 0 s 0 1 = if i = 0 ∧ s[i] = 45 then pgo (i + 1) (s.drop (i + 1)) m (-1) else none := fun q => by rw [← hp, if_neg q]
      have hbad : ¬ (48 ≤ s[i] ∧ s[i] ≤ 57) → ¬ (i = 0 ∧ s[i] = 45) → mkT (.tup [.si .i64 0, .si .i64 16]) = mkT (.tup [.si .i64 (numF s).1, .si .i64 (numF s).2]) := fun q1 q2 => key (by unfold numF; rw [hno q1, if_neg q2])
      conv => whnf
      refine Idx.mk i rfl hi2 ?_
      conv => whnf
      refine optP_of (bytA_nth hi2 (show 0 + i * 1 = i by omega)) ?_
      conv => whnf
      refine Fork.dec (fun h1 => ?_) (fun h1 => ?_)
      · have h1 : 48 ≤ s[i] := by exact Int.ofNat_le.1 h1
        conv => whnf
        refine Fork.dec (fun h2 => ?_) (fun h2 => ?_)
        · have h2 : s[i] ≤ 57 := by exact Int.ofNat_le.1 h2
          have hp2 : pgo (i + 1) (s.drop (i + 1)) (W64 (W64 (10 * m) + W64 (g * ((s[i] : Int) - 48)))) g = pgo 0 s 0 1 := by rw [← hp, if_pos ⟨h1, h2⟩]
          have hv : AV.si .i64 (IntKind.i64.wrap (IntKind.i64.wrap (10 * m) + IntKind.i64.wrap (g * IntKind.i64.wrap (IntKind.u8.wrap (Int.ofNat s[i] - 48))))) = .si .i64 (W64 (W64 (10 * m) + W64 (g * ((s[i] : Int) - 48)))) := by rw [sub48 h1 h2]
          conv => whnf
          exact ⟨⟨(i + 1, W64 (W64 (10 * m) + W64 (g * ((s[i] : Int) - 48))), g), hi2, W64_in _, hp2⟩, hlt, nmt_cov (Nat.le_refl 0) rfl hv rfl rfl rfl (congrArg (AV.si .i64) hi1) rfl (bytA_map s)⟩
        · have h2 : ¬ s[i] ≤ 57 := fun q => h2 (by exact Int.ofNat_le.2 q)
          have q1 : ¬ (48 ≤ s[i] ∧ s[i] ≤ 57) := fun q => h2 q.2
          have q2 : ¬ (i = 0 ∧ s[i] = 45) := fun q => by omega
          have hbad := hbad q1 q2
          conv => whnf
          refine Fork.dec (fun h0 => ?_) (fun h0 => ?_)
          · conv => whnf
            refine Fork.dec (fun h45 => absurd (show s[i] = 45 by exact Int.ofNat_inj.1 h45) (by omega)) (fun h45 => ?_)
            conv => whnf
            exact hbad
          · conv => whnf
            exact hbad
      · have h1 : ¬ 48 ≤ s[i] := fun q => h1 (by exact Int.ofNat_le.2 q)
        have q1 : ¬ (48 ≤ s[i] ∧ s[i] ≤ 57) := fun q => h1 q.1
        conv => whnf
        refine Fork.dec (fun h0 => ?_) (fun h0 => ?_)
        · have h0 : i = 0 := by exact Int.ofNat_inj.1 h0
          conv => whnf
          refine Fork.dec (fun h45 => ?_) (fun h45 => ?_)
          · have h45 : s[i] = 45 := by exact Int.ofNat_inj.1 h45
            have hp2 : pgo (i + 1) (s.drop (i + 1)) m (-1) = pgo 0 s 0 1 := by rw [hno q1, if_pos ⟨h0, h45⟩]
            conv => whnf
            exact ⟨⟨(i + 1, m, -1), hi2, hm, hp2⟩, hlt, nmt_cov (Nat.le_refl 0) rfl rfl rfl rfl rfl (congrArg (AV.si .i64) hi1) rfl (bytA_map s)⟩
          · have hbad := hbad q1 (fun q => h45 (by exact Int.ofNat_inj.2 q.2))
            conv => whnf
            exact hbad
        · have hbad := hbad q1 (fun q => h0 (by exact Int.ofNat_inj.2 q.1))
          conv => whnf
          exact hbad
    · have hi3 : i = s.length := by have : ¬ i < s.length := fun q => h (Int.ofNat_lt.2 q); omega
      have hp2 : pgo 0 s 0 1 = some m := by rw [← hp, hi3, List.drop_length]; rfl
      conv => whnf
      refine ⟨m, rfl, hm, ?_⟩
      conv => whnf
      refine Fork.nsb (fun he => ?_) (fun he => ?_)
      · have e := key (x := 0) (y := 16) (by unfold numF; rw [hp2]; dsimp only; rw [if_neg (fun q => by rw [beqL_is.2 q] at he; cases he)])
        conv => whnf
        exact e
      · have e := key (x := m) (y := 0) (by unfold numF; rw [hp2]; dsimp only; rw [if_pos (beqL_is.1 he)])
        conv => whnf
        exact e
def natNm (args : List AV) (H : AH) (n : Nat) (κ : PK) : Prop := match args with
  | [x] => ∃ s, mk x = .ss s ∧ (∀ c ∈ s, c < 256) ∧ s.length ≤ 1000000 ∧ κ (.tup [.si .i64 (numF s).1, .si .i64 (numF s).2]) H n
  | _ => False
theorem n_number : NatP 9 natNm := fun args H n κ hs φ h0' hp vs K hr hargs hk => by
  unfold natNm at hs
  split at hs
  · obtain ⟨x, rfl, e1⟩ := vs1 hargs
    obtain ⟨s, hx, h1, h2, hs⟩ := hs
    exact smallN KNm_ok (v := .tup [.si .i64 (numF s).1, .si .i64 (numF s).2]) rfl (nm_run s h1 h2) hs hr hk (by kernel_rfl) HR.ro0 (.cons (flat1_VR rfl (hx ▸ e1.mk)) .nil)
  · exact hs.elim
end Go.Proofs.Ytdfeigkooeeeaaa
namespace Go.Proofs.Ytdfeigkooeeeaaa
open Go Go.RowKit
set_option maxRecDepth 20000
section
variable {φ ψ : Ph} {H : AH} {n : Nat} {h0 hp : Hp}
/-- A run of a function's own that yields what is known. -/
theorem smallNR {f : FuncId} {run : List AV → AH → Nat → PK → Prop} (hrun : NatP f run) {args0 : List AV} {H0 : AH} {n0 : Nat} {v : AV} (hv : flat v = true) (h : run args0 H0 n0 fun u _ _ => mkT u = mkT v)
    {vs : Array Value} {κ : PK} {K : KH} (hs : κ (mkT v) H n) (hr : HR φ H n h0 hp) (hk : ThenP φ h0 κ K) (hic : isCall Try.prog f = true) {φ0 : Ph} (hr0 : Wf hp → HR φ0 H0 n0 hp hp) (hargs : VRs φ0 args0 vs.toList) : CallF Try.prog f vs hp K := by
  have key : Wf hp → CallF Try.prog f vs hp K := fun hw => hrun args0 H0 n0 _ h φ0 hp hp vs K (hr0 hw) hargs fun ψ u H' n' w g _ hg hu he => by
    have hg2 : HR φ H n h0 g := hr.grow (fun b o hb => (hg.base b o hb).2) hg.size
    have h3 : VR φ (mkT v) w := (flat_VR (φ := ψ) (flat_mkT hv) (he ▸ hu.mkT))
    exact hk φ _ H n w g (PLe.refl _) hg2 h3 hs
  exact ⟨hic, fun w hi => (key hi.wf).2 w hi⟩
end
/-! ### a number's text, by the document -/
theorem digs_small {z : Int} (hz : In64 z) (h : z.tdiv 10 = 0) : digs z = if z < 0 then [45, 48 + z.natAbs % 10] else [48 + z.natAbs % 10] := by
  have h1 : z.natAbs < 10 := by have := (dig_next hz).2.2; rw [h] at this; simp at this; omega
  unfold digs
  have e : digN 20 z.natAbs = [48 + z.natAbs % 10] := by unfold digN; rw [if_pos h1, Nat.mod_eq_of_lt h1]
  rw [e]
theorem digs_big {z : Int} (hz : In64 z) (h : ¬ z.tdiv 10 = 0) : digs z = digs (z.tdiv 10) ++ [48 + z.natAbs % 10] := by
  have hd := (dig_next hz).2.2
  have h1 : ¬ z.natAbs < 10 := fun q => h (by
    have : (z.tdiv 10).natAbs = 0 := by rw [hd]; omega
    omega)
  have hs : z.tdiv 10 < 0 ↔ z < 0 := by
    constructor
    · intro q
      by_cases k : z < 0
      · exact k
      · have := Int.tdiv_nonneg (show 0 ≤ z by omega) (show (0 : Int) ≤ 10 by decide); omega
    · intro q
      have : z.tdiv 10 ≤ 0 := by
        have h2 := Int.tdiv_nonneg (a := -z) (b := 10) (by omega) (by decide)
        rw [Int.neg_tdiv] at h2; omega
      omega
  have e : digN 20 z.natAbs = digN 20 (z.tdiv 10).natAbs ++ [48 + z.natAbs % 10] := by
    have ha := abs_lt hz
    conv => lhs; unfold digN
    rw [if_neg h1, hd, digN_fuel 18 19 (z.natAbs / 10) (by omega) (by omega)]
  unfold digs
  rw [e]
  by_cases q : z < 0
  · rw [if_pos q, if_pos (hs.2 q)]; rfl
  · rw [if_neg q, if_neg (fun k => q (hs.1 k))]
def natRD (N : Nat) (args : List AV) (H : AH) (n : Nat) (κ : PK) : Prop := match args with
  | [x] => ∃ z : Int, mk x = .si .i64 z ∧ In64 z ∧ z.natAbs < 10 ^ N ∧ κ (.ss (digs z)) H n
  | _ => False
noncomputable def KRD (N : Nat) : FuncId → EP := withN 12 (natRD N) evP
theorem KRD_ok {N : Nat} (h : NatP 12 (natRD N)) : TabP (KRD N) := withN_ok evP_ok h
theorem rem_abs {z : Int} (hz : In64 z) : (z.tmod 10 < 0 → IntKind.i64.wrap (0 - z.tmod 10) = ((z.natAbs % 10 : Nat) : Int)) ∧ (¬ z.tmod 10 < 0 → z.tmod 10 = ((z.natAbs % 10 : Nat) : Int)) := by
  unfold In64 at hz
  have h1 : z.tmod 10 = if z < 0 then -((z.natAbs % 10 : Nat) : Int) else ((z.natAbs % 10 : Nat) : Int) := by
    split
    · rename_i hn
      rw [show z = -((z.natAbs : Nat) : Int) by omega, Int.neg_tmod]
      simp [Int.tmod]
    · rename_i hn
      rw [show z = ((z.natAbs : Nat) : Int) by omega]
      simp [Int.tmod]
  have h2 : z.natAbs % 10 < 10 := Nat.mod_lt _ (by decide)
  refine ⟨fun h => ?_, fun h => ?_⟩
  · rw [show IntKind.i64.wrap (0 - z.tmod 10) = 0 - z.tmod 10 from W64_of (by unfold In64; split at h1 <;> omega)]
    split at h1 <;> omega
  · split at h1 <;> omega
theorem last_byte {z : Int} {d : Int} (h : d = ((z.natAbs % 10 : Nat) : Int)) : IntKind.u8.wrap (IntKind.i64.wrap (48 + d)) = Int.ofNat (48 + z.natAbs % 10) := by
  have h2 : z.natAbs % 10 < 10 := Nat.mod_lt _ (by decide)
  subst h
  rw [show IntKind.i64.wrap (48 + ((z.natAbs % 10 : Nat) : Int)) = ((48 + z.natAbs % 10 : Nat) : Int) from (W64_of (by unfold In64; omega)).trans (by omega)]
  simp [IntKind.wrap, IntKind.bits, IntKind.signed]
  omega
theorem ebytes_last {c : Nat} {x : Int} (hc : c < 256) (h : x = Int.ofNat c) : ebytes [AV.si .u8 x] = some [c] := by
  subst h
  exact ebytes_bytA (s := [c]) (fun y hy => by simp at hy; omega)
set_option maxHeartbeats 8000000 in
set_option maxRecDepth 100000 in
theorem rdg_run (N : Nat) (z : Int) (hz : In64 z) (hN : z.natAbs < 10 ^ (N + 1)) : recT (KRD N) 3 [] 12 [.si .i64 z] .nil 0 fun u _ _ => mkT u = mkT (.ss (digs z)) := by
  have hr := rem_abs hz
  have hc : 48 + z.natAbs % 10 < 256 := by omega
  have hq : IntKind.i64.wrap (z.tdiv 10) = z.tdiv 10 := (dig_next hz).1
  have hq2 : In64 (z.tdiv 10) := (dig_next hz).2.1
  have hq3 : (z.tdiv 10).natAbs < 10 ^ N := by rw [(dig_next hz).2.2]; rw [Nat.pow_succ] at hN; omega
  have hlen : (digs (z.tdiv 10)).length + [48 + z.natAbs % 10].length ≤ 9223372036854775807 := by have := digs_len (z.tdiv 10); simp; omega
  have b1 : z.tmod 10 < 0 → ebytes [AV.si .u8 (IntKind.u8.wrap (IntKind.i64.wrap (48 + IntKind.i64.wrap (0 - z.tmod 10))))] = some [48 + z.natAbs % 10] := fun h => ebytes_last hc (last_byte (hr.1 h))
  have b2 : ¬ z.tmod 10 < 0 → ebytes [AV.si .u8 (IntKind.u8.wrap (IntKind.i64.wrap (48 + z.tmod 10)))] = some [48 + z.natAbs % 10] := fun h => ebytes_last hc (last_byte (hr.2 h))
  have eb : ¬ IntKind.i64.wrap (z.tdiv 10) = 0 → mkT (AV.ss (digs (z.tdiv 10) ++ [48 + z.natAbs % 10])) = mkT (.ss (digs z)) := fun h => by rw [digs_big hz (by rwa [hq] at h)]
  have en : IntKind.i64.wrap (z.tdiv 10) = 0 → z < 0 → mkT (AV.ss ([45] ++ [48 + z.natAbs % 10])) = mkT (.ss (digs z)) := fun h k => by rw [digs_small hz (by rwa [hq] at h), if_pos k]; rfl
  have ep : IntKind.i64.wrap (z.tdiv 10) = 0 → ¬ z < 0 → mkT (AV.ss [48 + z.natAbs % 10]) = mkT (.ss (digs z)) := fun h k => by rw [digs_small hz (by rwa [hq] at h), if_neg k]
  have hrec : mk (AV.si .i64 (IntKind.i64.wrap (z.tdiv 10))) = .si .i64 (z.tdiv 10) := by rw [hq]; rfl
  conv => whnf
  refine Fork.dec (fun hd => ?_) (fun hd => ?_)
  · have hb := b1 hd
    conv => whnf
    refine optP_of (congrArg (Option.map fun s => (AV.str s, _, _)) hb) ?_
    conv => whnf
    refine Fork.ndec (fun h => ?_) (fun h => ?_)
    · have e := eb h
      conv => whnf
      refine ⟨z.tdiv 10, hrec, hq2, hq3, ?_⟩
      conv => whnf
      refine ⟨hlen, ?_⟩
      conv => whnf
      exact e
    · conv => whnf
      refine Fork.dec (fun k => ?_) (fun k => ?_)
      · have e := en h k
        conv => whnf
        exact e
      · have e := ep h k
        conv => whnf
        exact e
  · have hb := b2 hd
    conv => whnf
    refine optP_of (congrArg (Option.map fun s => (AV.str s, _, _)) hb) ?_
    conv => whnf
    refine Fork.ndec (fun h => ?_) (fun h => ?_)
    · have e := eb h
      conv => whnf
      refine ⟨z.tdiv 10, hrec, hq2, hq3, ?_⟩
      conv => whnf
      refine ⟨hlen, ?_⟩
      conv => whnf
      exact e
    · conv => whnf
      refine Fork.dec (fun k => ?_) (fun k => ?_)
      · have e := en h k
        conv => whnf
        exact e
      · have e := ep h k
        conv => whnf
        exact e
set_option maxRecDepth 100000 in
theorem rdg0 : callT evP 3 12 [.si .i64 0] .nil 0 fun u _ _ => mkT u = mkT (.ss (digs 0)) := by
  conv => whnf
  refine Fork.dec (fun q => absurd q (by decide)) (fun _ => ?_)
  conv => whnf
  refine Fork.ndec (fun q => absurd rfl q) (fun _ => ?_)
  conv => whnf
  refine Fork.dec (fun q => absurd q (by decide)) (fun _ => ?_)
  conv => whnf
  rfl
theorem n_rdigN : ∀ N, NatP 12 (natRD N)
  | 0 => fun args H n κ hs φ h0' hp vs K hr hargs hk => by
    unfold natRD at hs
    split at hs
    · obtain ⟨x, rfl, e1⟩ := vs1 hargs
      obtain ⟨z, hx, h1, h2, hs⟩ := hs
      have hz : z = 0 := by simp at h2; omega
      subst hz
      exact smallN evP_ok (v := .ss (digs 0)) rfl rdg0 hs hr hk (by kernel_rfl) HR.ro0 (.cons (flat1_VR rfl (hx ▸ e1.mk)) .nil)
    · exact hs.elim
  | N + 1 => fun args H n κ hs φ h0' hp vs K hr hargs hk => by
    unfold natRD at hs
    split at hs
    · obtain ⟨x, rfl, e1⟩ := vs1 hargs
      obtain ⟨z, hx, h1, h2, hs⟩ := hs
      exact smallNR (recT_ok (KRD_ok (n_rdigN N)) 3 (by kernel_rfl) (by kernel_rfl)) (v := .ss (digs z)) rfl (rdg_run N z h1 h2) hs hr hk (by kernel_rfl) HR.ro0 (.cons (flat1_VR rfl (hx ▸ e1.mk)) .nil)
    · exact hs.elim
def natRDg (args : List AV) (H : AH) (n : Nat) (κ : PK) : Prop := match args with
  | [x] => ∃ z : Int, mk x = .si .i64 z ∧ In64 z ∧ κ (.ss (digs z)) H n
  | _ => False
theorem n_rdigits : NatP 12 natRDg := fun args H n κ hs => n_rdigN 20 args H n κ (by
  unfold natRDg at hs
  unfold natRD
  split at hs
  · obtain ⟨z, h1, h2, h3⟩ := hs
    exact ⟨z, h1, h2, abs_lt h2, h3⟩
  · exact hs.elim)
/-! ### a text's number, by the document -/
noncomputable def rnm (s : List Nat) (m : Int) (i : Nat) : AE × AH := (mkE [(0, .ss (s)), (4, .si .i64 (m)), (5, .si .i64 (((i : Nat) : Int)))], mkH [])
theorem rnm_cov {s : List Nat} {m : Int} {i : Nat} {p n : Nat} {σ : AE} {H : AH} (hp : p ≤ 0) (e0 : mk (getq (pa 0) σ) = .ss (s)) (e4 : mk (getq (pa 4) σ) = .si .i64 (m)) (e5 : mk (getq (pa 5) σ) = .si .i64 (((i : Nat) : Int))) : Cov p σ H n ((rnm s m i).1, (rnm s m i).2, 0) := by
  refine Cov.ofR (fun b => b) (by omega) (fun b hb => rfl) ?_ ?_ ?_
  · intro x hx
    simp only [List.mem_cons, List.not_mem_nil, or_false] at hx
    rcases hx with rfl | rfl | rfl
    · exact .str e0
    · exact .int e4
    · exact .int e5
  · intro x hx
    cases hx
  · intro x hx y hy
    cases hx
noncomputable def KRn : FuncId → EP := withN 12 natRDg evP
theorem KRn_ok : TabP KRn := withN_ok evP_ok n_rdigits
theorem nth_ss {s : List Nat} {i : Nat} (h : i < s.length) : nth s i = some s[i] := by rw [nth_eq, List.getElem?_eq_getElem h]
set_option maxHeartbeats 8000000 in
set_option maxRecDepth 100000 in
theorem rnm_run (s : List Nat) (hs : ∀ c ∈ s, c < 256) (hl : s.length ≤ 1000000) : callT KRn 3 10 [.ss s] .nil 0 fun u _ _ => mkT u = mkT (.tup [.si .i64 (numF s).1, .si .i64 (numF s).2]) := by
  have key : ∀ {x y : Int}, rnumF s = (x, y) → mkT (.tup [.si .i64 x, .si .i64 y]) = mkT (.tup [.si .i64 (numF s).1, .si .i64 (numF s).2]) := fun e => by rw [← rnum_eq hs, e]
  conv => whnf
  refine LoopP.mk { x : Nat × Int // x.1 ≤ s.length ∧ In64 x.2 ∧ rgo (decide (s[0]? = some 45)) (s.drop x.1) x.2 = rgo (decide (s[0]? = some 45)) s 0 } 0 (fun x => rnm s x.val.2 x.val.1) (fun x => s.length - x.val.1) ⟨(0, 0), Nat.zero_le _, (show In64 0 by unfold In64; omega), rfl⟩ ?_ ?_
  · exact rnm_cov (Nat.le_refl 0) rfl rfl rfl
  · intro ⟨(i, m), hi, hm, hp⟩
    dsimp only at hi hm hp
    conv => whnf
    refine Fork.dec (fun h => ?_) (fun h => ?_)
    · have hi2 : i < s.length := by exact Int.ofNat_lt.1 h
      have h00 : 0 < s.length := by omega
      have hc := hs _ (List.getElem_mem hi2)
      have hi1 : IntKind.i64.wrap ((i : Int) + 1) = ((i + 1 : Nat) : Int) := W64_of ⟨by omega, by omega⟩
      have hlt : s.length - (i + 1) < s.length - i := by omega
      have hs0 : s[0]? = some s[0] := List.getElem?_eq_getElem h00
      rw [drop_cons hi2, rgo] at hp
      have hskip : ¬ (48 ≤ s[i] ∧ s[i] ≤ 57) → rgo (decide (s[0]? = some 45)) (s.drop (i + 1)) m = rgo (decide (s[0]? = some 45)) s 0 := fun q => by rw [← hp, if_neg q]
      conv => whnf
      refine Idx.mk i rfl hi2 ?_
      conv => whnf
      refine Ask.mk s[i] (nth_ss hi2) ?_
      conv => whnf
      refine Fork.dec (fun h1 => ?_) (fun h1 => ?_)
      · have h1 : 48 ≤ s[i] := by exact Int.ofNat_le.1 h1
        conv => whnf
        refine Idx.mk i rfl hi2 ?_
        conv => whnf
        refine Ask.mk s[i] (nth_ss hi2) ?_
        conv => whnf
        refine Fork.dec (fun h2 => ?_) (fun h2 => ?_)
        · have h2 : s[i] ≤ 57 := by exact Int.ofNat_le.1 h2
          have hx := sub48 h1 h2
          rw [if_pos ⟨h1, h2⟩] at hp
          conv => whnf
          refine Idx.mk 0 rfl h00 ?_
          conv => whnf
          refine Ask.mk s[0] (nth_ss h00) ?_
          conv => whnf
          refine Fork.dec (fun h45 => ?_) (fun h45 => ?_)
          · have h45 : s[0] = 45 := by exact Int.ofNat_inj.1 h45
            have hg : decide (s[0]? = some 45) = true := by rw [hs0, h45]; rfl
            have hp2 : rgo (decide (s[0]? = some 45)) (s.drop (i + 1)) (W64 (W64 (10 * m) - ((s[i] : Int) - 48))) = rgo (decide (s[0]? = some 45)) s 0 := by rw [← hp, hg]; rfl
            have hv : AV.si .i64 (IntKind.i64.wrap (IntKind.i64.wrap (10 * m) - IntKind.i64.wrap (IntKind.u8.wrap (Int.ofNat s[i] - 48)))) = .si .i64 (W64 (W64 (10 * m) - ((s[i] : Int) - 48))) := by rw [hx]
            conv => whnf
            refine Idx.mk i rfl hi2 ?_
            conv => whnf
            refine Ask.mk s[i] (nth_ss hi2) ?_
            conv => whnf
            exact ⟨⟨(i + 1, W64 (W64 (10 * m) - ((s[i] : Int) - 48))), hi2, W64_in _, hp2⟩, hlt, rnm_cov (Nat.le_refl 0) rfl hv (congrArg (AV.si .i64) hi1)⟩
          · have h45 : ¬ s[0] = 45 := fun q => h45 (by exact Int.ofNat_inj.2 q)
            have hg : decide (s[0]? = some 45) = false := by rw [hs0]; simp [h45]
            have hp2 : rgo (decide (s[0]? = some 45)) (s.drop (i + 1)) (W64 (W64 (10 * m) + ((s[i] : Int) - 48))) = rgo (decide (s[0]? = some 45)) s 0 := by rw [← hp, hg]; rfl
            have hv : AV.si .i64 (IntKind.i64.wrap (IntKind.i64.wrap (10 * m) + IntKind.i64.wrap (IntKind.u8.wrap (Int.ofNat s[i] - 48)))) = .si .i64 (W64 (W64 (10 * m) + ((s[i] : Int) - 48))) := by rw [hx]
            conv => whnf
            refine Idx.mk i rfl hi2 ?_
            conv => whnf
            refine Ask.mk s[i] (nth_ss hi2) ?_
            conv => whnf
            exact ⟨⟨(i + 1, W64 (W64 (10 * m) + ((s[i] : Int) - 48))), hi2, W64_in _, hp2⟩, hlt, rnm_cov (Nat.le_refl 0) rfl hv (congrArg (AV.si .i64) hi1)⟩
        · have h2 : ¬ s[i] ≤ 57 := fun q => h2 (by exact Int.ofNat_le.2 q)
          conv => whnf
          exact ⟨⟨(i + 1, m), hi2, hm, hskip fun q => h2 q.2⟩, hlt, rnm_cov (Nat.le_refl 0) rfl rfl (congrArg (AV.si .i64) hi1)⟩
      · have h1 : ¬ 48 ≤ s[i] := fun q => h1 (by exact Int.ofNat_le.2 q)
        conv => whnf
        exact ⟨⟨(i + 1, m), hi2, hm, hskip fun q => h1 q.1⟩, hlt, rnm_cov (Nat.le_refl 0) rfl rfl (congrArg (AV.si .i64) hi1)⟩
    · have hi3 : i = s.length := by have : ¬ i < s.length := fun q => h (Int.ofNat_lt.2 q); omega
      have hp2 : m = rgo (decide (s[0]? = some 45)) s 0 := by rw [← hp, hi3, List.drop_length]; rfl
      conv => whnf
      refine ⟨m, rfl, hm, ?_⟩
      conv => whnf
      refine Fork.nsb (fun he => ?_) (fun he => ?_)
      · have e := key (x := 0) (y := 16) (by unfold rnumF; rw [← hp2, if_neg (fun q => by rw [beqL_is.2 q] at he; cases he)])
        conv => whnf
        exact e
      · have e := key (x := m) (y := 0) (by unfold rnumF; rw [← hp2, if_pos (beqL_is.1 he)])
        conv => whnf
        exact e
theorem n_rnumber : NatP 10 natNm := fun args H n κ hs φ h0' hp vs K hr hargs hk => by
  unfold natNm at hs
  split at hs
  · obtain ⟨x, rfl, e1⟩ := vs1 hargs
    obtain ⟨s, hx, h1, h2, hs⟩ := hs
    exact smallN KRn_ok (v := .tup [.si .i64 (numF s).1, .si .i64 (numF s).2]) rfl (rnm_run s h1 h2) hs hr hk (by kernel_rfl) HR.ro0 (.cons (flat1_VR rfl (hx ▸ e1.mk)) .nil)
  · exact hs.elim
/-! ### the law -/
noncomputable def KCn : FuncId → EP := withN 8 (natQ trueN) (withN 9 natNm (withN 10 natNm (withN 11 natDg (withN 12 natRDg evP))))
theorem KCn_ok (hK : NatP 8 (natQ trueN)) : TabP KCn := withN_ok (withN_ok (withN_ok (withN_ok (withN_ok evP_ok n_rdigits) n_digits) n_rnumber) n_number) hK
set_option maxHeartbeats 8000000 in
set_option maxRecDepth 100000 in
theorem w_commandNumbers (s : List Nat) (z : Int) (hs : ∀ c ∈ s, c < 256) (hz : In64 z) : callT KCn 4 3 [.ss s, .si .i64 z] .nil 0 fun v _ _ => v = .bool true ∨ v = .sb true := by
  have hd := num_digs hz
  have hdl : (digs z).length ≤ 1000000 := by have := digs_len z; omega
  conv => whnf
  refine Fork.dec (fun h => ?_) (fun h => ?_)
  · conv => whnf
    exact .inl rfl
  · have hl : s.length ≤ 1000000 := by have : ¬ (100 : Int) < (s.length : Int) := h; omega
    have e1 : (numF (digs z)).1 = z := by rw [hd]
    have e2 : (numF (digs z)).2 = 0 := by rw [hd]
    conv => whnf
    refine ⟨s, rfl, hs, hl, ?_⟩
    conv => whnf
    refine ⟨s, rfl, hs, hl, ?_⟩
    conv => whnf
    refine ⟨z, rfl, hz, ?_⟩
    conv => whnf
    refine ⟨digs z, rfl, digs_lt z, hdl, ?_⟩
    conv => whnf
    refine Fork.dec (fun _ => ?_) (fun q => absurd rfl q)
    conv => whnf
    refine Fork.dec (fun _ => ?_) (fun q => absurd rfl q)
    conv => whnf
    refine ⟨z, rfl, hz, ?_⟩
    conv => whnf
    refine ⟨z, rfl, hz, ?_⟩
    conv => whnf
    refine Fork.sb (fun _ => ?_) (fun q => absurd (beqL_is.2 rfl) (by rw [q]; decide))
    conv => whnf
    refine Fork.dec (fun _ => ?_) (fun q => absurd e1 q)
    conv => whnf
    refine Fork.dec (fun _ => ?_) (fun q => absurd e2 q)
    conv => whnf
    exact .inl rfl
end Go.Proofs.Ytdfeigkooeeeaaa
namespace Go.Proofs.Ytdfeigkooeeeaaa
open Go Go.RowKit
theorem bytes_lt (a : ByteArray) : ∀ c ∈ a.data.toList.map UInt8.toNat, c < 256 := fun c h => by
  obtain ⟨x, _, rfl⟩ := List.mem_map.1 h
  exact x.toNat_lt
end Go.Proofs.Ytdfeigkooeeeaaa
