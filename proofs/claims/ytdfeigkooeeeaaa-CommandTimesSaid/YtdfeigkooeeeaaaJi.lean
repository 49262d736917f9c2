/- Texts of our own, joined: the engine, the machine that runs code, and what is known of the functions. -/
import Derived.Test.YtdfeigkooeeeaaaJh
import Derived.Test.YtdfeigkooeeeaaaJe
import Derived.Test.YtdfeigkooeeeaaaJg
set_option linter.unusedSimpArgs false
set_option linter.unusedVariables false
namespace Go.Proofs.Ytdfeigkooeeeaaa
open Go Go.RowKit
def Recast (H : AH) (n : Nat) (H' : AH) (n' : Nat) : Prop := ∀ (φ : Ph) (h0 h : Hp), HR φ H n h0 h → HR φ H' n' h0 h
def VTo (u v : AV) : Prop := ∀ (φ : Ph) (w : Value), VR φ u w → VR φ v w
theorem Recast.refl (H : AH) (n : Nat) : Recast H n H n := fun _ _ _ h => h
theorem Recast.trans {H1 H2 H3 : AH} {n1 n2 n3 : Nat} (h : Recast H1 n1 H2 n2) (k : Recast H2 n2 H3 n3) : Recast H1 n1 H3 n3 := fun φ h0 hp q => k φ h0 hp (h φ h0 hp q)
theorem Recast.remk {H : AH} {n b : Nat} {l l' : List AV} {z : Bool} (hb : H.get b = some (.cells l z)) (hf : l'.all flat.flat1 = true) (e : l.map Go.Proofs.Ytdfeigkooeeeaaa.mk = l'.map Go.Proofs.Ytdfeigkooeeeaaa.mk) : Recast H n (H.set (some (.cells l' z)) depthH b) n := fun _ _ _ hr => hr.remk hb hf e
theorem Recast.kill (H : AH) (n b : Nat) : Recast H n (H.set none depthH b) n := fun _ _ _ hr => hr.kill depthH b
theorem VTo.refl (u : AV) : VTo u u := fun _ _ h => h
theorem VTo.flat {u v : AV} (hv : Go.Proofs.Ytdfeigkooeeeaaa.flat v = true) (e : mkT u = mkT v) : VTo u (mkT v) := fun φ w h => flat_VR (φ := φ) (flat_mkT hv) (e ▸ h.mkT)
def post (g : List AV → AH → Nat → PK → Prop) (args : List AV) (H : AH) (n : Nat) (κ : PK) : Prop := g args H n fun u H' n' => ∃ v H2 n2, VTo u v ∧ Recast H' n' H2 n2 ∧ κ v H2 n2
theorem NatP.post {f : FuncId} {g : List AV → AH → Nat → PK → Prop} (hg : NatP f g) : NatP f (post g) := fun args H n κ hs φ h0 h vs K hr ha hk => hg args H n _ hs φ h0 h vs K hr ha fun ψ u H' n' w g' hle hg' hu ⟨v, H2, n2, h1, h2, h3⟩ => hk ψ v H2 n2 w g' hle (h2 _ _ _ hg') (h1 _ _ hu) h3
/-! ### bytes -/
theorem bytA_at {s : List Nat} {i : Nat} (h : i < s.length) : (bytA s)[i]? = some (.si .u8 (Int.ofNat s[i])) := by
  unfold bytA
  rw [List.getElem?_map, List.getElem?_eq_getElem h]; rfl
theorem setL_one : ∀ (l : List AV) (o : Nat) (x : AV), o < l.length → setL l o [x] = some (l.set o x)
  | [], o, x, h => by simp at h
  | y :: l, 0, x, _ => by cases l <;> simp [setL]
  | y :: l, o + 1, x, h => by simp [setL, setL_one l o x (by simpa using h)]
theorem bytA_set (s : List Nat) (o : Nat) (c : Nat) : (bytA s).set o (.si .u8 (Int.ofNat c)) = bytA (s.set o c) := by simp [bytA, List.map_set]
theorem bytA_app (s t : List Nat) : bytA (s ++ t) = bytA s ++ bytA t := by simp [bytA]
theorem ebytes_bytA {s : List Nat} (h : ∀ x ∈ s, x < 256) : ebytes (bytA s) = some s := ebytes_map h
/-- Bytes' cells, told in any way. -/
theorem ebytes_mk : ∀ {l : List AV} {s : List Nat}, l.map mk = bytA s → (∀ x ∈ s, x < 256) → bytA s = l → ebytes l = some s := fun e h q => q ▸ ebytes_bytA h
/-- How far a bit is moved. -/
def shN (N : Nat) : Nat := 7 - N % 8
theorem sh_eq (N : Nat) : IntKind.i64.wrap (7 - ((N : Nat) : Int).tmod 8) = ((shN N : Nat) : Int) := by
  have h : ((N : Nat) : Int).tmod 8 = ((N % 8 : Nat) : Int) := by
    rw [Int.tmod_eq_emod_of_nonneg (Int.natCast_nonneg _)]; rfl
  rw [h]
  have := Nat.mod_lt N (show 8 > 0 by decide)
  unfold shN
  rw [IntKind.wrap_i64]; omega
theorem sh_pow (N : Nat) : min (IntKind.i64.wrap (7 - ((N : Nat) : Int).tmod 8)).toNat 8 = shN N := by
  rw [sh_eq]; unfold shN; simp; omega
theorem div_eq (N : Nat) (h : N ≤ 9223372036854775807) : IntKind.i64.wrap (((N : Nat) : Int).tdiv 8) = ((N / 8 : Nat) : Int) := by
  have e : ((N : Nat) : Int).tdiv 8 = ((N / 8 : Nat) : Int) := by
    rw [Int.tdiv_eq_ediv_of_nonneg (Int.natCast_nonneg _)]; rfl
  rw [e, IntKind.wrap_i64]; omega
theorem tmod0 (N : Nat) : (((N : Nat) : Int).tmod 8 = 0) ↔ N % 8 = 0 := by
  have h : ((N : Nat) : Int).tmod 8 = ((N % 8 : Nat) : Int) := by
    rw [Int.tmod_eq_emod_of_nonneg (Int.natCast_nonneg _)]; rfl
  rw [h]; omega
theorem fdiv_pow (U m : Nat) : ((U : Nat) : Int).fdiv ((2 : Int) ^ m) = ((U / 2 ^ m : Nat) : Int) := by
  have : ((2 : Int) ^ m) = ((2 ^ m : Nat) : Int) := by rw [Int.natCast_pow]; rfl
  rw [this, fdiv_nat]
/-- A bit of the number. -/
theorem bit_eq {U m : Nat} {i : Int} (hi : i = (m : Int)) (hm : m < 64) : bitsV .and .u8 (IntKind.u8.wrap (((U : Nat) : Int).fdiv ((2 : Int) ^ min i.toNat 64))) 1 = ((U / 2 ^ m % 2 : Nat) : Int) := by
  subst hi
  rw [show min (Int.toNat (m : Int)) 64 = m from by simp; omega, fdiv_pow, wr_and]
theorem wrU (x : Int) (b : Nat) (hb : b < 2) (hx : x = (b : Int)) (N : Nat) : IntKind.u8.wrap (x * (2 : Int) ^ min (IntKind.i64.wrap (7 - ((N : Nat) : Int).tmod 8)).toNat 8) = ((b * 2 ^ shN N : Nat) : Int) := by
  subst hx
  rw [sh_pow]
  exact wr_shl hb (by unfold shN; omega)
/-- A bit more, in a new byte. -/
theorem one_new {B : List Nat} {x : Int} {b : Nat} (hb : b < 2) (hx : x = (b : Int)) (h8 : B.length % 8 = 0) {o : Nat} (ho : o = B.length / 8) :
    setL (bytA (pack B) ++ [.int .u8 0]) o [.si .u8 (bitsV .or .u8 0 (IntKind.u8.wrap (x * (2 : Int) ^ min (IntKind.i64.wrap (7 - ((B.length : Nat) : Int).tmod 8)).toNat 8)))] = some (bytA (pack (B ++ [b]))) := by
  have hl : (bytA (pack B)).length = B.length / 8 := by rw [bytA_length, pack_length]; omega
  have hs : shN B.length = 7 := by unfold shN; omega
  rw [setL_one _ _ _ (by simp [hl, ho]), wrU x b hb hx, hs, pack_new h8, bytA_app]
  have e : bitsV .or .u8 0 ((b * 2 ^ 7 : Nat) : Int) = Int.ofNat (b * 2 ^ 7) := by
    have := wr_or (a := 0) (b := b) (r := 7) (by decide) (by decide) hb (by decide)
    rw [Nat.zero_add] at this
    exact this
  rw [e, List.set_append_right _ _ (by omega), hl, ho, Nat.sub_self]
  rfl
theorem new_at {B : List Nat} (h8 : B.length % 8 = 0) {o : Nat} (ho : o = B.length / 8) : nth (bytA (pack B) ++ [.int .u8 0]) o = some (.int .u8 0) := by
  have hl : (bytA (pack B)).length = B.length / 8 := by rw [bytA_length, pack_length]; omega
  rw [nth_eq, List.getElem?_append_right (by omega), hl, ho, Nat.sub_self]; rfl
/-- .. in the last byte. -/
theorem old_at {B : List Nat} (h8 : B.length % 8 ≠ 0) {o : Nat} (ho : o = B.length / 8) : nth (bytA (pack B)) o = some (.si .u8 (Int.ofNat (byteN (B.drop (8 * (B.length / 8)))))) := by
  have hp := pack_at B (B.length / 8) (by omega)
  have hl : B.length / 8 < (pack B).length := by rw [pack_length]; omega
  rw [nth_eq, ho, bytA_at hl]
  rw [List.getElem?_eq_getElem hl] at hp
  injection hp with hp
  rw [hp, List.take_of_length_le (by rw [List.length_drop]; omega)]
theorem one_old {B : List Nat} {x : Int} {b : Nat} (hB : Bits B) (hb : b < 2) (hx : x = (b : Int)) (h8 : B.length % 8 ≠ 0) {o : Nat} (ho : o = B.length / 8) :
    setL (bytA (pack B)) o [.si .u8 (bitsV .or .u8 (Int.ofNat (byteN (B.drop (8 * (B.length / 8))))) (IntKind.u8.wrap (x * (2 : Int) ^ min (IntKind.i64.wrap (7 - ((B.length : Nat) : Int).tmod 8)).toNat 8)))] = some (bytA (pack (B ++ [b]))) := by
  have hl : B.length / 8 < (bytA (pack B)).length := by rw [bytA_length, pack_length]; omega
  have hd : (B.drop (8 * (B.length / 8))).length = B.length % 8 := by rw [List.length_drop]; omega
  have hd8 : (B.drop (8 * (B.length / 8))).length < 8 := by rw [hd]; exact Nat.mod_lt _ (by decide)
  have hc := byteN_lt (C := B.drop (8 * (B.length / 8))) (fun c hc => hB c (List.mem_of_mem_drop hc)) (by omega)
  have hr := byteN_room hd8
  have hs : shN B.length = 7 - (B.drop (8 * (B.length / 8))).length := by rw [hd]; rfl
  rw [setL_one _ _ _ (by omega), wrU x b hb hx, pack_or h8, hs, ← bytA_set, ho]
  have e := wr_or (a := byteN (B.drop (8 * (B.length / 8)))) (b := b) (r := 7 - (B.drop (8 * (B.length / 8))).length) hc hr hb (by omega)
  rw [show (Int.ofNat (byteN (B.drop (8 * (B.length / 8))))) = ((byteN (B.drop (8 * (B.length / 8))) : Nat) : Int) from rfl, e, hd]
  rfl
/-! ### a bit read -/
theorem rd_bit {s : List Nat} (hs : ∀ x ∈ s, x < 256) {a c : Nat} (hc : nth s (a / 8) = some c) : bitsV .and .u8 ((Int.ofNat c).fdiv ((2 : Int) ^ min (IntKind.i64.wrap (7 - ((a : Nat) : Int).tmod 8)).toNat 8)) 1 = ((rdBit s a : Nat) : Int) := by
  rw [nth_eq] at hc
  have hc2 : c < 256 := hs c (List.mem_of_getElem? hc)
  rw [sh_pow, show (Int.ofNat c) = ((c : Nat) : Int) from rfl, fdiv_pow, rd_and hc2]
  unfold rdBit shN
  rw [hc]; rfl
theorem rd_step {s : List Nat} (hs : ∀ x ∈ s, x < 256) {a c u : Nat} (hc : nth s (a / 8) = some c) (hu : u < 9223372036854775808) :
    bitsV .or .u64 (IntKind.u64.wrap (((u : Nat) : Int) * 2)) (IntKind.u64.wrap (bitsV .and .u8 ((Int.ofNat c).fdiv ((2 : Int) ^ min (IntKind.i64.wrap (7 - ((a : Nat) : Int).tmod 8)).toNat 8)) 1)) = ((2 * u + rdBit s a : Nat) : Int) := by
  rw [rd_bit hs hc]
  exact rd_or hu (Nat.mod_lt _ (by decide))
theorem rdBits_app (s : List Nat) (a i j : Nat) : rdBits s a (i + j) = rdBits s a i ++ rdBits s (a + i) j := by
  unfold rdBits
  rw [List.range_add, List.map_append, List.map_map]
  congr 1
  exact List.map_congr_left fun k _ => by simp [Nat.add_assoc]
theorem rdBits_lt (s : List Nat) (a : Nat) {j : Nat} (h : j ≤ 63) : numB 0 (rdBits s a j) < 9223372036854775808 := by
  have := numB_lt _ (rdBits_bits s a j)
  rw [rdBits_length] at this
  have h2 : 2 ^ j ≤ 2 ^ 63 := Nat.pow_le_pow_right (by decide) h
  omega
/-! ### a sample told again -/
theorem w64_eq (x : Int) : W64 x = (x + 9223372036854775808) % 18446744073709551616 - 9223372036854775808 := by
  show IntKind.i64.wrap x = _
  rw [IntKind.wrap_i64]
theorem W64_add_sub (a d : Int) : W64 (a + W64 (W64 d - a)) = W64 d := by
  simp only [w64_eq]; omega
theorem W64_back {a b : Int} (h : In64 b) : W64 (a + W64 (b - a)) = b := by
  have := h.1; have := h.2
  simp only [w64_eq]; omega
theorem dec_step (X : Smp) {i : Nat} (h : i ≠ 0) : W64 (stepAt X i + zagI (dT X i)) = stepAt X (i + 1) := by
  unfold dT
  rw [zag_zig, W64_add_sub]
  unfold stepAt
  rw [if_neg (by omega)]
  congr 2
theorem dec_T {X : Smp} {i : Nat} (h : i ≠ 0) (hx : In64 (tAt X i)) : W64 (tAt X (i - 1) + stepAt X (i + 1)) = tAt X i := by
  unfold stepAt
  rw [if_neg (by omega), show i + 1 - 1 = i from rfl, show i + 1 - 2 = i - 1 from by omega]
  exact W64_back hx
theorem dec_V {X : Smp} {i : Nat} (hx : In64 (vAt X i)) : W64 (vAt X (i - 1) + zagI (dV X i)) = vAt X i := by
  unfold dV
  rw [zag_zig]
  exact W64_back hx
theorem dT_lt (X : Smp) (i : Nat) : dT X i < 18446744073709551616 := zig_lt (W64_in _)
theorem dV_lt (X : Smp) (i : Nat) : dV X i < 18446744073709551616 := zig_lt (W64_in _)
theorem tAt_in {X : Smp} (h : ∀ x ∈ X, In64 x.1 ∧ In64 x.2) (i : Nat) : In64 (tAt X i) ∧ In64 (vAt X i) := by
  unfold tAt vAt
  cases e : X[i]? with
  | none => exact ⟨⟨by decide, by decide⟩, ⟨by decide, by decide⟩⟩
  | some x => exact h x (List.mem_of_getElem? e)
end Go.Proofs.Ytdfeigkooeeeaaa
namespace Go.Proofs.Ytdfeigkooeeeaaa
open Go Go.RowKit
set_option maxRecDepth 20000
def upC (c : Nat) : Nat := if 97 ≤ c ∧ c ≤ 122 then c - 32 else c
def upF (s : List Nat) : List Nat := s.map upC
/-- The command whose name a word is. -/
noncomputable def whF : List (Nat × List Nat) → List Nat → Nat
  | [], _ => 0
  | e :: N, u => match beqL e.2 u with
    | true => e.1
    | false => whF N u
def entC (N : List (Nat × List Nat)) : List (AV × AV) := N.map fun e => (.int .i64 (e.1 : Int), .str e.2)
noncomputable def decC : List (AV × AV) → Option (List (Nat × List Nat))
  | [] => some []
  | (.int .i64 (.ofNat k), .str s) :: es => (match decC es with
    | some N => some ((k, s) :: N)
    | none => none)
  | _ => none
noncomputable def apartC : List (Nat × List Nat) → Bool
  | [] => true
  | e :: N => N.all (fun f => !beqL e.2 f.2) && apartC N
noncomputable def whQ (args : List AV) (H : AH) (n : Nat) (κ : KA) : AR := match args with
  | [.str w, .map b] => (match H.get b with
    | some (.map es) => (match decC es with
      | some N => (match apartC N && (w.all (fun c => Nat.blt c 256) && Nat.blt w.length 1000) with
        | true => κ (.int .i64 (Int.ofNat (whF N (upF w)))) H n
        | false => none)
      | none => none)
    | _ => none)
  | _ => none
noncomputable def withQ (k : FuncId) (g : List AV → AH → Nat → KA → AR) (F : FuncId → EQ) (f : FuncId) : EQ := Bool.rec (F f) (.nat g) (Nat.beq f k)
noncomputable def evC : FuncId → EQ := withQ 23 whQ evQ
end Go.Proofs.Ytdfeigkooeeeaaa
namespace Go.Proofs.Ytdfeigkooeeeaaa
open Go Go.RowKit
set_option maxRecDepth 20000
theorem beqL_is : ∀ {a b : List Nat}, beqL a b = true ↔ a = b
  | [], [] => by simp [beqL]
  | [], _ :: _ => by simp [beqL]
  | _ :: _, [] => by simp [beqL]
  | a :: x, b :: y => by
    unfold beqL
    cases h : Nat.beq a b with
    | true =>
      have := Nat.eq_of_beq_eq_true h
      subst this
      simp [beqL_is (a := x) (b := y)]
    | false =>
      have : a ≠ b := fun e => by subst e; rw [Nat.beq_refl] at h; cases h
      simp [this]
theorem handsA {H : AH} {n b : Nat} {o : AO} (hb : b < n) (h : H.get b = some (renO (nmOf [b] n) o)) (hv : o.void = false ∨ o.own = true) : Hands H n [b] [o] := ⟨by simp, rfl, fun i s q h1 h2 => by
  match i, h1, h2 with
  | 0, h1, h2 => injection h1 with h1; injection h2 with h2; subst h1 h2; exact ⟨hb, h, hv⟩⟩
/-! ### letters made great -/
def upTp (s : List Nat) (i : Nat) : List Nat := (s.take i).map upC ++ s.drop i
theorem upTp_length (s : List Nat) (i : Nat) : (upTp s i).length = s.length := by simp [upTp]; omega
theorem upTp_at {s : List Nat} {i : Nat} (h : i < s.length) : (upTp s i)[i]? = some s[i] := by
  unfold upTp
  rw [List.getElem?_append_right (by simp; omega), List.getElem?_drop]
  simp [Nat.min_eq_left (Nat.le_of_lt h), h]
theorem upTp_succ {s : List Nat} {i : Nat} (h : i < s.length) : upTp s (i + 1) = (upTp s i).set i (upC s[i]) := by
  unfold upTp
  rw [List.take_succ_eq_append_getElem h, List.map_append, List.set_append, if_neg (by simp; omega)]
  have hd := List.drop_eq_getElem_cons h
  have hz : i - (List.map upC (List.take i s)).length = 0 := by simp; omega
  rw [hz, hd, List.append_assoc]; rfl
theorem upTp_same {s : List Nat} {i : Nat} (h : i < s.length) (e : upC s[i] = s[i]) : upTp s (i + 1) = upTp s i := by
  rw [upTp_succ h, e]
  apply List.ext_getElem?
  intro j
  by_cases hj : j = i
  · subst hj; rw [upTp_at h]; simp [upTp_length, h]
  · rw [List.getElem?_set_ne (Ne.symm hj)]
theorem upTp_all (s : List Nat) : upTp s s.length = upF s := by simp [upTp, upF]
theorem upF_lt {s : List Nat} (h : ∀ c ∈ s, c < 256) : ∀ c ∈ upF s, c < 256 := fun c hc => by
  obtain ⟨a, ha, rfl⟩ := List.mem_map.1 hc
  have := h a ha
  unfold upC
  split <;> omega
noncomputable def upb (s : List Nat) (i : Nat) : AE × AH := (mkE [(3, .sy 0 0 s.length s.length 1), (8, .sy 0 0 s.length s.length 1), (9, .si .i64 (((s.length : Nat) : Int))), (10, .si .i64 (((i : Nat) : Int)))], mkH [(0, .cells (bytA (upTp s i)) false)])
theorem upb_cov {s : List Nat} {i : Nat} {p n : Nat} {σ : AE} {H : AH} {l0 : List AV} (hp : p ≤ 0) (e3 : mk (getq (pa 3) σ) = .sy 0 0 s.length s.length 1) (e8 : mk (getq (pa 8) σ) = .sy 0 0 s.length s.length 1) (e9 : mk (getq (pa 9) σ) = .si .i64 (((s.length : Nat) : Int))) (e10 : mk (getq (pa 10) σ) = .si .i64 (((i : Nat) : Int))) (h0 : H.get 0 = some (.cells l0 false)) (g0 : l0.map mk = bytA (upTp s i)) : Cov p σ H n ((upb s i).1, (upb s i).2, 1) := by
  refine Cov.ofR (fun b => b) (by omega) (fun b hb => rfl) ?_ ?_ ?_
  · intro x hx
    simp only [List.mem_cons, List.not_mem_nil, or_false] at hx
    rcases hx with rfl | rfl | rfl | rfl
    · exact .sy (by decide) e3
    · exact .sy (by decide) e8
    · exact .int e9
    · exact .int e10
  · intro x hx
    simp only [List.mem_cons, List.not_mem_nil, or_false] at hx
    subst hx
    exact ⟨by simp, .inl ⟨_, h0, SubO.cells_mk (bytA_flat _) (by rw [g0, bytA_map]) (fun q => q)⟩⟩
  · intro x hx y hy
    simp only [List.mem_cons, List.not_mem_nil, or_false] at hx hy
    subst hx hy
    exact fun q => rfl
noncomputable def KUp : FuncId → EP := withD 44 [] evP
theorem KUp_ok : TabP KUp := withD_ok evP_ok (by kernel_rfl) (by kernel_rfl)
set_option maxHeartbeats 4000000 in
set_option maxRecDepth 100000 in
theorem up_run (s : List Nat) (hs : ∀ c ∈ s, c < 256) (hl : s.length ≤ 1000000) : callT KUp 3 44 [.ss s] .nil 0 fun u _ _ => mkT u = mkT (.ss (upF s)) := by
  conv => whnf
  refine Ask.mk (.sl 0 0 s.length s.length 1, _, 1) rfl ?_
  conv => whnf
  refine LoopP.mk { i : Nat // i ≤ s.length } 1 (fun i => upb s i.val) (fun i => s.length - i.val) ⟨0, Nat.zero_le _⟩ ?_ ?_
  · exact upb_cov (Nat.le_refl 0) rfl rfl rfl rfl rfl (by simp [upTp, bytA, mk])
  · intro ⟨i, hi⟩
    have hsub : subL (bytA (upTp s i)) 0 (s.length * 1) = some (bytA (upTp s i)) := subL_all (by rw [bytA_length, upTp_length, Nat.mul_one])
    conv => whnf
    refine Fork.dec (fun h => ?_) (fun h => ?_)
    · have hi2 : i < s.length := by exact Int.ofNat_lt.1 h
      have hc := hs _ (List.getElem_mem hi2)
      have hi1 : IntKind.i64.wrap ((i : Int) + 1) = ((i + 1 : Nat) : Int) := W64_of ⟨by omega, by omega⟩
      have hnth : nth (bytA (upTp s i)) (0 + i * 1) = some (.si .u8 (Int.ofNat s[i])) := by
        rw [nth_eq, Nat.zero_add, Nat.mul_one]
        simp only [bytA, List.getElem?_map, upTp_at hi2]; rfl
      have hset : 97 ≤ s[i] → s[i] ≤ 122 → setL (bytA (upTp s i)) (0 + i * 1) [.si .u8 (IntKind.u8.wrap (Int.ofNat s[i] - 32))] = some (bytA (upTp s (i + 1))) := fun h1 h2 => by
        rw [Nat.zero_add, Nat.mul_one, setL_one _ _ _ (by rw [bytA_length, upTp_length]; exact hi2)]
        have e : IntKind.u8.wrap (Int.ofNat s[i] - 32) = Int.ofNat (upC s[i]) := by
          unfold upC; rw [if_pos ⟨h1, h2⟩]
          simp [IntKind.wrap, IntKind.bits, IntKind.signed]
          omega
        rw [e, bytA_set, ← upTp_succ hi2]
      have hsame : ¬ (97 ≤ s[i] ∧ s[i] ≤ 122) → (bytA (upTp s i)).map mk = bytA (upTp s (i + 1)) := fun q => by
        rw [upTp_same hi2 (by unfold upC; rw [if_neg q]), bytA_map]
      conv => whnf
      refine Idx.mk i rfl hi2 ?_
      conv => whnf
      refine optP_of hnth ?_
      conv => whnf
      refine Fork.dec (fun h1 => ?_) (fun h1 => ?_)
      · have h1 : 97 ≤ s[i] := by exact Int.ofNat_le.1 h1
        conv => whnf
        refine Fork.dec (fun h2 => ?_) (fun h2 => ?_)
        · have h2 : s[i] ≤ 122 := by exact Int.ofNat_le.1 h2
          conv => whnf
          refine Idx.mk i rfl hi2 ?_
          conv => whnf
          refine optP_of (hset h1 h2) ?_
          conv => whnf
          exact ⟨⟨i + 1, hi2⟩, (show s.length - (i + 1) < s.length - i by omega), upb_cov (Nat.le_refl 0) rfl rfl rfl (congrArg (AV.si .i64) hi1) rfl (bytA_map _)⟩
        · have h2 : ¬ s[i] ≤ 122 := fun q => h2 (by exact Int.ofNat_le.2 q)
          conv => whnf
          exact ⟨⟨i + 1, hi2⟩, (show s.length - (i + 1) < s.length - i by omega), upb_cov (Nat.le_refl 0) rfl rfl rfl (congrArg (AV.si .i64) hi1) rfl (hsame fun q => h2 q.2)⟩
      · have h1 : ¬ 97 ≤ s[i] := fun q => h1 (by exact Int.ofNat_le.2 q)
        conv => whnf
        exact ⟨⟨i + 1, hi2⟩, (show s.length - (i + 1) < s.length - i by omega), upb_cov (Nat.le_refl 0) rfl rfl rfl (congrArg (AV.si .i64) hi1) rfl (hsame fun q => h1 q.1)⟩
    · have hi3 : i = s.length := by have : ¬ i < s.length := fun q => h (Int.ofNat_lt.2 q); omega
      have hconv : (subL (bytA (upTp s i)) 0 s.length).bind ebytes = some (upF s) := by
        rw [hi3, upTp_all, subL_all (by rw [bytA_length]; simp [upF])]
        exact ebytes_bytA (upF_lt hs)
      conv => whnf
      refine Ask.mk (.str (upF s), _, _) (congrArg (Option.map fun s => (AV.str s, _, _)) hconv) ?_
      conv => whnf
      rfl
def natUp (args : List AV) (H : AH) (n : Nat) (κ : PK) : Prop := match args with
  | [x] => ∃ s, mk x = .ss s ∧ (∀ c ∈ s, c < 256) ∧ s.length ≤ 1000000 ∧ κ (.ss (upF s)) H n
  | _ => False
theorem n_upper : NatP 44 natUp := fun args H n κ hs φ h0' hp vs K hr hargs hk => by
  unfold natUp at hs
  split at hs
  · obtain ⟨x, rfl, e1⟩ := vs1 hargs
    obtain ⟨s, hx, h1, h2, hs⟩ := hs
    exact smallN KUp_ok (v := .ss (upF s)) rfl (up_run s h1 h2) hs hr hk (by kernel_rfl) HR.ro0 (.cons (flat1_VR rfl (hx ▸ e1.mk)) .nil)
  · exact hs.elim
theorem singUp : SingG natUp := .pure fun args H n κ hs => by
  unfold natUp at *
  split at hs
  · obtain ⟨s, h1, h2, h3, h4⟩ := hs
    exact ⟨_, h4, fun κ' h => ⟨s, h1, h2, h3, h⟩⟩
  · exact hs.elim
/-! ### the command whose name a word is -/
theorem whF_no : ∀ {N : List (Nat × List Nat)} {u : List Nat}, (∀ i (h : i < N.length), beqL N[i].2 u = false) → whF N u = 0
  | [], _, _ => rfl
  | e :: N, u, h => by
    unfold whF
    have h0 := h 0 (by simp)
    simp only [List.getElem_cons_zero] at h0
    rw [h0]
    exact whF_no fun i hi => h (i + 1) (by simp; omega)
theorem whF_of : ∀ {N : List (Nat × List Nat)} {u : List Nat} {i : Nat} (h : i < N.length), apartC N = true → beqL N[i].2 u = true → whF N u = N[i].1
  | [], _, _, h, _, _ => by simp at h
  | e :: N, u, i, h, ha, hb => by
    unfold apartC at ha
    simp only [Bool.and_eq_true] at ha
    unfold whF
    cases i with
    | zero => simp only [List.getElem_cons_zero] at hb ⊢; rw [hb]
    | succ i =>
      simp only [List.getElem_cons_succ] at hb ⊢
      have hi : i < N.length := by simp at h; omega
      have h1 := List.all_eq_true.1 ha.1 _ (List.getElem_mem hi)
      have h2 : beqL e.2 u = false := by
        cases q : beqL e.2 u with
        | false => rfl
        | true => rw [beqL_is.1 q, beqL_is.1 hb, beqL_is.2 rfl] at h1; cases h1
      rw [h2]
      exact whF_of hi ha.2 hb
theorem SubO.mapC {H : AH} {m : Nat} {r : Nat → Nat} {es : List (AV × AV)} (h : ∀ e ∈ es, stab e.1 = true ∧ stab e.2 = true) : SubO H m r (.map es) (.map es) :=
  ⟨rfl, fun φ ψ p ob hr _ ⟨ms, cl, h1, h2, h3⟩ => ⟨ms, cl, h1, by
    have : ∀ (es : List (AV × AV)) (ms : List MapEntry), (∀ e ∈ es, stab e.1 = true ∧ stab e.2 = true) → MR φ es ms → MR ψ es ms := fun es => by
      induction es with
      | nil => intro ms _ k; exact k
      | cons e es ih => intro ms h ⟨m, us, k1, k2, k3, k4⟩; exact ⟨m, us, k1, stab_VR hr.2 (h e List.mem_cons_self).1 k2, stab_VR hr.2 (h e List.mem_cons_self).2 k3, ih us (fun e he => h e (List.mem_cons_of_mem _ he)) k4⟩
    exact this es _ h h2, h3⟩⟩
theorem SubO.iterC {H : AH} {m : Nat} {r : Nat → Nat} {b k : Nat} {seen : List Nat} (hb : b < m) (hr : r b = b) : SubO H m r (.iter b k seen) (.iter b k seen) :=
  ⟨rfl, fun φ ψ p ob hren _ ⟨h0, q, h1, h2⟩ => ⟨h0, q, by rw [hren.1 b hb, hr]; exact h1, h2⟩⟩
theorem entC_stab (N : List (Nat × List Nat)) : ∀ e ∈ entC N, stab e.1 = true ∧ stab e.2 = true := fun e he => by
  simp only [entC, List.mem_map] at he
  obtain ⟨x, _, rfl⟩ := he
  exact ⟨rfl, rfl⟩
theorem entC_length (N : List (Nat × List Nat)) : (entC N).length = N.length := by simp [entC]
theorem entC_at {N : List (Nat × List Nat)} {i : Nat} {e : AV × AV} (h : (entC N)[i]? = some e) : ∃ hl : i < N.length, e = (.int .i64 (N[i].1 : Int), .str N[i].2) := by
  simp only [entC, List.getElem?_map, Option.map_eq_some_iff] at h
  obtain ⟨x, h1, rfl⟩ := h
  obtain ⟨h2, h3⟩ := List.getElem?_eq_some_iff.1 h1
  exact ⟨h2, by rw [h3]⟩
theorem entC_ren (r : Nat → Nat) : ∀ N : List (Nat × List Nat), renE r (entC N) = entC N
  | [] => rfl
  | e :: N => by
    have := entC_ren r N
    show (_, _) :: renE r (entC N) = _
    rw [this]; rfl
theorem entC_lt (m : Nat) : ∀ N : List (Nat × List Nat), ltE m (entC N) = true
  | [] => rfl
  | e :: N => by
    have := entC_lt m N
    show (ltV m _ && (ltV m _ && ltE m (entC N))) = true
    rw [this]; rfl
noncomputable def whs (N : List (Nat × List Nat)) (w : List Nat) (seen : List Nat) : AE × AH := (mkE [(0, .ss (w)), (8, .ptr 1 (0))], mkH [(0, AO.map (entC N)), (1, AO.iter 0 (entC N).length seen)])
theorem whs_cov {N : List (Nat × List Nat)} {w : List Nat} {seen : List Nat} {p n : Nat} {σ : AE} {H : AH} (hp : p ≤ 1) (e0 : mk (getq (pa 0) σ) = .ss (w)) (e8 : getq (pa 8) σ = .ptr 1 (0)) (h0 : H.get 0 = some (AO.map (entC N))) (h1 : H.get 1 = some (AO.iter 0 (entC N).length seen)) : Cov p σ H n ((whs N w seen).1, (whs N w seen).2, 2) := by
  refine Cov.ofR (fun b => b) (by omega) (fun b hb => rfl) ?_ ?_ ?_
  · intro x hx
    simp only [List.mem_cons, List.not_mem_nil, or_false] at hx
    rcases hx with rfl | rfl
    · exact .str e0
    · exact .ptr (by decide) e8
  · intro x hx
    simp only [List.mem_cons, List.not_mem_nil, or_false] at hx
    rcases hx with rfl | rfl
    · exact ⟨by simp, .inl ⟨_, h0, SubO.mapC (entC_stab N)⟩⟩
    · exact ⟨by simp, .inl ⟨_, h1, SubO.iterC (by decide) rfl⟩⟩
  · intro x hx y hy
    simp only [List.mem_cons, List.not_mem_nil, or_false] at hx hy
    rcases hx with rfl | rfl <;> rcases hy with rfl | rfl <;> simp <;> omega
noncomputable def KWh : FuncId → EP := withD 23 [] (withN 44 natUp evP)
theorem KWh_ok : TabP KWh := withD_ok (withN_ok evP_ok n_upper) (by kernel_rfl) (by kernel_rfl)
def WhQ (N : List (Nat × List Nat)) (k : Nat) : PK := fun u H' _ => u = .si .i64 (k : Int) ∧ PM.get H' 0 = some (.map (entC N))
theorem whLeaf {u : AV} {H' : AH} {n' k : Nat} {N : List (Nat × List Nat)} (hu : mk u = .si .i64 (k : Int)) (hm : PM.get H' 0 = some (.map (entC N))) : ∃ v H2 n2, VTo u v ∧ Recast H' n' H2 n2 ∧ WhQ N k v H2 n2 := ⟨_, H', n', (fun φ w h => by rw [← hu]; exact h.mk), .refl _ _, rfl, hm⟩
set_option maxHeartbeats 4000000 in
set_option maxRecDepth 100000 in
theorem wh_run (N : List (Nat × List Nat)) (w : List Nat) (hN : apartC N = true) (hw : ∀ c ∈ w, c < 256) (hl : w.length ≤ 1000000) : post (callT KWh 4 23) [.ss w, .map 0] (mkH [(0, .map (entC N))]) 1 (WhQ N (whF N (upF w))) := by
  show callT KWh 4 23 _ _ _ _
  conv => whnf
  refine LoopP.mk { seen : List Nat // seen.Nodup ∧ ∀ i ∈ seen, ∃ h : i < N.length, beqL N[i].2 (upF w) = false } 2 (fun s => whs N w s.val) (fun s => N.length - s.val.length) ⟨[], by simp, by simp⟩ ?_ ?_
  · exact whs_cov (seen := []) (Nat.le_refl 1) rfl rfl rfl rfl
  · intro ⟨seen, hn, hs⟩
    have hsl : seen.length ≤ N.length := by
      have := (List.Nodup.length_le_of_subset hn (l₂ := List.range N.length) fun i hi => List.mem_range.2 (hs i hi).1)
      simpa using this
    conv => whnf
    refine Nxt.mk 1 0 _ seen _ rfl rfl rfl rfl rfl (fun hall => ?_) (fun i e he hns => ?_)
    · have hz : AV.si .i64 0 = .si .i64 ((whF N (upF w) : Nat) : Int) := by rw [whF_no fun i hi => (hs i (hall i (by rw [entC_length]; exact hi))).2]; rfl
      conv => whnf
      exact whLeaf hz rfl
    · obtain ⟨hi, rfl⟩ := entC_at he
      have hnd : (seen ++ [i]).Nodup := by rw [List.nodup_append]; exact ⟨hn, by simp, fun a ha b hb e => by simp at hb; subst hb e; exact hns ha⟩
      have hlt : beqL N[i].2 (upF w) = false → N.length - (seen ++ [i]).length < N.length - seen.length := fun _ => by
        have := List.Nodup.length_le_of_subset (l₁ := seen ++ [i]) (l₂ := List.range N.length) hnd (fun j hj => List.mem_range.2 (by rcases List.mem_append.1 hj with hj | hj; exact (hs j hj).1; simp at hj; subst hj; exact hi))
        simp at this ⊢; omega
      conv => whnf
      refine Ent.mk 1 0 _ i seen _ _ rfl rfl rfl rfl he ?_
      conv => whnf
      refine ⟨w, rfl, hw, hl, ?_⟩
      conv => whnf
      refine Fork.sb (fun hy => ?_) (fun hno => ?_)
      · have hz : AV.si .i64 (N[i].1 : Int) = .si .i64 ((whF N (upF w) : Nat) : Int) := by rw [whF_of hi hN hy]
        conv => whnf
        exact whLeaf hz rfl
      · conv => whnf
        exact ⟨⟨seen ++ [i], hnd, fun j hj => by rcases List.mem_append.1 hj with hj | hj; exact hs j hj; simp at hj; subst hj; exact ⟨hi, hno⟩⟩, hlt hno, whs_cov (Nat.le_refl 1) rfl rfl rfl rfl⟩
def natWh (args : List AV) (H : AH) (n : Nat) (κ : PK) : Prop := match args with
  | [x, y] => ∃ (b : Nat) (N : List (Nat × List Nat)) (w : List Nat), mk x = .ss w ∧ y = .map b ∧ b < n ∧ H.get b = some (.map (entC N)) ∧ apartC N = true ∧ (∀ c ∈ w, c < 256) ∧ w.length ≤ 1000000 ∧ κ (.si .i64 ((whF N (upF w) : Nat) : Int)) H n
  | _ => False
theorem n_which : NatP 23 natWh := fun args H n κ hs φ h0' hp vs K hr hargs hk => by
  unfold natWh at hs
  split at hs
  · obtain ⟨x, y, rfl, e1, e2⟩ := vs2 hargs
    obtain ⟨b, N, w, hx, rfl, hbn, hb, hN, h1, h2, hs⟩ := hs
    refine framed (S := [b]) (O := [.map (entC N)]) (args0 := [.ss w, .map 0]) (NatP.post (callT_nat KWh_ok 4 _)) (by kernel_rfl) hr
      (handsA hbn (by rw [renO, entC_ren]; exact hb) (.inr rfl)) (.cons (flat1_VR rfl (hx ▸ e1.mk)) (.cons e2 .nil)) hk (wh_run N w hN h1 h2) fun u H' n' ⟨g1, g2⟩ => ?_
    subst g1
    refine ⟨1, H, Nat.le_refl _, After.same fun i s o h3 h4 _ => ?_, rfl, hs⟩
    cases i with
    | zero =>
      injection h3 with h3; subst h3
      rw [hb] at h4; injection h4 with h4; subst h4
      exact ⟨_, g2, rfl, entC_lt _ N, by rw [renO, entC_ren]⟩
    | succ i => simp at h3
  · exact hs.elim
end Go.Proofs.Ytdfeigkooeeeaaa
namespace Go.Proofs.Ytdfeigkooeeeaaa
open Go Go.RowKit
set_option maxRecDepth 20000
def digN : Nat → Nat → List Nat
  | 0, _ => []
  | f + 1, k => if k < 10 then [48 + k] else digN f (k / 10) ++ [48 + k % 10]
def digs (z : Int) : List Nat := if z < 0 then 45 :: digN 20 z.natAbs else digN 20 z.natAbs
def dgo : Nat → Nat → List Nat → List Nat
  | 0, _, l => l
  | f + 1, k, l => if k = 0 ∧ l ≠ [] then l else dgo f (k / 10) ((48 + k % 10) :: l)
theorem dgo_stop {f : Nat} {l : List Nat} (h : l ≠ []) : dgo f 0 l = l := by
  cases f with
  | zero => rfl
  | succ f => unfold dgo; rw [if_pos ⟨rfl, h⟩]
theorem dgo_eq : ∀ (f k : Nat) (l : List Nat), k < 10 ^ (f + 1) → (k ≠ 0 ∨ l = []) → dgo (f + 2) k l = digN (f + 1) k ++ l := by
  intro f
  induction f with
  | zero =>
    intro k l h h0
    have hk : k < 10 := by simpa using h
    unfold dgo digN
    rw [if_neg (fun q => h0.elim (fun n => n q.1) (fun e => q.2 e)), if_pos hk, show k / 10 = 0 by omega, dgo_stop (by simp), show k % 10 = k by omega]
    rfl
  | succ f ih =>
    intro k l h h0
    unfold dgo digN
    rw [if_neg (fun q => h0.elim (fun n => n q.1) (fun e => q.2 e))]
    by_cases hk : k < 10
    · rw [if_pos hk, show k / 10 = 0 by omega, dgo_stop (by simp), show k % 10 = k by omega]
      rfl
    · rw [if_neg hk, ih (k / 10) _ (by rw [Nat.pow_succ] at h; omega) (.inl (by omega)), List.append_assoc]
      rfl
theorem digN_ne : ∀ (f k : Nat), digN (f + 1) k ≠ [] := fun f k => by
  unfold digN
  split <;> simp
theorem digN_fuel : ∀ (f g k : Nat), k < 10 ^ (f + 1) → k < 10 ^ (g + 1) → digN (f + 1) k = digN (g + 1) k := by
  intro f
  induction f with
  | zero =>
    intro g k h1 h2
    have hk : k < 10 := by simpa using h1
    unfold digN
    rw [if_pos hk, if_pos hk]
  | succ f ih =>
    intro g k h1 h2
    unfold digN
    by_cases hk : k < 10
    · rw [if_pos hk, if_pos hk]
    · rw [if_neg hk, if_neg hk]
      cases g with
      | zero => simp at h2; omega
      | succ g => rw [ih g (k / 10) (by rw [Nat.pow_succ] at h1; omega) (by rw [Nat.pow_succ] at h2; omega)]
theorem digN_digit : ∀ (f k : Nat), ∀ c ∈ digN f k, 48 ≤ c ∧ c ≤ 57 := by
  intro f
  induction f with
  | zero => intro k c h; cases h
  | succ f ih =>
    intro k c h
    unfold digN at h
    split at h
    · simp at h; omega
    · rcases List.mem_append.1 h with h | h
      · exact ih _ _ h
      · simp at h; omega
theorem digN_len : ∀ (f k : Nat), (digN f k).length ≤ f := by
  intro f
  induction f with
  | zero => intro k; exact Nat.le_refl _
  | succ f ih =>
    intro k
    unfold digN
    split
    · simp
    · rw [List.length_append]; have := ih (k / 10); simp; omega
theorem digs_lt (z : Int) : ∀ c ∈ digs z, c < 256 := fun c h => by
  unfold digs at h
  split at h
  · rcases List.mem_cons.1 h with h | h
    · omega
    · have := digN_digit _ _ _ h; omega
  · have := digN_digit _ _ _ h; omega
theorem digs_len (z : Int) : (digs z).length ≤ 21 := by
  have := digN_len 20 z.natAbs
  unfold digs
  split
  · simp; omega
  · omega
theorem abs_lt {z : Int} (h : In64 z) : z.natAbs < 10 ^ 20 := by unfold In64 at h; omega
/-! ### a text's number -/
def pgo : Nat → List Nat → Int → Int → Option Int
  | _, [], n, _ => some n
  | i, c :: r, n, sg => if 48 ≤ c ∧ c ≤ 57 then pgo (i + 1) r (W64 (W64 (10 * n) + W64 (sg * ((c : Int) - 48)))) sg else if i = 0 ∧ c = 45 then pgo (i + 1) r n (-1) else none
def numF (s : List Nat) : Int × Int := match pgo 0 s 0 1 with
  | some n => if digs n = s then (n, 0) else (0, 16)
  | none => (0, 16)
def rgo (g : Bool) : List Nat → Int → Int
  | [], n => n
  | c :: r, n => if 48 ≤ c ∧ c ≤ 57 then rgo g r (if g then W64 (W64 (10 * n) - ((c : Int) - 48)) else W64 (W64 (10 * n) + ((c : Int) - 48))) else rgo g r n
theorem pgo_dig : ∀ (f k i : Nat) (r : List Nat) (sg : Int), k < 10 ^ (f + 1) → (sg = 1 ∧ k ≤ 9223372036854775807 ∨ sg = -1 ∧ k ≤ 9223372036854775808) → pgo i (digN (f + 1) k ++ r) 0 sg = pgo (i + (digN (f + 1) k).length) r (sg * k) sg := by
  intro f
  have one : ∀ (i c : Nat) (r : List Nat) (a sg : Int), c < 10 → pgo i ((48 + c) :: r) a sg = pgo (i + 1) r (W64 (W64 (10 * a) + W64 (sg * (c : Int)))) sg := fun i c r a sg hc => by
    rw [pgo, if_pos (by omega)]
    congr 3
    congr 1
    have : ((48 + c : Nat) : Int) - 48 = (c : Int) := by omega
    rw [this]
  induction f with
  | zero =>
    intro k i r sg h hs
    have hk : k < 10 := by simpa using h
    unfold digN
    rw [if_pos hk]
    show pgo i ((48 + k) :: r) 0 sg = _
    rw [one i k r 0 sg hk]
    rcases hs with ⟨rfl, h1⟩ | ⟨rfl, h1⟩
    · have e : W64 (W64 (10 * 0) + W64 (1 * (k : Int))) = 1 * (k : Int) := by simp only [w64_eq]; omega
      rw [e]; rfl
    · have e : W64 (W64 (10 * 0) + W64 (-1 * (k : Int))) = -1 * (k : Int) := by simp only [w64_eq]; omega
      rw [e]; rfl
  | succ f ih =>
    intro k i r sg h hs
    unfold digN
    by_cases hk : k < 10
    · rw [if_pos hk]
      show pgo i ((48 + k) :: r) 0 sg = _
      rw [one i k r 0 sg hk]
      rcases hs with ⟨rfl, h1⟩ | ⟨rfl, h1⟩
      · have e : W64 (W64 (10 * 0) + W64 (1 * (k : Int))) = 1 * (k : Int) := by simp only [w64_eq]; omega
        rw [e]; rfl
      · have e : W64 (W64 (10 * 0) + W64 (-1 * (k : Int))) = -1 * (k : Int) := by simp only [w64_eq]; omega
        rw [e]; rfl
    · rw [if_neg hk, List.append_assoc, ih (k / 10) i _ sg (by rw [Nat.pow_succ] at h; omega) (by omega)]
      show pgo _ ((48 + k % 10) :: r) _ sg = _
      rw [one _ (k % 10) r _ sg (by omega), List.length_append]
      rcases hs with ⟨rfl, h1⟩ | ⟨rfl, h1⟩
      · have e : W64 (W64 (10 * (1 * ((k / 10 : Nat) : Int))) + W64 (1 * ((k % 10 : Nat) : Int))) = 1 * (k : Int) := by simp only [w64_eq]; omega
        rw [e]; rfl
      · have e : W64 (W64 (10 * (-1 * ((k / 10 : Nat) : Int))) + W64 (-1 * ((k % 10 : Nat) : Int))) = -1 * (k : Int) := by simp only [w64_eq]; omega
        rw [e]; rfl
theorem num_digs {n : Int} (h : In64 n) : numF (digs n) = (n, 0) := by
  have key : pgo 0 (digs n) 0 1 = some n := by
    unfold In64 at h
    unfold digs
    by_cases hn : n < 0
    · rw [if_pos hn]
      rw [pgo, if_neg (by omega), if_pos ⟨rfl, rfl⟩]
      have := pgo_dig 19 n.natAbs 1 [] (-1) (by omega) (.inr ⟨rfl, by omega⟩)
      rw [List.append_nil] at this
      rw [this]
      simp only [pgo]
      congr 1; omega
    · rw [if_neg hn]
      have := pgo_dig 19 n.natAbs 0 [] 1 (by omega) (.inl ⟨rfl, by omega⟩)
      rw [List.append_nil] at this
      rw [this]
      simp only [pgo]
      congr 1; omega
  unfold numF
  rw [key]
  simp
theorem rgo_eq (g : Bool) : ∀ (r : List Nat) (i : Nat) (n sg m : Int), (sg = if g then -1 else 1) → 0 < i → (∀ c ∈ r, c < 256) → pgo i r n sg = some m → rgo g r n = m
  | [], _, n, _, m, _, _, _, h => by injection h
  | c :: r, i, n, sg, m, hs, hi, hb, h => by
    rw [pgo] at h
    split at h
    · rename_i hc
      rw [rgo, if_pos hc]
      refine rgo_eq g r (i + 1) _ sg m hs (by omega) (fun x hx => hb x (List.mem_cons_of_mem _ hx)) ?_
      rw [← h]
      congr 1
      cases g with
      | true => simp only [if_true] at hs ⊢; subst hs; simp only [w64_eq]; omega
      | false => simp only [Bool.false_eq_true, if_false] at hs ⊢; subst hs; simp only [w64_eq]; omega
    · split at h
      · omega
      · cases h
/-- The document's number. -/
def rnumF (s : List Nat) : Int × Int := if digs (rgo (decide (s[0]? = some 45)) s 0) = s then (rgo (decide (s[0]? = some 45)) s 0, 0) else (0, 16)
theorem pgo_none : ∀ (r : List Nat) (i : Nat) (n sg : Int), 0 < i → pgo i r n sg = none → ∃ c ∈ r, ¬ (48 ≤ c ∧ c ≤ 57)
  | [], _, _, _, _, h => by cases h
  | c :: r, i, n, sg, hi, h => by
    rw [pgo] at h
    split at h
    · obtain ⟨d, h1, h2⟩ := pgo_none r (i + 1) _ _ (by omega) h
      exact ⟨d, List.mem_cons_of_mem _ h1, h2⟩
    · rename_i hc
      exact ⟨c, List.mem_cons_self, hc⟩
theorem digs_form (z : Int) : ∀ (c : Nat) (r : List Nat), digs z = c :: r → (c = 45 ∨ (48 ≤ c ∧ c ≤ 57)) ∧ ∀ d ∈ r, 48 ≤ d ∧ d ≤ 57 := fun c r h => by
  unfold digs at h
  split at h
  · injection h with h1 h2
    subst h1
    exact ⟨.inl rfl, fun d hd => digN_digit _ _ _ (h2 ▸ hd)⟩
  · exact ⟨.inr (digN_digit _ _ _ (h ▸ List.mem_cons_self)), fun d hd => digN_digit _ _ _ (h ▸ List.mem_cons_of_mem _ hd)⟩
theorem rnum_eq {s : List Nat} (hb : ∀ c ∈ s, c < 256) : rnumF s = numF s := by
  cases s with
  | nil => rfl
  | cons c r =>
    have hbr : ∀ x ∈ r, x < 256 := fun x hx => hb x (List.mem_cons_of_mem _ hx)
    unfold rnumF numF
    cases hp : pgo 0 (c :: r) 0 1 with
    | some m =>
      have e : rgo (decide ((c :: r)[0]? = some 45)) (c :: r) 0 = m := by
        rw [pgo] at hp
        split at hp
        · rename_i hc
          have hg : decide ((c :: r)[0]? = some 45) = false := by simp; omega
          rw [hg, rgo, if_pos hc]
          refine rgo_eq false r 1 _ 1 m rfl (by omega) hbr ?_
          rw [← hp]
          congr 1
          simp only [Bool.false_eq_true, if_false, w64_eq]; omega
        · rename_i hc
          split at hp
          · rename_i hc2
            have hg : decide ((c :: r)[0]? = some 45) = true := by simp [hc2.2]
            rw [hg, rgo, if_neg hc]
            exact rgo_eq true r 1 0 (-1) m rfl (by omega) hbr hp
          · cases hp
      dsimp only
      rw [e]
    | none =>
      have hne : ∀ z, digs z ≠ c :: r := fun z hz => by
        obtain ⟨h1, h2⟩ := digs_form z c r hz
        rw [pgo] at hp
        split at hp
        · obtain ⟨d, h3, h4⟩ := pgo_none r 1 _ _ (by omega) hp
          exact h4 (h2 d h3)
        · rename_i hc
          split at hp
          · obtain ⟨d, h3, h4⟩ := pgo_none r 1 _ _ (by omega) hp
            exact h4 (h2 d h3)
          · rename_i hc2
            rcases h1 with h1 | h1
            · exact hc2 ⟨rfl, h1⟩
            · exact hc h1
      dsimp only
      rw [if_neg (hne _)]
end Go.Proofs.Ytdfeigkooeeeaaa
namespace Go.Proofs.Ytdfeigkooeeeaaa
open Go Go.RowKit
set_option maxRecDepth 20000
theorem tyU8 : RTy 43 43 1 1 := ⟨_, _, _, rfl, rfl, (fun q h => by cases h), rfl, rfl, rfl, rfl, by decide, by decide⟩
theorem bytA_one (s : List Nat) : (bytA s).all one1 = true := by
  rw [List.all_eq_true]
  intro y hy
  have := List.all_eq_true.1 (bytA_flat s) y hy
  cases y <;> first | rfl | cases this
theorem bytA_whole (s : List Nat) : subL (bytA s) 0 (s.length * 1) = some (bytA s) := subL_all (by rw [bytA_length, Nat.mul_one])
theorem bytA_whole' (s : List Nat) : subL (bytA s) 0 s.length = some (bytA s) := subL_all (bytA_length s)
theorem bytA_nth {s : List Nat} {i o : Nat} (h : i < s.length) (ho : o = i) : nth (bytA s) o = some (.si .u8 (Int.ofNat s[i])) := by
  subst ho
  rw [nth_eq]
  simp only [bytA, List.getElem?_map, List.getElem?_eq_getElem h]; rfl
/-! ### a number's text -/
theorem dig_byte {m : Int} (h : In64 m) : AV.si .u8 (IntKind.u8.wrap (IntKind.i64.wrap (48 + max (m.tmod 10) (IntKind.i64.wrap (0 - m.tmod 10))))) = .si .u8 (Int.ofNat (48 + m.natAbs % 10)) := by
  unfold In64 at h
  have h1 : m.tmod 10 = if m < 0 then -((m.natAbs % 10 : Nat) : Int) else ((m.natAbs % 10 : Nat) : Int) := by
    split
    · rename_i hn
      rw [show m = -((m.natAbs : Nat) : Int) by omega, Int.neg_tmod]
      simp [Int.tmod]
    · rename_i hn
      rw [show m = ((m.natAbs : Nat) : Int) by omega]
      simp [Int.tmod]
  have h2 : m.natAbs % 10 < 10 := Nat.mod_lt _ (by decide)
  have h3 : IntKind.i64.wrap (0 - m.tmod 10) = -(m.tmod 10) := (W64_of (by unfold In64; split at h1 <;> omega)).trans (by omega)
  have h4 : max (m.tmod 10) (-(m.tmod 10)) = ((m.natAbs % 10 : Nat) : Int) := by
    split at h1 <;> (rw [h1]; omega)
  rw [h3, h4]
  have h5 : IntKind.i64.wrap (48 + ((m.natAbs % 10 : Nat) : Int)) = ((48 + m.natAbs % 10 : Nat) : Int) := (W64_of (by unfold In64; omega)).trans (by omega)
  rw [h5]
  congr 1
  simp [IntKind.wrap, IntKind.bits, IntKind.signed]
  omega
theorem dig_next {m : Int} (h : In64 m) : IntKind.i64.wrap (m.tdiv 10) = m.tdiv 10 ∧ In64 (m.tdiv 10) ∧ (m.tdiv 10).natAbs = m.natAbs / 10 := by
  have h1 : (m.tdiv 10).natAbs = m.natAbs / 10 := by rw [Int.natAbs_tdiv]; rfl
  unfold In64 at h
  have h2 : In64 (m.tdiv 10) := by unfold In64; omega
  exact ⟨W64_of h2, h2, h1⟩
noncomputable def dgt (z : Int) (m : Int) (D : List Nat) : AE × AH := (mkE [(0, .si .i64 (z)), (3, .rw 0 0 D.length 1 0), (4, .si .i64 (m))], mkH [(0, .cells (bytA (D)) true)])
theorem dgt_cov {z : Int} {m : Int} {D : List Nat} {p n : Nat} {σ : AE} {H : AH} (j0 : Nat) (hp : p ≤ 0) (e0 : mk (getq (pa 0) σ) = .si .i64 (z)) (e3 : SubV H 1 (fun b => if b = 0 then j0 else b) (getq (pa 3) σ) (.rw 0 0 D.length 1 0)) (e4 : mk (getq (pa 4) σ) = .si .i64 (m)) (h0 : (∃ l, H.get j0 = some (.cells l true) ∧ l.map mk = bytA (D)) ∨ ((D) = [] ∧ n ≤ j0)) : Cov p σ H n ((dgt z m D).1, (dgt z m D).2, 1) := by
  refine Cov.ofR (fun b => if b = 0 then j0 else b) (by omega) (fun b hb => by repeat' rw [if_neg (by omega)]) ?_ ?_ ?_
  · intro x hx
    simp only [List.mem_cons, List.not_mem_nil, or_false] at hx
    rcases hx with rfl | rfl | rfl
    · exact .int e0
    · exact e3
    · exact .int e4
  · intro x hx
    simp only [List.mem_cons, List.not_mem_nil, or_false] at hx
    subst hx
    exact ⟨by simp, h0.elim (fun ⟨l, h, g⟩ => .inl ⟨_, h, SubO.cells_mk (bytA_flat _) (by rw [g, bytA_map]) (fun q => q)⟩) (fun h => .inr ⟨by rw [h.1]; rfl, h.2⟩)⟩
  · intro x hx y hy
    simp only [List.mem_cons, List.not_mem_nil, or_false] at hx hy
    subst hx hy
    exact fun q => rfl
noncomputable def KDg : FuncId → EP := withD 11 [] evP
theorem KDg_ok : TabP KDg := withD_ok evP_ok (by kernel_rfl) (by kernel_rfl)
/-- What is so ahead of each round: rounds that are left, the number that is left, the digits so far. -/
def DgI (z : Int) (x : Nat × Int × List Nat) : Prop := In64 x.2.1 ∧ x.2.1.natAbs < 10 ^ x.1 ∧ dgo (x.1 + 1) x.2.1.natAbs x.2.2 = digN 20 z.natAbs ∧ x.2.2.length + x.1 ≤ 20 ∧ (∀ c ∈ x.2.2, c < 256) ∧ (x.2.2 = [] → x.1 = 20)
theorem DgI.step {z m : Int} {f : Nat} {l : List Nat} (h : DgI z (f, m, l)) (hc : m ≠ 0 ∨ l.length = 0) : 1 ≤ f ∧ DgI z (f - 1, m.tdiv 10, (48 + m.natAbs % 10) :: l) := by
  obtain ⟨h1, h2, h3, h4, h5, h6⟩ := h
  dsimp only at h1 h2 h3 h4 h5 h6
  have hf : 1 ≤ f := by
    rcases Nat.eq_zero_or_pos f with q | q
    · subst q
      rcases hc with hc | hc
      · simp at h2; omega
      · have := h6 (List.eq_nil_of_length_eq_zero hc); omega
    · exact q
  obtain ⟨g, rfl⟩ : ∃ g, f = g + 1 := ⟨f - 1, by omega⟩
  obtain ⟨d1, d2, d3⟩ := dig_next h1
  refine ⟨hf, d2, ?_, ?_, ?_, ?_, fun q => by cases q⟩
  · show (m.tdiv 10).natAbs < 10 ^ g
    rw [d3]; rw [Nat.pow_succ] at h2; omega
  · show dgo (g + 1) (m.tdiv 10).natAbs _ = _
    rw [d3, ← h3]
    conv => rhs; unfold dgo
    rw [if_neg (fun q => hc.elim (fun n => n (Int.natAbs_eq_zero.1 q.1)) (fun e => q.2 (List.eq_nil_of_length_eq_zero e)))]
  · show ((48 + m.natAbs % 10) :: l).length + (g + 1 - 1) ≤ 20
    simp; omega
  · intro c hc
    rcases List.mem_cons.1 hc with rfl | hc
    · omega
    · exact h5 c hc
theorem DgI.stop {z m : Int} {f : Nat} {l : List Nat} (h : DgI z (f, m, l)) (h0 : m = 0) (hl : ¬ l.length = 0) : l = digN 20 z.natAbs := by
  obtain ⟨h1, h2, h3, _⟩ := h
  dsimp only at h3
  rw [h0] at h3
  rw [← h3]
  exact (dgo_stop (fun e => hl (by rw [e]; rfl))).symm
set_option maxHeartbeats 8000000 in
set_option maxRecDepth 100000 in
theorem dg_run (z : Int) (hz : In64 z) : callT KDg 3 11 [.si .i64 z] .nil 0 fun u _ _ => mkT u = mkT (.ss (digs z)) := by
  conv => whnf
  refine LoopP.mk { x : Nat × Int × List Nat // DgI z x } 1 (fun x => dgt z x.val.2.1 x.val.2.2) (fun x => x.val.1) ⟨(20, z, []), hz, abs_lt hz, dgo_eq 19 _ _ (abs_lt hz) (.inr rfl) |>.trans (List.append_nil _), Nat.le_refl _, (fun c h => by cases h), fun _ => rfl⟩ ?_ ?_
  · exact dgt_cov (j0 := 0) (Nat.le_refl 0) rfl (.nslRw rfl) rfl (.inr ⟨rfl, Nat.le_refl _⟩)
  · intro ⟨(f, m, l), hI⟩
    have hm : In64 m := hI.1
    have hll : l.length ≤ 20 := by have := hI.2.2.2.1; dsimp only at this; omega
    have hb256 : ∀ c ∈ l, c < 256 := hI.2.2.2.2.1
    have hrow := bytA_whole l
    have hbig : (1 + l.length) * 1 ≤ 140737488355328 := by omega
    have hlen : 1 + l.length = ((48 + m.natAbs % 10) :: l).length := by simp; omega
    have hby := dig_byte hm
    have hcell : ([AV.si .u8 (IntKind.u8.wrap (IntKind.i64.wrap (48 + max (m.tmod 10) (IntKind.i64.wrap (0 - m.tmod 10)))))] ++ bytA l).map mk = bytA ((48 + m.natAbs % 10) :: l) := by
      rw [hby, List.map_append, bytA_map]; rfl
    have hmt : AV.si .i64 (IntKind.i64.wrap (m.tdiv 10)) = .si .i64 (m.tdiv 10) := by rw [(dig_next hm).1]
    have go : ∀ hc : m ≠ 0 ∨ l.length = 0, f - 1 < f := fun hc => by have := (hI.step hc).1; omega
    conv => whnf
    refine Fork.ndec (fun h0 => ?_) (fun h0 => ?_)
    · have hst := hI.step (.inl h0)
      conv => whnf
      refine RApp.grow 1 1 _ _ _ _ _ _ tyU8 (.rw (.inr ⟨_, rfl⟩) hrow) (by rw [bytA_length, Nat.mul_one]) (bytA_one l) (.sl rfl rfl (Nat.le_refl _) (Nat.le_refl _)) hbig ?_
      conv => whnf
      exact ⟨⟨(f - 1, m.tdiv 10, (48 + m.natAbs % 10) :: l), hst.2⟩, go (.inl h0), dgt_cov (j0 := 2) (Nat.le_refl 0) rfl (SubV.rw (by decide) rfl (hn := hlen)) hmt (.inl ⟨_, rfl, hcell⟩)⟩
    · conv => whnf
      refine Fork.dec (fun h1 => ?_) (fun h1 => ?_)
      · have h1 : l.length = 0 := by exact Int.ofNat_inj.1 h1
        have hst := hI.step (.inr h1)
        conv => whnf
        refine RApp.grow 1 1 _ _ _ _ _ _ tyU8 (.rw (.inr ⟨_, rfl⟩) hrow) (by rw [bytA_length, Nat.mul_one]) (bytA_one l) (.sl rfl rfl (Nat.le_refl _) (Nat.le_refl _)) hbig ?_
        conv => whnf
        exact ⟨⟨(f - 1, m.tdiv 10, (48 + m.natAbs % 10) :: l), hst.2⟩, go (.inr h1), dgt_cov (j0 := 2) (Nat.le_refl 0) rfl (SubV.rw (by decide) rfl (hn := hlen)) hmt (.inl ⟨_, rfl, hcell⟩)⟩
      · have h1 : ¬ l.length = 0 := fun q => h1 (by exact Int.ofNat_inj.2 q)
        have hl := hI.stop h0 h1
        have hbyt : ebytes (bytA l) = some l := ebytes_bytA hb256
        have hwh := bytA_whole' l
        have hadd : ([45] : List Nat).length + l.length ≤ 9223372036854775807 := by simp; omega
        conv => whnf
        refine Fork.dec (fun hn => ?_) (fun hn => ?_)
        · have e : mkT (AV.ss ([45] ++ l)) = mkT (.ss (digs z)) := by unfold digs; rw [if_pos hn, hl]; rfl
          conv => whnf
          refine RStr.mk _ _ _ _ _ _ _ _ rfl (by decide) ⟨_, rfl, rfl, rfl⟩ (.inr ⟨_, rfl⟩) hwh hbyt ?_
          conv => whnf
          refine ⟨hadd, ?_⟩
          conv => whnf
          exact e
        · have e : mkT (AV.ss l) = mkT (.ss (digs z)) := by unfold digs; rw [if_neg hn, hl]
          conv => whnf
          refine RStr.mk _ _ _ _ _ _ _ _ rfl (by decide) ⟨_, rfl, rfl, rfl⟩ (.inr ⟨_, rfl⟩) hwh hbyt ?_
          conv => whnf
          exact e
def natDg (args : List AV) (H : AH) (n : Nat) (κ : PK) : Prop := match args with
  | [x] => ∃ z : Int, mk x = .si .i64 z ∧ In64 z ∧ κ (.ss (digs z)) H n
  | _ => False
theorem n_digits : NatP 11 natDg := fun args H n κ hs φ h0' hp vs K hr hargs hk => by
  unfold natDg at hs
  split at hs
  · obtain ⟨x, rfl, e1⟩ := vs1 hargs
    obtain ⟨z, hx, h1, hs⟩ := hs
    exact smallN KDg_ok (v := .ss (digs z)) rfl (dg_run z h1) hs hr hk (by kernel_rfl) HR.ro0 (.cons (flat1_VR rfl (hx ▸ e1.mk)) .nil)
  · exact hs.elim
theorem singDg : SingG natDg := .pure fun args H n κ hs => by
  unfold natDg at *
  split at hs
  · obtain ⟨z, h1, h2, h3⟩ := hs
    exact ⟨_, h3, fun κ' h => ⟨z, h1, h2, h⟩⟩
  · exact hs.elim
/-! ### a text's number -/
theorem sub48 {c : Nat} (h1 : 48 ≤ c) (h2 : c ≤ 57) : IntKind.i64.wrap (IntKind.u8.wrap (Int.ofNat c - 48)) = (c : Int) - 48 := by
  have e : IntKind.u8.wrap (Int.ofNat c - 48) = (c : Int) - 48 := by
    simp [IntKind.wrap, IntKind.bits, IntKind.signed]
    omega
  rw [e]
  exact W64_of (by unfold In64; omega)
noncomputable def nmt (s : List Nat) (m : Int) (g : Int) (i : Nat) : AE × AH := (mkE [(0, .ss (s)), (4, .si .i64 (m)), (5, .si .i64 (g)), (9, .sy 0 0 s.length s.length 1), (10, .si .i64 (((s.length : Nat) : Int))), (11, .si .i64 (((i : Nat) : Int)))], mkH [(0, .cells (bytA (s)) false)])
theorem nmt_cov {s : List Nat} {m : Int} {g : Int} {i : Nat} {p n : Nat} {σ : AE} {H : AH} {l0 : List AV} (hp : p ≤ 0) (e0 : mk (getq (pa 0) σ) = .ss (s)) (e4 : mk (getq (pa 4) σ) = .si .i64 (m)) (e5 : mk (getq (pa 5) σ) = .si .i64 (g)) (e9 : mk (getq (pa 9) σ) = .sy 0 0 s.length s.length 1) (e10 : mk (getq (pa 10) σ) = .si .i64 (((s.length : Nat) : Int))) (e11 : mk (getq (pa 11) σ) = .si .i64 (((i : Nat) : Int))) (h0 : H.get 0 = some (.cells l0 false)) (g0 : l0.map mk = bytA (s)) : Cov p σ H n ((nmt s m g i).1, (nmt s m g i).2, 1) := by
  refine Cov.ofR (fun b => b) (by omega) (fun b hb => rfl) ?_ ?_ ?_
  · intro x hx
    simp only [List.mem_cons, List.not_mem_nil, or_false] at hx
    rcases hx with rfl | rfl | rfl | rfl | rfl | rfl
    · exact .str e0
    · exact .int e4
    · exact .int e5
    · exact .sy (by decide) e9
    · exact .int e10
    · exact .int e11
  · intro x hx
    simp only [List.mem_cons, List.not_mem_nil, or_false] at hx
    subst hx
    exact ⟨by simp, .inl ⟨_, h0, SubO.cells_mk (bytA_flat _) (by rw [g0, bytA_map]) (fun q => q)⟩⟩
  · intro x hx y hy
    simp only [List.mem_cons, List.not_mem_nil, or_false] at hx hy
    subst hx hy
    exact fun q => rfl
noncomputable def KNm : FuncId → EP := withN 11 natDg evP
theorem KNm_ok : TabP KNm := withN_ok evP_ok n_digits
theorem drop_cons {s : List Nat} {i : Nat} (h : i < s.length) : s.drop i = s[i] :: s.drop (i + 1) := List.drop_eq_getElem_cons h
set_option maxHeartbeats 8000000 in
set_option maxRecDepth 100000 in
theorem nm_run (s : List Nat) (hs : ∀ c ∈ s, c < 256) (hl : s.length ≤ 1000000) : callT KNm 3 9 [.ss s] .nil 0 fun u _ _ => mkT u = mkT (.tup [.si .i64 (numF s).1, .si .i64 (numF s).2]) := by
  have key : ∀ {x y : Int}, numF s = (x, y) → mkT (.tup [.si .i64 x, .si .i64 y]) = mkT (.tup [.si .i64 (numF s).1, .si .i64 (numF s).2]) := fun e => by rw [e]
  conv => whnf
  refine Ask.mk (.sl 0 0 s.length s.length 1, _, 1) rfl ?_
  conv => whnf
  refine LoopP.mk { x : Nat × Int × Int // x.1 ≤ s.length ∧ In64 x.2.1 ∧ pgo x.1 (s.drop x.1) x.2.1 x.2.2 = pgo 0 s 0 1 } 1 (fun x => nmt s x.val.2.1 x.val.2.2 x.val.1) (fun x => s.length - x.val.1) ⟨(0, 0, 1), Nat.zero_le _, (show In64 0 by unfold In64; omega), rfl⟩ ?_ ?_
  · exact nmt_cov (Nat.le_refl 0) rfl rfl rfl rfl rfl rfl rfl (by simp [bytA, mk])
  · intro ⟨(i, m, g), hi, hm, hp⟩
    dsimp only at hi hm hp
    conv => whnf
    refine Fork.dec (fun h => ?_) (fun h => ?_)
    · have hi2 : i < s.length := by exact Int.ofNat_lt.1 h
      have hc := hs _ (List.getElem_mem hi2)
      have hi1 : IntKind.i64.wrap ((i : Int) + 1) = ((i + 1 : Nat) : Int) := W64_of ⟨by omega, by omega⟩
      have hlt : s.length - (i + 1) < s.length - i := by omega
      rw [drop_cons hi2, pgo] at hp
      have hno : ¬ (48 ≤ s[i] ∧ s[i] ≤ 57) → pgo 0 s 0 1 = if i = 0 ∧ s[i] = 45 then pgo (i + 1) (s.drop (i + 1)) m (-1) else none := fun q => by rw [← hp, if_neg q]
      have hbad : ¬ (48 ≤ s[i] ∧ s[i] ≤ 57) → ¬ (i = 0 ∧ s[i] = 45) → mkT (.tup [.si .i64 0, .si .i64 16]) = mkT (.tup [.si .i64 (numF s).1, .si .i64 (numF s).2]) := fun q1 q2 => key (by unfold numF; rw [hno q1, if_neg q2])
      conv => whnf
      refine Idx.mk i rfl hi2 ?_
      conv => whnf
      refine optP_of (bytA_nth hi2 (show 0 + i * 1 = i by omega)) ?_
      conv => whnf
      refine Fork.dec (fun h1 => ?_) (fun h1 => ?_)
      · have h1 : 48 ≤ s[i] := by exact Int.ofNat_le.1 h1
        conv => whnf
        refine Fork.dec (fun h2 => ?_) (fun h2 => ?_)
        · have h2 : s[i] ≤ 57 := by exact Int.ofNat_le.1 h2
          have hp2 : pgo (i + 1) (s.drop (i + 1)) (W64 (W64 (10 * m) + W64 (g * ((s[i] : Int) - 48)))) g = pgo 0 s 0 1 := by rw [← hp, if_pos ⟨h1, h2⟩]
          have hv : AV.si .i64 (IntKind.i64.wrap (IntKind.i64.wrap (10 * m) + IntKind.i64.wrap (g * IntKind.i64.wrap (IntKind.u8.wrap (Int.ofNat s[i] - 48))))) = .si .i64 (W64 (W64 (10 * m) + W64 (g * ((s[i] : Int) - 48)))) := by rw [sub48 h1 h2]
          conv => whnf
          exact ⟨⟨(i + 1, W64 (W64 (10 * m) + W64 (g * ((s[i] : Int) - 48))), g), hi2, W64_in _, hp2⟩, hlt, nmt_cov (Nat.le_refl 0) rfl hv rfl rfl rfl (congrArg (AV.si .i64) hi1) rfl (bytA_map s)⟩
        · have h2 : ¬ s[i] ≤ 57 := fun q => h2 (by exact Int.ofNat_le.2 q)
          have q1 : ¬ (48 ≤ s[i] ∧ s[i] ≤ 57) := fun q => h2 q.2
          have q2 : ¬ (i = 0 ∧ s[i] = 45) := fun q => by omega
          have hbad := hbad q1 q2
          conv => whnf
          refine Fork.dec (fun h0 => ?_) (fun h0 => ?_)
          · conv => whnf
            refine Fork.dec (fun h45 => absurd (show s[i] = 45 by exact Int.ofNat_inj.1 h45) (by omega)) (fun h45 => ?_)
            conv => whnf
            exact hbad
          · conv => whnf
            exact hbad
      · have h1 : ¬ 48 ≤ s[i] := fun q => h1 (by exact Int.ofNat_le.2 q)
        have q1 : ¬ (48 ≤ s[i] ∧ s[i] ≤ 57) := fun q => h1 q.1
        conv => whnf
        refine Fork.dec (fun h0 => ?_) (fun h0 => ?_)
        · have h0 : i = 0 := by exact Int.ofNat_inj.1 h0
          conv => whnf
          refine Fork.dec (fun h45 => ?_) (fun h45 => ?_)
          · have h45 : s[i] = 45 := by exact Int.ofNat_inj.1 h45
            have hp2 : pgo (i + 1) (s.drop (i + 1)) m (-1) = pgo 0 s 0 1 := by rw [hno q1, if_pos ⟨h0, h45⟩]
            conv => whnf
            exact ⟨⟨(i + 1, m, -1), hi2, hm, hp2⟩, hlt, nmt_cov (Nat.le_refl 0) rfl rfl rfl rfl rfl (congrArg (AV.si .i64) hi1) rfl (bytA_map s)⟩
          · have hbad := hbad q1 (fun q => h45 (by exact Int.ofNat_inj.2 q.2))
            conv => whnf
            exact hbad
        · have hbad := hbad q1 (fun q => h0 (by exact Int.ofNat_inj.2 q.1))
          conv => whnf
          exact hbad
    · have hi3 : i = s.length := by have : ¬ i < s.length := fun q => h (Int.ofNat_lt.2 q); omega
      have hp2 : pgo 0 s 0 1 = some m := by rw [← hp, hi3, List.drop_length]; rfl
      conv => whnf
      refine ⟨m, rfl, hm, ?_⟩
      conv => whnf
      refine Fork.nsb (fun he => ?_) (fun he => ?_)
      · have e := key (x := 0) (y := 16) (by unfold numF; rw [hp2]; dsimp only; rw [if_neg (fun q => by rw [beqL_is.2 q] at he; cases he)])
        conv => whnf
        exact e
      · have e := key (x := m) (y := 0) (by unfold numF; rw [hp2]; dsimp only; rw [if_pos (beqL_is.1 he)])
        conv => whnf
        exact e
def natNm (args : List AV) (H : AH) (n : Nat) (κ : PK) : Prop := match args with
  | [x] => ∃ s, mk x = .ss s ∧ (∀ c ∈ s, c < 256) ∧ s.length ≤ 1000000 ∧ κ (.tup [.si .i64 (numF s).1, .si .i64 (numF s).2]) H n
  | _ => False
theorem n_number : NatP 9 natNm := fun args H n κ hs φ h0' hp vs K hr hargs hk => by
  unfold natNm at hs
  split at hs
  · obtain ⟨x, rfl, e1⟩ := vs1 hargs
    obtain ⟨s, hx, h1, h2, hs⟩ := hs
    exact smallN KNm_ok (v := .tup [.si .i64 (numF s).1, .si .i64 (numF s).2]) rfl (nm_run s h1 h2) hs hr hk (by kernel_rfl) HR.ro0 (.cons (flat1_VR rfl (hx ▸ e1.mk)) .nil)
  · exact hs.elim
end Go.Proofs.Ytdfeigkooeeeaaa
namespace Go.Proofs.Ytdfeigkooeeeaaa
open Go Go.RowKit
set_option maxRecDepth 20000
/-! ### rows of texts -/
def txts (L : List (List Nat)) : List AV := L.map AV.ss
theorem txts_length (L : List (List Nat)) : (txts L).length = L.length := by simp [txts]
theorem txts_flat (L : List (List Nat)) : (txts L).all flat.flat1 = true := by
  induction L with
  | nil => rfl
  | cons x L ih => exact ih
theorem txts_map (L : List (List Nat)) : (txts L).map mk = txts L := by simp [txts, mk]
theorem txts_snoc (L : List (List Nat)) (x : List Nat) : txts L ++ [.ss x] = txts (L ++ [x]) := by simp [txts]
def labs (L : List (List Nat × List Nat)) : List AV := L.flatMap fun x => [.ss x.1, .ss x.2]
theorem labs_length (L : List (List Nat × List Nat)) : (labs L).length = L.length * 2 := by
  induction L with
  | nil => rfl
  | cons x L ih => simp only [labs, List.flatMap_cons, List.length_append, List.length_cons, List.length_nil] at ih ⊢; omega
theorem labs_flat (L : List (List Nat × List Nat)) : (labs L).all flat.flat1 = true := by
  induction L with
  | nil => rfl
  | cons x L ih => exact ih
theorem labs_map (L : List (List Nat × List Nat)) : (labs L).map mk = labs L := by
  induction L with
  | nil => rfl
  | cons x L ih =>
    simp only [labs, List.flatMap_cons, List.map_append] at ih ⊢
    rw [ih]; rfl
theorem labs_snoc (L : List (List Nat × List Nat)) (x : List Nat × List Nat) : labs L ++ [.ss x.1, .ss x.2] = labs (L ++ [x]) := by simp [labs]
/-! ### a reader -/
structure Rd where
  ws : List (List Nat)
  e : Int
  nm : Int
  ks : List (List Nat)
  ts : List Int
  vs : List Int
  ret : Int
  siz : Int
  pol : Int
  ls : List (List Nat × List Nat)
  lbd : Bool
  fr : Int
  to : Int
  kd : Int
  bk : Int
  al : Int
  q : Qry
  fs : List (List Nat)
  gr : List Nat
  rd : Int
def cmC (k t v l q f : AV) (R : Rd) : List AV := [.si .i64 R.nm, k, t, v, .si .i64 R.ret, .si .i64 R.siz, .si .i64 R.pol, l, .sb R.lbd, .si .i64 R.fr, .si .i64 R.to, .si .i64 R.kd, .si .i64 R.bk, .si .i64 R.al,
  .si .i64 R.q.f, .si .i64 R.q.t, .sb R.q.back, .si .i64 R.q.count, .si .i64 R.q.kind, .si .i64 R.q.size, .si .i64 R.q.align, .sb R.q.empty, q, .sb R.q.vals, .si .i64 R.q.low, .si .i64 R.q.high, f, .ss R.gr, .si .i64 R.rd]
def rdC (k t v l q f : Nat) (R : Rd) : List AV := .fr R.ws.length 1 (txts R.ws) :: .si .i64 R.e :: cmC (.rw k 0 R.ks.length 1 0) (.rw t 0 R.ts.length 1 0) (.rw v 0 R.vs.length 1 0) (.rw l 0 R.ls.length 2 0) (.rw q 0 R.q.times.length 1 0) (.rw f 0 R.fs.length 1 0) R
def rdO (R : Rd) : List AO := [.cells (rdC 1 2 3 4 5 6 R) true, .cells (txts R.ks) true, .cells (ints R.ts) true, .cells (ints R.vs) true, .cells (labs R.ls) true, .cells (ints R.q.times) true, .cells (txts R.fs) true]
/-- A reader in memory. -/
structure RdAt (H : AH) (n r k t v l q f : Nat) (R : Rd) : Prop where
  nd : [r, k, t, v, l, q, f].Nodup
  lt : r < n ∧ k < n ∧ t < n ∧ v < n ∧ l < n ∧ q < n ∧ f < n
  hr : H.get r = some (.cells (rdC k t v l q f R) true)
  hk : H.get k = some (.cells (txts R.ks) true)
  ht : H.get t = some (.cells (ints R.ts) true)
  hv : H.get v = some (.cells (ints R.vs) true)
  hl : H.get l = some (.cells (labs R.ls) true)
  hq : H.get q = some (.cells (ints R.q.times) true)
  hf : H.get f = some (.cells (txts R.fs) true)
theorem rdC_ren {r k t v l q f n : Nat} (R : Rd) : renL (nmOf [r, k, t, v, l, q, f] n) (rdC 1 2 3 4 5 6 R) = rdC k t v l q f R := rfl
theorem RdAt.hands {H : AH} {n r k t v l q f : Nat} {R : Rd} (h : RdAt H n r k t v l q f R) : Hands H n [r, k, t, v, l, q, f] (rdO R) :=
  ⟨h.nd, rfl, fun i s o h1 h2 => by
    obtain ⟨l0, l1, l2, l3, l4, l5, l6⟩ := h.lt
    match i, h1, h2 with
    | 0, h1, h2 => injection h1 with h1; injection h2 with h2; subst h1 h2; exact ⟨l0, by rw [renO, rdC_ren]; exact h.hr, .inr rfl⟩
    | 1, h1, h2 => injection h1 with h1; injection h2 with h2; subst h1 h2; exact ⟨l1, by rw [renO, renL_flat _ _ (txts_flat _)]; exact h.hk, .inr rfl⟩
    | 2, h1, h2 => injection h1 with h1; injection h2 with h2; subst h1 h2; exact ⟨l2, by rw [renO, renL_flat _ _ (ints_flat _)]; exact h.ht, .inr rfl⟩
    | 3, h1, h2 => injection h1 with h1; injection h2 with h2; subst h1 h2; exact ⟨l3, by rw [renO, renL_flat _ _ (ints_flat _)]; exact h.hv, .inr rfl⟩
    | 4, h1, h2 => injection h1 with h1; injection h2 with h2; subst h1 h2; exact ⟨l4, by rw [renO, renL_flat _ _ (labs_flat _)]; exact h.hl, .inr rfl⟩
    | 5, h1, h2 => injection h1 with h1; injection h2 with h2; subst h1 h2; exact ⟨l5, by rw [renO, renL_flat _ _ (ints_flat _)]; exact h.hq, .inr rfl⟩
    | 6, h1, h2 => injection h1 with h1; injection h2 with h2; subst h1 h2; exact ⟨l6, by rw [renO, renL_flat _ _ (txts_flat _)]; exact h.hf, .inr rfl⟩⟩
/-! ### functions that leave its rows -/
theorem Recast.mkCells {H : AH} {n b : Nat} {l : List AV} {z : Bool} (hb : H.get b = some (.cells l z)) : Recast H n (H.set (some (.cells (l.map Go.Proofs.Ytdfeigkooeeeaaa.mk) z)) depthH b) n := fun φ h0 h hr => hr.recell hb (by simp) fun i a' hi => by
  rw [List.getElem?_map, Option.map_eq_some_iff] at hi
  obtain ⟨a, h1, rfl⟩ := hi
  exact ⟨a, h1, fun v hv => hv.mk⟩
def RdK (v : AV) (R : Rd) : PK := fun u H' _ => u = v ∧ PM.get H' 0 = some (.cells (rdC 1 2 3 4 5 6 R) true) ∧ PM.get H' 1 = some (.cells (txts R.ks) true) ∧ PM.get H' 2 = some (.cells (ints R.ts) true) ∧ PM.get H' 3 = some (.cells (ints R.vs) true) ∧ PM.get H' 4 = some (.cells (labs R.ls) true) ∧ PM.get H' 5 = some (.cells (ints R.q.times) true) ∧ PM.get H' 6 = some (.cells (txts R.fs) true)
theorem PM.get_setZ {α : Type} {v : α} {t : PM α} : (PM.set (some v) depthH t 0).get 0 = some v := by cases t <;> rfl
theorem rdLeafK {u v : AV} {H' : AH} {n' : Nat} {R : Rd} {l : List AV} (hv : VTo u v) (h0 : PM.get H' 0 = some (.cells l true)) (hm : l.map mk = rdC 1 2 3 4 5 6 R) (r1 : PM.get H' 1 = some (.cells (txts R.ks) true)) (r2 : PM.get H' 2 = some (.cells (ints R.ts) true)) (r3 : PM.get H' 3 = some (.cells (ints R.vs) true)) (r4 : PM.get H' 4 = some (.cells (labs R.ls) true)) (r5 : PM.get H' 5 = some (.cells (ints R.q.times) true)) (r6 : PM.get H' 6 = some (.cells (txts R.fs) true)) : ∃ v2 H2 n2, VTo u v2 ∧ Recast H' n' H2 n2 ∧ RdK v R v2 H2 n2 :=
  ⟨v, _, n', hv, Recast.mkCells h0, rfl, by rw [hm]; exact PM.get_setZ, PM.get_set_ne _ _ _ _ (by decide) (by decide) r1, PM.get_set_ne _ _ _ _ (by decide) (by decide) r2, PM.get_set_ne _ _ _ _ (by decide) (by decide) r3, PM.get_set_ne _ _ _ _ (by decide) (by decide) r4, PM.get_set_ne _ _ _ _ (by decide) (by decide) r5, PM.get_set_ne _ _ _ _ (by decide) (by decide) r6⟩
noncomputable def rdSetK (H : AH) (r k t v l q f : Nat) (R' : Rd) : AH := PM.set (some (.cells (rdC k t v l q f R') true)) depthH (PM.set (some (.cells (txts R'.ks) true)) depthH (PM.set (some (.cells (ints R'.ts) true)) depthH (PM.set (some (.cells (ints R'.vs) true)) depthH (PM.set (some (.cells (labs R'.ls) true)) depthH (PM.set (some (.cells (ints R'.q.times) true)) depthH (PM.set (some (.cells (txts R'.fs) true)) depthH H f) q) l) v) t) k) r
/-- A function that leaves a reader's rows. -/
def natRdK (ok : Rd → Prop) (A : List AV → Prop) (F : Rd → AV × Rd) (args : List AV) (H : AH) (n : Nat) (κ : PK) : Prop := match args with
  | x :: ar => ∃ (r k t v l q f : Nat) (R : Rd), x = .ptr r 0 ∧ A ar ∧ RdAt H n r k t v l q f R ∧ ok R ∧ κ (F R).1 (rdSetK H r k t v l q f (F R).2) n
  | _ => False
theorem natRdK_of {f : FuncId} {run : List AV → AH → Nat → PK → Prop} (hrun : NatP f run) (hic : isCall Try.prog f = true) {ok : Rd → Prop} {A : List AV → Prop} {ar0 : List AV} {F : Rd → AV × Rd} (hA : ∀ ar, A ar → ∀ (φ : Ph) (vs : List Value), VRs φ ar vs → VRs φ ar0 vs) (has : ∀ r, renL r ar0 = ar0)
    (hv : ∀ R, ltV 7 (F R).1 = true ∧ ∀ r, ren r (F R).1 = (F R).1) (h : ∀ R, ok R → post run (.ptr 0 0 :: ar0) (mkH (memO (rdO R) 0)) 7 (RdK (F R).1 (F R).2)) : NatP f (natRdK ok A F) := fun args H n κ hs φ h0' hp vs K hr hargs hk => by
  unfold natRdK at hs
  split at hs
  · rename_i x ar
    obtain ⟨r, k, t, v, l, q, f, R, rfl, ha, hR, hok, hs⟩ := hs
    obtain ⟨v1, us, e1, e2, e3⟩ := hargs.cons_inv
    have hargs' : VRs φ (renL (nmOf [r, k, t, v, l, q, f] n) (.ptr 0 0 :: ar0)) vs.toList := by
      show VRs φ (ren _ _ :: renL _ ar0) vs.toList
      rw [has, e1]
      exact .cons e2 (hA ar ha φ us e3)
    refine framed (S := [r, k, t, v, l, q, f]) (O := rdO R) (args0 := .ptr 0 0 :: ar0) (NatP.post hrun) hic hr hR.hands hargs' hk (h R hok) fun u H' n' ⟨g0, g1, g2, g3, g4, g5, g6, g7⟩ => ?_
    subst g0
    refine ⟨7, putH [r, k, t, v, l, q, f] n H [(0, some (.cells (rdC 1 2 3 4 5 6 (F R).2) true)), (1, some (.cells (txts (F R).2.ks) true)), (2, some (.cells (ints (F R).2.ts) true)), (3, some (.cells (ints (F R).2.vs) true)), (4, some (.cells (labs (F R).2.ls) true)), (5, some (.cells (ints (F R).2.q.times) true)), (6, some (.cells (txts (F R).2.fs) true))], Nat.le_refl _, After.put (Nat.le_refl _) rfl (fun x hx o ho => ?_), (hv R).1, ?_⟩
    · simp only [List.mem_cons, List.not_mem_nil, or_false] at hx
      rcases hx with rfl | rfl | rfl | rfl | rfl | rfl | rfl
      · injection ho with ho; subst ho; exact ⟨g1, rfl, rfl⟩
      · injection ho with ho; subst ho; exact ⟨g2, rfl, ltL_flat _ _ (txts_flat _)⟩
      · injection ho with ho; subst ho; exact ⟨g3, rfl, ltL_flat _ _ (ints_flat _)⟩
      · injection ho with ho; subst ho; exact ⟨g4, rfl, ltL_flat _ _ (ints_flat _)⟩
      · injection ho with ho; subst ho; exact ⟨g5, rfl, ltL_flat _ _ (labs_flat _)⟩
      · injection ho with ho; subst ho; exact ⟨g6, rfl, ltL_flat _ _ (ints_flat _)⟩
      · injection ho with ho; subst ho; exact ⟨g7, rfl, ltL_flat _ _ (txts_flat _)⟩
    · rw [(hv R).2]
      have e : putH [r, k, t, v, l, q, f] n H [(0, some (.cells (rdC 1 2 3 4 5 6 (F R).2) true)), (1, some (.cells (txts (F R).2.ks) true)), (2, some (.cells (ints (F R).2.ts) true)), (3, some (.cells (ints (F R).2.vs) true)), (4, some (.cells (labs (F R).2.ls) true)), (5, some (.cells (ints (F R).2.q.times) true)), (6, some (.cells (txts (F R).2.fs) true))] = rdSetK H r k t v l q f (F R).2 := by
        simp only [putH, Option.map_some, renO, rdC_ren, renL_flat _ _ (txts_flat _), renL_flat _ _ (ints_flat _), renL_flat _ _ (labs_flat _)]
        rfl
      rw [e]; exact hs
  · exact hs.elim
end Go.Proofs.Ytdfeigkooeeeaaa
namespace Go.Proofs.Ytdfeigkooeeeaaa
open Go Go.RowKit
set_option maxRecDepth 20000
def loC (c : Nat) : Nat := if 65 ≤ c ∧ c ≤ 90 then c + 32 else c
def loF (s : List Nat) : List Nat := s.map loC
/-! ### letters made small -/
def loTp (s : List Nat) (i : Nat) : List Nat := (s.take i).map loC ++ s.drop i
theorem loTp_length (s : List Nat) (i : Nat) : (loTp s i).length = s.length := by simp [loTp]; omega
theorem loTp_at {s : List Nat} {i : Nat} (h : i < s.length) : (loTp s i)[i]? = some s[i] := by
  unfold loTp
  rw [List.getElem?_append_right (by simp; omega), List.getElem?_drop]
  simp [Nat.min_eq_left (Nat.le_of_lt h), h]
theorem loTp_succ {s : List Nat} {i : Nat} (h : i < s.length) : loTp s (i + 1) = (loTp s i).set i (loC s[i]) := by
  unfold loTp
  rw [List.take_succ_eq_append_getElem h, List.map_append, List.set_append, if_neg (by simp; omega)]
  have hd := List.drop_eq_getElem_cons h
  have hz : i - (List.map loC (List.take i s)).length = 0 := by simp; omega
  rw [hz, hd, List.append_assoc]; rfl
theorem loTp_same {s : List Nat} {i : Nat} (h : i < s.length) (e : loC s[i] = s[i]) : loTp s (i + 1) = loTp s i := by
  rw [loTp_succ h, e]
  apply List.ext_getElem?
  intro j
  by_cases hj : j = i
  · subst hj; rw [loTp_at h]; simp [loTp_length, h]
  · rw [List.getElem?_set_ne (Ne.symm hj)]
theorem loTp_all (s : List Nat) : loTp s s.length = loF s := by simp [loTp, loF]
theorem loF_lt {s : List Nat} (h : ∀ c ∈ s, c < 256) : ∀ c ∈ loF s, c < 256 := fun c hc => by
  obtain ⟨a, ha, rfl⟩ := List.mem_map.1 hc
  have := h a ha
  unfold loC
  split <;> omega
noncomputable def lob (s : List Nat) (i : Nat) : AE × AH := (mkE [(3, .sy 0 0 s.length s.length 1), (8, .sy 0 0 s.length s.length 1), (9, .si .i64 (((s.length : Nat) : Int))), (10, .si .i64 (((i : Nat) : Int)))], mkH [(0, .cells (bytA (loTp s i)) false)])
theorem lob_cov {s : List Nat} {i : Nat} {p n : Nat} {σ : AE} {H : AH} {l0 : List AV} (hp : p ≤ 0) (e3 : mk (getq (pa 3) σ) = .sy 0 0 s.length s.length 1) (e8 : mk (getq (pa 8) σ) = .sy 0 0 s.length s.length 1) (e9 : mk (getq (pa 9) σ) = .si .i64 (((s.length : Nat) : Int))) (e10 : mk (getq (pa 10) σ) = .si .i64 (((i : Nat) : Int))) (h0 : H.get 0 = some (.cells l0 false)) (g0 : l0.map mk = bytA (loTp s i)) : Cov p σ H n ((lob s i).1, (lob s i).2, 1) := by
  refine Cov.ofR (fun b => b) (by omega) (fun b hb => rfl) ?_ ?_ ?_
  · intro x hx
    simp only [List.mem_cons, List.not_mem_nil, or_false] at hx
    rcases hx with rfl | rfl | rfl | rfl
    · exact .sy (by decide) e3
    · exact .sy (by decide) e8
    · exact .int e9
    · exact .int e10
  · intro x hx
    simp only [List.mem_cons, List.not_mem_nil, or_false] at hx
    subst hx
    exact ⟨by simp, .inl ⟨_, h0, SubO.cells_mk (bytA_flat _) (by rw [g0, bytA_map]) (fun q => q)⟩⟩
  · intro x hx y hy
    simp only [List.mem_cons, List.not_mem_nil, or_false] at hx hy
    subst hx hy
    exact fun q => rfl
noncomputable def KLo : FuncId → EP := withD 78 [] evP
theorem KLo_ok : TabP KLo := withD_ok evP_ok (by kernel_rfl) (by kernel_rfl)
set_option maxHeartbeats 4000000 in
set_option maxRecDepth 100000 in
theorem lo_run (s : List Nat) (hs : ∀ c ∈ s, c < 256) (hl : s.length ≤ 1000000) : callT KLo 3 78 [.ss s] .nil 0 fun u _ _ => mkT u = mkT (.ss (loF s)) := by
  conv => whnf
  refine Ask.mk (.sl 0 0 s.length s.length 1, _, 1) rfl ?_
  conv => whnf
  refine LoopP.mk { i : Nat // i ≤ s.length } 1 (fun i => lob s i.val) (fun i => s.length - i.val) ⟨0, Nat.zero_le _⟩ ?_ ?_
  · exact lob_cov (Nat.le_refl 0) rfl rfl rfl rfl rfl (by simp [loTp, bytA, mk])
  · intro ⟨i, hi⟩
    have hsub : subL (bytA (loTp s i)) 0 (s.length * 1) = some (bytA (loTp s i)) := subL_all (by rw [bytA_length, loTp_length, Nat.mul_one])
    conv => whnf
    refine Fork.dec (fun h => ?_) (fun h => ?_)
    · have hi2 : i < s.length := by exact Int.ofNat_lt.1 h
      have hc := hs _ (List.getElem_mem hi2)
      have hi1 : IntKind.i64.wrap ((i : Int) + 1) = ((i + 1 : Nat) : Int) := W64_of ⟨by omega, by omega⟩
      have hnth : nth (bytA (loTp s i)) (0 + i * 1) = some (.si .u8 (Int.ofNat s[i])) := by
        rw [nth_eq, Nat.zero_add, Nat.mul_one]
        simp only [bytA, List.getElem?_map, loTp_at hi2]; rfl
      have hset : 65 ≤ s[i] → s[i] ≤ 90 → setL (bytA (loTp s i)) (0 + i * 1) [.si .u8 (IntKind.u8.wrap (Int.ofNat s[i] + 32))] = some (bytA (loTp s (i + 1))) := fun h1 h2 => by
        rw [Nat.zero_add, Nat.mul_one, setL_one _ _ _ (by rw [bytA_length, loTp_length]; exact hi2)]
        have e : IntKind.u8.wrap (Int.ofNat s[i] + 32) = Int.ofNat (loC s[i]) := by
          unfold loC; rw [if_pos ⟨h1, h2⟩]
          simp [IntKind.wrap, IntKind.bits, IntKind.signed]
          omega
        rw [e, bytA_set, ← loTp_succ hi2]
      have hsame : ¬ (65 ≤ s[i] ∧ s[i] ≤ 90) → (bytA (loTp s i)).map mk = bytA (loTp s (i + 1)) := fun q => by
        rw [loTp_same hi2 (by unfold loC; rw [if_neg q]), bytA_map]
      conv => whnf
      refine Idx.mk i rfl hi2 ?_
      conv => whnf
      refine optP_of hnth ?_
      conv => whnf
      refine Fork.dec (fun h1 => ?_) (fun h1 => ?_)
      · have h1 : 65 ≤ s[i] := by exact Int.ofNat_le.1 h1
        conv => whnf
        refine Fork.dec (fun h2 => ?_) (fun h2 => ?_)
        · have h2 : s[i] ≤ 90 := by exact Int.ofNat_le.1 h2
          conv => whnf
          refine Idx.mk i rfl hi2 ?_
          conv => whnf
          refine optP_of (hset h1 h2) ?_
          conv => whnf
          exact ⟨⟨i + 1, hi2⟩, (show s.length - (i + 1) < s.length - i by omega), lob_cov (Nat.le_refl 0) rfl rfl rfl (congrArg (AV.si .i64) hi1) rfl (bytA_map _)⟩
        · have h2 : ¬ s[i] ≤ 90 := fun q => h2 (by exact Int.ofNat_le.2 q)
          conv => whnf
          exact ⟨⟨i + 1, hi2⟩, (show s.length - (i + 1) < s.length - i by omega), lob_cov (Nat.le_refl 0) rfl rfl rfl (congrArg (AV.si .i64) hi1) rfl (hsame fun q => h2 q.2)⟩
      · have h1 : ¬ 65 ≤ s[i] := fun q => h1 (by exact Int.ofNat_le.2 q)
        conv => whnf
        exact ⟨⟨i + 1, hi2⟩, (show s.length - (i + 1) < s.length - i by omega), lob_cov (Nat.le_refl 0) rfl rfl rfl (congrArg (AV.si .i64) hi1) rfl (hsame fun q => h1 q.1)⟩
    · have hi3 : i = s.length := by have : ¬ i < s.length := fun q => h (Int.ofNat_lt.2 q); omega
      have hconv : (subL (bytA (loTp s i)) 0 s.length).bind ebytes = some (loF s) := by
        rw [hi3, loTp_all, subL_all (by rw [bytA_length]; simp [loF])]
        exact ebytes_bytA (loF_lt hs)
      conv => whnf
      refine Ask.mk (.str (loF s), _, _) (congrArg (Option.map fun s => (AV.str s, _, _)) hconv) ?_
      conv => whnf
      rfl
def natLo (args : List AV) (H : AH) (n : Nat) (κ : PK) : Prop := match args with
  | [x] => ∃ s, mk x = .ss s ∧ (∀ c ∈ s, c < 256) ∧ s.length ≤ 1000000 ∧ κ (.ss (loF s)) H n
  | _ => False
theorem n_lower : NatP 78 natLo := fun args H n κ hs φ h0' hp vs K hr hargs hk => by
  unfold natLo at hs
  split at hs
  · obtain ⟨x, rfl, e1⟩ := vs1 hargs
    obtain ⟨s, hx, h1, h2, hs⟩ := hs
    exact smallN KLo_ok (v := .ss (loF s)) rfl (lo_run s h1 h2) hs hr hk (by kernel_rfl) HR.ro0 (.cons (flat1_VR rfl (hx ▸ e1.mk)) .nil)
  · exact hs.elim
theorem singLo : SingG natLo := .pure fun args H n κ hs => by
  unfold natLo at *
  split at hs
  · obtain ⟨s, h1, h2, h3, h4⟩ := hs
    exact ⟨_, h4, fun κ' h => ⟨s, h1, h2, h3, h⟩⟩
  · exact hs.elim
/-! ### alike, but for letters' cases -/
noncomputable def alk (s : List Nat) (m : List Nat) (i : Nat) : AE × AH := (mkE [(0, .ss (s)), (1, .ss (m)), (13, .si .i64 (((s.length : Nat) : Int))), (14, .si .i64 (((i : Nat) : Int)))], mkH [])
theorem alk_cov {s : List Nat} {m : List Nat} {i : Nat} {p n : Nat} {σ : AE} {H : AH} (hp : p ≤ 0) (e0 : mk (getq (pa 0) σ) = .ss (s)) (e1 : mk (getq (pa 1) σ) = .ss (m)) (e13 : mk (getq (pa 13) σ) = .si .i64 (((s.length : Nat) : Int))) (e14 : mk (getq (pa 14) σ) = .si .i64 (((i : Nat) : Int))) : Cov p σ H n ((alk s m i).1, (alk s m i).2, 0) := by
  refine Cov.ofR (fun b => b) (by omega) (fun b hb => rfl) ?_ ?_ ?_
  · intro x hx
    simp only [List.mem_cons, List.not_mem_nil, or_false] at hx
    rcases hx with rfl | rfl | rfl | rfl
    · exact .str e0
    · exact .str e1
    · exact .int e13
    · exact .int e14
  · intro x hx
    cases hx
  · intro x hx y hy
    cases hx
noncomputable def KAk : FuncId → EP := withD 76 [] evP
theorem KAk_ok : TabP KAk := withD_ok evP_ok (by kernel_rfl) (by kernel_rfl)
theorem nth_sA {s : List Nat} {i : Nat} (h : i < s.length) : nth s i = some s[i] := by rw [nth_eq, List.getElem?_eq_getElem h]
set_option maxHeartbeats 8000000 in
set_option maxRecDepth 100000 in
theorem alk_run (s m : List Nat) (hs : ∀ c ∈ s, c < 256) (hl : s.length ≤ 1000000) : callT KAk 3 76 [.ss s, .ss m] .nil 0 fun u _ _ => mkT u = mkT (.sb (beqL m (upF s))) := by
  have no : m ≠ upF s → mkT (AV.sb false) = mkT (.sb (beqL m (upF s))) := fun h => by
    cases q : beqL m (upF s) with
    | false => rfl
    | true => exact absurd (beqL_is.1 q) h
  conv => whnf
  refine Fork.ndec (fun hne => ?_) (fun heq => ?_)
  · have e := no (fun q => hne (by rw [q]; simp [upF]))
    conv => whnf
    exact e
  · have hlen : s.length = m.length := by exact Int.ofNat_inj.1 heq
    conv => whnf
    refine LoopP.mk { i : Nat // i ≤ s.length ∧ (upF s).take i = m.take i } 0 (fun i => alk s m i.val) (fun i => s.length - i.val) ⟨0, Nat.zero_le _, rfl⟩ ?_ ?_
    · exact alk_cov (i := 0) (Nat.le_refl 0) rfl rfl rfl rfl
    · intro ⟨i, hi, ht⟩
      conv => whnf
      refine Fork.dec (fun h => ?_) (fun h => ?_)
      · have hi2 : i < s.length := by exact Int.ofNat_lt.1 h
        have hi3 : i < m.length := hlen ▸ hi2
        have hc := hs _ (List.getElem_mem hi2)
        have hi1 : IntKind.i64.wrap ((i : Int) + 1) = ((i + 1 : Nat) : Int) := W64_of ⟨by omega, by omega⟩
        have hlt : s.length - (i + 1) < s.length - i := by omega
        have hui : i < (upF s).length := by simp [upF]; exact hi2
        have hu : (upF s)[i] = upC s[i] := by simp [upF]
        have hsn : upC s[i] = m[i] → (upF s).take (i + 1) = m.take (i + 1) := fun q => by
          rw [List.take_succ_eq_append_getElem hui, List.take_succ_eq_append_getElem hi3, ht, hu, q]
        have hbad : upC s[i] ≠ m[i] → mkT (AV.sb false) = mkT (.sb (beqL m (upF s))) := fun q => no (fun e => q (by simp only [e, hu]))
        have hup : 97 ≤ s[i] → s[i] ≤ 122 → IntKind.u8.wrap (Int.ofNat s[i] - 32) = Int.ofNat (upC s[i]) := fun h1 h2 => by
          unfold upC; rw [if_pos ⟨h1, h2⟩]
          simp [IntKind.wrap, IntKind.bits, IntKind.signed]
          omega
        have hno : ¬ (97 ≤ s[i] ∧ s[i] ≤ 122) → upC s[i] = s[i] := fun q => by unfold upC; rw [if_neg q]
        conv => whnf
        refine Idx.mk i rfl hi2 ?_
        conv => whnf
        refine Ask.mk s[i] (nth_sA hi2) ?_
        conv => whnf
        refine Fork.dec (fun h1 => ?_) (fun h1 => ?_)
        · have h1 : 97 ≤ s[i] := by exact Int.ofNat_le.1 h1
          conv => whnf
          refine Fork.dec (fun h2 => ?_) (fun h2 => ?_)
          · have h2 : s[i] ≤ 122 := by exact Int.ofNat_le.1 h2
            have hup := hup h1 h2
            conv => whnf
            refine Idx.mk i rfl hi3 ?_
            conv => whnf
            refine Ask.mk m[i] (nth_sA hi3) ?_
            conv => whnf
            refine Fork.ndec (fun q => ?_) (fun q => ?_)
            · have e := hbad (fun k => q (by rw [hup, k]))
              conv => whnf
              exact e
            · have e := hsn (Int.ofNat_inj.1 (hup.symm.trans q))
              conv => whnf
              exact ⟨⟨i + 1, hi2, e⟩, hlt, alk_cov (Nat.le_refl 0) rfl rfl rfl (congrArg (AV.si .i64) hi1)⟩
          · have h2 : ¬ s[i] ≤ 122 := fun q => h2 (by exact Int.ofNat_le.2 q)
            have hno := hno (fun q => h2 q.2)
            conv => whnf
            refine Idx.mk i rfl hi3 ?_
            conv => whnf
            refine Ask.mk m[i] (nth_sA hi3) ?_
            conv => whnf
            refine Fork.ndec (fun q => ?_) (fun q => ?_)
            · have e := hbad (fun k => q (by rw [← hno, k]))
              conv => whnf
              exact e
            · have e := hsn (by rw [hno]; exact Int.ofNat_inj.1 q)
              conv => whnf
              exact ⟨⟨i + 1, hi2, e⟩, hlt, alk_cov (Nat.le_refl 0) rfl rfl rfl (congrArg (AV.si .i64) hi1)⟩
        · have h1 : ¬ 97 ≤ s[i] := fun q => h1 (by exact Int.ofNat_le.2 q)
          have hno := hno (fun q => h1 q.1)
          conv => whnf
          refine Idx.mk i rfl hi3 ?_
          conv => whnf
          refine Ask.mk m[i] (nth_sA hi3) ?_
          conv => whnf
          refine Fork.ndec (fun q => ?_) (fun q => ?_)
          · have e := hbad (fun k => q (by rw [← hno, k]))
            conv => whnf
            exact e
          · have e := hsn (by rw [hno]; exact Int.ofNat_inj.1 q)
            conv => whnf
            exact ⟨⟨i + 1, hi2, e⟩, hlt, alk_cov (Nat.le_refl 0) rfl rfl rfl (congrArg (AV.si .i64) hi1)⟩
      · have hi3 : i = s.length := by have : ¬ i < s.length := fun q => h (Int.ofNat_lt.2 q); omega
        have e : mkT (AV.sb true) = mkT (.sb (beqL m (upF s))) := by
          have : m = upF s := by
            rw [hi3, hlen, List.take_length, List.take_of_length_le (by simp [upF]; omega)] at ht
            exact ht.symm
          rw [beqL_is.2 this]
        conv => whnf
        exact e
def natAk (args : List AV) (H : AH) (n : Nat) (κ : PK) : Prop := match args with
  | [x, y] => ∃ s m, mk x = .ss s ∧ mk y = .ss m ∧ (∀ c ∈ s, c < 256) ∧ s.length ≤ 1000000 ∧ κ (.sb (beqL m (upF s))) H n
  | _ => False
theorem n_alike : NatP 76 natAk := fun args H n κ hs φ h0' hp vs K hr hargs hk => by
  unfold natAk at hs
  split at hs
  · obtain ⟨x, y, rfl, e1, e2⟩ := vs2 hargs
    obtain ⟨s, m, hx, hy, h1, h2, hs⟩ := hs
    exact smallN KAk_ok (v := .sb (beqL m (upF s))) rfl (alk_run s m h1 h2) hs hr hk (by kernel_rfl) HR.ro0 (.cons (flat1_VR rfl (hx ▸ e1.mk)) (.cons (flat1_VR rfl (hy ▸ e2.mk)) .nil))
  · exact hs.elim
def polN : List (Nat × List Nat) := [(1, [66, 76, 79, 67, 75]), (2, [70, 73, 82, 83, 84]), (3, [76, 65, 83, 84]), (4, [77, 73, 78]), (5, [77, 65, 88]), (6, [83, 85, 77])]
def aggN : List (Nat × List Nat) := [(1, [115, 117, 109]), (2, [109, 105, 110]), (3, [109, 97, 120]), (4, [99, 111, 117, 110, 116]), (5, [102, 105, 114, 115, 116]), (6, [108, 97, 115, 116]), (7, [114, 97, 110, 103, 101])]
noncomputable def polF (s : List Nat) : Int × Int := if whF polN (upF s) = 0 then (0, 17) else ((whF polN (upF s) : Nat), 0)
noncomputable def aggF (s : List Nat) : Int × Int := if whF aggN (loF s) = 0 then (0, 17) else ((whF aggN (loF s) : Nat), 0)
noncomputable def KPp : FuncId → EP := withN 76 natAk evP
theorem KPp_ok : TabP KPp := withN_ok evP_ok n_alike
set_option maxHeartbeats 8000000 in
set_option maxRecDepth 100000 in
theorem polp_run (s : List Nat) (hs : ∀ c ∈ s, c < 256) (hl : s.length ≤ 1000000) : callT KPp 4 65 [.ss s] .nil 0 fun u _ _ => mkT u = mkT (.tup [.si .i64 (polF s).1, .si .i64 (polF s).2]) := by
  have key : ∀ {x y : Int}, polF s = (x, y) → mkT (.tup [.si .i64 x, .si .i64 y]) = mkT (.tup [.si .i64 (polF s).1, .si .i64 (polF s).2]) := fun e => by rw [e]
  conv => whnf
  refine LoopP.roll 8 ?_
  conv => whnf
  refine ⟨s, [66, 76, 79, 67, 75], rfl, rfl, hs, hl, ?_⟩
  conv => whnf
  refine Fork.sb (fun q1 => ?_) (fun q1 => ?_)
  · have q1 : beqL [66, 76, 79, 67, 75] (upF s) = true := q1
    have w : whF polN (upF s) = 1 := by simp only [polN, whF, q1]
    have e := key (x := 1) (y := 0) (by unfold polF; rw [w]; rfl)
    conv => whnf
    exact e
  have q1 : beqL [66, 76, 79, 67, 75] (upF s) = false := q1
  conv => whnf
  refine ⟨s, [70, 73, 82, 83, 84], rfl, rfl, hs, hl, ?_⟩
  conv => whnf
  refine Fork.sb (fun q2 => ?_) (fun q2 => ?_)
  · have q2 : beqL [70, 73, 82, 83, 84] (upF s) = true := q2
    have w : whF polN (upF s) = 2 := by simp only [polN, whF, q1, q2]
    have e := key (x := 2) (y := 0) (by unfold polF; rw [w]; rfl)
    conv => whnf
    exact e
  have q2 : beqL [70, 73, 82, 83, 84] (upF s) = false := q2
  conv => whnf
  refine ⟨s, [76, 65, 83, 84], rfl, rfl, hs, hl, ?_⟩
  conv => whnf
  refine Fork.sb (fun q3 => ?_) (fun q3 => ?_)
  · have q3 : beqL [76, 65, 83, 84] (upF s) = true := q3
    have w : whF polN (upF s) = 3 := by simp only [polN, whF, q1, q2, q3]
    have e := key (x := 3) (y := 0) (by unfold polF; rw [w]; rfl)
    conv => whnf
    exact e
  have q3 : beqL [76, 65, 83, 84] (upF s) = false := q3
  conv => whnf
  refine ⟨s, [77, 73, 78], rfl, rfl, hs, hl, ?_⟩
  conv => whnf
  refine Fork.sb (fun q4 => ?_) (fun q4 => ?_)
  · have q4 : beqL [77, 73, 78] (upF s) = true := q4
    have w : whF polN (upF s) = 4 := by simp only [polN, whF, q1, q2, q3, q4]
    have e := key (x := 4) (y := 0) (by unfold polF; rw [w]; rfl)
    conv => whnf
    exact e
  have q4 : beqL [77, 73, 78] (upF s) = false := q4
  conv => whnf
  refine ⟨s, [77, 65, 88], rfl, rfl, hs, hl, ?_⟩
  conv => whnf
  refine Fork.sb (fun q5 => ?_) (fun q5 => ?_)
  · have q5 : beqL [77, 65, 88] (upF s) = true := q5
    have w : whF polN (upF s) = 5 := by simp only [polN, whF, q1, q2, q3, q4, q5]
    have e := key (x := 5) (y := 0) (by unfold polF; rw [w]; rfl)
    conv => whnf
    exact e
  have q5 : beqL [77, 65, 88] (upF s) = false := q5
  conv => whnf
  refine ⟨s, [83, 85, 77], rfl, rfl, hs, hl, ?_⟩
  conv => whnf
  refine Fork.sb (fun q6 => ?_) (fun q6 => ?_)
  · have q6 : beqL [83, 85, 77] (upF s) = true := q6
    have w : whF polN (upF s) = 6 := by simp only [polN, whF, q1, q2, q3, q4, q5, q6]
    have e := key (x := 6) (y := 0) (by unfold polF; rw [w]; rfl)
    conv => whnf
    exact e
  have q6 : beqL [83, 85, 77] (upF s) = false := q6
  have w : whF polN (upF s) = 0 := by simp only [polN, whF, q1, q2, q3, q4, q5, q6]
  have e := key (x := 0) (y := 17) (by unfold polF; rw [w]; rfl)
  conv => whnf
  exact e
def natPp (args : List AV) (H : AH) (n : Nat) (κ : PK) : Prop := match args with
  | [x] => ∃ s, mk x = .ss s ∧ (∀ c ∈ s, c < 256) ∧ s.length ≤ 1000000 ∧ κ (.tup [.si .i64 (polF s).1, .si .i64 (polF s).2]) H n
  | _ => False
theorem n_polp : NatP 65 natPp := fun args H n κ hs φ h0' hp vs K hr hargs hk => by
  unfold natPp at hs
  split at hs
  · obtain ⟨x, rfl, e1⟩ := vs1 hargs
    obtain ⟨s, hx, h1, h2, hs⟩ := hs
    exact smallN KPp_ok (v := .tup [.si .i64 (polF s).1, .si .i64 (polF s).2]) rfl (polp_run s h1 h2) hs hr hk (by kernel_rfl) HR.ro0 (.cons (flat1_VR rfl (hx ▸ e1.mk)) .nil)
  · exact hs.elim
noncomputable def KAp : FuncId → EP := withN 78 natLo evP
theorem KAp_ok : TabP KAp := withN_ok evP_ok n_lower
set_option maxHeartbeats 8000000 in
set_option maxRecDepth 100000 in
theorem aggp_run (s : List Nat) (hs : ∀ c ∈ s, c < 256) (hl : s.length ≤ 1000000) : callT KAp 4 72 [.ss s] .nil 0 fun u _ _ => mkT u = mkT (.tup [.si .i64 (aggF s).1, .si .i64 (aggF s).2]) := by
  have key : ∀ {x y : Int}, aggF s = (x, y) → mkT (.tup [.si .i64 x, .si .i64 y]) = mkT (.tup [.si .i64 (aggF s).1, .si .i64 (aggF s).2]) := fun e => by rw [e]
  conv => whnf
  refine LoopP.roll 9 ?_
  conv => whnf
  refine ⟨s, rfl, hs, hl, ?_⟩
  conv => whnf
  refine Fork.sb (fun q1 => ?_) (fun q1 => ?_)
  · have q1 : beqL [115, 117, 109] (loF s) = true := q1
    have w : whF aggN (loF s) = 1 := by simp only [aggN, whF, q1]
    have e := key (x := 1) (y := 0) (by unfold aggF; rw [w]; rfl)
    conv => whnf
    exact e
  have q1 : beqL [115, 117, 109] (loF s) = false := q1
  conv => whnf
  refine ⟨s, rfl, hs, hl, ?_⟩
  conv => whnf
  refine Fork.sb (fun q2 => ?_) (fun q2 => ?_)
  · have q2 : beqL [109, 105, 110] (loF s) = true := q2
    have w : whF aggN (loF s) = 2 := by simp only [aggN, whF, q1, q2]
    have e := key (x := 2) (y := 0) (by unfold aggF; rw [w]; rfl)
    conv => whnf
    exact e
  have q2 : beqL [109, 105, 110] (loF s) = false := q2
  conv => whnf
  refine ⟨s, rfl, hs, hl, ?_⟩
  conv => whnf
  refine Fork.sb (fun q3 => ?_) (fun q3 => ?_)
  · have q3 : beqL [109, 97, 120] (loF s) = true := q3
    have w : whF aggN (loF s) = 3 := by simp only [aggN, whF, q1, q2, q3]
    have e := key (x := 3) (y := 0) (by unfold aggF; rw [w]; rfl)
    conv => whnf
    exact e
  have q3 : beqL [109, 97, 120] (loF s) = false := q3
  conv => whnf
  refine ⟨s, rfl, hs, hl, ?_⟩
  conv => whnf
  refine Fork.sb (fun q4 => ?_) (fun q4 => ?_)
  · have q4 : beqL [99, 111, 117, 110, 116] (loF s) = true := q4
    have w : whF aggN (loF s) = 4 := by simp only [aggN, whF, q1, q2, q3, q4]
    have e := key (x := 4) (y := 0) (by unfold aggF; rw [w]; rfl)
    conv => whnf
    exact e
  have q4 : beqL [99, 111, 117, 110, 116] (loF s) = false := q4
  conv => whnf
  refine ⟨s, rfl, hs, hl, ?_⟩
  conv => whnf
  refine Fork.sb (fun q5 => ?_) (fun q5 => ?_)
  · have q5 : beqL [102, 105, 114, 115, 116] (loF s) = true := q5
    have w : whF aggN (loF s) = 5 := by simp only [aggN, whF, q1, q2, q3, q4, q5]
    have e := key (x := 5) (y := 0) (by unfold aggF; rw [w]; rfl)
    conv => whnf
    exact e
  have q5 : beqL [102, 105, 114, 115, 116] (loF s) = false := q5
  conv => whnf
  refine ⟨s, rfl, hs, hl, ?_⟩
  conv => whnf
  refine Fork.sb (fun q6 => ?_) (fun q6 => ?_)
  · have q6 : beqL [108, 97, 115, 116] (loF s) = true := q6
    have w : whF aggN (loF s) = 6 := by simp only [aggN, whF, q1, q2, q3, q4, q5, q6]
    have e := key (x := 6) (y := 0) (by unfold aggF; rw [w]; rfl)
    conv => whnf
    exact e
  have q6 : beqL [108, 97, 115, 116] (loF s) = false := q6
  conv => whnf
  refine ⟨s, rfl, hs, hl, ?_⟩
  conv => whnf
  refine Fork.sb (fun q7 => ?_) (fun q7 => ?_)
  · have q7 : beqL [114, 97, 110, 103, 101] (loF s) = true := q7
    have w : whF aggN (loF s) = 7 := by simp only [aggN, whF, q1, q2, q3, q4, q5, q6, q7]
    have e := key (x := 7) (y := 0) (by unfold aggF; rw [w]; rfl)
    conv => whnf
    exact e
  have q7 : beqL [114, 97, 110, 103, 101] (loF s) = false := q7
  have w : whF aggN (loF s) = 0 := by simp only [aggN, whF, q1, q2, q3, q4, q5, q6, q7]
  have e := key (x := 0) (y := 17) (by unfold aggF; rw [w]; rfl)
  conv => whnf
  exact e
def natAp (args : List AV) (H : AH) (n : Nat) (κ : PK) : Prop := match args with
  | [x] => ∃ s, mk x = .ss s ∧ (∀ c ∈ s, c < 256) ∧ s.length ≤ 1000000 ∧ κ (.tup [.si .i64 (aggF s).1, .si .i64 (aggF s).2]) H n
  | _ => False
theorem n_aggp : NatP 72 natAp := fun args H n κ hs φ h0' hp vs K hr hargs hk => by
  unfold natAp at hs
  split at hs
  · obtain ⟨x, rfl, e1⟩ := vs1 hargs
    obtain ⟨s, hx, h1, h2, hs⟩ := hs
    exact smallN KAp_ok (v := .tup [.si .i64 (aggF s).1, .si .i64 (aggF s).2]) rfl (aggp_run s h1 h2) hs hr hk (by kernel_rfl) HR.ro0 (.cons (flat1_VR rfl (hx ▸ e1.mk)) .nil)
  · exact hs.elim
end Go.Proofs.Ytdfeigkooeeeaaa
namespace Go.Proofs.Ytdfeigkooeeeaaa
open Go Go.RowKit
set_option maxRecDepth 20000
theorem VTo.mkv {u v : AV} (h : mk u = v) : VTo u v := fun φ w hu => by rw [← h]; exact hu.mk
def moreR (R : Rd) : Bool := decide (R.e = 0) && decide (0 < R.ws.length)
def failR (R : Rd) (e : Int) : Rd := if R.e = 0 then { R with e := e } else R
def nextR (R : Rd) : List Nat × Rd := if moreR R = true then (R.ws.headD [], { R with ws := R.ws.tail }) else ([], failR R 14)
def nextV (R : Rd) : AV × Rd := (.ss (nextR R).1, (nextR R).2)
noncomputable def atR (w : List Nat) (R : Rd) : Bool := moreR R && beqL (upF (R.ws.headD [])) w
noncomputable def hasR (w : List Nat) (R : Rd) : AV × Rd := if atR w R = true then (.sb true, (nextR R).2) else (.sb false, R)
noncomputable def mustR (w : List Nat) (R : Rd) : AV × Rd := (.tup [], if beqL (upF (nextR R).1) w = true then (nextR R).2 else failR (nextR R).2 17)
def toldR (g : List Nat → Int × Int) (R : Rd) : Int × Rd := ((g (nextR R).1).1, if (g (nextR R).1).2 = 0 then (nextR R).2 else failR (nextR R).2 (g (nextR R).1).2)
def toldV (g : List Nat → Int × Int) (R : Rd) : AV × Rd := (.si .i64 (toldR g R).1, (toldR g R).2)
def posR (R : Rd) : Int × Rd := ((toldR numF R).1, if (toldR numF R).1 < 0 then failR (toldR numF R).2 16 else (toldR numF R).2)
def posV (R : Rd) : AV × Rd := (.si .i64 (posR R).1, (posR R).2)
noncomputable def orR (w : List Nat) (z : Int) (R : Rd) : Int × Rd := if (moreR R && beqL (R.ws.headD []) w) = true then (z, (nextR R).2) else toldR numF R
noncomputable def orV (w : List Nat) (z : Int) (R : Rd) : AV × Rd := (.si .i64 (orR w z R).1, (orR w z R).2)
def WOk (R : Rd) : Prop := ∀ w ∈ R.ws, (∀ c ∈ w, c < 256) ∧ w.length ≤ 1000000
theorem fail_ws (R : Rd) (e : Int) : (failR R e).ws = R.ws := by unfold failR; split <;> rfl
theorem WOk.fail {R : Rd} (h : WOk R) (e : Int) : WOk (failR R e) := by unfold WOk; rw [fail_ws]; exact h
theorem WOk.next {R : Rd} (h : WOk R) : ((∀ c ∈ (nextR R).1, c < 256) ∧ (nextR R).1.length ≤ 1000000) ∧ WOk (nextR R).2 := by
  unfold nextR
  split
  · refine ⟨?_, fun w hw => h w (List.mem_of_mem_tail hw)⟩
    cases hw : R.ws with
    | nil => exact ⟨(fun c hc => by cases hc), Nat.zero_le _⟩
    | cons w l => exact h w (by rw [hw]; exact List.mem_cons_self)
  · exact ⟨⟨(fun c hc => by cases hc), Nat.zero_le _⟩, h.fail 14⟩
theorem WOk.told {R : Rd} (h : WOk R) (g : List Nat → Int × Int) : WOk (toldR g R).2 := by
  unfold toldR
  dsimp only
  split
  · exact h.next.2
  · exact h.next.2.fail _
theorem more_yes {R : Rd} (h0 : R.e = 0) (hp : 0 < R.ws.length) : moreR R = true := by unfold moreR; simp [h0, hp]
theorem more_no1 {R : Rd} (h0 : ¬ R.e = 0) : ¬ moreR R = true := by unfold moreR; simp [h0]
theorem more_no2 {R : Rd} (hp : ¬ 0 < R.ws.length) : ¬ moreR R = true := by unfold moreR; simp [hp]
theorem head_at {L : List (List Nat)} (h : 0 < L.length) : L[0] = L.headD [] := by
  cases L with
  | nil => cases h
  | cons x l => rfl
theorem txts_nth0 {L : List (List Nat)} (h : 0 < L.length) : nth (txts L) (0 * 1) = some (.ss (L.headD [])) := by
  cases L with
  | nil => cases h
  | cons x l => rfl
theorem tail_fr (L : List (List Nat)) : AV.fr (L.length - 1) 1 ((txts L).drop (1 * 1)) = .fr L.tail.length 1 (txts L.tail) := by
  cases L with
  | nil => rfl
  | cons x l => rfl
/-! ### the next word -/
set_option maxHeartbeats 8000000 in
set_option maxRecDepth 100000 in
theorem next_runC (R : Rd) : post (callT evP 4 73) [.ptr 0 0] (mkH (memO (rdO R) 0)) 7 (RdK (nextV R).1 (nextV R).2) := by
  have leaf : ∀ {s : List Nat} {R' : Rd} {u : AV} {H' : AH} {n' : Nat} {l : List AV}, nextR R = (s, R') → mk u = .ss s → PM.get H' 0 = some (.cells l true) → l.map mk = rdC 1 2 3 4 5 6 R' → PM.get H' 1 = some (.cells (txts R'.ks) true) → PM.get H' 2 = some (.cells (ints R'.ts) true) → PM.get H' 3 = some (.cells (ints R'.vs) true) → PM.get H' 4 = some (.cells (labs R'.ls) true) → PM.get H' 5 = some (.cells (ints R'.q.times) true) → PM.get H' 6 = some (.cells (txts R'.fs) true) → ∃ v2 H2 n2, VTo u v2 ∧ Recast H' n' H2 n2 ∧ RdK (nextV R).1 (nextV R).2 v2 H2 n2 := fun e hu h0 hm r1 r2 r3 r4 r5 r6 => by
    unfold nextV; rw [e]; exact rdLeafK (VTo.mkv hu) h0 hm r1 r2 r3 r4 r5 r6
  show callT evP 4 73 _ _ _ _
  conv => whnf
  refine Fork.dec (fun h0 => ?_) (fun h0 => ?_)
  · conv => whnf
    refine Fork.ndec (fun hp => ?_) (fun hp => ?_)
    · have hp : ¬ 0 < R.ws.length := fun q => hp (by exact Int.ofNat_lt.2 q)
      have e : nextR R = ([], { R with e := 14 }) := by unfold nextR failR; rw [if_neg (more_no2 hp), if_pos h0]
      conv => whnf
      refine Fork.dec (fun _ => ?_) (fun q => absurd h0 q)
      conv => whnf
      exact leaf e rfl rfl rfl rfl rfl rfl rfl rfl rfl
    · have hp : 0 < R.ws.length := by exact Int.ofNat_lt.1 hp
      have e : nextR R = (R.ws.headD [], { R with ws := R.ws.tail }) := by unfold nextR; rw [if_pos (more_yes h0 hp)]
      have hm : (AV.fr (R.ws.length - 1) 1 ((txts R.ws).drop (1 * 1)) :: .si .i64 R.e :: cmC (.rw 1 0 R.ks.length 1 0) (.rw 2 0 R.ts.length 1 0) (.rw 3 0 R.vs.length 1 0) (.rw 4 0 R.ls.length 2 0) (.rw 5 0 R.q.times.length 1 0) (.rw 6 0 R.fs.length 1 0) R).map mk = rdC 1 2 3 4 5 6 { R with ws := R.ws.tail } := by rw [tail_fr]; rfl
      conv => whnf
      refine Idx.mk 0 rfl hp ?_
      conv => whnf
      refine optP_of (txts_nth0 hp) ?_
      conv => whnf
      refine RSl.mk 1 _ rfl rfl (.inl rfl) hp (Nat.le_refl _) ?_
      conv => whnf
      exact leaf e rfl rfl hm rfl rfl rfl rfl rfl rfl
  · have e : nextR R = ([], R) := by unfold nextR failR; rw [if_neg (more_no1 h0), if_neg h0]
    conv => whnf
    refine Fork.dec (fun q => absurd q h0) (fun _ => ?_)
    conv => whnf
    exact leaf e rfl rfl rfl rfl rfl rfl rfl rfl rfl
def noA (ar : List AV) : Prop := ar = []
theorem noA_ok : ∀ ar, noA ar → ∀ (φ : Ph) (vs : List Value), VRs φ ar vs → VRs φ [] vs := fun ar h φ vs hv => by rw [← h]; exact hv
def strA (w : List Nat) (ar : List AV) : Prop := ∃ y, ar = [y] ∧ mk y = .ss w
theorem strA_ok (w : List Nat) : ∀ ar, strA w ar → ∀ (φ : Ph) (vs : List Value), VRs φ ar vs → VRs φ [.ss w] vs := fun ar ⟨y, h, hy⟩ φ vs hv => by
  subst h
  obtain ⟨v, us, rfl, h1, h2⟩ := hv.cons_inv
  exact .cons (by have := h1.mk; rw [hy] at this; exact this) h2
def fnA (f : Nat) (ar : List AV) : Prop := ar = [.fn f [] []]
theorem fnA_ok (f : Nat) : ∀ ar, fnA f ar → ∀ (φ : Ph) (vs : List Value), VRs φ ar vs → VRs φ [.fn f [] []] vs := fun ar h φ vs hv => by rw [← h]; exact hv
theorem n_nextC : NatP 73 (natRdK (fun _ => True) noA nextV) := natRdK_of (callT_nat evP_ok 4 _) (by kernel_rfl) noA_ok (fun _ => rfl) (fun R => ⟨rfl, fun _ => rfl⟩) fun R _ => next_runC R
/-! ### a name that may stand here -/
noncomputable def KHs : FuncId → EP := withN 73 (natRdK (fun _ => True) noA nextV) (withN 44 natUp evP)
theorem KHs_ok : TabP KHs := withN_ok (withN_ok evP_ok n_upper) n_nextC
set_option maxHeartbeats 8000000 in
set_option maxRecDepth 100000 in
theorem has_runC (w : List Nat) (R : Rd) (hok : WOk R) : post (callT KHs 5 62) (.ptr 0 0 :: [.ss w]) (mkH (memO (rdO R) 0)) 7 (RdK (hasR w R).1 (hasR w R).2) := by
  have leaf : ∀ {v : AV} {R' : Rd} {u : AV} {H' : AH} {n' : Nat} {l : List AV}, hasR w R = (v, R') → mk u = v → PM.get H' 0 = some (.cells l true) → l.map mk = rdC 1 2 3 4 5 6 R' → PM.get H' 1 = some (.cells (txts R'.ks) true) → PM.get H' 2 = some (.cells (ints R'.ts) true) → PM.get H' 3 = some (.cells (ints R'.vs) true) → PM.get H' 4 = some (.cells (labs R'.ls) true) → PM.get H' 5 = some (.cells (ints R'.q.times) true) → PM.get H' 6 = some (.cells (txts R'.fs) true) → ∃ v2 H2 n2, VTo u v2 ∧ Recast H' n' H2 n2 ∧ RdK (hasR w R).1 (hasR w R).2 v2 H2 n2 := fun e hu h0 hm r1 r2 r3 r4 r5 r6 => by
    rw [e]; exact rdLeafK (VTo.mkv hu) h0 hm r1 r2 r3 r4 r5 r6
  show callT KHs 5 62 _ _ _ _
  conv => whnf
  refine Fork.dec (fun h0 => ?_) (fun h0 => ?_)
  · conv => whnf
    refine Fork.dec (fun hp => ?_) (fun hp => ?_)
    · have hp : 0 < R.ws.length := by exact Int.ofNat_lt.1 hp
      have hw := hok _ (List.getElem_mem hp)
      rw [head_at hp] at hw
      conv => whnf
      refine Idx.mk 0 rfl hp ?_
      conv => whnf
      refine optP_of (txts_nth0 hp) ?_
      conv => whnf
      refine ⟨R.ws.headD [], rfl, hw.1, hw.2, ?_⟩
      conv => whnf
      refine Fork.sb (fun hq => ?_) (fun hq => ?_)
      · have e : hasR w R = (.sb true, (nextR R).2) := by unfold hasR atR; rw [more_yes h0 hp, hq]; rfl
        conv => whnf
        refine ⟨0, 1, 2, 3, 4, 5, 6, R, rfl, rfl, ⟨by decide, by decide, rfl, rfl, rfl, rfl, rfl, rfl, rfl⟩, trivial, ?_⟩
        conv => whnf
        exact leaf e (congrArg AV.sb hq) rfl rfl rfl rfl rfl rfl rfl rfl
      · have e : hasR w R = (.sb false, R) := by unfold hasR atR; rw [if_neg (by rw [hq]; simp)]
        conv => whnf
        exact leaf e (congrArg AV.sb hq) rfl rfl rfl rfl rfl rfl rfl rfl
    · have hp : ¬ 0 < R.ws.length := fun q => hp (by exact Int.ofNat_lt.2 q)
      have e : hasR w R = (.sb false, R) := by unfold hasR atR; rw [if_neg (by rw [Bool.and_eq_true]; exact fun q => more_no2 hp q.1)]
      have hd : AV.sb (decide ((0 : Int) < (R.ws.length : Int))) = .sb false := congrArg AV.sb (decide_eq_false (fun q : (0 : Int) < (R.ws.length : Int) => hp (by omega)))
      conv => whnf
      exact leaf e (by first | rfl | exact hd) rfl rfl rfl rfl rfl rfl rfl rfl
  · have e : hasR w R = (.sb false, R) := by unfold hasR atR; rw [if_neg (by rw [Bool.and_eq_true]; exact fun q => more_no1 h0 q.1)]
    conv => whnf
    exact leaf e rfl rfl rfl rfl rfl rfl rfl rfl rfl
theorem n_has (w : List Nat) : NatP 62 (natRdK WOk (strA w) (hasR w)) := natRdK_of (callT_nat KHs_ok 5 _) (by kernel_rfl) (strA_ok w) (fun _ => rfl) (fun R => by unfold hasR; split <;> exact ⟨rfl, fun _ => rfl⟩) fun R h => has_runC w R h
/-! ### a name that must stand here -/
set_option maxHeartbeats 8000000 in
set_option maxRecDepth 100000 in
theorem must_runC (w : List Nat) (R : Rd) (hok : WOk R) : post (callT KHs 5 71) (.ptr 0 0 :: [.ss w]) (mkH (memO (rdO R) 0)) 7 (RdK (mustR w R).1 (mustR w R).2) := by
  have leaf : ∀ {v : AV} {R' : Rd} {u : AV} {H' : AH} {n' : Nat} {l : List AV}, mustR w R = (v, R') → mk u = v → PM.get H' 0 = some (.cells l true) → l.map mk = rdC 1 2 3 4 5 6 R' → PM.get H' 1 = some (.cells (txts R'.ks) true) → PM.get H' 2 = some (.cells (ints R'.ts) true) → PM.get H' 3 = some (.cells (ints R'.vs) true) → PM.get H' 4 = some (.cells (labs R'.ls) true) → PM.get H' 5 = some (.cells (ints R'.q.times) true) → PM.get H' 6 = some (.cells (txts R'.fs) true) → ∃ v2 H2 n2, VTo u v2 ∧ Recast H' n' H2 n2 ∧ RdK (mustR w R).1 (mustR w R).2 v2 H2 n2 := fun e hu h0 hm r1 r2 r3 r4 r5 r6 => by
    rw [e]; exact rdLeafK (VTo.mkv hu) h0 hm r1 r2 r3 r4 r5 r6
  have hn := hok.next
  show callT KHs 5 71 _ _ _ _
  conv => whnf
  refine ⟨0, 1, 2, 3, 4, 5, 6, R, rfl, rfl, ⟨by decide, by decide, rfl, rfl, rfl, rfl, rfl, rfl, rfl⟩, trivial, ?_⟩
  conv => whnf
  refine ⟨(nextR R).1, rfl, hn.1.1, hn.1.2, ?_⟩
  conv => whnf
  refine Fork.nsb (fun hb => ?_) (fun hb => ?_)
  · conv => whnf
    refine Fork.dec (fun he => ?_) (fun he => ?_)
    · have he : (nextR R).2.e = 0 := he
      have e : mustR w R = (.tup [], { (nextR R).2 with e := 17 }) := by unfold mustR failR; rw [if_neg (by rw [hb]; decide), if_pos he]
      conv => whnf
      exact leaf e rfl rfl rfl rfl rfl rfl rfl rfl rfl
    · have he : ¬ (nextR R).2.e = 0 := he
      have e : mustR w R = (.tup [], (nextR R).2) := by unfold mustR failR; rw [if_neg (by rw [hb]; decide), if_neg he]
      conv => whnf
      exact leaf e rfl rfl rfl rfl rfl rfl rfl rfl rfl
  · have e : mustR w R = (.tup [], (nextR R).2) := by unfold mustR; rw [if_pos hb]
    conv => whnf
    exact leaf e rfl rfl rfl rfl rfl rfl rfl rfl rfl
theorem n_must (w : List Nat) : NatP 71 (natRdK WOk (strA w) (mustR w)) := natRdK_of (callT_nat KHs_ok 5 _) (by kernel_rfl) (strA_ok w) (fun _ => rfl) (fun R => ⟨rfl, fun _ => rfl⟩) fun R h => must_runC w R h
/-! ### what a word tells -/
noncomputable def KTo : FuncId → EP := withN 73 (natRdK (fun _ => True) noA nextV) (withN 9 natNm (withN 65 natPp (withN 72 natAp (evP))))
theorem KTo_ok : TabP KTo := withN_ok (withN_ok (withN_ok (withN_ok evP_ok n_aggp) n_polp) n_number) n_nextC
set_option maxHeartbeats 8000000 in
set_option maxRecDepth 100000 in
theorem told_num_runC (R : Rd) (hok : WOk R) : post (callT KTo 5 64) (.ptr 0 0 :: [.fn 9 [] []]) (mkH (memO (rdO R) 0)) 7 (RdK (toldV numF R).1 (toldV numF R).2) := by
  have leaf : ∀ {v : AV} {R' : Rd} {u : AV} {H' : AH} {n' : Nat} {l : List AV}, toldV numF R = (v, R') → mk u = v → PM.get H' 0 = some (.cells l true) → l.map mk = rdC 1 2 3 4 5 6 R' → PM.get H' 1 = some (.cells (txts R'.ks) true) → PM.get H' 2 = some (.cells (ints R'.ts) true) → PM.get H' 3 = some (.cells (ints R'.vs) true) → PM.get H' 4 = some (.cells (labs R'.ls) true) → PM.get H' 5 = some (.cells (ints R'.q.times) true) → PM.get H' 6 = some (.cells (txts R'.fs) true) → ∃ v2 H2 n2, VTo u v2 ∧ Recast H' n' H2 n2 ∧ RdK (toldV numF R).1 (toldV numF R).2 v2 H2 n2 := fun e hu h0 hm r1 r2 r3 r4 r5 r6 => by
    rw [e]; exact rdLeafK (VTo.mkv hu) h0 hm r1 r2 r3 r4 r5 r6
  have hn := hok.next
  show callT KTo 5 64 _ _ _ _
  conv => whnf
  refine ⟨0, 1, 2, 3, 4, 5, 6, R, rfl, rfl, ⟨by decide, by decide, rfl, rfl, rfl, rfl, rfl, rfl, rfl⟩, trivial, ?_⟩
  conv => whnf
  refine ⟨(nextR R).1, rfl, hn.1.1, hn.1.2, ?_⟩
  conv => whnf
  refine Fork.ndec (fun hb => ?_) (fun hb => ?_)
  · have hb : ¬ (numF (nextR R).1).2 = 0 := hb
    conv => whnf
    refine Fork.dec (fun he => ?_) (fun he => ?_)
    · have he : (nextR R).2.e = 0 := he
      have e : toldV numF R = (.si .i64 (numF (nextR R).1).1, { (nextR R).2 with e := (numF (nextR R).1).2 }) := by unfold toldV toldR failR; dsimp only; rw [if_neg hb, if_pos he]
      conv => whnf
      exact leaf e rfl rfl rfl rfl rfl rfl rfl rfl rfl
    · have he : ¬ (nextR R).2.e = 0 := he
      have e : toldV numF R = (.si .i64 (numF (nextR R).1).1, (nextR R).2) := by unfold toldV toldR failR; dsimp only; rw [if_neg hb, if_neg he]
      conv => whnf
      exact leaf e rfl rfl rfl rfl rfl rfl rfl rfl rfl
  · have hb : (numF (nextR R).1).2 = 0 := hb
    have e : toldV numF R = (.si .i64 (numF (nextR R).1).1, (nextR R).2) := by unfold toldV toldR; dsimp only; rw [if_pos hb]
    conv => whnf
    exact leaf e rfl rfl rfl rfl rfl rfl rfl rfl rfl
theorem n_told_num : NatP 64 (natRdK WOk (fnA 9) (toldV numF)) := natRdK_of (callT_nat KTo_ok 5 _) (by kernel_rfl) (fnA_ok _) (fun _ => rfl) (fun R => ⟨rfl, fun _ => rfl⟩) fun R h => told_num_runC R h
set_option maxHeartbeats 8000000 in
set_option maxRecDepth 100000 in
theorem told_pol_runC (R : Rd) (hok : WOk R) : post (callT KTo 5 64) (.ptr 0 0 :: [.fn 65 [] []]) (mkH (memO (rdO R) 0)) 7 (RdK (toldV polF R).1 (toldV polF R).2) := by
  have leaf : ∀ {v : AV} {R' : Rd} {u : AV} {H' : AH} {n' : Nat} {l : List AV}, toldV polF R = (v, R') → mk u = v → PM.get H' 0 = some (.cells l true) → l.map mk = rdC 1 2 3 4 5 6 R' → PM.get H' 1 = some (.cells (txts R'.ks) true) → PM.get H' 2 = some (.cells (ints R'.ts) true) → PM.get H' 3 = some (.cells (ints R'.vs) true) → PM.get H' 4 = some (.cells (labs R'.ls) true) → PM.get H' 5 = some (.cells (ints R'.q.times) true) → PM.get H' 6 = some (.cells (txts R'.fs) true) → ∃ v2 H2 n2, VTo u v2 ∧ Recast H' n' H2 n2 ∧ RdK (toldV polF R).1 (toldV polF R).2 v2 H2 n2 := fun e hu h0 hm r1 r2 r3 r4 r5 r6 => by
    rw [e]; exact rdLeafK (VTo.mkv hu) h0 hm r1 r2 r3 r4 r5 r6
  have hn := hok.next
  show callT KTo 5 64 _ _ _ _
  conv => whnf
  refine ⟨0, 1, 2, 3, 4, 5, 6, R, rfl, rfl, ⟨by decide, by decide, rfl, rfl, rfl, rfl, rfl, rfl, rfl⟩, trivial, ?_⟩
  conv => whnf
  refine ⟨(nextR R).1, rfl, hn.1.1, hn.1.2, ?_⟩
  conv => whnf
  refine Fork.ndec (fun hb => ?_) (fun hb => ?_)
  · have hb : ¬ (polF (nextR R).1).2 = 0 := hb
    conv => whnf
    refine Fork.dec (fun he => ?_) (fun he => ?_)
    · have he : (nextR R).2.e = 0 := he
      have e : toldV polF R = (.si .i64 (polF (nextR R).1).1, { (nextR R).2 with e := (polF (nextR R).1).2 }) := by unfold toldV toldR failR; dsimp only; rw [if_neg hb, if_pos he]
      conv => whnf
      exact leaf e rfl rfl rfl rfl rfl rfl rfl rfl rfl
    · have he : ¬ (nextR R).2.e = 0 := he
      have e : toldV polF R = (.si .i64 (polF (nextR R).1).1, (nextR R).2) := by unfold toldV toldR failR; dsimp only; rw [if_neg hb, if_neg he]
      conv => whnf
      exact leaf e rfl rfl rfl rfl rfl rfl rfl rfl rfl
  · have hb : (polF (nextR R).1).2 = 0 := hb
    have e : toldV polF R = (.si .i64 (polF (nextR R).1).1, (nextR R).2) := by unfold toldV toldR; dsimp only; rw [if_pos hb]
    conv => whnf
    exact leaf e rfl rfl rfl rfl rfl rfl rfl rfl rfl
theorem n_told_pol : NatP 64 (natRdK WOk (fnA 65) (toldV polF)) := natRdK_of (callT_nat KTo_ok 5 _) (by kernel_rfl) (fnA_ok _) (fun _ => rfl) (fun R => ⟨rfl, fun _ => rfl⟩) fun R h => told_pol_runC R h
set_option maxHeartbeats 8000000 in
set_option maxRecDepth 100000 in
theorem told_agg_runC (R : Rd) (hok : WOk R) : post (callT KTo 5 64) (.ptr 0 0 :: [.fn 72 [] []]) (mkH (memO (rdO R) 0)) 7 (RdK (toldV aggF R).1 (toldV aggF R).2) := by
  have leaf : ∀ {v : AV} {R' : Rd} {u : AV} {H' : AH} {n' : Nat} {l : List AV}, toldV aggF R = (v, R') → mk u = v → PM.get H' 0 = some (.cells l true) → l.map mk = rdC 1 2 3 4 5 6 R' → PM.get H' 1 = some (.cells (txts R'.ks) true) → PM.get H' 2 = some (.cells (ints R'.ts) true) → PM.get H' 3 = some (.cells (ints R'.vs) true) → PM.get H' 4 = some (.cells (labs R'.ls) true) → PM.get H' 5 = some (.cells (ints R'.q.times) true) → PM.get H' 6 = some (.cells (txts R'.fs) true) → ∃ v2 H2 n2, VTo u v2 ∧ Recast H' n' H2 n2 ∧ RdK (toldV aggF R).1 (toldV aggF R).2 v2 H2 n2 := fun e hu h0 hm r1 r2 r3 r4 r5 r6 => by
    rw [e]; exact rdLeafK (VTo.mkv hu) h0 hm r1 r2 r3 r4 r5 r6
  have hn := hok.next
  show callT KTo 5 64 _ _ _ _
  conv => whnf
  refine ⟨0, 1, 2, 3, 4, 5, 6, R, rfl, rfl, ⟨by decide, by decide, rfl, rfl, rfl, rfl, rfl, rfl, rfl⟩, trivial, ?_⟩
  conv => whnf
  refine ⟨(nextR R).1, rfl, hn.1.1, hn.1.2, ?_⟩
  conv => whnf
  refine Fork.ndec (fun hb => ?_) (fun hb => ?_)
  · have hb : ¬ (aggF (nextR R).1).2 = 0 := hb
    conv => whnf
    refine Fork.dec (fun he => ?_) (fun he => ?_)
    · have he : (nextR R).2.e = 0 := he
      have e : toldV aggF R = (.si .i64 (aggF (nextR R).1).1, { (nextR R).2 with e := (aggF (nextR R).1).2 }) := by unfold toldV toldR failR; dsimp only; rw [if_neg hb, if_pos he]
      conv => whnf
      exact leaf e rfl rfl rfl rfl rfl rfl rfl rfl rfl
    · have he : ¬ (nextR R).2.e = 0 := he
      have e : toldV aggF R = (.si .i64 (aggF (nextR R).1).1, (nextR R).2) := by unfold toldV toldR failR; dsimp only; rw [if_neg hb, if_neg he]
      conv => whnf
      exact leaf e rfl rfl rfl rfl rfl rfl rfl rfl rfl
  · have hb : (aggF (nextR R).1).2 = 0 := hb
    have e : toldV aggF R = (.si .i64 (aggF (nextR R).1).1, (nextR R).2) := by unfold toldV toldR; dsimp only; rw [if_pos hb]
    conv => whnf
    exact leaf e rfl rfl rfl rfl rfl rfl rfl rfl rfl
theorem n_told_agg : NatP 64 (natRdK WOk (fnA 72) (toldV aggF)) := natRdK_of (callT_nat KTo_ok 5 _) (by kernel_rfl) (fnA_ok _) (fun _ => rfl) (fun R => ⟨rfl, fun _ => rfl⟩) fun R h => told_agg_runC R h
def natTold (args : List AV) (H : AH) (n : Nat) (κ : PK) : Prop := natRdK WOk (fnA 9) (toldV numF) args H n κ ∨ natRdK WOk (fnA 65) (toldV polF) args H n κ ∨ natRdK WOk (fnA 72) (toldV aggF) args H n κ
theorem n_told : NatP 64 natTold := fun args H n κ hs => hs.elim (n_told_num args H n κ) fun hs => hs.elim (n_told_pol args H n κ) (n_told_agg args H n κ)
noncomputable def KNb : FuncId → EP := withN 64 natTold evP
theorem KNb_ok : TabP KNb := withN_ok evP_ok n_told
set_option maxHeartbeats 8000000 in
set_option maxRecDepth 100000 in
theorem number_runC (R : Rd) (hok : WOk R) : post (callT KNb 5 70) (.ptr 0 0 :: []) (mkH (memO (rdO R) 0)) 7 (RdK (toldV numF R).1 (toldV numF R).2) := by
  have leaf : ∀ {v : AV} {R' : Rd} {u : AV} {H' : AH} {n' : Nat} {l : List AV}, toldV numF R = (v, R') → mk u = v → PM.get H' 0 = some (.cells l true) → l.map mk = rdC 1 2 3 4 5 6 R' → PM.get H' 1 = some (.cells (txts R'.ks) true) → PM.get H' 2 = some (.cells (ints R'.ts) true) → PM.get H' 3 = some (.cells (ints R'.vs) true) → PM.get H' 4 = some (.cells (labs R'.ls) true) → PM.get H' 5 = some (.cells (ints R'.q.times) true) → PM.get H' 6 = some (.cells (txts R'.fs) true) → ∃ v2 H2 n2, VTo u v2 ∧ Recast H' n' H2 n2 ∧ RdK (toldV numF R).1 (toldV numF R).2 v2 H2 n2 := fun e hu h0 hm r1 r2 r3 r4 r5 r6 => by
    rw [e]; exact rdLeafK (VTo.mkv hu) h0 hm r1 r2 r3 r4 r5 r6
  show callT KNb 5 70 _ _ _ _
  conv => whnf
  refine .inl ⟨0, 1, 2, 3, 4, 5, 6, R, rfl, rfl, ⟨by decide, by decide, rfl, rfl, rfl, rfl, rfl, rfl, rfl⟩, hok, ?_⟩
  conv => whnf
  exact leaf rfl rfl rfl rfl rfl rfl rfl rfl rfl rfl
theorem n_numberR : NatP 70 (natRdK WOk noA (toldV numF)) := natRdK_of (callT_nat KNb_ok 5 _) (by kernel_rfl) noA_ok (fun _ => rfl) (fun R => ⟨rfl, fun _ => rfl⟩) fun R h => number_runC R h
noncomputable def KPo : FuncId → EP := withN 70 (natRdK WOk noA (toldV numF)) (withN 73 (natRdK (fun _ => True) noA nextV) evP)
theorem KPo_ok : TabP KPo := withN_ok (withN_ok evP_ok n_nextC) n_numberR
set_option maxHeartbeats 8000000 in
set_option maxRecDepth 100000 in
theorem positive_runC (R : Rd) (hok : WOk R) : post (callT KPo 5 63) (.ptr 0 0 :: []) (mkH (memO (rdO R) 0)) 7 (RdK (posV R).1 (posV R).2) := by
  have leaf : ∀ {v : AV} {R' : Rd} {u : AV} {H' : AH} {n' : Nat} {l : List AV}, posV R = (v, R') → mk u = v → PM.get H' 0 = some (.cells l true) → l.map mk = rdC 1 2 3 4 5 6 R' → PM.get H' 1 = some (.cells (txts R'.ks) true) → PM.get H' 2 = some (.cells (ints R'.ts) true) → PM.get H' 3 = some (.cells (ints R'.vs) true) → PM.get H' 4 = some (.cells (labs R'.ls) true) → PM.get H' 5 = some (.cells (ints R'.q.times) true) → PM.get H' 6 = some (.cells (txts R'.fs) true) → ∃ v2 H2 n2, VTo u v2 ∧ Recast H' n' H2 n2 ∧ RdK (posV R).1 (posV R).2 v2 H2 n2 := fun e hu h0 hm r1 r2 r3 r4 r5 r6 => by
    rw [e]; exact rdLeafK (VTo.mkv hu) h0 hm r1 r2 r3 r4 r5 r6
  show callT KPo 5 63 _ _ _ _
  conv => whnf
  refine ⟨0, 1, 2, 3, 4, 5, 6, R, rfl, rfl, ⟨by decide, by decide, rfl, rfl, rfl, rfl, rfl, rfl, rfl⟩, hok, ?_⟩
  conv => whnf
  refine Fork.dec (fun hb => ?_) (fun hb => ?_)
  · have hb : (toldR numF R).1 < 0 := hb
    conv => whnf
    refine Fork.dec (fun he => ?_) (fun he => ?_)
    · have he : (toldR numF R).2.e = 0 := he
      have e : posV R = (.si .i64 (toldR numF R).1, { (toldR numF R).2 with e := 16 }) := by unfold posV posR failR; dsimp only; rw [if_pos hb, if_pos he]
      conv => whnf
      exact leaf e rfl rfl rfl rfl rfl rfl rfl rfl rfl
    · have he : ¬ (toldR numF R).2.e = 0 := he
      have e : posV R = (.si .i64 (toldR numF R).1, (toldR numF R).2) := by unfold posV posR failR; dsimp only; rw [if_pos hb, if_neg he]
      conv => whnf
      exact leaf e rfl rfl rfl rfl rfl rfl rfl rfl rfl
  · have hb : ¬ (toldR numF R).1 < 0 := hb
    have e : posV R = (.si .i64 (toldR numF R).1, (toldR numF R).2) := by unfold posV posR; dsimp only; rw [if_neg hb]
    conv => whnf
    exact leaf e rfl rfl rfl rfl rfl rfl rfl rfl rfl
theorem n_positive : NatP 63 (natRdK WOk noA posV) := natRdK_of (callT_nat KPo_ok 5 _) (by kernel_rfl) noA_ok (fun _ => rfl) (fun R => ⟨rfl, fun _ => rfl⟩) fun R h => positive_runC R h
def orA (w : List Nat) (z : Int) (ar : List AV) : Prop := ∃ y x, ar = [y, x] ∧ mk y = .ss w ∧ mk x = .si .i64 z
theorem orA_ok (w : List Nat) (z : Int) : ∀ ar, orA w z ar → ∀ (φ : Ph) (vs : List Value), VRs φ ar vs → VRs φ [.ss w, .si .i64 z] vs := fun ar ⟨y, x, h, hy, hx⟩ φ vs hv => by
  subst h
  obtain ⟨v, us, rfl, h1, h2⟩ := hv.cons_inv
  obtain ⟨v2, us2, rfl, h3, h4⟩ := h2.cons_inv
  exact .cons (by have := h1.mk; rw [hy] at this; exact this) (.cons (by have := h3.mk; rw [hx] at this; exact this) h4)
set_option maxHeartbeats 8000000 in
set_option maxRecDepth 100000 in
theorem or_runC (w : List Nat) (z : Int) (R : Rd) (hok : WOk R) : post (callT KPo 5 77) (.ptr 0 0 :: [.ss w, .si .i64 z]) (mkH (memO (rdO R) 0)) 7 (RdK (orV w z R).1 (orV w z R).2) := by
  have leaf : ∀ {v : AV} {R' : Rd} {u : AV} {H' : AH} {n' : Nat} {l : List AV}, orV w z R = (v, R') → mk u = v → PM.get H' 0 = some (.cells l true) → l.map mk = rdC 1 2 3 4 5 6 R' → PM.get H' 1 = some (.cells (txts R'.ks) true) → PM.get H' 2 = some (.cells (ints R'.ts) true) → PM.get H' 3 = some (.cells (ints R'.vs) true) → PM.get H' 4 = some (.cells (labs R'.ls) true) → PM.get H' 5 = some (.cells (ints R'.q.times) true) → PM.get H' 6 = some (.cells (txts R'.fs) true) → ∃ v2 H2 n2, VTo u v2 ∧ Recast H' n' H2 n2 ∧ RdK (orV w z R).1 (orV w z R).2 v2 H2 n2 := fun e hu h0 hm r1 r2 r3 r4 r5 r6 => by
    rw [e]; exact rdLeafK (VTo.mkv hu) h0 hm r1 r2 r3 r4 r5 r6
  show callT KPo 5 77 _ _ _ _
  conv => whnf
  refine Fork.dec (fun h0 => ?_) (fun h0 => ?_)
  · conv => whnf
    refine Fork.dec (fun hp => ?_) (fun hp => ?_)
    · have hp : 0 < R.ws.length := by exact Int.ofNat_lt.1 hp
      conv => whnf
      refine Idx.mk 0 rfl hp ?_
      conv => whnf
      refine optP_of (txts_nth0 hp) ?_
      conv => whnf
      refine Fork.sb (fun hq => ?_) (fun hq => ?_)
      · have e : orV w z R = (.si .i64 z, (nextR R).2) := by unfold orV orR; rw [more_yes h0 hp, hq]; rfl
        conv => whnf
        refine ⟨0, 1, 2, 3, 4, 5, 6, R, rfl, rfl, ⟨by decide, by decide, rfl, rfl, rfl, rfl, rfl, rfl, rfl⟩, trivial, ?_⟩
        conv => whnf
        exact leaf e rfl rfl rfl rfl rfl rfl rfl rfl rfl
      · have e : orV w z R = toldV numF R := by unfold orV orR; rw [if_neg (by rw [Bool.and_eq_true]; exact fun q => by rw [hq] at q; cases q.2)]; rfl
        conv => whnf
        refine ⟨0, 1, 2, 3, 4, 5, 6, R, rfl, rfl, ⟨by decide, by decide, rfl, rfl, rfl, rfl, rfl, rfl, rfl⟩, hok, ?_⟩
        conv => whnf
        exact leaf e rfl rfl rfl rfl rfl rfl rfl rfl rfl
    · have hp : ¬ 0 < R.ws.length := fun q => hp (by exact Int.ofNat_lt.2 q)
      have e : orV w z R = toldV numF R := by unfold orV orR; rw [if_neg (by rw [Bool.and_eq_true]; exact fun q => more_no2 hp q.1)]; rfl
      conv => whnf
      refine ⟨0, 1, 2, 3, 4, 5, 6, R, rfl, rfl, ⟨by decide, by decide, rfl, rfl, rfl, rfl, rfl, rfl, rfl⟩, hok, ?_⟩
      conv => whnf
      exact leaf e rfl rfl rfl rfl rfl rfl rfl rfl rfl
  · have e : orV w z R = toldV numF R := by unfold orV orR; rw [if_neg (by rw [Bool.and_eq_true]; exact fun q => more_no1 h0 q.1)]; rfl
    conv => whnf
    refine ⟨0, 1, 2, 3, 4, 5, 6, R, rfl, rfl, ⟨by decide, by decide, rfl, rfl, rfl, rfl, rfl, rfl, rfl⟩, hok, ?_⟩
    conv => whnf
    exact leaf e rfl rfl rfl rfl rfl rfl rfl rfl rfl
theorem n_or (w : List Nat) (z : Int) : NatP 77 (natRdK WOk (orA w z) (orV w z)) := natRdK_of (callT_nat KPo_ok 5 _) (by kernel_rfl) (orA_ok w z) (fun _ => rfl) (fun R => ⟨rfl, fun _ => rfl⟩) fun R h => or_runC w z R h
end Go.Proofs.Ytdfeigkooeeeaaa
namespace Go.Proofs.Ytdfeigkooeeeaaa
open Go Go.RowKit
set_option maxRecDepth 20000
/-! ### what is yielded covers a template -/
def postC (g : List AV → AH → Nat → PK → Prop) (args : List AV) (H : AH) (n : Nat) (κ : PK) : Prop := g args H n fun u H' n' => ∃ (v : AV) (H2 : AH) (m : Nat), Cov n (mkE [(0, u)]) H' n' (mkE [(0, v)], H2, m) ∧ κ v H2 m
theorem NatP.postC {f : FuncId} {g : List AV → AH → Nat → PK → Prop} (hg : NatP f g) : NatP f (postC g) := fun args H n κ hs φ h0 h vs K hr ha hk => hg args H n _ hs φ h0 h vs K hr ha fun ψ u H' n' w g' hle hg' hu ⟨v, H2, m, hc, hκ⟩ => by
  obtain ⟨χ, ⟨c1, c2, c3⟩, c4, c5⟩ := hc ψ h0 g' (fun _ => w) hg' (fun t a ht => by
    have := mkE_get ht
    simp only [List.mem_cons, List.not_mem_nil, or_false] at this
    injection this with e1 e2
    subst e1 e2
    exact hu)
  exact hk χ v H2 m w g' ⟨fun b p e => c1 b p (hr.dom b p e).1 (hle.b b p e), fun q e => c2 q (hle.z q e), fun q e => hle.y q (c3 q e)⟩ c4 (c5 0 v rfl) hκ
/-! ### a reader whose rows have other names -/
def goodB (m : Nat) : AV → Bool
  | .rw b _ _ _ _ => Nat.blt b m
  | .fr _ _ _ => true
  | .si _ _ => true
  | .sb _ => true
  | .ss _ => true
  | _ => false
theorem SubV.good {H : AH} {m : Nat} {r : Nat → Nat} {a a' : AV} (hg : goodB m a' = true) (e : Go.Proofs.Ytdfeigkooeeeaaa.mk a = ren r a') : SubV H m r a a' := by
  cases a' with
  | rw b o n k x =>
    have ha : a = .rw (r b) o n k x := by cases a <;> first | exact e | cases e
    exact SubV.rw (Nat.le_of_ble_eq_true hg) ha (hx := ⟨fun h => h, fun h => h, fun h => h⟩)
  | fr n k l =>
    have ha : a = .fr n k l := by cases a <;> first | exact e | cases e
    subst ha; exact .stab rfl
  | si k n => exact .int e
  | sb b => exact .bool e
  | ss s => exact .str e
  | _ => cases hg
theorem SubL.good {H : AH} {m : Nat} {r : Nat → Nat} : ∀ {l l' : List AV}, l'.all (goodB m) = true → l.map Go.Proofs.Ytdfeigkooeeeaaa.mk = l'.map (ren r) → SubL H m r l l'
  | [], [], _, _ => .nil
  | [], _ :: _, _, e => by cases e
  | _ :: _, [], _, e => by cases e
  | a :: l, a' :: l', hg, e => by
    simp only [List.map_cons, List.cons.injEq] at e
    simp only [List.all_cons, Bool.and_eq_true] at hg
    exact .cons (SubV.good hg.1 e.1) (SubL.good hg.2 e.2)
def rdCx (k t v l q f nk nt nv nl nq nf : Nat) (R : Rd) : List AV := .fr R.ws.length 1 (txts R.ws) :: .si .i64 R.e :: cmC (.rw k 0 nk 1 0) (.rw t 0 nt 1 0) (.rw v 0 nv 1 0) (.rw l 0 nl 2 0) (.rw q 0 nq 1 0) (.rw f 0 nf 1 0) R
noncomputable def rdM (R : Rd) : AH := mkH [(0, .cells (rdC 7 8 9 10 11 12 R) true), (7, .cells (txts R.ks) true), (8, .cells (ints R.ts) true), (9, .cells (ints R.vs) true), (10, .cells (labs R.ls) true), (11, .cells (ints R.q.times) true), (12, .cells (txts R.fs) true)]
def rdN (j1 j2 j3 j4 j5 j6 : Nat) : Nat → Nat := fun b => if b = 7 then j1 else if b = 8 then j2 else if b = 9 then j3 else if b = 10 then j4 else if b = 11 then j5 else if b = 12 then j6 else b
set_option maxHeartbeats 4000000 in
theorem rdN_inj {j1 j2 j3 j4 j5 j6 : Nat} (hd : [0, j1, j2, j3, j4, j5, j6].Nodup) : ∀ a ∈ [0, 7, 8, 9, 10, 11, 12], ∀ b ∈ [0, 7, 8, 9, 10, 11, 12], rdN j1 j2 j3 j4 j5 j6 a = rdN j1 j2 j3 j4 j5 j6 b → a = b := by
  simp only [List.nodup_cons, List.mem_cons, List.not_mem_nil, or_false, not_or, List.nodup_nil, and_true, not_false_eq_true] at hd
  intro a ha b hb
  simp only [List.mem_cons, List.not_mem_nil, or_false] at ha hb
  rcases ha with rfl | rfl | rfl | rfl | rfl | rfl | rfl
  · rcases hb with rfl | rfl | rfl | rfl | rfl | rfl | rfl
    · exact fun _ => rfl
    · exact fun e => absurd (show 0 = j1 from e) (by omega)
    · exact fun e => absurd (show 0 = j2 from e) (by omega)
    · exact fun e => absurd (show 0 = j3 from e) (by omega)
    · exact fun e => absurd (show 0 = j4 from e) (by omega)
    · exact fun e => absurd (show 0 = j5 from e) (by omega)
    · exact fun e => absurd (show 0 = j6 from e) (by omega)
  · rcases hb with rfl | rfl | rfl | rfl | rfl | rfl | rfl
    · exact fun e => absurd (show j1 = 0 from e) (by omega)
    · exact fun _ => rfl
    · exact fun e => absurd (show j1 = j2 from e) (by omega)
    · exact fun e => absurd (show j1 = j3 from e) (by omega)
    · exact fun e => absurd (show j1 = j4 from e) (by omega)
    · exact fun e => absurd (show j1 = j5 from e) (by omega)
    · exact fun e => absurd (show j1 = j6 from e) (by omega)
  · rcases hb with rfl | rfl | rfl | rfl | rfl | rfl | rfl
    · exact fun e => absurd (show j2 = 0 from e) (by omega)
    · exact fun e => absurd (show j2 = j1 from e) (by omega)
    · exact fun _ => rfl
    · exact fun e => absurd (show j2 = j3 from e) (by omega)
    · exact fun e => absurd (show j2 = j4 from e) (by omega)
    · exact fun e => absurd (show j2 = j5 from e) (by omega)
    · exact fun e => absurd (show j2 = j6 from e) (by omega)
  · rcases hb with rfl | rfl | rfl | rfl | rfl | rfl | rfl
    · exact fun e => absurd (show j3 = 0 from e) (by omega)
    · exact fun e => absurd (show j3 = j1 from e) (by omega)
    · exact fun e => absurd (show j3 = j2 from e) (by omega)
    · exact fun _ => rfl
    · exact fun e => absurd (show j3 = j4 from e) (by omega)
    · exact fun e => absurd (show j3 = j5 from e) (by omega)
    · exact fun e => absurd (show j3 = j6 from e) (by omega)
  · rcases hb with rfl | rfl | rfl | rfl | rfl | rfl | rfl
    · exact fun e => absurd (show j4 = 0 from e) (by omega)
    · exact fun e => absurd (show j4 = j1 from e) (by omega)
    · exact fun e => absurd (show j4 = j2 from e) (by omega)
    · exact fun e => absurd (show j4 = j3 from e) (by omega)
    · exact fun _ => rfl
    · exact fun e => absurd (show j4 = j5 from e) (by omega)
    · exact fun e => absurd (show j4 = j6 from e) (by omega)
  · rcases hb with rfl | rfl | rfl | rfl | rfl | rfl | rfl
    · exact fun e => absurd (show j5 = 0 from e) (by omega)
    · exact fun e => absurd (show j5 = j1 from e) (by omega)
    · exact fun e => absurd (show j5 = j2 from e) (by omega)
    · exact fun e => absurd (show j5 = j3 from e) (by omega)
    · exact fun e => absurd (show j5 = j4 from e) (by omega)
    · exact fun _ => rfl
    · exact fun e => absurd (show j5 = j6 from e) (by omega)
  · rcases hb with rfl | rfl | rfl | rfl | rfl | rfl | rfl
    · exact fun e => absurd (show j6 = 0 from e) (by omega)
    · exact fun e => absurd (show j6 = j1 from e) (by omega)
    · exact fun e => absurd (show j6 = j2 from e) (by omega)
    · exact fun e => absurd (show j6 = j3 from e) (by omega)
    · exact fun e => absurd (show j6 = j4 from e) (by omega)
    · exact fun e => absurd (show j6 = j5 from e) (by omega)
    · exact fun _ => rfl
theorem rdCovG {σ : AE} {H : AH} {n : Nat} {R : Rd} (j1 j2 j3 j4 j5 j6 : Nat) {l l1 l2 l3 l4 l5 l6 : List AV} {le : List (Nat × AV)} (he : ∀ x ∈ le, SubV H 13 (rdN j1 j2 j3 j4 j5 j6) (getq (pa x.1) σ) x.2) (hd : [0, j1, j2, j3, j4, j5, j6].Nodup) (h0 : PM.get H 0 = some (.cells l true)) (hm : l.map mk = rdC j1 j2 j3 j4 j5 j6 R) (r1 : PM.get H j1 = some (.cells l1 true)) (m1 : l1.map mk = txts R.ks) (r2 : PM.get H j2 = some (.cells l2 true)) (m2 : l2.map mk = ints R.ts) (r3 : PM.get H j3 = some (.cells l3 true)) (m3 : l3.map mk = ints R.vs) (r4 : PM.get H j4 = some (.cells l4 true)) (m4 : l4.map mk = labs R.ls) (r5 : PM.get H j5 = some (.cells l5 true)) (m5 : l5.map mk = ints R.q.times) (r6 : PM.get H j6 = some (.cells l6 true)) (m6 : l6.map mk = txts R.fs) : Cov 7 σ H n (mkE le, rdM R, 13) := by
  refine Cov.ofR (rdN j1 j2 j3 j4 j5 j6) (by decide) (fun b hb => by unfold rdN; repeat' rw [if_neg (by omega)]) he ?_ ?_
  · intro x hx
    simp only [List.mem_cons, List.not_mem_nil, or_false] at hx
    rcases hx with rfl | rfl | rfl | rfl | rfl | rfl | rfl
    · exact ⟨Nat.le_of_ble_eq_true rfl, .inl ⟨_, h0, SubO.st (SubL.good rfl hm)⟩⟩
    · exact ⟨Nat.le_of_ble_eq_true rfl, .inl ⟨_, r1, SubO.cells_mk (txts_flat _) (by rw [m1, txts_map]) (fun q => q)⟩⟩
    · exact ⟨Nat.le_of_ble_eq_true rfl, .inl ⟨_, r2, SubO.cells_mk (ints_flat _) (by rw [m2, ints_map]) (fun q => q)⟩⟩
    · exact ⟨Nat.le_of_ble_eq_true rfl, .inl ⟨_, r3, SubO.cells_mk (ints_flat _) (by rw [m3, ints_map]) (fun q => q)⟩⟩
    · exact ⟨Nat.le_of_ble_eq_true rfl, .inl ⟨_, r4, SubO.cells_mk (labs_flat _) (by rw [m4, labs_map]) (fun q => q)⟩⟩
    · exact ⟨Nat.le_of_ble_eq_true rfl, .inl ⟨_, r5, SubO.cells_mk (ints_flat _) (by rw [m5, ints_map]) (fun q => q)⟩⟩
    · exact ⟨Nat.le_of_ble_eq_true rfl, .inl ⟨_, r6, SubO.cells_mk (txts_flat _) (by rw [m6, txts_map]) (fun q => q)⟩⟩
  · exact fun x hx y hy e => rdN_inj hd x.1 (List.mem_map_of_mem (f := Prod.fst) hx) y.1 (List.mem_map_of_mem (f := Prod.fst) hy) e
def RdP (v : AV) (R : Rd) : PK := fun u H' m => u = v ∧ H' = rdM R ∧ m = 13
theorem rdLeafP {u v : AV} {H : AH} {n : Nat} {R : Rd} (j1 j2 j3 j4 j5 j6 : Nat) {l l1 l2 l3 l4 l5 l6 : List AV} (hv : SubV H 13 (rdN j1 j2 j3 j4 j5 j6) u v) (hd : [0, j1, j2, j3, j4, j5, j6].Nodup) (h0 : PM.get H 0 = some (.cells l true)) (hm : l.map mk = rdC j1 j2 j3 j4 j5 j6 R) (r1 : PM.get H j1 = some (.cells l1 true)) (m1 : l1.map mk = txts R.ks) (r2 : PM.get H j2 = some (.cells l2 true)) (m2 : l2.map mk = ints R.ts) (r3 : PM.get H j3 = some (.cells l3 true)) (m3 : l3.map mk = ints R.vs) (r4 : PM.get H j4 = some (.cells l4 true)) (m4 : l4.map mk = labs R.ls) (r5 : PM.get H j5 = some (.cells l5 true)) (m5 : l5.map mk = ints R.q.times) (r6 : PM.get H j6 = some (.cells l6 true)) (m6 : l6.map mk = txts R.fs) : ∃ v2 H2 m, Cov 7 (mkE [(0, u)]) H n (mkE [(0, v2)], H2, m) ∧ RdP v R v2 H2 m :=
  ⟨v, _, _, rdCovG j1 j2 j3 j4 j5 j6 (le := [(0, v)]) (fun x hx => by
    simp only [List.mem_cons, List.not_mem_nil, or_false] at hx
    subst hx; exact hv) hd h0 hm r1 m1 r2 m2 r3 m3 r4 m4 r5 m5 r6 m6, rfl, rfl, rfl⟩
noncomputable def rdSetP (H : AH) (n r k t v l q f : Nat) (R' : Rd) : AH := PM.set (some (.cells (rdC n (n + 1) (n + 2) (n + 3) (n + 4) (n + 5) R') true)) depthH (PM.set none depthH (PM.set none depthH (PM.set none depthH (PM.set none depthH (PM.set none depthH (PM.set none depthH (PM.set (some (.cells (txts R'.ks) true)) depthH (PM.set (some (.cells (ints R'.ts) true)) depthH (PM.set (some (.cells (ints R'.vs) true)) depthH (PM.set (some (.cells (labs R'.ls) true)) depthH (PM.set (some (.cells (ints R'.q.times) true)) depthH (PM.set (some (.cells (txts R'.fs) true)) depthH H (n + 5)) (n + 4)) (n + 3)) (n + 2)) (n + 1)) n) f) q) l) v) t) k) r
/-- A function that may grow a reader's rows. -/
def natRdP (ok : Rd → Prop) (A : List AV → Prop) (F : Rd → AV × Rd) (args : List AV) (H : AH) (n : Nat) (κ : PK) : Prop := match args with
  | x :: ar => ∃ (r k t v l q f : Nat) (R : Rd), x = .ptr r 0 ∧ A ar ∧ RdAt H n r k t v l q f R ∧ ok R ∧ κ (F R).1 (rdSetP H n r k t v l q f (F R).2) (n + 6)
  | _ => False
theorem rdC_renP {r k t v l q f n : Nat} (R : Rd) : renL (nmOf [r, k, t, v, l, q, f] n) (rdC 7 8 9 10 11 12 R) = rdC n (n + 1) (n + 2) (n + 3) (n + 4) (n + 5) R := rfl
theorem natRdP_of {f : FuncId} {run : List AV → AH → Nat → PK → Prop} (hrun : NatP f run) (hic : isCall Try.prog f = true) {ok : Rd → Prop} {A : List AV → Prop} {ar0 : List AV} {F : Rd → AV × Rd} (hA : ∀ ar, A ar → ∀ (φ : Ph) (vs : List Value), VRs φ ar vs → VRs φ ar0 vs) (har : ∀ r, renL r ar0 = ar0)
    (hv : ∀ R, ltV 13 (F R).1 = true ∧ ∀ r, ren r (F R).1 = (F R).1) (h : ∀ R, ok R → postC run (.ptr 0 0 :: ar0) (mkH (memO (rdO R) 0)) 7 (RdP (F R).1 (F R).2)) : NatP f (natRdP ok A F) := fun args H n κ hs φ h0' hp vs K hr hargs hk => by
  unfold natRdP at hs
  split at hs
  · rename_i x ar
    obtain ⟨r, k, t, v, l, q, f, R, rfl, ha, hR, hok, hs⟩ := hs
    obtain ⟨v1, us, e1, e2, e3⟩ := hargs.cons_inv
    have hargs' : VRs φ (renL (nmOf [r, k, t, v, l, q, f] n) (.ptr 0 0 :: ar0)) vs.toList := by
      show VRs φ (ren _ _ :: renL _ ar0) vs.toList
      rw [har, e1]
      exact .cons e2 (hA ar ha φ us e3)
    refine framed (S := [r, k, t, v, l, q, f]) (O := rdO R) (args0 := .ptr 0 0 :: ar0) (NatP.postC hrun) hic hr hR.hands hargs' hk (h R hok) fun u H' n' ⟨g0, g1, g2⟩ => ?_
    subst g0 g1 g2
    refine ⟨13, putH [r, k, t, v, l, q, f] n H [(0, some (.cells (rdC 7 8 9 10 11 12 (F R).2) true)), (1, none), (2, none), (3, none), (4, none), (5, none), (6, none), (7, some (.cells (txts (F R).2.ks) true)), (8, some (.cells (ints (F R).2.ts) true)), (9, some (.cells (ints (F R).2.vs) true)), (10, some (.cells (labs (F R).2.ls) true)), (11, some (.cells (ints (F R).2.q.times) true)), (12, some (.cells (txts (F R).2.fs) true))], Nat.le_of_ble_eq_true rfl, After.put (Nat.le_of_ble_eq_true rfl) rfl (fun x hx o ho => ?_), (hv R).1, ?_⟩
    · simp only [List.mem_cons, List.not_mem_nil, or_false] at hx
      rcases hx with rfl | rfl | rfl | rfl | rfl | rfl | rfl | rfl | rfl | rfl | rfl | rfl | rfl
      · injection ho with ho; subst ho; exact ⟨rfl, rfl, rfl⟩
      · cases ho
      · cases ho
      · cases ho
      · cases ho
      · cases ho
      · cases ho
      · injection ho with ho; subst ho; exact ⟨rfl, rfl, ltL_flat _ _ (txts_flat _)⟩
      · injection ho with ho; subst ho; exact ⟨rfl, rfl, ltL_flat _ _ (ints_flat _)⟩
      · injection ho with ho; subst ho; exact ⟨rfl, rfl, ltL_flat _ _ (ints_flat _)⟩
      · injection ho with ho; subst ho; exact ⟨rfl, rfl, ltL_flat _ _ (labs_flat _)⟩
      · injection ho with ho; subst ho; exact ⟨rfl, rfl, ltL_flat _ _ (ints_flat _)⟩
      · injection ho with ho; subst ho; exact ⟨rfl, rfl, ltL_flat _ _ (txts_flat _)⟩
    · rw [(hv R).2]
      have e : putH [r, k, t, v, l, q, f] n H [(0, some (.cells (rdC 7 8 9 10 11 12 (F R).2) true)), (1, none), (2, none), (3, none), (4, none), (5, none), (6, none), (7, some (.cells (txts (F R).2.ks) true)), (8, some (.cells (ints (F R).2.ts) true)), (9, some (.cells (ints (F R).2.vs) true)), (10, some (.cells (labs (F R).2.ls) true)), (11, some (.cells (ints (F R).2.q.times) true)), (12, some (.cells (txts (F R).2.fs) true))] = rdSetP H n r k t v l q f (F R).2 := by
        simp only [putH, Option.map_some, Option.map_none, renO, rdC_renP, renL_flat _ _ (txts_flat _), renL_flat _ _ (ints_flat _), renL_flat _ _ (labs_flat _)]
        rfl
      rw [e]; exact hs
  · exact hs.elim
end Go.Proofs.Ytdfeigkooeeeaaa
namespace Go.Proofs.Ytdfeigkooeeeaaa
open Go Go.RowKit
set_option maxRecDepth 20000
theorem tyTx : RTy 28 28 1 16 := ⟨_, _, _, rfl, rfl, (fun q h => by cases h), rfl, rfl, rfl, rfl, by decide, by decide⟩
theorem tyIn : RTy 30 30 1 8 := ⟨_, _, _, rfl, rfl, (fun q h => by cases h), rfl, rfl, rfl, rfl, by decide, by decide⟩
theorem txts_whole (L : List (List Nat)) : subL (txts L) 0 (L.length * 1) = some (txts L) := subL_all (by rw [txts_length, Nat.mul_one])
theorem ints_whole (L : List Int) : subL (ints L) 0 (L.length * 1) = some (ints L) := subL_all (by rw [ints_length, Nat.mul_one])
theorem ints_snocC (L : List Int) (x : Int) : ints L ++ [.si .i64 x] = ints (L ++ [x]) := by simp [ints]
structure SameRows (R R' : Rd) : Prop where
  ks : R'.ks = R.ks
  ts : R'.ts = R.ts
  vs : R'.vs = R.vs
  ls : R'.ls = R.ls
  q : R'.q = R.q
  fs : R'.fs = R.fs
theorem SameRows.refl (R : Rd) : SameRows R R := ⟨rfl, rfl, rfl, rfl, rfl, rfl⟩
theorem SameRows.trans {A B C : Rd} (h : SameRows A B) (k : SameRows B C) : SameRows A C := ⟨k.ks.trans h.ks, k.ts.trans h.ts, k.vs.trans h.vs, k.ls.trans h.ls, k.q.trans h.q, k.fs.trans h.fs⟩
theorem fail_same (R : Rd) (e : Int) : SameRows R (failR R e) := by unfold failR; split <;> exact ⟨rfl, rfl, rfl, rfl, rfl, rfl⟩
theorem next_same (R : Rd) : SameRows R (nextR R).2 := by
  unfold nextR
  split
  · exact ⟨rfl, rfl, rfl, rfl, rfl, rfl⟩
  · exact fail_same R 14
theorem told_same (g : List Nat → Int × Int) (R : Rd) : SameRows R (toldR g R).2 := by
  unfold toldR
  dsimp only
  split
  · exact next_same R
  · exact (next_same R).trans (fail_same _ _)
theorem or_same (w : List Nat) (z : Int) (R : Rd) : SameRows R (orR w z R).2 := by
  unfold orR
  split
  · exact next_same R
  · exact told_same _ R
theorem WOk.or {R : Rd} (h : WOk R) (w : List Nat) (z : Int) : WOk (orR w z R).2 := by
  unfold orR
  split
  · exact h.next.2
  · exact h.told _
def keyR (R : Rd) : Rd := { (nextR R).2 with ks := (nextR R).2.ks ++ [(nextR R).1] }
noncomputable def timeR (R : Rd) : Rd := { (orR [42] (-1) R).2 with ts := (orR [42] (-1) R).2.ts ++ [(orR [42] (-1) R).1] }
def valR (R : Rd) : Rd := { (toldR numF R).2 with vs := (toldR numF R).2.vs ++ [(toldR numF R).1] }
def unitV (f : Rd → Rd) (R : Rd) : AV × Rd := (.tup [], f R)
def d_keyR : DT := [(0, [(some 1000000, [5, 7]), (none, [0, 1, 2, 3, 4, 5, 6, 7, 8, 9, 10, 11, 12, 13]), (none, [0, 1, 2, 3, 4, 6, 7, 5, 8, 9, 10, 11, 12, 13])])]
noncomputable def KKy : FuncId → EP := withD 53 d_keyR (withN 73 (natRdK (fun _ => True) noA nextV) evP)
theorem KKy_ok : TabP KKy := withD_ok (withN_ok evP_ok n_nextC) (by kernel_rfl) (by kernel_rfl)
set_option maxHeartbeats 8000000 in
set_option maxRecDepth 100000 in
theorem keyR_runC (R : Rd) (hok : R.ks.length ≤ 1000000) : postC (callT KKy 4 53) (.ptr 0 0 :: []) (mkH (memO (rdO R) 0)) 7 (RdP (unitV keyR R).1 (unitV keyR R).2) := by
  obtain ⟨X, hX⟩ : ∃ X, X = (nextR R).2 := ⟨_, rfl⟩
  have hl : R.ks.length ≤ 1000000 := hok
  have hk : X.ks = R.ks := by rw [hX]; exact (next_same R).ks
  have hlen1 : R.ks.length + 1 = (keyR R).ks.length := by unfold keyR; rw [← hX]; simp [hk]
  have hlen2 : X.ks.length + 1 = (keyR R).ks.length := by rw [hk]; exact hlen1
  have hrow1 : subL (txts X.ks) 0 (R.ks.length * 1) = some (txts X.ks) := by rw [hk]; exact txts_whole _
  have hrow2 : subL (txts X.ks) 0 (X.ks.length * 1) = some (txts X.ks) := txts_whole _
  have hb1 : (R.ks.length + 1) * 16 ≤ 140737488355328 := by omega
  have hb2 : (X.ks.length + 1) * 16 ≤ 140737488355328 := by rw [hk]; omega
  have hm1 : rdCx 8 2 3 4 5 6 (R.ks.length + 1) (X.ts.length) (X.vs.length) (X.ls.length) (X.q.times.length) (X.fs.length) (keyR R) = rdC 8 2 3 4 5 6 (keyR R) := by rw [hlen1, hX]; rfl
  have hm2 : rdCx 8 2 3 4 5 6 (X.ks.length + 1) (X.ts.length) (X.vs.length) (X.ls.length) (X.q.times.length) (X.fs.length) (keyR R) = rdC 8 2 3 4 5 6 (keyR R) := by rw [hlen2, hX]; rfl
  have hc : (txts X.ks ++ [AV.ss (nextR R).1]).map mk = txts (keyR R).ks := by unfold keyR; rw [txts_snoc, txts_map, ← hX]
  subst hX
  show callT KKy 4 53 _ _ _ _
  conv => whnf
  refine ⟨?_, ?_, trivial⟩
  · conv => whnf
    refine ⟨0, 1, 2, 3, 4, 5, 6, R, rfl, rfl, ⟨by decide, by decide, rfl, rfl, rfl, rfl, rfl, rfl, rfl⟩, trivial, ?_⟩
    conv => whnf
    refine RApp.grow 1 16 _ _ _ _ _ _ tyTx (.old rfl) rfl rfl (.rw rfl hrow1) hb1 ?_
    conv => whnf
    exact rdLeafP 8 2 3 4 5 6 (.same rfl) (by decide) rfl hm1 rfl hc rfl (ints_map _) rfl (ints_map _) rfl (labs_map _) rfl (ints_map _) rfl (txts_map _)
  · conv => whnf
    refine ⟨0, 1, 2, 3, 4, 5, 6, R, rfl, rfl, ⟨by decide, by decide, rfl, rfl, rfl, rfl, rfl, rfl, rfl⟩, trivial, ?_⟩
    conv => whnf
    refine RApp.grow 1 16 _ _ _ _ _ _ tyTx (.old rfl) rfl rfl (.rw rfl hrow2) hb2 ?_
    conv => whnf
    exact rdLeafP 8 2 3 4 5 6 (.same rfl) (by decide) rfl hm2 rfl hc rfl (ints_map _) rfl (ints_map _) rfl (labs_map _) rfl (ints_map _) rfl (txts_map _)
theorem n_keyR : NatP 53 (natRdP (fun R => R.ks.length ≤ 1000000) noA (unitV keyR)) := natRdP_of (callT_nat KKy_ok 4 _) (by kernel_rfl) noA_ok (fun _ => rfl) (fun R => ⟨rfl, fun _ => rfl⟩) fun R h => keyR_runC R h
noncomputable def KTi : FuncId → EP := withD 69 d_keyR (withN 77 (natRdK WOk (orA [42] (-1)) (orV [42] (-1))) evP)
theorem KTi_ok : TabP KTi := withD_ok (withN_ok evP_ok (n_or [42] (-1))) (by kernel_rfl) (by kernel_rfl)
set_option maxHeartbeats 8000000 in
set_option maxRecDepth 100000 in
theorem timeR_runC (R : Rd) (hok : WOk R ∧ R.ts.length ≤ 1000000) : postC (callT KTi 4 69) (.ptr 0 0 :: []) (mkH (memO (rdO R) 0)) 7 (RdP (unitV timeR R).1 (unitV timeR R).2) := by
  obtain ⟨X, hX⟩ : ∃ X, X = (orR [42] (-1) R).2 := ⟨_, rfl⟩
  have hl : R.ts.length ≤ 1000000 := hok.2
  have hk : X.ts = R.ts := by rw [hX]; exact (or_same [42] (-1) R).ts
  have hlen1 : R.ts.length + 1 = (timeR R).ts.length := by unfold timeR; rw [← hX]; simp [hk]
  have hlen2 : X.ts.length + 1 = (timeR R).ts.length := by rw [hk]; exact hlen1
  have hrow1 : subL (ints X.ts) 0 (R.ts.length * 1) = some (ints X.ts) := by rw [hk]; exact ints_whole _
  have hrow2 : subL (ints X.ts) 0 (X.ts.length * 1) = some (ints X.ts) := ints_whole _
  have hb1 : (R.ts.length + 1) * 8 ≤ 140737488355328 := by omega
  have hb2 : (X.ts.length + 1) * 8 ≤ 140737488355328 := by rw [hk]; omega
  have hm1 : rdCx 1 8 3 4 5 6 (X.ks.length) (R.ts.length + 1) (X.vs.length) (X.ls.length) (X.q.times.length) (X.fs.length) (timeR R) = rdC 1 8 3 4 5 6 (timeR R) := by rw [hlen1, hX]; rfl
  have hm2 : rdCx 1 8 3 4 5 6 (X.ks.length) (X.ts.length + 1) (X.vs.length) (X.ls.length) (X.q.times.length) (X.fs.length) (timeR R) = rdC 1 8 3 4 5 6 (timeR R) := by rw [hlen2, hX]; rfl
  have hc : (ints X.ts ++ [AV.si .i64 (orR [42] (-1) R).1]).map mk = ints (timeR R).ts := by unfold timeR; rw [ints_snocC, ints_map, ← hX]
  subst hX
  show callT KTi 4 69 _ _ _ _
  conv => whnf
  refine ⟨?_, ?_, trivial⟩
  · conv => whnf
    refine ⟨0, 1, 2, 3, 4, 5, 6, R, rfl, ⟨_, _, rfl, rfl, rfl⟩, ⟨by decide, by decide, rfl, rfl, rfl, rfl, rfl, rfl, rfl⟩, hok.1, ?_⟩
    conv => whnf
    refine RApp.grow 1 8 _ _ _ _ _ _ tyIn (.old rfl) rfl rfl (.rw rfl hrow1) hb1 ?_
    conv => whnf
    exact rdLeafP 1 8 3 4 5 6 (.same rfl) (by decide) rfl hm1 rfl (txts_map _) rfl hc rfl (ints_map _) rfl (labs_map _) rfl (ints_map _) rfl (txts_map _)
  · conv => whnf
    refine ⟨0, 1, 2, 3, 4, 5, 6, R, rfl, ⟨_, _, rfl, rfl, rfl⟩, ⟨by decide, by decide, rfl, rfl, rfl, rfl, rfl, rfl, rfl⟩, hok.1, ?_⟩
    conv => whnf
    refine RApp.grow 1 8 _ _ _ _ _ _ tyIn (.old rfl) rfl rfl (.rw rfl hrow2) hb2 ?_
    conv => whnf
    exact rdLeafP 1 8 3 4 5 6 (.same rfl) (by decide) rfl hm2 rfl (txts_map _) rfl hc rfl (ints_map _) rfl (labs_map _) rfl (ints_map _) rfl (txts_map _)
theorem n_timeR : NatP 69 (natRdP (fun R => WOk R ∧ R.ts.length ≤ 1000000) noA (unitV timeR)) := natRdP_of (callT_nat KTi_ok 4 _) (by kernel_rfl) noA_ok (fun _ => rfl) (fun R => ⟨rfl, fun _ => rfl⟩) fun R h => timeR_runC R h
noncomputable def KVa : FuncId → EP := withD 68 d_keyR (withN 70 (natRdK WOk noA (toldV numF)) evP)
theorem KVa_ok : TabP KVa := withD_ok (withN_ok evP_ok n_numberR) (by kernel_rfl) (by kernel_rfl)
set_option maxHeartbeats 8000000 in
set_option maxRecDepth 100000 in
theorem valR_runC (R : Rd) (hok : WOk R ∧ R.vs.length ≤ 1000000) : postC (callT KVa 4 68) (.ptr 0 0 :: []) (mkH (memO (rdO R) 0)) 7 (RdP (unitV valR R).1 (unitV valR R).2) := by
  obtain ⟨X, hX⟩ : ∃ X, X = (toldR numF R).2 := ⟨_, rfl⟩
  have hl : R.vs.length ≤ 1000000 := hok.2
  have hk : X.vs = R.vs := by rw [hX]; exact (told_same numF R).vs
  have hlen1 : R.vs.length + 1 = (valR R).vs.length := by unfold valR; rw [← hX]; simp [hk]
  have hlen2 : X.vs.length + 1 = (valR R).vs.length := by rw [hk]; exact hlen1
  have hrow1 : subL (ints X.vs) 0 (R.vs.length * 1) = some (ints X.vs) := by rw [hk]; exact ints_whole _
  have hrow2 : subL (ints X.vs) 0 (X.vs.length * 1) = some (ints X.vs) := ints_whole _
  have hb1 : (R.vs.length + 1) * 8 ≤ 140737488355328 := by omega
  have hb2 : (X.vs.length + 1) * 8 ≤ 140737488355328 := by rw [hk]; omega
  have hm1 : rdCx 1 2 8 4 5 6 (X.ks.length) (X.ts.length) (R.vs.length + 1) (X.ls.length) (X.q.times.length) (X.fs.length) (valR R) = rdC 1 2 8 4 5 6 (valR R) := by rw [hlen1, hX]; rfl
  have hm2 : rdCx 1 2 8 4 5 6 (X.ks.length) (X.ts.length) (X.vs.length + 1) (X.ls.length) (X.q.times.length) (X.fs.length) (valR R) = rdC 1 2 8 4 5 6 (valR R) := by rw [hlen2, hX]; rfl
  have hc : (ints X.vs ++ [AV.si .i64 (toldR numF R).1]).map mk = ints (valR R).vs := by unfold valR; rw [ints_snocC, ints_map, ← hX]
  subst hX
  show callT KVa 4 68 _ _ _ _
  conv => whnf
  refine ⟨?_, ?_, trivial⟩
  · conv => whnf
    refine ⟨0, 1, 2, 3, 4, 5, 6, R, rfl, rfl, ⟨by decide, by decide, rfl, rfl, rfl, rfl, rfl, rfl, rfl⟩, hok.1, ?_⟩
    conv => whnf
    refine RApp.grow 1 8 _ _ _ _ _ _ tyIn (.old rfl) rfl rfl (.rw rfl hrow1) hb1 ?_
    conv => whnf
    exact rdLeafP 1 2 8 4 5 6 (.same rfl) (by decide) rfl hm1 rfl (txts_map _) rfl (ints_map _) rfl hc rfl (labs_map _) rfl (ints_map _) rfl (txts_map _)
  · conv => whnf
    refine ⟨0, 1, 2, 3, 4, 5, 6, R, rfl, rfl, ⟨by decide, by decide, rfl, rfl, rfl, rfl, rfl, rfl, rfl⟩, hok.1, ?_⟩
    conv => whnf
    refine RApp.grow 1 8 _ _ _ _ _ _ tyIn (.old rfl) rfl rfl (.rw rfl hrow2) hb2 ?_
    conv => whnf
    exact rdLeafP 1 2 8 4 5 6 (.same rfl) (by decide) rfl hm2 rfl (txts_map _) rfl (ints_map _) rfl hc rfl (labs_map _) rfl (ints_map _) rfl (txts_map _)
theorem n_valR : NatP 68 (natRdP (fun R => WOk R ∧ R.vs.length ≤ 1000000) noA (unitV valR)) := natRdP_of (callT_nat KVa_ok 4 _) (by kernel_rfl) noA_ok (fun _ => rfl) (fun R => ⟨rfl, fun _ => rfl⟩) fun R h => valR_runC R h
end Go.Proofs.Ytdfeigkooeeeaaa
