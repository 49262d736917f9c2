/- Texts of our own, joined: the engine, the machine that runs code, and what is known of the functions. -/
import Derived.Test.YtpfflibkkjjlaaaJh
set_option linter.unusedSimpArgs false
set_option linter.unusedVariables false
namespace Go.Proofs.Ytpfflibkkjjlaaa
open Go Go.RowKit
def Recast (H : AH) (n : Nat) (H' : AH) (n' : Nat) : Prop := ∀ (φ : Ph) (h0 h : Hp), HR φ H n h0 h → HR φ H' n' h0 h
def VTo (u v : AV) : Prop := ∀ (φ : Ph) (w : Value), VR φ u w → VR φ v w
theorem Recast.refl (H : AH) (n : Nat) : Recast H n H n := fun _ _ _ h => h
theorem Recast.trans {H1 H2 H3 : AH} {n1 n2 n3 : Nat} (h : Recast H1 n1 H2 n2) (k : Recast H2 n2 H3 n3) : Recast H1 n1 H3 n3 := fun φ h0 hp q => k φ h0 hp (h φ h0 hp q)
theorem Recast.remk {H : AH} {n b : Nat} {l l' : List AV} {z : Bool} (hb : H.get b = some (.cells l z)) (hf : l'.all flat.flat1 = true) (e : l.map Go.Proofs.Ytpfflibkkjjlaaa.mk = l'.map Go.Proofs.Ytpfflibkkjjlaaa.mk) : Recast H n (H.set (some (.cells l' z)) depthH b) n := fun _ _ _ hr => hr.remk hb hf e
theorem Recast.kill (H : AH) (n b : Nat) : Recast H n (H.set none depthH b) n := fun _ _ _ hr => hr.kill depthH b
theorem VTo.refl (u : AV) : VTo u u := fun _ _ h => h
theorem VTo.flat {u v : AV} (hv : Go.Proofs.Ytpfflibkkjjlaaa.flat v = true) (e : mkT u = mkT v) : VTo u (mkT v) := fun φ w h => flat_VR (φ := φ) (flat_mkT hv) (e ▸ h.mkT)
def post (g : List AV → AH → Nat → PK → Prop) (args : List AV) (H : AH) (n : Nat) (κ : PK) : Prop := g args H n fun u H' n' => ∃ v H2 n2, VTo u v ∧ Recast H' n' H2 n2 ∧ κ v H2 n2
theorem NatP.post {f : FuncId} {g : List AV → AH → Nat → PK → Prop} (hg : NatP f g) : NatP f (post g) := fun args H n κ hs φ h0 h vs K hr ha hk => hg args H n _ hs φ h0 h vs K hr ha fun ψ u H' n' w g' hle hg' hu ⟨v, H2, n2, h1, h2, h3⟩ => hk ψ v H2 n2 w g' hle (h2 _ _ _ hg') (h1 _ _ hu) h3
/-! ### bytes -/
theorem bytA_at {s : List Nat} {i : Nat} (h : i < s.length) : (bytA s)[i]? = some (.si .u8 (Int.ofNat s[i])) := by
  unfold bytA
  rw [List.getElem?_map, List.getElem?_eq_getElem h]; rfl
theorem setL_one : ∀ (l : List AV) (o : Nat) (x : AV), o < l.length → setL l o [x] = some (l.set o x)
  | [], o, x, h => by simp at h
  | y :: l, 0, x, _ => by cases l <;> simp [setL]
  | y :: l, o + 1, x, h => by simp [setL, setL_one l o x (by simpa using h)]
theorem bytA_set (s : List Nat) (o : Nat) (c : Nat) : (bytA s).set o (.si .u8 (Int.ofNat c)) = bytA (s.set o c) := by simp [bytA, List.map_set]
theorem bytA_app (s t : List Nat) : bytA (s ++ t) = bytA s ++ bytA t := by simp [bytA]
theorem ebytes_bytA {s : List Nat} (h : ∀ x ∈ s, x < 256) : ebytes (bytA s) = some s := ebytes_map h
/-- Bytes' cells, told in any way. -/
theorem ebytes_mk : ∀ {l : List AV} {s : List Nat}, l.map mk = bytA s → (∀ x ∈ s, x < 256) → bytA s = l → ebytes l = some s := fun e h q => q ▸ ebytes_bytA h
/-- How far a bit is moved. -/
def shN (N : Nat) : Nat := 7 - N % 8
theorem sh_eq (N : Nat) : IntKind.i64.wrap (7 - ((N : Nat) : Int).tmod 8) = ((shN N : Nat) : Int) := by
  have h : ((N : Nat) : Int).tmod 8 = ((N % 8 : Nat) : Int) := by
    rw [Int.tmod_eq_emod_of_nonneg (Int.natCast_nonneg _)]; rfl
  rw [h]
  have := Nat.mod_lt N (show 8 > 0 by decide)
  unfold shN
  rw [IntKind.wrap_i64]; omega
theorem sh_pow (N : Nat) : min (IntKind.i64.wrap (7 - ((N : Nat) : Int).tmod 8)).toNat 8 = shN N := by
  rw [sh_eq]; unfold shN; simp; omega
theorem div_eq (N : Nat) (h : N ≤ 9223372036854775807) : IntKind.i64.wrap (((N : Nat) : Int).tdiv 8) = ((N / 8 : Nat) : Int) := by
  have e : ((N : Nat) : Int).tdiv 8 = ((N / 8 : Nat) : Int) := by
    rw [Int.tdiv_eq_ediv_of_nonneg (Int.natCast_nonneg _)]; rfl
  rw [e, IntKind.wrap_i64]; omega
theorem tmod0 (N : Nat) : (((N : Nat) : Int).tmod 8 = 0) ↔ N % 8 = 0 := by
  have h : ((N : Nat) : Int).tmod 8 = ((N % 8 : Nat) : Int) := by
    rw [Int.tmod_eq_emod_of_nonneg (Int.natCast_nonneg _)]; rfl
  rw [h]; omega
theorem fdiv_pow (U m : Nat) : ((U : Nat) : Int).fdiv ((2 : Int) ^ m) = ((U / 2 ^ m : Nat) : Int) := by
  have : ((2 : Int) ^ m) = ((2 ^ m : Nat) : Int) := by rw [Int.natCast_pow]; rfl
  rw [this, fdiv_nat]
/-- A bit of the number. -/
theorem bit_eq {U m : Nat} {i : Int} (hi : i = (m : Int)) (hm : m < 64) : bitsV .and .u8 (IntKind.u8.wrap (((U : Nat) : Int).fdiv ((2 : Int) ^ min i.toNat 64))) 1 = ((U / 2 ^ m % 2 : Nat) : Int) := by
  subst hi
  rw [show min (Int.toNat (m : Int)) 64 = m from by simp; omega, fdiv_pow, wr_and]
theorem wrU (x : Int) (b : Nat) (hb : b < 2) (hx : x = (b : Int)) (N : Nat) : IntKind.u8.wrap (x * (2 : Int) ^ min (IntKind.i64.wrap (7 - ((N : Nat) : Int).tmod 8)).toNat 8) = ((b * 2 ^ shN N : Nat) : Int) := by
  subst hx
  rw [sh_pow]
  exact wr_shl hb (by unfold shN; omega)
/-- A bit more, in a new byte. -/
theorem one_new {B : List Nat} {x : Int} {b : Nat} (hb : b < 2) (hx : x = (b : Int)) (h8 : B.length % 8 = 0) {o : Nat} (ho : o = B.length / 8) :
    setL (bytA (pack B) ++ [.int .u8 0]) o [.si .u8 (bitsV .or .u8 0 (IntKind.u8.wrap (x * (2 : Int) ^ min (IntKind.i64.wrap (7 - ((B.length : Nat) : Int).tmod 8)).toNat 8)))] = some (bytA (pack (B ++ [b]))) := by
  have hl : (bytA (pack B)).length = B.length / 8 := by rw [bytA_length, pack_length]; omega
  have hs : shN B.length = 7 := by unfold shN; omega
  rw [setL_one _ _ _ (by simp [hl, ho]), wrU x b hb hx, hs, pack_new h8, bytA_app]
  have e : bitsV .or .u8 0 ((b * 2 ^ 7 : Nat) : Int) = Int.ofNat (b * 2 ^ 7) := by
    have := wr_or (a := 0) (b := b) (r := 7) (by decide) (by decide) hb (by decide)
    rw [Nat.zero_add] at this
    exact this
  rw [e, List.set_append_right _ _ (by omega), hl, ho, Nat.sub_self]
  rfl
theorem new_at {B : List Nat} (h8 : B.length % 8 = 0) {o : Nat} (ho : o = B.length / 8) : nth (bytA (pack B) ++ [.int .u8 0]) o = some (.int .u8 0) := by
  have hl : (bytA (pack B)).length = B.length / 8 := by rw [bytA_length, pack_length]; omega
  rw [nth_eq, List.getElem?_append_right (by omega), hl, ho, Nat.sub_self]; rfl
/-- .. in the last byte. -/
theorem old_at {B : List Nat} (h8 : B.length % 8 ≠ 0) {o : Nat} (ho : o = B.length / 8) : nth (bytA (pack B)) o = some (.si .u8 (Int.ofNat (byteN (B.drop (8 * (B.length / 8)))))) := by
  have hp := pack_at B (B.length / 8) (by omega)
  have hl : B.length / 8 < (pack B).length := by rw [pack_length]; omega
  rw [nth_eq, ho, bytA_at hl]
  rw [List.getElem?_eq_getElem hl] at hp
  injection hp with hp
  rw [hp, List.take_of_length_le (by rw [List.length_drop]; omega)]
theorem one_old {B : List Nat} {x : Int} {b : Nat} (hB : Bits B) (hb : b < 2) (hx : x = (b : Int)) (h8 : B.length % 8 ≠ 0) {o : Nat} (ho : o = B.length / 8) :
    setL (bytA (pack B)) o [.si .u8 (bitsV .or .u8 (Int.ofNat (byteN (B.drop (8 * (B.length / 8))))) (IntKind.u8.wrap (x * (2 : Int) ^ min (IntKind.i64.wrap (7 - ((B.length : Nat) : Int).tmod 8)).toNat 8)))] = some (bytA (pack (B ++ [b]))) := by
  have hl : B.length / 8 < (bytA (pack B)).length := by rw [bytA_length, pack_length]; omega
  have hd : (B.drop (8 * (B.length / 8))).length = B.length % 8 := by rw [List.length_drop]; omega
  have hd8 : (B.drop (8 * (B.length / 8))).length < 8 := by rw [hd]; exact Nat.mod_lt _ (by decide)
  have hc := byteN_lt (C := B.drop (8 * (B.length / 8))) (fun c hc => hB c (List.mem_of_mem_drop hc)) (by omega)
  have hr := byteN_room hd8
  have hs : shN B.length = 7 - (B.drop (8 * (B.length / 8))).length := by rw [hd]; rfl
  rw [setL_one _ _ _ (by omega), wrU x b hb hx, pack_or h8, hs, ← bytA_set, ho]
  have e := wr_or (a := byteN (B.drop (8 * (B.length / 8)))) (b := b) (r := 7 - (B.drop (8 * (B.length / 8))).length) hc hr hb (by omega)
  rw [show (Int.ofNat (byteN (B.drop (8 * (B.length / 8))))) = ((byteN (B.drop (8 * (B.length / 8))) : Nat) : Int) from rfl, e, hd]
  rfl
/-! ### a bit read -/
theorem rd_bit {s : List Nat} (hs : ∀ x ∈ s, x < 256) {a c : Nat} (hc : nth s (a / 8) = some c) : bitsV .and .u8 ((Int.ofNat c).fdiv ((2 : Int) ^ min (IntKind.i64.wrap (7 - ((a : Nat) : Int).tmod 8)).toNat 8)) 1 = ((rdBit s a : Nat) : Int) := by
  rw [nth_eq] at hc
  have hc2 : c < 256 := hs c (List.mem_of_getElem? hc)
  rw [sh_pow, show (Int.ofNat c) = ((c : Nat) : Int) from rfl, fdiv_pow, rd_and hc2]
  unfold rdBit shN
  rw [hc]; rfl
theorem rd_step {s : List Nat} (hs : ∀ x ∈ s, x < 256) {a c u : Nat} (hc : nth s (a / 8) = some c) (hu : u < 9223372036854775808) :
    bitsV .or .u64 (IntKind.u64.wrap (((u : Nat) : Int) * 2)) (IntKind.u64.wrap (bitsV .and .u8 ((Int.ofNat c).fdiv ((2 : Int) ^ min (IntKind.i64.wrap (7 - ((a : Nat) : Int).tmod 8)).toNat 8)) 1)) = ((2 * u + rdBit s a : Nat) : Int) := by
  rw [rd_bit hs hc]
  exact rd_or hu (Nat.mod_lt _ (by decide))
theorem rdBits_app (s : List Nat) (a i j : Nat) : rdBits s a (i + j) = rdBits s a i ++ rdBits s (a + i) j := by
  unfold rdBits
  rw [List.range_add, List.map_append, List.map_map]
  congr 1
  exact List.map_congr_left fun k _ => by simp [Nat.add_assoc]
theorem rdBits_lt (s : List Nat) (a : Nat) {j : Nat} (h : j ≤ 63) : numB 0 (rdBits s a j) < 9223372036854775808 := by
  have := numB_lt _ (rdBits_bits s a j)
  rw [rdBits_length] at this
  have h2 : 2 ^ j ≤ 2 ^ 63 := Nat.pow_le_pow_right (by decide) h
  omega
/-! ### a sample told again -/
theorem w64_eq (x : Int) : W64 x = (x + 9223372036854775808) % 18446744073709551616 - 9223372036854775808 := by
  show IntKind.i64.wrap x = _
  rw [IntKind.wrap_i64]
theorem W64_add_sub (a d : Int) : W64 (a + W64 (W64 d - a)) = W64 d := by
  simp only [w64_eq]; omega
theorem W64_back {a b : Int} (h : In64 b) : W64 (a + W64 (b - a)) = b := by
  have := h.1; have := h.2
  simp only [w64_eq]; omega
theorem dec_step (X : Smp) {i : Nat} (h : i ≠ 0) : W64 (stepAt X i + zagI (dT X i)) = stepAt X (i + 1) := by
  unfold dT
  rw [zag_zig, W64_add_sub]
  unfold stepAt
  rw [if_neg (by omega)]
  congr 2
theorem dec_T {X : Smp} {i : Nat} (h : i ≠ 0) (hx : In64 (tAt X i)) : W64 (tAt X (i - 1) + stepAt X (i + 1)) = tAt X i := by
  unfold stepAt
  rw [if_neg (by omega), show i + 1 - 1 = i from rfl, show i + 1 - 2 = i - 1 from by omega]
  exact W64_back hx
theorem dec_V {X : Smp} {i : Nat} (hx : In64 (vAt X i)) : W64 (vAt X (i - 1) + zagI (dV X i)) = vAt X i := by
  unfold dV
  rw [zag_zig]
  exact W64_back hx
theorem dT_lt (X : Smp) (i : Nat) : dT X i < 18446744073709551616 := zig_lt (W64_in _)
theorem dV_lt (X : Smp) (i : Nat) : dV X i < 18446744073709551616 := zig_lt (W64_in _)
theorem tAt_in {X : Smp} (h : ∀ x ∈ X, In64 x.1 ∧ In64 x.2) (i : Nat) : In64 (tAt X i) ∧ In64 (vAt X i) := by
  unfold tAt vAt
  cases e : X[i]? with
  | none => exact ⟨⟨by decide, by decide⟩, ⟨by decide, by decide⟩⟩
  | some x => exact h x (List.mem_of_getElem? e)
end Go.Proofs.Ytpfflibkkjjlaaa
namespace Go.Proofs.Ytpfflibkkjjlaaa
open Go Go.RowKit
set_option maxRecDepth 20000
theorem SubV.fnp {H : AH} {m : Nat} {r : Nat → Nat} {a : AV} {f b o : Nat} (hb : b < m) (e : a = .fn f [.ptr (r b) o] []) : SubV H m r a (.fn f [.ptr b o] []) := fun φ ψ v hr _ hv => by
  subst e
  obtain ⟨xs, cs, rfl, h1, h2⟩ := hv.fn_inv
  obtain ⟨x, l, e1, h3, h4⟩ := h1.cons_inv
  obtain ⟨p, h5, rfl⟩ := h3.ptr_inv
  refine .fn ?_ (by rw [h2.nil_inv]; exact .nil)
  rw [e1, h4.nil_inv]
  exact .cons (.ptr (by rw [hr.1 b hb]; exact h5)) .nil
def wStr (c : Nat) (B : List Nat) : List AV := [.rw c 0 (pack B).length 1 0, .si .i64 ((B.length : Nat) : Int)]
noncomputable def wSet (H : AH) (n b c : Nat) (B : List Nat) : AH := ((H.set (some (.cells (bytA (pack B)) true)) depthH n).set none depthH c).set (some (.cells (wStr n B) true)) depthH b
/-- A number's bits, written. -/
def natWPut (args : List AV) (H : AH) (n : Nat) (κ : PK) : Prop := match args with
  | [x, u, m] => ∃ (b c U k : Nat) (B : List Nat), x = .ptr b 0 ∧ b ≠ c ∧ b < n ∧ c < n ∧ H.get b = some (.cells (wStr c B) true) ∧ H.get c = some (.cells (bytA (pack B)) true) ∧ Bits B ∧ mk u = .si .u64 (U : Int) ∧ mk m = .si .i64 (k : Int) ∧ k ≤ 64 ∧ U < 2 ^ k ∧ B.length ≤ 100000000 ∧
      κ (.int .i64 0) (wSet H n b c (B ++ bitsOf U k)) (n + 1)
  | _ => False
theorem bitsOf_cons (U k : Nat) : bitsOf U (k + 1) = [U / 2 ^ k % 2] ++ bitsOf U k := rfl
noncomputable def wc (U : Nat) (D : List Nat) (k : Nat) : AE × AH := (mkE [(0, .si .u64 ((U : Nat) : Int)), (2, .fn 61 [.ptr 0 0] []), (6, .si .i64 (((k : Nat) : Int) - 1))], mkH [(0, .cells (wStr 2 D) true), (2, .cells (bytA ((pack D))) true)])
theorem wc_cov {U : Nat} {D : List Nat} {k : Nat} {p n : Nat} {σ : AE} {H : AH} (j2 : Nat) (hj : j2 ≠ 0) (hp : p ≤ 2) (e0 : SubV H 3 (fun b => if b = 2 then j2 else b) (getq (pa 0) σ) (.si .u64 ((U : Nat) : Int))) (e2 : SubV H 3 (fun b => if b = 2 then j2 else b) (getq (pa 2) σ) (.fn 61 [.ptr 0 0] [])) (e6 : mk (getq (pa 6) σ) = .si .i64 (((k : Nat) : Int) - 1)) (h0 : ∃ l, H.get 0 = some (.cells l true) ∧ SubL H 3 (fun b => if b = 2 then j2 else b) l (wStr 2 D)) (h2 : (∃ l, H.get j2 = some (.cells l true) ∧ l.map mk = bytA ((pack D))) ∨ (((pack D)) = [] ∧ n ≤ j2)) : Cov p σ H n ((wc U D k).1, (wc U D k).2, 3) := by
  refine Cov.ofR (fun b => if b = 2 then j2 else b) (by omega) (fun b hb => by repeat' rw [if_neg (by omega)]) ?_ ?_ ?_
  · intro x hx
    simp only [List.mem_cons, List.not_mem_nil, or_false] at hx
    rcases hx with rfl | rfl | rfl
    · exact e0
    · exact e2
    · exact .int e6
  · intro x hx
    simp only [List.mem_cons, List.not_mem_nil, or_false] at hx
    rcases hx with rfl | rfl
    · exact ⟨by simp, .inl (h0.elim fun l h => ⟨_, h.1, SubO.st h.2⟩)⟩
    · exact ⟨by simp, h2.elim (fun ⟨l, h, g⟩ => .inl ⟨_, h, SubO.cells_mk (bytA_flat _) (by rw [g, bytA_map]) (fun q => q)⟩) (fun h => .inr ⟨by rw [h.1]; rfl, h.2⟩)⟩
  · intro x hx y hy
    simp only [List.mem_cons, List.not_mem_nil, or_false] at hx hy
    rcases hx with rfl | rfl <;> rcases hy with rfl | rfl <;> simp <;> omega
noncomputable def KW : FuncId → EP := withD 61 [] evP
theorem KW_ok : TabP KW := withD_ok evP_ok (by kernel_rfl) (by kernel_rfl)
theorem shr_zero {U k : Nat} (hk : k ≤ 64) (hd : U / 2 ^ k = 0) : ¬ 0 < ((U : Nat) : Int).fdiv ((2 : Int) ^ min (Int.toNat (k : Int)) IntKind.u64.bits) := by
  rw [show min (Int.toNat (k : Int)) IntKind.u64.bits = k from by show min k 64 = k; omega, fdiv_pow, hd]; decide
theorem tyB : RTy 86 86 1 1 := ⟨_, _, _, rfl, rfl, (fun q h => by cases h), rfl, rfl, rfl, rfl, by decide, by decide⟩
set_option maxHeartbeats 4000000 in
set_option maxRecDepth 100000 in
theorem wput_run (B : List Nat) (U k : Nat) (hB : Bits B) (hk : k ≤ 64) (hU : U < 2 ^ k) (hl : B.length ≤ 100000000) : callT KW 5 49 [.ptr 0 0, .si .u64 (U : Int), .si .i64 (k : Int)] (mkH [(0, .cells (wStr 1 B) true), (1, .cells (bytA (pack B)) true)]) 2
    fun u H' _ => u = .int .i64 0 ∧ H'.get 0 = some (.cells (wStr 2 (B ++ bitsOf U k)) true) ∧ H'.get 2 = some (.cells (bytA (pack (B ++ bitsOf U k))) true) := by
  have hdiv : U / 2 ^ k = 0 := Nat.div_eq_of_lt hU
  have hkw : IntKind.i64.wrap ((k : Int) - 1) = (k : Int) - 1 := W64_of ⟨by omega, by omega⟩
  conv => whnf
  refine Fork.dec (fun h => absurd h (by omega)) (fun _ => ?_)
  conv => whnf
  refine Fork.dec (fun h => absurd h (by omega)) (fun _ => ?_)
  conv => whnf
  refine Fork.dec (fun h64 => ?_) (fun h64 => ?_)
  · conv => whnf
    refine ⟨by omega, ?_⟩
    conv => whnf
    refine Fork.dec (fun h => absurd h (shr_zero hk hdiv)) (fun _ => ?_)
    conv => whnf
    refine LoopP.mk { t : List Nat × Nat // t.1 ++ bitsOf U t.2 = B ++ bitsOf U k ∧ Bits t.1 ∧ t.2 ≤ k ∧ t.1.length + t.2 = B.length + k } 3 (fun t => wc U t.val.1 t.val.2) (fun t => t.val.2) ⟨(B, k), rfl, hB, Nat.le_refl _, rfl⟩ ?_ ?_
    · exact wc_cov (j2 := 1) (by decide) (Nat.le_refl 2) (.int rfl) (.fnp (by decide) rfl) (congrArg (AV.si .i64) hkw) ⟨_, rfl, .cons (SubV.rw (by decide) rfl) (.cons (.int rfl) .nil)⟩ (.inl ⟨_, rfl, bytA_map _⟩)
    · intro ⟨(D, m), he, hD, hm, hlen⟩
      dsimp only at he hD hm hlen
      have hDl : D.length ≤ 100000064 := by omega
      have hDp : (pack D).length ≤ 100000000 := by rw [pack_length]; omega
      cases m with
      | zero =>
        conv => whnf
        refine Fork.dec (fun h1 => absurd h1 (by show ¬ (0 : Int) ≤ ((0 : Nat) : Int) - 1; omega)) (fun _ => ?_)
        conv => whnf
        have e : D = B ++ bitsOf U k := by simpa [bitsOf] using he
        subst e
        exact ⟨rfl, rfl, rfl⟩
      | succ m =>
        have hb2 : U / 2 ^ m % 2 < 2 := Nat.mod_lt _ (by decide)
        have hi0 : 0 ≤ ((m + 1 : Nat) : Int) - 1 := by omega
        have hi : ((m + 1 : Nat) : Int) - 1 = (m : Int) := by omega
        have hbit := bit_eq (U := U) hi (by omega)
        have hiw : IntKind.i64.wrap (((m + 1 : Nat) : Int) - 1 - 1) = ((m : Nat) : Int) - 1 := (congrArg IntKind.i64.wrap (congrArg (· - 1) hi)).trans (W64_of ⟨by omega, by omega⟩)
        have hnw : IntKind.i64.wrap ((D.length : Int) + 1) = (((D ++ [U / 2 ^ m % 2]).length : Nat) : Int) := by rw [List.length_append, List.length_singleton]; exact W64_of ⟨by omega, by omega⟩
        have hq := div_eq D.length (by omega)
        have hsh0 : 0 ≤ IntKind.i64.wrap (7 - (D.length : Int).tmod 8) := by rw [sh_eq]; omega
        have hrow : subL (bytA (pack D)) 0 ((pack D).length * 1) = some (bytA (pack D)) := subL_all (by rw [bytA_length, Nat.mul_one])
        have hnext : (D ++ [U / 2 ^ m % 2]) ++ bitsOf U m = B ++ bitsOf U k := by rw [List.append_assoc, ← bitsOf_cons]; exact he
        have hbig : ((pack D).length + 1) * 1 ≤ 140737488355328 := by omega
        have hDn : Bits (D ++ [U / 2 ^ m % 2]) := hD.app (.one hb2)
        conv => whnf
        refine Fork.dec (fun _ => ?_) (fun h1 => absurd hi0 h1)
        conv => whnf
        refine ⟨hi0, ?_⟩
        conv => whnf
        refine Fork.dec (fun h8 => ?_) (fun h8 => ?_)
        · have h8 := (tmod0 _).1 h8
          have hpl : (pack (D ++ [U / 2 ^ m % 2])).length = (pack D).length + 1 := by rw [pack_new h8]; simp
          have ho : 0 + D.length / 8 * 1 = D.length / 8 := by omega
          have hix : D.length / 8 < (pack D).length + 1 := by rw [pack_length]; omega
          conv => whnf
          refine RApp.grow 1 1 _ _ _ _ _ _ tyB (.old rfl) rfl rfl (.rw rfl hrow) hbig ?_
          conv => whnf
          refine Idx.mk (D.length / 8) hq hix ?_
          conv => whnf
          refine optP_of (new_at h8 ho) ?_
          conv => whnf
          refine ⟨hsh0, ?_⟩
          conv => whnf
          refine Idx.mk (D.length / 8) hq hix ?_
          conv => whnf
          refine optP_of (one_new hb2 hbit h8 ho) ?_
          conv => whnf
          refine ⟨⟨(D ++ [U / 2 ^ m % 2], m), hnext, hDn, by omega, by simp; omega⟩, Nat.lt_succ_self m, wc_cov (j2 := 4) (by decide) (Nat.le_refl 2) (.int rfl) (.fnp (by decide) rfl) (congrArg (AV.si .i64) hiw) ⟨_, rfl, .cons (SubV.rw (by decide) rfl (hn := hpl.symm)) (.cons (.int (congrArg (AV.si .i64) hnw)) .nil)⟩ (.inl ⟨_, rfl, bytA_map _⟩)⟩
        · have h8 : D.length % 8 ≠ 0 := fun q => h8 ((tmod0 _).2 q)
          have hpl : (pack (D ++ [U / 2 ^ m % 2])).length = (pack D).length := by rw [pack_length, pack_length]; simp; omega
          have ho : 0 + D.length / 8 * 1 = D.length / 8 := by omega
          have hix : D.length / 8 < (pack D).length := by rw [pack_length]; omega
          conv => whnf
          refine Idx.mk (D.length / 8) hq hix ?_
          conv => whnf
          refine optP_of (old_at h8 ho) ?_
          conv => whnf
          refine ⟨hsh0, ?_⟩
          conv => whnf
          refine Idx.mk (D.length / 8) hq hix ?_
          conv => whnf
          refine optP_of (one_old hD hb2 hbit h8 ho) ?_
          conv => whnf
          refine ⟨⟨(D ++ [U / 2 ^ m % 2], m), hnext, hDn, by omega, by simp; omega⟩, Nat.lt_succ_self m, wc_cov (j2 := 2) (by decide) (Nat.le_refl 2) (.int rfl) (.fnp (by decide) rfl) (congrArg (AV.si .i64) hiw) ⟨_, rfl, .cons (SubV.rw (by decide) rfl (hn := hpl.symm)) (.cons (.int (congrArg (AV.si .i64) hnw)) .nil)⟩ (.inl ⟨_, rfl, bytA_map _⟩)⟩
  · conv => whnf
    refine LoopP.mk { t : List Nat × Nat // t.1 ++ bitsOf U t.2 = B ++ bitsOf U k ∧ Bits t.1 ∧ t.2 ≤ k ∧ t.1.length + t.2 = B.length + k } 3 (fun t => wc U t.val.1 t.val.2) (fun t => t.val.2) ⟨(B, k), rfl, hB, Nat.le_refl _, rfl⟩ ?_ ?_
    · exact wc_cov (j2 := 1) (by decide) (Nat.le_refl 2) (.int rfl) (.fnp (by decide) rfl) (congrArg (AV.si .i64) hkw) ⟨_, rfl, .cons (SubV.rw (by decide) rfl) (.cons (.int rfl) .nil)⟩ (.inl ⟨_, rfl, bytA_map _⟩)
    · intro ⟨(D, m), he, hD, hm, hlen⟩
      dsimp only at he hD hm hlen
      have hDl : D.length ≤ 100000064 := by omega
      have hDp : (pack D).length ≤ 100000000 := by rw [pack_length]; omega
      cases m with
      | zero =>
        conv => whnf
        refine Fork.dec (fun h1 => absurd h1 (by show ¬ (0 : Int) ≤ ((0 : Nat) : Int) - 1; omega)) (fun _ => ?_)
        conv => whnf
        have e : D = B ++ bitsOf U k := by simpa [bitsOf] using he
        subst e
        exact ⟨rfl, rfl, rfl⟩
      | succ m =>
        have hb2 : U / 2 ^ m % 2 < 2 := Nat.mod_lt _ (by decide)
        have hi0 : 0 ≤ ((m + 1 : Nat) : Int) - 1 := by omega
        have hi : ((m + 1 : Nat) : Int) - 1 = (m : Int) := by omega
        have hbit := bit_eq (U := U) hi (by omega)
        have hiw : IntKind.i64.wrap (((m + 1 : Nat) : Int) - 1 - 1) = ((m : Nat) : Int) - 1 := (congrArg IntKind.i64.wrap (congrArg (· - 1) hi)).trans (W64_of ⟨by omega, by omega⟩)
        have hnw : IntKind.i64.wrap ((D.length : Int) + 1) = (((D ++ [U / 2 ^ m % 2]).length : Nat) : Int) := by rw [List.length_append, List.length_singleton]; exact W64_of ⟨by omega, by omega⟩
        have hq := div_eq D.length (by omega)
        have hsh0 : 0 ≤ IntKind.i64.wrap (7 - (D.length : Int).tmod 8) := by rw [sh_eq]; omega
        have hrow : subL (bytA (pack D)) 0 ((pack D).length * 1) = some (bytA (pack D)) := subL_all (by rw [bytA_length, Nat.mul_one])
        have hnext : (D ++ [U / 2 ^ m % 2]) ++ bitsOf U m = B ++ bitsOf U k := by rw [List.append_assoc, ← bitsOf_cons]; exact he
        have hbig : ((pack D).length + 1) * 1 ≤ 140737488355328 := by omega
        have hDn : Bits (D ++ [U / 2 ^ m % 2]) := hD.app (.one hb2)
        conv => whnf
        refine Fork.dec (fun _ => ?_) (fun h1 => absurd hi0 h1)
        conv => whnf
        refine ⟨hi0, ?_⟩
        conv => whnf
        refine Fork.dec (fun h8 => ?_) (fun h8 => ?_)
        · have h8 := (tmod0 _).1 h8
          have hpl : (pack (D ++ [U / 2 ^ m % 2])).length = (pack D).length + 1 := by rw [pack_new h8]; simp
          have ho : 0 + D.length / 8 * 1 = D.length / 8 := by omega
          have hix : D.length / 8 < (pack D).length + 1 := by rw [pack_length]; omega
          conv => whnf
          refine RApp.grow 1 1 _ _ _ _ _ _ tyB (.old rfl) rfl rfl (.rw rfl hrow) hbig ?_
          conv => whnf
          refine Idx.mk (D.length / 8) hq hix ?_
          conv => whnf
          refine optP_of (new_at h8 ho) ?_
          conv => whnf
          refine ⟨hsh0, ?_⟩
          conv => whnf
          refine Idx.mk (D.length / 8) hq hix ?_
          conv => whnf
          refine optP_of (one_new hb2 hbit h8 ho) ?_
          conv => whnf
          refine ⟨⟨(D ++ [U / 2 ^ m % 2], m), hnext, hDn, by omega, by simp; omega⟩, Nat.lt_succ_self m, wc_cov (j2 := 4) (by decide) (Nat.le_refl 2) (.int rfl) (.fnp (by decide) rfl) (congrArg (AV.si .i64) hiw) ⟨_, rfl, .cons (SubV.rw (by decide) rfl (hn := hpl.symm)) (.cons (.int (congrArg (AV.si .i64) hnw)) .nil)⟩ (.inl ⟨_, rfl, bytA_map _⟩)⟩
        · have h8 : D.length % 8 ≠ 0 := fun q => h8 ((tmod0 _).2 q)
          have hpl : (pack (D ++ [U / 2 ^ m % 2])).length = (pack D).length := by rw [pack_length, pack_length]; simp; omega
          have ho : 0 + D.length / 8 * 1 = D.length / 8 := by omega
          have hix : D.length / 8 < (pack D).length := by rw [pack_length]; omega
          conv => whnf
          refine Idx.mk (D.length / 8) hq hix ?_
          conv => whnf
          refine optP_of (old_at h8 ho) ?_
          conv => whnf
          refine ⟨hsh0, ?_⟩
          conv => whnf
          refine Idx.mk (D.length / 8) hq hix ?_
          conv => whnf
          refine optP_of (one_old hD hb2 hbit h8 ho) ?_
          conv => whnf
          refine ⟨⟨(D ++ [U / 2 ^ m % 2], m), hnext, hDn, by omega, by simp; omega⟩, Nat.lt_succ_self m, wc_cov (j2 := 2) (by decide) (Nat.le_refl 2) (.int rfl) (.fnp (by decide) rfl) (congrArg (AV.si .i64) hiw) ⟨_, rfl, .cons (SubV.rw (by decide) rfl (hn := hpl.symm)) (.cons (.int (congrArg (AV.si .i64) hnw)) .nil)⟩ (.inl ⟨_, rfl, bytA_map _⟩)⟩
end Go.Proofs.Ytpfflibkkjjlaaa
namespace Go.Proofs.Ytpfflibkkjjlaaa
open Go Go.RowKit
set_option maxRecDepth 20000
theorem hands1 {H : AH} {n b : Nat} {o : AO} (hb : b < n) (h : H.get b = some (renO (nmOf [b] n) o)) (hv : o.void = false ∨ o.own = true) : Hands H n [b] [o] := ⟨by simp, rfl, fun i s q h1 h2 => by
  match i, h1, h2 with
  | 0, h1, h2 => injection h1 with h1; injection h2 with h2; subst h1 h2; exact ⟨hb, h, hv⟩⟩
theorem hands2 {H : AH} {n b c : Nat} {o q : AO} (hbc : b ≠ c) (hb : b < n) (hc : c < n) (h : H.get b = some (renO (nmOf [b, c] n) o)) (k : H.get c = some (renO (nmOf [b, c] n) q)) (hv : o.void = false ∨ o.own = true) (kv : q.void = false ∨ q.own = true) : Hands H n [b, c] [o, q] :=
  ⟨by simp [hbc], rfl, fun i s r h1 h2 => by
    match i, h1, h2 with
    | 0, h1, h2 => injection h1 with h1; injection h2 with h2; subst h1 h2; exact ⟨hb, h, hv⟩
    | 1, h1, h2 => injection h1 with h1; injection h2 with h2; subst h1 h2; exact ⟨hc, k, kv⟩⟩
theorem wStr_ren (r : Nat → Nat) (c : Nat) (B : List Nat) : renL r (wStr c B) = wStr (r c) B := rfl
theorem bytA_ren (r : Nat → Nat) (s : List Nat) : renL r (bytA s) = bytA s := renL_flat r _ (bytA_flat s)
theorem put3 (H : AH) (n b c : Nat) (B : List Nat) : putH [b, c] n H [(0, some (.cells (wStr 2 B) true)), (1, none), (2, some (.cells (bytA (pack B)) true))] = wSet H n b c B := by
  simp only [putH, Option.map_some, Option.map_none, renO, wStr_ren, bytA_ren]
  rfl
theorem n_wput : NatP 49 natWPut := fun args H n κ hs φ h0' hp vs K hr hargs hk => by
  unfold natWPut at hs
  split at hs
  · obtain ⟨x, y, z, rfl, e1, e2, e3⟩ := vs3 hargs
    obtain ⟨b, c, U, k, B, rfl, hbc, hbn, hcn, hb, hc, hB, hu, hm, hk64, hU, hl, hs⟩ := hs
    refine framed (S := [b, c]) (O := [.cells (wStr 1 B) true, .cells (bytA (pack B)) true]) (args0 := [.ptr 0 0, .si .u64 (U : Int), .si .i64 (k : Int)]) (callT_nat KW_ok 5 _) (by kernel_rfl) hr
      (hands2 hbc hbn hcn (by rw [renO, wStr_ren]; exact hb) (by rw [renO, bytA_ren]; exact hc) (.inr rfl) (.inr rfl)) ?_ hk (wput_run B U k hB hk64 hU hl) fun u H' n' ⟨h1, h2, h3⟩ => ?_
    · exact .cons e1 (.cons (by have := e2.mk; rw [hu] at this; exact this) (.cons (by have := e3.mk; rw [hm] at this; exact this) .nil))
    · subst h1
      refine ⟨3, putH [b, c] n H [(0, some (.cells (wStr 2 (B ++ bitsOf U k)) true)), (1, none), (2, some (.cells (bytA (pack (B ++ bitsOf U k))) true))], Nat.le_succ 2, After.put (Nat.le_succ 2) rfl (fun x hx o ho => ?_), rfl, ?_⟩
      · simp only [List.mem_cons, List.not_mem_nil, or_false] at hx
        rcases hx with rfl | rfl | rfl
        · injection ho with ho; subst ho; exact ⟨h2, rfl, rfl⟩
        · cases ho
        · injection ho with ho; subst ho; exact ⟨h3, rfl, ltL_flat _ _ (bytA_flat _)⟩
      · rw [put3]; exact hs
  · exact hs.elim
/-! ### a number's code -/
noncomputable def KP1 : FuncId → EP := withN 49 natWPut evP
theorem KP1_ok : TabP KP1 := withN_ok evP_ok n_wput
theorem shr_no {U : Nat} {w : Int} {m : Nat} (hw : min w.toNat IntKind.u64.bits = m) (h : U / 2 ^ m = 0) : ¬ 0 < ((U : Nat) : Int).fdiv ((2 : Int) ^ min w.toNat IntKind.u64.bits) := by
  rw [hw, fdiv_pow, h]; decide
theorem shr_yes {U : Nat} {w : Int} {m : Nat} (hw : min w.toNat IntKind.u64.bits = m) (h : U / 2 ^ m ≠ 0) : ¬ ¬ 0 < ((U : Nat) : Int).fdiv ((2 : Int) ^ min w.toNat IntKind.u64.bits) := by
  rw [hw, fdiv_pow]; exact not_not_intro (Int.natCast_pos.2 (Nat.pos_of_ne_zero h))
set_option maxHeartbeats 4000000 in
set_option maxRecDepth 100000 in
theorem dput_run (B : List Nat) (U : Nat) (hB : Bits B) (hU : U < 18446744073709551616) (hl : B.length ≤ 99999000) : callT KP1 3 50 [.ptr 0 0, .si .u64 (U : Int)] (mkH [(0, .cells (wStr 1 B) true), (1, .cells (bytA (pack B)) true)]) 2
    fun u H' _ => u = .int .i64 0 ∧ ∃ B', B' = B ++ codeB U ∧ H'.get 0 = some (.cells (wStr 6 B') true) ∧ H'.get 6 = some (.cells (bytA (pack B')) true) := by
  have d0 : U ≠ 0 → U / 2 ^ 0 ≠ 0 := fun h => by simpa using h
  have d1 : ¬ U < 128 → U / 2 ^ 7 ≠ 0 := fun h => Nat.ne_of_gt (Nat.div_pos (by show 128 ≤ U; omega) (by decide))
  have d2 : ¬ U < 4096 → U / 2 ^ 12 ≠ 0 := fun h => Nat.ne_of_gt (Nat.div_pos (by show 4096 ≤ U; omega) (by decide))
  have d3 : ¬ U < 16777216 → U / 2 ^ 24 ≠ 0 := fun h => Nat.ne_of_gt (Nat.div_pos (by show 16777216 ≤ U; omega) (by decide))
  have z0 : U = 0 → U / 2 ^ 0 = 0 := fun h => by simp [h]
  have z1 : U < 128 → U / 2 ^ 7 = 0 := fun h => Nat.div_eq_of_lt h
  have z2 : U < 4096 → U / 2 ^ 12 = 0 := fun h => Nat.div_eq_of_lt h
  have z3 : U < 16777216 → U / 2 ^ 24 = 0 := fun h => Nat.div_eq_of_lt h
  by_cases c0 : U = 0
  · have hc : (B ++ bitsOf 0 1) ++ bitsOf U 0 = B ++ codeB U := by
      rw [List.append_assoc]; congr 1; unfold codeB
      rw [if_pos c0]; rfl
    have hb1 : Bits (B ++ bitsOf 0 1) := hB.app (bitsOf_bits _ _)
    have hl1 : (B ++ bitsOf 0 1).length ≤ 100000000 := by rw [List.length_append, bitsOf_length]; omega
    have hl0 : B.length ≤ 100000000 := by omega
    have hu1 : U < 2 ^ 0 := by subst c0; decide
    conv => whnf
    refine LoopP.roll 6 ?_
    conv => whnf
    refine Fork.dec (fun h => absurd h (shr_no (m := 0) rfl (z0 c0))) (fun _ => ?_)
    conv => whnf
    refine ⟨0, 1, 0, 1, B, rfl, by decide, by decide, by decide, rfl, rfl, hB, rfl, rfl, by decide, by decide, hl0, ?_⟩
    conv => whnf
    refine ⟨0, _, U, 0, B ++ bitsOf 0 1, rfl, ?_, by decide, ?_, rfl, rfl, hb1, rfl, rfl, by decide, hu1, hl1, ?_⟩
    · decide
    · decide
    conv => whnf
    exact ⟨rfl, _, hc, rfl, rfl⟩
  · skip
    by_cases c1 : U < 128
    · have hc : (B ++ bitsOf 2 2) ++ bitsOf U 7 = B ++ codeB U := by
        rw [List.append_assoc]; congr 1; unfold codeB
        rw [if_neg c0, if_pos c1]; rfl
      have hb1 : Bits (B ++ bitsOf 2 2) := hB.app (bitsOf_bits _ _)
      have hl1 : (B ++ bitsOf 2 2).length ≤ 100000000 := by rw [List.length_append, bitsOf_length]; omega
      have hl0 : B.length ≤ 100000000 := by omega
      have hu1 : U < 2 ^ 7 := by omega
      conv => whnf
      refine LoopP.roll 6 ?_
      conv => whnf
      refine Fork.dec (fun _ => ?_) (fun h => absurd h (shr_yes (m := 0) rfl (d0 c0)))
      conv => whnf
      refine Fork.dec (fun h => absurd h (shr_no (m := 7) rfl (z1 c1))) (fun _ => ?_)
      conv => whnf
      refine ⟨0, 1, 2, 2, B, rfl, by decide, by decide, by decide, rfl, rfl, hB, rfl, rfl, by decide, by decide, hl0, ?_⟩
      conv => whnf
      refine ⟨0, _, U, 7, B ++ bitsOf 2 2, rfl, ?_, by decide, ?_, rfl, rfl, hb1, rfl, rfl, by decide, hu1, hl1, ?_⟩
      · decide
      · decide
      conv => whnf
      exact ⟨rfl, _, hc, rfl, rfl⟩
    · skip
      by_cases c2 : U < 4096
      · have hc : (B ++ bitsOf 6 3) ++ bitsOf U 12 = B ++ codeB U := by
          rw [List.append_assoc]; congr 1; unfold codeB
          rw [if_neg c0, if_neg c1, if_pos c2]; rfl
        have hb1 : Bits (B ++ bitsOf 6 3) := hB.app (bitsOf_bits _ _)
        have hl1 : (B ++ bitsOf 6 3).length ≤ 100000000 := by rw [List.length_append, bitsOf_length]; omega
        have hl0 : B.length ≤ 100000000 := by omega
        have hu1 : U < 2 ^ 12 := by omega
        conv => whnf
        refine LoopP.roll 6 ?_
        conv => whnf
        refine Fork.dec (fun _ => ?_) (fun h => absurd h (shr_yes (m := 0) rfl (d0 c0)))
        conv => whnf
        refine Fork.dec (fun _ => ?_) (fun h => absurd h (shr_yes (m := 7) rfl (d1 c1)))
        conv => whnf
        refine Fork.dec (fun h => absurd h (shr_no (m := 12) rfl (z2 c2))) (fun _ => ?_)
        conv => whnf
        refine ⟨0, 1, 6, 3, B, rfl, by decide, by decide, by decide, rfl, rfl, hB, rfl, rfl, by decide, by decide, hl0, ?_⟩
        conv => whnf
        refine ⟨0, _, U, 12, B ++ bitsOf 6 3, rfl, ?_, by decide, ?_, rfl, rfl, hb1, rfl, rfl, by decide, hu1, hl1, ?_⟩
        · decide
        · decide
        conv => whnf
        exact ⟨rfl, _, hc, rfl, rfl⟩
      · skip
        by_cases c3 : U < 16777216
        · have hc : (B ++ bitsOf 14 4) ++ bitsOf U 24 = B ++ codeB U := by
            rw [List.append_assoc]; congr 1; unfold codeB
            rw [if_neg c0, if_neg c1, if_neg c2, if_pos c3]; rfl
          have hb1 : Bits (B ++ bitsOf 14 4) := hB.app (bitsOf_bits _ _)
          have hl1 : (B ++ bitsOf 14 4).length ≤ 100000000 := by rw [List.length_append, bitsOf_length]; omega
          have hl0 : B.length ≤ 100000000 := by omega
          have hu1 : U < 2 ^ 24 := by omega
          conv => whnf
          refine LoopP.roll 6 ?_
          conv => whnf
          refine Fork.dec (fun _ => ?_) (fun h => absurd h (shr_yes (m := 0) rfl (d0 c0)))
          conv => whnf
          refine Fork.dec (fun _ => ?_) (fun h => absurd h (shr_yes (m := 7) rfl (d1 c1)))
          conv => whnf
          refine Fork.dec (fun _ => ?_) (fun h => absurd h (shr_yes (m := 12) rfl (d2 c2)))
          conv => whnf
          refine Fork.dec (fun h => absurd h (shr_no (m := 24) rfl (z3 c3))) (fun _ => ?_)
          conv => whnf
          refine ⟨0, 1, 14, 4, B, rfl, by decide, by decide, by decide, rfl, rfl, hB, rfl, rfl, by decide, by decide, hl0, ?_⟩
          conv => whnf
          refine ⟨0, _, U, 24, B ++ bitsOf 14 4, rfl, ?_, by decide, ?_, rfl, rfl, hb1, rfl, rfl, by decide, hu1, hl1, ?_⟩
          · decide
          · decide
          conv => whnf
          exact ⟨rfl, _, hc, rfl, rfl⟩
        · skip
          have hc : (B ++ bitsOf 15 4) ++ bitsOf U 64 = B ++ codeB U := by
            rw [List.append_assoc]; congr 1; unfold codeB
            rw [if_neg c0, if_neg c1, if_neg c2, if_neg c3]; rfl
          have hb1 : Bits (B ++ bitsOf 15 4) := hB.app (bitsOf_bits _ _)
          have hl1 : (B ++ bitsOf 15 4).length ≤ 100000000 := by rw [List.length_append, bitsOf_length]; omega
          have hl0 : B.length ≤ 100000000 := by omega
          have hu1 : U < 2 ^ 64 := by omega
          conv => whnf
          refine LoopP.roll 6 ?_
          conv => whnf
          refine Fork.dec (fun _ => ?_) (fun h => absurd h (shr_yes (m := 0) rfl (d0 c0)))
          conv => whnf
          refine Fork.dec (fun _ => ?_) (fun h => absurd h (shr_yes (m := 7) rfl (d1 c1)))
          conv => whnf
          refine Fork.dec (fun _ => ?_) (fun h => absurd h (shr_yes (m := 12) rfl (d2 c2)))
          conv => whnf
          refine Fork.dec (fun _ => ?_) (fun h => absurd h (shr_yes (m := 24) rfl (d3 c3)))
          conv => whnf
          refine ⟨0, 1, 15, 4, B, rfl, by decide, by decide, by decide, rfl, rfl, hB, rfl, rfl, by decide, by decide, hl0, ?_⟩
          conv => whnf
          refine ⟨0, _, U, 64, B ++ bitsOf 15 4, rfl, ?_, by decide, ?_, rfl, rfl, hb1, rfl, rfl, by decide, hu1, hl1, ?_⟩
          · decide
          · decide
          conv => whnf
          exact ⟨rfl, _, hc, rfl, rfl⟩
end Go.Proofs.Ytpfflibkkjjlaaa
namespace Go.Proofs.Ytpfflibkkjjlaaa
open Go Go.RowKit
set_option maxRecDepth 20000
noncomputable def wSet4 (H : AH) (n b c : Nat) (B : List Nat) : AH := ((((((H.set (some (.cells (bytA (pack B)) true)) depthH (n + 4)).set none depthH (n + 3)).set none depthH (n + 2)).set none depthH (n + 1)).set none depthH n).set none depthH c).set (some (.cells (wStr (n + 4) B) true)) depthH b
def natDPut (args : List AV) (H : AH) (n : Nat) (κ : PK) : Prop := match args with
  | [x, u] => ∃ (b c U : Nat) (B : List Nat), x = .ptr b 0 ∧ b ≠ c ∧ b < n ∧ c < n ∧ H.get b = some (.cells (wStr c B) true) ∧ H.get c = some (.cells (bytA (pack B)) true) ∧ Bits B ∧ mk u = .si .u64 (U : Int) ∧ U < 18446744073709551616 ∧ B.length ≤ 99999000 ∧
      κ (.int .i64 0) (wSet4 H n b c (B ++ codeB U)) (n + 5)
  | _ => False
def put7L (B : List Nat) : List (Nat × Option AO) := [(0, some (.cells (wStr 6 B) true)), (1, none), (2, none), (3, none), (4, none), (5, none), (6, some (.cells (bytA (pack B)) true))]
theorem put7 (H : AH) (n b c : Nat) (B : List Nat) : putH [b, c] n H (put7L B) = wSet4 H n b c B := by
  simp only [putH, put7L, Option.map_some, Option.map_none, renO, wStr_ren, bytA_ren]
  rfl
theorem n_dput : NatP 50 natDPut := fun args H n κ hs φ h0' hp vs K hr hargs hk => by
  unfold natDPut at hs
  split at hs
  · obtain ⟨x, y, rfl, e1, e2⟩ := vs2 hargs
    obtain ⟨b, c, U, B, rfl, hbc, hbn, hcn, hb, hc, hB, hu, hU, hl, hs⟩ := hs
    refine framed (S := [b, c]) (O := [.cells (wStr 1 B) true, .cells (bytA (pack B)) true]) (args0 := [.ptr 0 0, .si .u64 (U : Int)]) (callT_nat KP1_ok 3 _) (by kernel_rfl) hr
      (hands2 hbc hbn hcn (by rw [renO, wStr_ren]; exact hb) (by rw [renO, bytA_ren]; exact hc) (.inr rfl) (.inr rfl)) ?_ hk (dput_run B U hB hU hl) fun u H' n' ⟨h1, B', hB', h2, h3⟩ => ?_
    · exact .cons e1 (.cons (by have := e2.mk; rw [hu] at this; exact this) .nil)
    · subst h1 hB'
      refine ⟨7, putH [b, c] n H (put7L (B ++ codeB U)), Nat.le_of_ble_eq_true rfl, After.put (Nat.le_of_ble_eq_true rfl) rfl (fun x hx o ho => ?_), rfl, ?_⟩
      · simp only [put7L, List.mem_cons, List.not_mem_nil, or_false] at hx
        rcases hx with rfl | rfl | rfl | rfl | rfl | rfl | rfl
        · injection ho with ho; subst ho; exact ⟨h2, rfl, rfl⟩
        · cases ho
        · cases ho
        · cases ho
        · cases ho
        · cases ho
        · injection ho with ho; subst ho; exact ⟨h3, rfl, ltL_flat _ _ (bytA_flat _)⟩
      · rw [put7]; exact hs
  · exact hs.elim
/-! ### samples as bits -/
noncomputable def KE : FuncId → EP := withD 41 [] (withN 50 natDPut (withN 49 natWPut evP))
theorem KE_ok : TabP KE := withD_ok (withN_ok (withN_ok evP_ok n_wput) n_dput) (by kernel_rfl) (by kernel_rfl)
theorem zig_raw {n : Int} (h : In64 n) : bitsV .xor .u64 (IntKind.u64.wrap (IntKind.u64.wrap n * (2 : Int) ^ min (Int.toNat 1) IntKind.u64.bits)) (IntKind.u64.wrap (n.fdiv ((2 : Int) ^ min (Int.toNat 63) IntKind.i64.bits))) = ((zigN n : Nat) : Int) := zig_eq h
theorem encTo_succ (X : Smp) (i : Nat) : encTo X (i + 1) = encTo X i ++ sampB X i := rfl
theorem samp0 (X : Smp) : encTo X 0 ++ bitsOf (u64N (tAt X 0)) 64 ++ bitsOf (u64N (vAt X 0)) 64 = encTo X (0 + 1) := by
  rw [encTo_succ, List.append_assoc]; rfl
theorem sampS (X : Smp) {i : Nat} (h : i ≠ 0) : encTo X i ++ codeB (dT X i) ++ codeB (dV X i) = encTo X (i + 1) := by
  rw [encTo_succ, List.append_assoc]; unfold sampB; rw [if_neg h]
theorem pack_nil : pack [] = [] := by simp [pack]
noncomputable def ec (L : Smp) (cap : Nat) (i : Nat) : AE × AH := (mkE [(0, .sy 0 0 L.length cap 0), (4, .ptr 1 (0)), (5, .si .i64 (stepAt L i)), (11, .sy 0 0 L.length cap 0), (12, .si .i64 (((L.length : Nat) : Int))), (13, .si .i64 (((i : Nat) : Int)))], mkH [(0, .ro (smp (L))), (1, .cells (wStr 2 (encTo L i)) true), (2, .cells (bytA ((pack (encTo L i)))) true)])
theorem ec_cov {L : Smp} {cap : Nat} {i : Nat} {p n : Nat} {σ : AE} {H : AH} (j2 : Nat) (hj : j2 ≠ 0 ∧ j2 ≠ 1) (hp : p ≤ 1) (e0 : mk (getq (pa 0) σ) = .sy 0 0 L.length cap 0) (e4 : getq (pa 4) σ = .ptr 1 (0)) (e5 : mk (getq (pa 5) σ) = .si .i64 (stepAt L i)) (e11 : mk (getq (pa 11) σ) = .sy 0 0 L.length cap 0) (e12 : mk (getq (pa 12) σ) = .si .i64 (((L.length : Nat) : Int))) (e13 : mk (getq (pa 13) σ) = .si .i64 (((i : Nat) : Int))) (h0 : H.get 0 = some (.ro (smp (L)))) (h1 : ∃ l, H.get 1 = some (.cells l true) ∧ SubL H 3 (fun b => if b = 2 then j2 else b) l (wStr 2 (encTo L i))) (h2 : (∃ l, H.get j2 = some (.cells l true) ∧ l.map mk = bytA ((pack (encTo L i)))) ∨ (((pack (encTo L i))) = [] ∧ n ≤ j2)) : Cov p σ H n ((ec L cap i).1, (ec L cap i).2, 3) := by
  refine Cov.ofR (fun b => if b = 2 then j2 else b) (by omega) (fun b hb => by repeat' rw [if_neg (by omega)]) ?_ ?_ ?_
  · intro x hx
    simp only [List.mem_cons, List.not_mem_nil, or_false] at hx
    rcases hx with rfl | rfl | rfl | rfl | rfl | rfl
    · exact .sy (by decide) e0
    · exact .ptr (by decide) e4
    · exact .int e5
    · exact .sy (by decide) e11
    · exact .int e12
    · exact .int e13
  · intro x hx
    simp only [List.mem_cons, List.not_mem_nil, or_false] at hx
    rcases hx with rfl | rfl | rfl
    · exact ⟨by simp, .inl ⟨_, h0, SubO.ro_mk (smp_flat _) rfl⟩⟩
    · exact ⟨by simp, .inl (h1.elim fun l h => ⟨_, h.1, SubO.st h.2⟩)⟩
    · exact ⟨by simp, h2.elim (fun ⟨l, h, g⟩ => .inl ⟨_, h, SubO.cells_mk (bytA_flat _) (by rw [g, bytA_map]) (fun q => q)⟩) (fun h => .inr ⟨by rw [h.1]; rfl, h.2⟩)⟩
  · intro x hx y hy
    simp only [List.mem_cons, List.not_mem_nil, or_false] at hx hy
    rcases hx with rfl | rfl | rfl <;> rcases hy with rfl | rfl | rfl <;> simp <;> omega
set_option maxHeartbeats 4000000 in
set_option maxRecDepth 100000 in
theorem enc_run (L : Smp) (cap : Nat) (hL : L.length ≤ 100000) (h64 : ∀ x ∈ L, In64 x.1 ∧ In64 x.2) : callT KE 3 41 [.sy 0 0 L.length cap 0] (mkH [(0, .ro (smp L))]) 1
    fun u _ _ => mkT u = mkT (.tup [.ss (pack (encB L)), .si .i64 ((encB L).length : Int)]) := by
  conv => whnf
  refine LoopP.mk { i : Nat // i ≤ L.length } 3 (fun i => ec L cap i.val) (fun i => L.length - i.val) ⟨0, Nat.zero_le _⟩ ?_ ?_
  · exact ec_cov (j2 := 2) (by decide) (Nat.le_refl 1) rfl rfl rfl rfl rfl rfl rfl ⟨_, rfl, .cons (.nslRw rfl (hn := congrArg List.length pack_nil)) (.cons (.int rfl) .nil)⟩ (.inr ⟨pack_nil, Nat.le_refl _⟩)
  · intro ⟨i, hi⟩
    have hlt0 : ((encTo L i).length) ≤ 13600000 := Nat.le_trans (encTo_len L i) (by omega)
    have hsub : subL (bytA (pack (encTo L i))) 0 (pack (encTo L i)).length = some (bytA (pack (encTo L i))) := subL_all (bytA_length _)
    have hbyt : ebytes (bytA (pack (encTo L i))) = some (pack (encTo L i)) := ebytes_bytA (pack_lt (encTo_bits L i))
    have hnx : i < L.length → IntKind.i64.wrap ((i : Int) + 1) = (((i + 1 : Nat)) : Int) := fun q => W64_of ⟨by omega, by omega⟩
    conv => whnf
    refine Fork.dec (fun h => ?_) (fun h => ?_)
    · have hi2 : i < L.length := by exact Int.ofNat_lt.1 h
      have ht : L[i].1 = tAt L i := (tAt_of hi2).symm
      have hv : L[i].2 = vAt L i := (vAt_of hi2).symm
      conv => whnf
      refine Idx.mk i rfl hi2 ?_
      conv => whnf
      refine optP_of (smp_sub hi2 (Nat.zero_add _)) ?_
      conv => whnf
      refine Fork.dec (fun h0 => ?_) (fun h0 => ?_)
      · have h0 : i = 0 := by exact Int.ofNat_inj.1 h0
        subst h0
        have hu0 : AV.si .u64 (IntKind.u64.wrap L[0].1) = .si .u64 ((u64N (tAt L 0) : Nat) : Int) := congrArg (AV.si .u64) ((u64_eq _).trans (by rw [ht]))
        have hu1 : AV.si .u64 (IntKind.u64.wrap L[0].2) = .si .u64 ((u64N (vAt L 0) : Nat) : Int) := congrArg (AV.si .u64) ((u64_eq _).trans (by rw [hv]))
        have hB1 : Bits (encTo L 0 ++ bitsOf (u64N (tAt L 0)) 64) := (encTo_bits L 0).app (bitsOf_bits _ _)
        have hl1 : (encTo L 0 ++ bitsOf (u64N (tAt L 0)) 64).length ≤ 100000000 := by rw [List.length_append, bitsOf_length]; omega
        conv => whnf
        refine ⟨1, 2, u64N (tAt L 0), 64, encTo L 0, rfl, by decide, by decide, by decide, rfl, rfl, encTo_bits _ _, hu0, rfl, Nat.le_refl _, u64_lt _, Nat.le_trans hlt0 (by decide), ?_⟩
        conv => whnf
        refine ⟨1, 4, u64N (vAt L 0), 64, encTo L 0 ++ bitsOf (u64N (tAt L 0)) 64, rfl, by decide, by decide, by decide, rfl, rfl, hB1, hu1, rfl, Nat.le_refl _, u64_lt _, hl1, ?_⟩
        conv => whnf
        refine ⟨⟨1, by omega⟩, (show L.length - 1 < L.length - 0 by omega), ec_cov (j2 := 5) (by decide) (Nat.le_refl 1) rfl rfl (congrArg (AV.si .i64) rfl) rfl rfl (congrArg (AV.si .i64) (hnx hi2)) rfl ⟨_, rfl, .cons (SubV.rw (by decide) rfl (hn := congrArg (fun x => (pack x).length) (samp0 L))) (.cons (.int (congrArg (fun x : List Nat => AV.si .i64 (x.length : Int)) (samp0 L))) .nil)⟩ (.inl ⟨_, rfl, (bytA_map _).trans (congrArg (fun x => bytA (pack x)) (samp0 L))⟩)⟩
      · have h0 : i ≠ 0 := fun q => h0 (by exact Int.ofNat_inj.2 q)
        have hp : i - 1 < L.length := by omega
        have hpw : IntKind.i64.wrap ((i : Int) - 1) = ((i - 1 : Nat) : Int) := (W64_of ⟨by omega, by omega⟩).trans (by omega)
        have ht1 : L[i - 1].1 = tAt L (i - 1) := (tAt_of hp).symm
        have hv1 : L[i - 1].2 = vAt L (i - 1) := (vAt_of hp).symm
        have ho0 : 0 + (i - 1) * 2 + 0 = (i - 1) * 2 := by omega
        have ho1 : 0 + (i - 1) * 2 + 1 = (i - 1) * 2 + 1 := by omega
        have hst : IntKind.i64.wrap (L[i].1 - L[i - 1].1) = stepAt L (i + 1) := by
          unfold stepAt; rw [if_neg (by omega), ht, ht1]; rfl
        have hu0 : AV.si .u64 (bitsV .xor .u64 (IntKind.u64.wrap (IntKind.u64.wrap (IntKind.i64.wrap (IntKind.i64.wrap (L[i].1 - L[i - 1].1) - stepAt L i)) * (2 : Int) ^ min (Int.toNat 1) IntKind.u64.bits)) (IntKind.u64.wrap ((IntKind.i64.wrap (IntKind.i64.wrap (L[i].1 - L[i - 1].1) - stepAt L i)).fdiv ((2 : Int) ^ min (Int.toNat 63) IntKind.i64.bits)))) = .si .u64 ((dT L i : Nat) : Int) := congrArg (AV.si .u64) ((zig_raw (W64_in _)).trans (by unfold dT; rw [ht, ht1]))
        have hu1 : AV.si .u64 (bitsV .xor .u64 (IntKind.u64.wrap (IntKind.u64.wrap (IntKind.i64.wrap (L[i].2 - L[i - 1].2)) * (2 : Int) ^ min (Int.toNat 1) IntKind.u64.bits)) (IntKind.u64.wrap ((IntKind.i64.wrap (L[i].2 - L[i - 1].2)).fdiv ((2 : Int) ^ min (Int.toNat 63) IntKind.i64.bits)))) = .si .u64 ((dV L i : Nat) : Int) := congrArg (AV.si .u64) ((zig_raw (W64_in _)).trans (by unfold dV; rw [hv, hv1]))
        have hB1 : Bits (encTo L i ++ codeB (dT L i)) := (encTo_bits L i).app (codeB_bits _)
        have hl1 : (encTo L i ++ codeB (dT L i)).length ≤ 99999000 := by have := (codeB_len (dT L i)).1; rw [List.length_append]; omega
        conv => whnf
        refine Idx.mk (i - 1) hpw hp ?_
        conv => whnf
        refine optP_of (smp_nth0 hp ho0) ?_
        conv => whnf
        refine ⟨1, 2, dT L i, encTo L i, rfl, by decide, by decide, by decide, rfl, rfl, encTo_bits _ _, hu0, dT_lt _ _, Nat.le_trans hlt0 (by decide), ?_⟩
        conv => whnf
        refine Idx.mk (i - 1) hpw hp ?_
        conv => whnf
        refine optP_of (smp_nth1 hp ho1) ?_
        conv => whnf
        refine ⟨1, 8, dV L i, encTo L i ++ codeB (dT L i), rfl, by decide, by decide, by decide, rfl, rfl, hB1, hu1, dV_lt _ _, hl1, ?_⟩
        conv => whnf
        refine ⟨⟨i + 1, by omega⟩, (show L.length - (i + 1) < L.length - i by omega), ec_cov (j2 := 13) (by decide) (Nat.le_refl 1) rfl rfl (congrArg (AV.si .i64) hst) rfl rfl (congrArg (AV.si .i64) (hnx hi2)) rfl ⟨_, rfl, .cons (SubV.rw (by decide) rfl (hn := congrArg (fun x => (pack x).length) (sampS L h0))) (.cons (.int (congrArg (fun x : List Nat => AV.si .i64 (x.length : Int)) (sampS L h0))) .nil)⟩ (.inl ⟨_, rfl, (bytA_map _).trans (congrArg (fun x => bytA (pack x)) (sampS L h0))⟩)⟩
    · have hi3 : i = L.length := by have : ¬ i < L.length := fun q => h (Int.ofNat_lt.2 q); omega
      conv => whnf
      refine RStr.mk _ _ _ _ _ _ _ _ rfl (by decide) ⟨_, rfl, rfl, rfl⟩ (.inr ⟨_, rfl⟩) hsub hbyt ?_
      conv => whnf
      subst hi3
      rfl
set_option maxHeartbeats 4000000 in
set_option maxRecDepth 100000 in
theorem enc_run0 : callT KE 3 41 [.nsl] .nil 0 fun u _ _ => mkT u = mkT (.tup [.ss (pack (encB [])), .si .i64 ((encB []).length : Int)]) := by
  conv => whnf
  refine LoopP.roll 1 ?_
  conv => whnf
  exact (show _ = AV.tup [.ss [], .si .i64 0] from rfl).trans (by rw [encB_nil, pack_nil]; rfl)
/-- Samples as bits. -/
def natEnc (args : List AV) (H : AH) (n : Nat) (κ : PK) : Prop := match args with
  | [l] => ∃ L, SmpAt H l L ∧ L.length ≤ 100000 ∧ (∀ x ∈ L, In64 x.1 ∧ In64 x.2) ∧ κ (.tup [.ss (pack (encB L)), .si .i64 ((encB L).length : Int)]) H n
  | _ => False
theorem n_enc : NatP 41 natEnc := fun args H n κ hs φ h0' hp vs K hr hargs hk => by
  unfold natEnc at hs
  split at hs
  · obtain ⟨x, rfl, e1⟩ := vs1 hargs
    obtain ⟨L, hS, hL, h64, hs⟩ := hs
    rcases hS.open hr e1 with ⟨rfl, hv⟩ | ⟨p, C, _, hro, hv⟩
    · exact smallN KE_ok (v := .tup [.ss (pack (encB [])), .si .i64 ((encB []).length : Int)]) rfl enc_run0 hs hr hk (by kernel_rfl) HR.ro0 (.cons (hv _) .nil)
    · exact smallN KE_ok (v := .tup [.ss (pack (encB L)), .si .i64 ((encB L).length : Int)]) rfl (enc_run L C hL h64) hs hr hk (by kernel_rfl) (fun hw => HR.ro1 hw hro) (.cons (hv _ 0 rfl) .nil)
  · exact hs.elim
theorem singEnc : SingG natEnc := .pure fun args H n κ hs => by
  unfold natEnc at *
  split at hs
  · obtain ⟨L, h1, h2, h3, h4⟩ := hs
    exact ⟨_, h4, fun κ' h => ⟨L, h1, h2, h3, h⟩⟩
  · exact hs.elim
end Go.Proofs.Ytpfflibkkjjlaaa
namespace Go.Proofs.Ytpfflibkkjjlaaa
open Go Go.RowKit
set_option maxRecDepth 20000
theorem PM.set_set {α : Type} {u v : Option α} : ∀ (f : Nat) (t : PM α) (n : Nat), PM.set v f (PM.set u f t n) n = PM.set v f t n
  | 0, t, n => rfl
  | f + 1, .nil, 0 => rfl
  | f + 1, .node l x r, 0 => rfl
  | f + 1, .nil, n + 1 => by
    rw [PM.set_nilS, PM.set_nilS]
    split
    · rename_i h; rw [PM.set_nodeS, if_pos h, PM.set_set f]
    · rename_i h; rw [PM.set_nodeS, if_neg h, PM.set_set f]
  | f + 1, .node l x r, n + 1 => by
    rw [PM.set_nodeS, PM.set_nodeS]
    split
    · rename_i h; rw [PM.set_nodeS, if_pos h, PM.set_set f]
    · rename_i h; rw [PM.set_nodeS, if_neg h, PM.set_set f]
noncomputable def KB : FuncId → EP := withD 68 [] (withD 45 [] evP)
theorem KB_ok : TabP KB := withD_ok (withD_ok evP_ok (by kernel_rfl) (by kernel_rfl)) (by kernel_rfl) (by kernel_rfl)
def rStr (s : List Nat) (N a : Nat) : List AV := [.ss s, .si .i64 ((N : Nat) : Int), .si .i64 ((a : Nat) : Int), .sb true]
def natRGet (args : List AV) (H : AH) (n : Nat) (κ : PK) : Prop := match args with
  | [x, m] => ∃ (b : Nat) (s : List Nat) (N a k V : Nat), x = .ptr b 0 ∧ b < n ∧ H.get b = some (.cells (rStr s N a) true) ∧ mk m = .si .i64 (k : Int) ∧ k ≤ 64 ∧ a + k ≤ N ∧ N ≤ 8 * s.length ∧ s.length ≤ 100000000 ∧ (∀ x ∈ s, x < 256) ∧ numB 0 (rdBits s a k) = V ∧
      κ (.tup [.si .u64 (V : Int), .int .i64 0]) (H.set (some (.cells (rStr s N (a + k)) true)) depthH b) n
  | _ => False
noncomputable def rg (s : List Nat) (N : Nat) (a : Nat) (k : Nat) (j : Nat) : AE × AH := (mkE [(0, .ptr 0 (0)), (6, .si .u64 ((numB 0 (rdBits s a j) : Nat) : Int)), (30, .si .i64 (((k : Nat) : Int))), (31, .si .i64 (((j : Nat) : Int)))], mkH [(0, .cells (rStr s N (a + j)) true)])
theorem rg_cov {s : List Nat} {N : Nat} {a : Nat} {k : Nat} {j : Nat} {p n : Nat} {σ : AE} {H : AH} (hp : p ≤ 1) (e0 : getq (pa 0) σ = .ptr 0 (0)) (e6 : SubV H 1 (fun b => b) (getq (pa 6) σ) (.si .u64 ((numB 0 (rdBits s a j) : Nat) : Int))) (e30 : mk (getq (pa 30) σ) = .si .i64 (((k : Nat) : Int))) (e31 : mk (getq (pa 31) σ) = .si .i64 (((j : Nat) : Int))) (h0 : ∃ l, H.get 0 = some (.cells l true) ∧ SubL H 1 (fun b => b) l (rStr s N (a + j))) : Cov p σ H n ((rg s N a k j).1, (rg s N a k j).2, 1) := by
  refine Cov.ofR (fun b => b) (by omega) (fun b hb => rfl) ?_ ?_ ?_
  · intro x hx
    simp only [List.mem_cons, List.not_mem_nil, or_false] at hx
    rcases hx with rfl | rfl | rfl | rfl
    · exact .ptr (by decide) e0
    · exact e6
    · exact .int e30
    · exact .int e31
  · intro x hx
    simp only [List.mem_cons, List.not_mem_nil, or_false] at hx
    subst hx
    exact ⟨by simp, .inl (h0.elim fun l h => ⟨_, h.1, SubO.st h.2⟩)⟩
  · intro x hx y hy
    simp only [List.mem_cons, List.not_mem_nil, or_false] at hx hy
    subst hx hy
    exact fun q => rfl
theorem rd_raw {s : List Nat} (hs : ∀ x ∈ s, x < 256) {a c u : Nat} (hc : nth s (a / 8) = some c) (hu : u < 9223372036854775808) :
    bitsV .or .u64 (IntKind.u64.wrap (((u : Nat) : Int) * (2 : Int) ^ min (Int.toNat 1) IntKind.u64.bits)) (IntKind.u64.wrap (bitsV .and .u8 ((Int.ofNat c).fdiv ((2 : Int) ^ min (IntKind.i64.wrap (7 - ((a : Nat) : Int).tmod 8)).toNat IntKind.u8.bits)) 1)) = ((2 * u + rdBit s a : Nat) : Int) := rd_step hs hc hu
set_option maxHeartbeats 4000000 in
set_option maxRecDepth 100000 in
theorem rget_run (s : List Nat) (N a k : Nat) (hk : k ≤ 64) (ha : a + k ≤ N) (hN : N ≤ 8 * s.length) (hs1 : s.length ≤ 100000000) (hs : ∀ x ∈ s, x < 256) : callT KB 3 68 [.ptr 0 0, .si .i64 (k : Int)] (mkH [(0, .cells (rStr s N a) true)]) 1
    fun u H' _ => u = .tup [.si .u64 ((numB 0 (rdBits s a k) : Nat) : Int), .int .i64 0] ∧ H'.get 0 = some (.cells (rStr s N (a + k)) true) := by
  have hleft : ¬ IntKind.i64.wrap ((N : Int) - (a : Int)) < (k : Int) := by
    rw [show IntKind.i64.wrap ((N : Int) - (a : Int)) = (N : Int) - (a : Int) from W64_of ⟨by omega, by omega⟩]; omega
  conv => whnf
  refine Fork.nsb (fun h => by cases h) (fun _ => ?_)
  conv => whnf
  refine Fork.dec (fun h => absurd h (by omega)) (fun _ => ?_)
  conv => whnf
  refine Fork.dec (fun h => absurd h (by omega)) (fun _ => ?_)
  conv => whnf
  refine Fork.dec (fun h => absurd h hleft) (fun _ => ?_)
  conv => whnf
  refine LoopP.mk { j : Nat // j ≤ k } 1 (fun j => rg s N a k j.val) (fun j => k - j.val) ⟨0, Nat.zero_le _⟩ ?_ ?_
  · exact rg_cov (Nat.le_refl 1) rfl (.int rfl) rfl rfl ⟨_, rfl, .cons (.str rfl) (.cons (.int rfl) (.cons (.int rfl) (.cons (.bool rfl) .nil)))⟩
  · intro ⟨j, hj⟩
    conv => whnf
    refine Fork.dec (fun h => ?_) (fun h => ?_)
    · have hjk : j < k := by exact Int.ofNat_lt.1 h
      have hq := div_eq (a + j) (by omega)
      have hq2 : (a + j) / 8 < s.length := by omega
      have hc : nth s ((a + j) / 8) = some s[(a + j) / 8] := by rw [nth_eq, List.getElem?_eq_getElem hq2]
      have hsh0 : 0 ≤ IntKind.i64.wrap (7 - ((a + j : Nat) : Int).tmod 8) := by rw [sh_eq]; omega
      have hnum : 2 * numB 0 (rdBits s a j) + rdBit s (a + j) = numB 0 (rdBits s a (j + 1)) := by rw [rdBits_snoc, numB_snoc]
      have hu := congrArg (AV.si .u64) ((rd_raw (u := numB 0 (rdBits s a j)) hs hc (rdBits_lt s a (by omega))).trans (congrArg (fun x : Nat => (x : Int)) hnum))
      have hj1 : IntKind.i64.wrap ((j : Int) + 1) = (((j + 1 : Nat)) : Int) := W64_of ⟨by omega, by omega⟩
      have ha1 : IntKind.i64.wrap (((a + j : Nat) : Int) + 1) = (((a + (j + 1) : Nat)) : Int) := W64_of ⟨by omega, by omega⟩
      conv => whnf
      refine Idx.mk ((a + j) / 8) hq hq2 ?_
      conv => whnf
      refine Ask.mk _ hc ?_
      conv => whnf
      refine ⟨hsh0, ?_⟩
      conv => whnf
      refine ⟨⟨j + 1, hjk⟩, (show k - (j + 1) < k - j by omega), rg_cov (Nat.le_refl 1) rfl (.int hu) rfl (congrArg (AV.si .i64) hj1) ⟨_, rfl, .cons (.str rfl) (.cons (.int rfl) (.cons (.int (congrArg (AV.si .i64) ha1)) (.cons (.bool rfl) .nil)))⟩⟩
    · have hjk : j = k := by have : ¬ j < k := fun q => h (Int.ofNat_lt.2 q); omega
      conv => whnf
      subst hjk
      exact ⟨rfl, rfl⟩
theorem n_rget : NatP 68 natRGet := fun args H n κ hs φ h0' hp vs K hr hargs hk => by
  unfold natRGet at hs
  split at hs
  · obtain ⟨x, y, rfl, e1, e2⟩ := vs2 hargs
    obtain ⟨b, s, N, a, k, V, rfl, hbn, hb, hm, hk64, ha, hN, hs1, hs2, hV, hs⟩ := hs
    refine framed (S := [b]) (O := [.cells (rStr s N a) true]) (args0 := [.ptr 0 0, .si .i64 (k : Int)]) (callT_nat KB_ok 3 _) (by kernel_rfl) hr
      (hands1 hbn hb (.inr rfl)) ?_ hk (rget_run s N a k hk64 ha hN hs1 hs2) fun u H' n' ⟨h1, h2⟩ => ?_
    · exact .cons e1 (.cons (by have := e2.mk; rw [hm] at this; exact this) .nil)
    · subst h1
      refine ⟨1, putH [b] n H [(0, some (.cells (rStr s N (a + k)) true))], Nat.le_refl _, After.put (Nat.le_refl _) rfl (fun x hx o ho => ?_), rfl, ?_⟩
      · simp only [List.mem_cons, List.not_mem_nil, or_false] at hx
        subst hx
        injection ho with ho; subst ho; exact ⟨h2, rfl, rfl⟩
      · rw [← hV] at hs; exact hs
  · exact hs.elim
/-! ### a number's code -/
noncomputable def KG : FuncId → EP := withN 68 natRGet KB
theorem KG_ok : TabP KG := withN_ok KB_ok n_rget
theorem rd_cons {s : List Nat} {a j b : Nat} {B : List Nat} (h : rdBits s a (j + 1) = b :: B) : rdBits s a 1 = [b] ∧ rdBits s (a + 1) j = B := by
  rw [Nat.add_comm j 1, rdBits_app] at h
  exact List.append_inj (s₂ := [b]) (t₂ := B) h (by rw [rdBits_length]; rfl)
set_option maxHeartbeats 4000000 in
set_option maxRecDepth 100000 in
theorem dget_run (s : List Nat) (N a U : Nat) (hU : U < 18446744073709551616) (hrd : rdBits s a (codeB U).length = codeB U) (hle : a + (codeB U).length ≤ N) (hN : N ≤ 8 * s.length) (hs1 : s.length ≤ 100000000) (hs : ∀ x ∈ s, x < 256) : callT KG 4 71 [.ptr 0 0] (mkH [(0, .cells (rStr s N a) true)]) 1
    fun u H' _ => u = .tup [.si .u64 (U : Int), .int .i64 0] ∧ H'.get 0 = some (.cells (rStr s N (a + (codeB U).length)) true) := by
  have d0 : U ≠ 0 → U / 2 ^ 0 ≠ 0 := fun h => by simpa using h
  have d1 : ¬ U < 128 → U / 2 ^ 7 ≠ 0 := fun h => Nat.ne_of_gt (Nat.div_pos (by show 128 ≤ U; omega) (by decide))
  have d2 : ¬ U < 4096 → U / 2 ^ 12 ≠ 0 := fun h => Nat.ne_of_gt (Nat.div_pos (by show 4096 ≤ U; omega) (by decide))
  have d3 : ¬ U < 16777216 → U / 2 ^ 24 ≠ 0 := fun h => Nat.ne_of_gt (Nat.div_pos (by show 16777216 ≤ U; omega) (by decide))
  have z0 : U = 0 → U / 2 ^ 0 = 0 := fun h => by simp [h]
  have z1 : U < 128 → U / 2 ^ 7 = 0 := fun h => Nat.div_eq_of_lt h
  have z2 : U < 4096 → U / 2 ^ 12 = 0 := fun h => Nat.div_eq_of_lt h
  have z3 : U < 16777216 → U / 2 ^ 24 = 0 := fun h => Nat.div_eq_of_lt h
  by_cases c0 : U = 0
  · have hcd : codeB U = [0] ++ bitsOf U 0 := by
      unfold codeB
      rw [if_pos c0]; rfl
    rw [hcd] at hrd hle ⊢
    have hlen : ([0] ++ bitsOf U 0).length = 1 := by rw [List.length_append, bitsOf_length]; rfl
    rw [hlen] at hrd hle ⊢
    obtain ⟨r0, h0⟩ := rd_cons (j := 0) hrd
    have hnum : numB 0 (rdBits s (a + 1) 0) = U := by rw [show rdBits s (a + 1) 0 = bitsOf U 0 from h0]; exact (numB_bits 0 U 0).trans (by rw [Nat.zero_mul, Nat.zero_add]; exact Nat.mod_eq_of_lt (by subst c0; decide))
    have v0 : numB 0 (rdBits s (a) 1) = 0 := by rw [r0]; rfl
    conv => whnf
    refine LoopP.roll 6 ?_
    conv => whnf
    refine ⟨0, s, N, a, 1, 0, rfl, by decide, rfl, rfl, by decide, by omega, hN, hs1, hs, v0, ?_⟩
    conv => whnf
    refine Fork.dec (fun _ => ?_) (fun h => absurd rfl h)
    conv => whnf
    refine ⟨0, s, N, a + 1, 0, U, rfl, by decide, rfl, rfl, by decide, by omega, hN, hs1, hs, hnum, ?_⟩
    conv => whnf
    refine LoopP.roll 6 ?_
    conv => whnf
    refine Fork.dec (fun h => absurd h (shr_no (m := 0) rfl (z0 c0))) (fun _ => ?_)
    conv => whnf
    exact ⟨rfl, rfl⟩
  · skip
    by_cases c1 : U < 128
    · have hcd : codeB U = [1, 0] ++ bitsOf U 7 := by
        unfold codeB
        rw [if_neg c0, if_pos c1]
      rw [hcd] at hrd hle ⊢
      have hlen : ([1, 0] ++ bitsOf U 7).length = 9 := by rw [List.length_append, bitsOf_length]; rfl
      rw [hlen] at hrd hle ⊢
      obtain ⟨r0, h0⟩ := rd_cons (j := 8) hrd
      obtain ⟨r1, h1⟩ := rd_cons (j := 7) h0
      have hnum : numB 0 (rdBits s (a + 1 + 1) 7) = U := by rw [show rdBits s (a + 1 + 1) 7 = bitsOf U 7 from h1]; exact (numB_bits 0 U 7).trans (by rw [Nat.zero_mul, Nat.zero_add]; exact Nat.mod_eq_of_lt (by omega))
      have v0 : numB 0 (rdBits s (a) 1) = 1 := by rw [r0]; rfl
      have v1 : numB 0 (rdBits s (a + 1) 1) = 0 := by rw [r1]; rfl
      conv => whnf
      refine LoopP.roll 6 ?_
      conv => whnf
      refine ⟨0, s, N, a, 1, 1, rfl, by decide, rfl, rfl, by decide, by omega, hN, hs1, hs, v0, ?_⟩
      conv => whnf
      refine Fork.dec (fun h => absurd h (by decide)) (fun _ => ?_)
      conv => whnf
      refine ⟨0, s, N, a + 1, 1, 0, rfl, by decide, rfl, rfl, by decide, by omega, hN, hs1, hs, v1, ?_⟩
      conv => whnf
      refine Fork.dec (fun _ => ?_) (fun h => absurd rfl h)
      conv => whnf
      refine ⟨0, s, N, a + 1 + 1, 7, U, rfl, by decide, rfl, rfl, by decide, by omega, hN, hs1, hs, hnum, ?_⟩
      conv => whnf
      refine LoopP.roll 6 ?_
      conv => whnf
      refine Fork.dec (fun _ => ?_) (fun h => absurd h (shr_yes (m := 0) rfl (d0 c0)))
      conv => whnf
      refine Fork.dec (fun h => absurd h (shr_no (m := 7) rfl (z1 c1))) (fun _ => ?_)
      conv => whnf
      exact ⟨rfl, rfl⟩
    · skip
      by_cases c2 : U < 4096
      · have hcd : codeB U = [1, 1, 0] ++ bitsOf U 12 := by
          unfold codeB
          rw [if_neg c0, if_neg c1, if_pos c2]
        rw [hcd] at hrd hle ⊢
        have hlen : ([1, 1, 0] ++ bitsOf U 12).length = 15 := by rw [List.length_append, bitsOf_length]; rfl
        rw [hlen] at hrd hle ⊢
        obtain ⟨r0, h0⟩ := rd_cons (j := 14) hrd
        obtain ⟨r1, h1⟩ := rd_cons (j := 13) h0
        obtain ⟨r2, h2⟩ := rd_cons (j := 12) h1
        have hnum : numB 0 (rdBits s (a + 1 + 1 + 1) 12) = U := by rw [show rdBits s (a + 1 + 1 + 1) 12 = bitsOf U 12 from h2]; exact (numB_bits 0 U 12).trans (by rw [Nat.zero_mul, Nat.zero_add]; exact Nat.mod_eq_of_lt (by omega))
        have v0 : numB 0 (rdBits s (a) 1) = 1 := by rw [r0]; rfl
        have v1 : numB 0 (rdBits s (a + 1) 1) = 1 := by rw [r1]; rfl
        have v2 : numB 0 (rdBits s (a + 1 + 1) 1) = 0 := by rw [r2]; rfl
        conv => whnf
        refine LoopP.roll 6 ?_
        conv => whnf
        refine ⟨0, s, N, a, 1, 1, rfl, by decide, rfl, rfl, by decide, by omega, hN, hs1, hs, v0, ?_⟩
        conv => whnf
        refine Fork.dec (fun h => absurd h (by decide)) (fun _ => ?_)
        conv => whnf
        refine ⟨0, s, N, a + 1, 1, 1, rfl, by decide, rfl, rfl, by decide, by omega, hN, hs1, hs, v1, ?_⟩
        conv => whnf
        refine Fork.dec (fun h => absurd h (by decide)) (fun _ => ?_)
        conv => whnf
        refine ⟨0, s, N, a + 1 + 1, 1, 0, rfl, by decide, rfl, rfl, by decide, by omega, hN, hs1, hs, v2, ?_⟩
        conv => whnf
        refine Fork.dec (fun _ => ?_) (fun h => absurd rfl h)
        conv => whnf
        refine ⟨0, s, N, a + 1 + 1 + 1, 12, U, rfl, by decide, rfl, rfl, by decide, by omega, hN, hs1, hs, hnum, ?_⟩
        conv => whnf
        refine LoopP.roll 6 ?_
        conv => whnf
        refine Fork.dec (fun _ => ?_) (fun h => absurd h (shr_yes (m := 0) rfl (d0 c0)))
        conv => whnf
        refine Fork.dec (fun _ => ?_) (fun h => absurd h (shr_yes (m := 7) rfl (d1 c1)))
        conv => whnf
        refine Fork.dec (fun h => absurd h (shr_no (m := 12) rfl (z2 c2))) (fun _ => ?_)
        conv => whnf
        exact ⟨rfl, rfl⟩
      · skip
        by_cases c3 : U < 16777216
        · have hcd : codeB U = [1, 1, 1, 0] ++ bitsOf U 24 := by
            unfold codeB
            rw [if_neg c0, if_neg c1, if_neg c2, if_pos c3]
          rw [hcd] at hrd hle ⊢
          have hlen : ([1, 1, 1, 0] ++ bitsOf U 24).length = 28 := by rw [List.length_append, bitsOf_length]; rfl
          rw [hlen] at hrd hle ⊢
          obtain ⟨r0, h0⟩ := rd_cons (j := 27) hrd
          obtain ⟨r1, h1⟩ := rd_cons (j := 26) h0
          obtain ⟨r2, h2⟩ := rd_cons (j := 25) h1
          obtain ⟨r3, h3⟩ := rd_cons (j := 24) h2
          have hnum : numB 0 (rdBits s (a + 1 + 1 + 1 + 1) 24) = U := by rw [show rdBits s (a + 1 + 1 + 1 + 1) 24 = bitsOf U 24 from h3]; exact (numB_bits 0 U 24).trans (by rw [Nat.zero_mul, Nat.zero_add]; exact Nat.mod_eq_of_lt (by omega))
          have v0 : numB 0 (rdBits s (a) 1) = 1 := by rw [r0]; rfl
          have v1 : numB 0 (rdBits s (a + 1) 1) = 1 := by rw [r1]; rfl
          have v2 : numB 0 (rdBits s (a + 1 + 1) 1) = 1 := by rw [r2]; rfl
          have v3 : numB 0 (rdBits s (a + 1 + 1 + 1) 1) = 0 := by rw [r3]; rfl
          conv => whnf
          refine LoopP.roll 6 ?_
          conv => whnf
          refine ⟨0, s, N, a, 1, 1, rfl, by decide, rfl, rfl, by decide, by omega, hN, hs1, hs, v0, ?_⟩
          conv => whnf
          refine Fork.dec (fun h => absurd h (by decide)) (fun _ => ?_)
          conv => whnf
          refine ⟨0, s, N, a + 1, 1, 1, rfl, by decide, rfl, rfl, by decide, by omega, hN, hs1, hs, v1, ?_⟩
          conv => whnf
          refine Fork.dec (fun h => absurd h (by decide)) (fun _ => ?_)
          conv => whnf
          refine ⟨0, s, N, a + 1 + 1, 1, 1, rfl, by decide, rfl, rfl, by decide, by omega, hN, hs1, hs, v2, ?_⟩
          conv => whnf
          refine Fork.dec (fun h => absurd h (by decide)) (fun _ => ?_)
          conv => whnf
          refine ⟨0, s, N, a + 1 + 1 + 1, 1, 0, rfl, by decide, rfl, rfl, by decide, by omega, hN, hs1, hs, v3, ?_⟩
          conv => whnf
          refine Fork.dec (fun _ => ?_) (fun h => absurd rfl h)
          conv => whnf
          refine ⟨0, s, N, a + 1 + 1 + 1 + 1, 24, U, rfl, by decide, rfl, rfl, by decide, by omega, hN, hs1, hs, hnum, ?_⟩
          conv => whnf
          refine LoopP.roll 6 ?_
          conv => whnf
          refine Fork.dec (fun _ => ?_) (fun h => absurd h (shr_yes (m := 0) rfl (d0 c0)))
          conv => whnf
          refine Fork.dec (fun _ => ?_) (fun h => absurd h (shr_yes (m := 7) rfl (d1 c1)))
          conv => whnf
          refine Fork.dec (fun _ => ?_) (fun h => absurd h (shr_yes (m := 12) rfl (d2 c2)))
          conv => whnf
          refine Fork.dec (fun h => absurd h (shr_no (m := 24) rfl (z3 c3))) (fun _ => ?_)
          conv => whnf
          exact ⟨rfl, rfl⟩
        · skip
          have hcd : codeB U = [1, 1, 1, 1] ++ bitsOf U 64 := by
            unfold codeB
            rw [if_neg c0, if_neg c1, if_neg c2, if_neg c3]
          rw [hcd] at hrd hle ⊢
          have hlen : ([1, 1, 1, 1] ++ bitsOf U 64).length = 68 := by rw [List.length_append, bitsOf_length]; rfl
          rw [hlen] at hrd hle ⊢
          obtain ⟨r0, h0⟩ := rd_cons (j := 67) hrd
          obtain ⟨r1, h1⟩ := rd_cons (j := 66) h0
          obtain ⟨r2, h2⟩ := rd_cons (j := 65) h1
          obtain ⟨r3, h3⟩ := rd_cons (j := 64) h2
          have hnum : numB 0 (rdBits s (a + 1 + 1 + 1 + 1) 64) = U := by rw [show rdBits s (a + 1 + 1 + 1 + 1) 64 = bitsOf U 64 from h3]; exact (numB_bits 0 U 64).trans (by rw [Nat.zero_mul, Nat.zero_add]; exact Nat.mod_eq_of_lt (by omega))
          have v0 : numB 0 (rdBits s (a) 1) = 1 := by rw [r0]; rfl
          have v1 : numB 0 (rdBits s (a + 1) 1) = 1 := by rw [r1]; rfl
          have v2 : numB 0 (rdBits s (a + 1 + 1) 1) = 1 := by rw [r2]; rfl
          have v3 : numB 0 (rdBits s (a + 1 + 1 + 1) 1) = 1 := by rw [r3]; rfl
          conv => whnf
          refine LoopP.roll 6 ?_
          conv => whnf
          refine ⟨0, s, N, a, 1, 1, rfl, by decide, rfl, rfl, by decide, by omega, hN, hs1, hs, v0, ?_⟩
          conv => whnf
          refine Fork.dec (fun h => absurd h (by decide)) (fun _ => ?_)
          conv => whnf
          refine ⟨0, s, N, a + 1, 1, 1, rfl, by decide, rfl, rfl, by decide, by omega, hN, hs1, hs, v1, ?_⟩
          conv => whnf
          refine Fork.dec (fun h => absurd h (by decide)) (fun _ => ?_)
          conv => whnf
          refine ⟨0, s, N, a + 1 + 1, 1, 1, rfl, by decide, rfl, rfl, by decide, by omega, hN, hs1, hs, v2, ?_⟩
          conv => whnf
          refine Fork.dec (fun h => absurd h (by decide)) (fun _ => ?_)
          conv => whnf
          refine ⟨0, s, N, a + 1 + 1 + 1, 1, 1, rfl, by decide, rfl, rfl, by decide, by omega, hN, hs1, hs, v3, ?_⟩
          conv => whnf
          refine Fork.dec (fun h => absurd h (by decide)) (fun _ => ?_)
          conv => whnf
          refine ⟨0, s, N, a + 1 + 1 + 1 + 1, 64, U, rfl, by decide, rfl, rfl, by decide, by omega, hN, hs1, hs, hnum, ?_⟩
          conv => whnf
          refine LoopP.roll 6 ?_
          conv => whnf
          refine Fork.dec (fun _ => ?_) (fun h => absurd h (shr_yes (m := 0) rfl (d0 c0)))
          conv => whnf
          refine Fork.dec (fun _ => ?_) (fun h => absurd h (shr_yes (m := 7) rfl (d1 c1)))
          conv => whnf
          refine Fork.dec (fun _ => ?_) (fun h => absurd h (shr_yes (m := 12) rfl (d2 c2)))
          conv => whnf
          refine Fork.dec (fun _ => ?_) (fun h => absurd h (shr_yes (m := 24) rfl (d3 c3)))
          conv => whnf
          exact ⟨rfl, rfl⟩
end Go.Proofs.Ytpfflibkkjjlaaa
namespace Go.Proofs.Ytpfflibkkjjlaaa
open Go Go.RowKit
set_option maxRecDepth 20000
def natDGet (args : List AV) (H : AH) (n : Nat) (κ : PK) : Prop := match args with
  | [x] => ∃ (b : Nat) (s : List Nat) (N a U : Nat), x = .ptr b 0 ∧ b < n ∧ H.get b = some (.cells (rStr s N a) true) ∧ U < 18446744073709551616 ∧ rdBits s a (codeB U).length = codeB U ∧ a + (codeB U).length ≤ N ∧ N ≤ 8 * s.length ∧ s.length ≤ 100000000 ∧ (∀ x ∈ s, x < 256) ∧
      κ (.tup [.si .u64 (U : Int), .int .i64 0]) (H.set (some (.cells (rStr s N (a + (codeB U).length)) true)) depthH b) n
  | _ => False
theorem n_dget : NatP 71 natDGet := fun args H n κ hs φ h0' hp vs K hr hargs hk => by
  unfold natDGet at hs
  split at hs
  · obtain ⟨x, rfl, e1⟩ := vs1 hargs
    obtain ⟨b, s, N, a, U, rfl, hbn, hb, hU, hrd, ha, hN, hs1, hs2, hs⟩ := hs
    refine framed (S := [b]) (O := [.cells (rStr s N a) true]) (args0 := [.ptr 0 0]) (callT_nat KG_ok 4 _) (by kernel_rfl) hr
      (hands1 hbn hb (.inr rfl)) (.cons e1 .nil) hk (dget_run s N a U hU hrd ha hN hs1 hs2) fun u H' n' ⟨h1, h2⟩ => ?_
    subst h1
    refine ⟨1, putH [b] n H [(0, some (.cells (rStr s N (a + (codeB U).length)) true))], Nat.le_refl _, After.put (Nat.le_refl _) rfl (fun x hx o ho => ?_), rfl, hs⟩
    simp only [List.mem_cons, List.not_mem_nil, or_false] at hx
    subst hx
    injection ho with ho; subst ho; exact ⟨h2, rfl, rfl⟩
  · exact hs.elim
/-! ### the next sample -/
def sStr (r : Nat) (T V st : Int) : List AV := [.ptr r 0, .si .i64 T, .si .i64 V, .si .i64 st, .int .i64 0]
def d_next : DT := [(5, [(some 1000000, [3, 5]), (none, [0, 1, 2, 3, 4, 5, 6, 7, 8, 9]), (none, [0, 1, 2, 4, 5, 3, 6, 7, 8, 9])]), (7, [(some 1000000, [4, 6]), (none, [0, 1, 2, 3, 4, 5, 6, 7, 8, 9, 10, 11]), (none, [0, 1, 2, 3, 5, 6, 4, 7, 8, 9, 10, 11])])]
noncomputable def KN : FuncId → EP := withD 44 d_next (withN 71 natDGet (withN 68 natRGet KB))
theorem KN_ok : TabP KN := withD_ok (withN_ok (withN_ok KB_ok n_rget) n_dget) (by kernel_rfl) (by kernel_rfl)
theorem numB_u64 (x : Int) : numB 0 (bitsOf (u64N x) 64) = u64N x := (numB_bits 0 _ 64).trans (by rw [Nat.zero_mul, Nat.zero_add]; exact Nat.mod_eq_of_lt (u64_lt x))
theorem zag_raw {u : Nat} (h : u < 18446744073709551616) : bitsV .xor .i64 (IntKind.i64.wrap (((u : Nat) : Int).fdiv ((2 : Int) ^ min (Int.toNat 1) IntKind.u64.bits))) (IntKind.i64.wrap (0 - IntKind.i64.wrap (bitsV .and .u64 ((u : Nat) : Int) 1))) = zagI u := zag_eq h
set_option maxHeartbeats 4000000 in
set_option maxRecDepth 100000 in
theorem next_run1 (s : List Nat) (N a : Nat) (T V st T' V' : Int) (h1 : rdBits s a 64 = bitsOf (u64N T') 64) (h2 : rdBits s (a + 64) 64 = bitsOf (u64N V') 64) (hT : In64 T') (hV : In64 V') (hle : a + 64 + 64 ≤ N) (hN : N ≤ 8 * s.length) (hs1 : s.length ≤ 100000000) (hs : ∀ x ∈ s, x < 256) :
    callT KN 6 44 [.ptr 0 0, .sb true] (mkH [(0, .cells (sStr 1 T V st) true), (1, .cells (rStr s N a) true)]) 2
    fun u H' _ => u = .agg [.si .i64 T', .si .i64 V'] ∧ H'.get 0 = some (.cells (sStr 1 T' V' st) true) ∧ H'.get 1 = some (.cells (rStr s N (a + 64 + 64)) true) := by
  have e1 : numB 0 (rdBits s a 64) = u64N T' := by rw [h1, numB_u64]
  have e2 : numB 0 (rdBits s (a + 64) 64) = u64N V' := by rw [h2, numB_u64]
  have b1 : IntKind.i64.wrap ((u64N T' : Nat) : Int) = T' := u64_back hT
  have b2 : IntKind.i64.wrap ((u64N V' : Nat) : Int) = V' := u64_back hV
  have q1 := congr (congrArg (fun x y => AV.agg [.si .i64 x, .si .i64 y]) b1) b2
  have q2 := congr (congrArg (fun x y => some (AO.cells (sStr 1 x y st) true)) b1) b2
  conv => whnf
  refine Fork.sb (fun _ => ?_) (fun h => by cases h)
  conv => whnf
  refine ⟨1, s, N, a, 64, u64N T', rfl, by decide, rfl, rfl, by decide, by omega, hN, hs1, hs, e1, ?_⟩
  conv => whnf
  refine ⟨1, s, N, a + 64, 64, u64N V', rfl, by decide, rfl, rfl, by decide, by omega, hN, hs1, hs, e2, ?_⟩
  conv => whnf
  exact ⟨q1, q2, rfl⟩
set_option maxHeartbeats 4000000 in
set_option maxRecDepth 100000 in
theorem next_run2 (s : List Nat) (N a U W : Nat) (T V st : Int) (hU : U < 18446744073709551616) (hW : W < 18446744073709551616) (h1 : rdBits s a (codeB U).length = codeB U) (h2 : rdBits s (a + (codeB U).length) (codeB W).length = codeB W) (hle : a + (codeB U).length + (codeB W).length ≤ N) (hN : N ≤ 8 * s.length) (hs1 : s.length ≤ 100000000) (hs : ∀ x ∈ s, x < 256) :
    callT KN 6 44 [.ptr 0 0, .sb false] (mkH [(0, .cells (sStr 1 T V st) true), (1, .cells (rStr s N a) true)]) 2
    fun u H' _ => u = .agg [.si .i64 (W64 (T + W64 (st + zagI U))), .si .i64 (W64 (V + zagI W))] ∧ H'.get 0 = some (.cells (sStr 1 (W64 (T + W64 (st + zagI U))) (W64 (V + zagI W)) (W64 (st + zagI U))) true) ∧ H'.get 1 = some (.cells (rStr s N (a + (codeB U).length + (codeB W).length)) true) := by
  have z1 := zag_raw hU
  have z2 := zag_raw hW
  have q1 := congr (congrArg (fun x y => AV.agg [.si .i64 (W64 (T + W64 (st + x))), .si .i64 (W64 (V + y))]) z1) z2
  have q2 := congr (congrArg (fun x y => some (AO.cells (sStr 1 (W64 (T + W64 (st + x))) (W64 (V + y)) (W64 (st + x))) true)) z1) z2
  have hle1 : a + (codeB U).length ≤ N := by omega
  conv => whnf
  refine Fork.sb (fun h => by cases h) (fun _ => ?_)
  conv => whnf
  refine ⟨?_, ?_, trivial⟩ <;> (
    conv => whnf
    refine ⟨1, s, N, a, U, rfl, by decide, rfl, hU, h1, hle1, hN, hs1, hs, ?_⟩
    conv => whnf
    refine ⟨?_, ?_, trivial⟩ <;> (
      conv => whnf
      refine ⟨1, s, N, a + (codeB U).length, W, rfl, by decide, rfl, hW, h2, hle, hN, hs1, hs, ?_⟩
      conv => whnf
      exact ⟨q1, q2, rfl⟩))
/-- What the next sample is: the state behind it. -/
inductive NextS (s : List Nat) (a : Nat) (T V st : Int) : Bool → Nat → Int → Int → Int → Prop where
  | first {T' V' : Int} (h1 : rdBits s a 64 = bitsOf (u64N T') 64) (h2 : rdBits s (a + 64) 64 = bitsOf (u64N V') 64) (hT : In64 T') (hV : In64 V') : NextS s a T V st true (a + 64 + 64) T' V' st
  | more {U W : Nat} (hU : U < 18446744073709551616) (hW : W < 18446744073709551616) (h1 : rdBits s a (codeB U).length = codeB U) (h2 : rdBits s (a + (codeB U).length) (codeB W).length = codeB W) : NextS s a T V st false (a + (codeB U).length + (codeB W).length) (W64 (T + W64 (st + zagI U))) (W64 (V + zagI W)) (W64 (st + zagI U))
def natNext (args : List AV) (H : AH) (n : Nat) (κ : PK) : Prop := match args with
  | [x, q] => ∃ (b c : Nat) (s : List Nat) (N a a' : Nat) (T V st T' V' st' : Int) (f : Bool), x = .ptr b 0 ∧ mk q = .sb f ∧ b ≠ c ∧ b < n ∧ c < n ∧ H.get b = some (.cells (sStr c T V st) true) ∧ H.get c = some (.cells (rStr s N a) true) ∧ NextS s a T V st f a' T' V' st' ∧ a' ≤ N ∧ N ≤ 8 * s.length ∧ s.length ≤ 100000000 ∧ (∀ x ∈ s, x < 256) ∧
      κ (.agg [.si .i64 T', .si .i64 V']) ((H.set (some (.cells (rStr s N a') true)) depthH c).set (some (.cells (sStr c T' V' st') true)) depthH b) n
  | _ => False
theorem n_next : NatP 44 natNext := fun args H n κ hs φ h0' hp vs K hr hargs hk => by
  unfold natNext at hs
  split at hs
  · obtain ⟨x, y, rfl, e1, e2⟩ := vs2 hargs
    obtain ⟨b, c, s, N, a, a', T, V, st, T', V', st', f, rfl, hq, hbc, hbn, hcn, hb, hc, hnx, ha, hN, hs1, hs2, hs⟩ := hs
    have key : callT KN 6 44 [.ptr 0 0, .sb f] (mkH [(0, .cells (sStr 1 T V st) true), (1, .cells (rStr s N a) true)]) 2
        fun u H' _ => u = .agg [.si .i64 T', .si .i64 V'] ∧ H'.get 0 = some (.cells (sStr 1 T' V' st') true) ∧ H'.get 1 = some (.cells (rStr s N a') true) := by
      cases hnx with
      | first h1 h2 hT hV => exact next_run1 s N a T V st T' V' h1 h2 hT hV ha hN hs1 hs2
      | more hU hW h1 h2 => exact next_run2 s N a _ _ T V st hU hW h1 h2 ha hN hs1 hs2
    refine framed (S := [b, c]) (O := [.cells (sStr 1 T V st) true, .cells (rStr s N a) true]) (args0 := [.ptr 0 0, .sb f]) (callT_nat KN_ok 6 _) (by kernel_rfl) hr
      (hands2 hbc hbn hcn hb hc (.inr rfl) (.inr rfl)) (.cons e1 (.cons (by have := e2.mk; rw [hq] at this; exact this) .nil)) hk key fun u H' n' ⟨h1, h2, h3⟩ => ?_
    subst h1
    refine ⟨2, putH [b, c] n H [(0, some (.cells (sStr 1 T' V' st') true)), (1, some (.cells (rStr s N a') true))], Nat.le_refl _, After.put (Nat.le_refl _) rfl (fun x hx o ho => ?_), rfl, hs⟩
    simp only [List.mem_cons, List.not_mem_nil, or_false] at hx
    rcases hx with rfl | rfl
    · injection ho with ho; subst ho; exact ⟨h2, rfl, rfl⟩
    · injection ho with ho; subst ho; exact ⟨h3, rfl, rfl⟩
  · exact hs.elim
end Go.Proofs.Ytpfflibkkjjlaaa
namespace Go.Proofs.Ytpfflibkkjjlaaa
open Go Go.RowKit
set_option maxRecDepth 20000
def tP (X : Smp) (i : Nat) : Int := if i = 0 then 0 else tAt X (i - 1)
def vP (X : Smp) (i : Nat) : Int := if i = 0 then 0 else vAt X (i - 1)
theorem rd_samp {X : Smp} {i : Nat} (h : i < X.length) : rdBits (pack (encB X)) (encTo X i).length (sampB X i).length = sampB X i := by
  obtain ⟨D, hD⟩ := encB_split h
  exact rdBits_pack (encB_bits X) hD
theorem rd_two {s : List Nat} {a : Nat} {A B : List Nat} (h : rdBits s a (A ++ B).length = A ++ B) : rdBits s a A.length = A ∧ rdBits s (a + A.length) B.length = B := by
  rw [List.length_append, rdBits_app] at h
  exact List.append_inj h (by rw [rdBits_length])
theorem encTo_next (X : Smp) (i : Nat) : (encTo X (i + 1)).length = (encTo X i).length + (sampB X i).length := by rw [encTo_succ, List.length_append]
theorem encTo_le {X : Smp} {i : Nat} (h : i ≤ X.length) : (encTo X i).length ≤ (encB X).length := by
  obtain ⟨D, hD⟩ := encTo_pre X i (X.length - i)
  rw [show i + (X.length - i) = X.length from by omega] at hD
  show _ ≤ (encTo X X.length).length
  rw [hD, List.length_append]; omega
/-- The state behind each sample. -/
theorem nextS_of {X : Smp} (h64 : ∀ x ∈ X, In64 x.1 ∧ In64 x.2) {i : Nat} (h : i < X.length) : NextS (pack (encB X)) (encTo X i).length (tP X i) (vP X i) (stepAt X i) (decide ((i : Int) = 0)) (encTo X (i + 1)).length (tP X (i + 1)) (vP X (i + 1)) (stepAt X (i + 1)) := by
  have hr := rd_samp h
  have ht := (tAt_in h64 i).1
  have hv := (tAt_in h64 i).2
  by_cases h0 : i = 0
  · subst h0
    obtain ⟨r1, r2⟩ := rd_two (A := bitsOf (u64N (tAt X 0)) 64) (B := bitsOf (u64N (vAt X 0)) 64) hr
    rw [bitsOf_length] at r1
    rw [bitsOf_length, bitsOf_length] at r2
    have e : (encTo X (0 + 1)).length = (encTo X 0).length + 64 + 64 := by rw [encTo_next]; simp [sampB, bitsOf_length]
    rw [e]
    exact .first r1 r2 ht hv
  · have hd : decide ((i : Int) = 0) = false := decide_eq_false (by omega)
    have es : sampB X i = codeB (dT X i) ++ codeB (dV X i) := by unfold sampB; rw [if_neg h0]
    rw [es] at hr
    obtain ⟨r1, r2⟩ := rd_two hr
    have e : (encTo X (i + 1)).length = (encTo X i).length + (codeB (dT X i)).length + (codeB (dV X i)).length := by rw [encTo_next, es, List.length_append]; omega
    have e1 : tP X (i + 1) = W64 (tP X i + W64 (stepAt X i + zagI (dT X i))) := by
      rw [dec_step X h0]; unfold tP; rw [if_neg (by omega), if_neg h0]; exact (dec_T h0 ht).symm
    have e2 : vP X (i + 1) = W64 (vP X i + zagI (dV X i)) := by
      unfold vP; rw [if_neg (by omega), if_neg h0]; exact (dec_V hv).symm
    rw [hd, e, e1, e2, ← dec_step X h0]
    exact .more (dT_lt X i) (dV_lt X i) r1 r2
theorem smp_snoc (L : Smp) (x : Int × Int) : smp (L ++ [x]) = smp L ++ [.si .i64 x.1, .si .i64 x.2] := by simp [smp]
theorem tyS : RTy 33 33 2 16 := ⟨_, _, _, rfl, rfl, (fun q h => by cases h), rfl, rfl, rfl, rfl, by decide, by decide⟩
noncomputable def dc (X : Smp) (i : Nat) : AE × AH := (mkE [(2, .si .i64 (((X.length : Nat) : Int))), (8, .ptr 0 (0)), (10, .ptr 1 (0)), (11, .rw 2 0 i 2 0), (12, .si .i64 (((i : Nat) : Int)))], mkH [(0, .cells (rStr (pack (encB X)) (encB X).length (encTo X i).length) true), (1, .cells (sStr 0 (tP X i) (vP X i) (stepAt X i)) true), (2, .cells (smp ((X.take i))) true)])
theorem dc_cov {X : Smp} {i : Nat} {p n : Nat} {σ : AE} {H : AH} (j2 : Nat) (hj : j2 ≠ 0 ∧ j2 ≠ 1) (hp : p ≤ 0) (e2 : mk (getq (pa 2) σ) = .si .i64 (((X.length : Nat) : Int))) (e8 : getq (pa 8) σ = .ptr 0 (0)) (e10 : getq (pa 10) σ = .ptr 1 (0)) (e11 : SubV H 3 (fun b => if b = 2 then j2 else b) (getq (pa 11) σ) (.rw 2 0 i 2 0)) (e12 : mk (getq (pa 12) σ) = .si .i64 (((i : Nat) : Int))) (h0 : ∃ l, H.get 0 = some (.cells l true) ∧ SubL H 3 (fun b => if b = 2 then j2 else b) l (rStr (pack (encB X)) (encB X).length (encTo X i).length)) (h1 : ∃ l, H.get 1 = some (.cells l true) ∧ SubL H 3 (fun b => if b = 2 then j2 else b) l (sStr 0 (tP X i) (vP X i) (stepAt X i))) (h2 : (∃ l, H.get j2 = some (.cells l true) ∧ l.map mk = smp ((X.take i))) ∨ (((X.take i)) = [] ∧ n ≤ j2)) : Cov p σ H n ((dc X i).1, (dc X i).2, 3) := by
  refine Cov.ofR (fun b => if b = 2 then j2 else b) (by omega) (fun b hb => by repeat' rw [if_neg (by omega)]) ?_ ?_ ?_
  · intro x hx
    simp only [List.mem_cons, List.not_mem_nil, or_false] at hx
    rcases hx with rfl | rfl | rfl | rfl | rfl
    · exact .int e2
    · exact .ptr (by decide) e8
    · exact .ptr (by decide) e10
    · exact e11
    · exact .int e12
  · intro x hx
    simp only [List.mem_cons, List.not_mem_nil, or_false] at hx
    rcases hx with rfl | rfl | rfl
    · exact ⟨by simp, .inl (h0.elim fun l h => ⟨_, h.1, SubO.st h.2⟩)⟩
    · exact ⟨by simp, .inl (h1.elim fun l h => ⟨_, h.1, SubO.st h.2⟩)⟩
    · exact ⟨by simp, h2.elim (fun ⟨l, h, g⟩ => .inl ⟨_, h, SubO.cells_mk (smp_flat _) (by rw [g, smp_map]) (fun q => q)⟩) (fun h => .inr ⟨by rw [h.1]; rfl, h.2⟩)⟩
  · intro x hx y hy
    simp only [List.mem_cons, List.not_mem_nil, or_false] at hx hy
    rcases hx with rfl | rfl | rfl <;> rcases hy with rfl | rfl | rfl <;> simp <;> omega
noncomputable def KD : FuncId → EP := withD 33 [] (withD 45 [] (withN 44 natNext evP))
theorem KD_ok : TabP KD := withD_ok (withD_ok (withN_ok evP_ok n_next) (by kernel_rfl) (by kernel_rfl)) (by kernel_rfl) (by kernel_rfl)
set_option maxHeartbeats 4000000 in
set_option maxRecDepth 100000 in
theorem dec_run (X : Smp) (hX : X.length ≤ 100000) (h64 : ∀ x ∈ X, In64 x.1 ∧ In64 x.2) : callT KD 4 33 [.ss (pack (encB X)), .si .i64 ((encB X).length : Int), .si .i64 (X.length : Int)] .nil 0
    fun u H' _ => RowNum X 0 u H' := by
  have hbl := encB_len X
  have hpl := pack_length (encB X)
  have hN : (encB X).length ≤ 8 * (pack (encB X)).length := by omega
  have h8 : IntKind.i64.wrap (8 * ((pack (encB X)).length : Int)) = ((8 * (pack (encB X)).length : Nat) : Int) := W64_of ⟨by omega, by omega⟩
  have hgt : ¬ IntKind.i64.wrap (8 * ((pack (encB X)).length : Int)) < ((encB X).length : Int) := by rw [h8]; omega
  have hs2 := pack_lt (encB_bits X)
  conv => whnf
  refine Fork.dec (fun h => absurd h (by omega)) (fun _ => ?_)
  conv => whnf
  refine Fork.dec (fun h => absurd h hgt) (fun _ => ?_)
  conv => whnf
  refine Fork.dec (fun h => absurd h (by omega)) (fun _ => ?_)
  conv => whnf
  refine Fork.dec (fun h => absurd h (by omega)) (fun _ => ?_)
  conv => whnf
  refine LoopP.mk { i : Nat // i ≤ X.length } 3 (fun i => dc X i.val) (fun i => X.length - i.val) ⟨0, Nat.zero_le _⟩ ?_ ?_
  · exact dc_cov (j2 := 2) (by decide) (Nat.le_refl 0) rfl rfl rfl (.nslRw rfl) rfl ⟨_, rfl, .cons (.str rfl) (.cons (.int rfl) (.cons (.int rfl) (.cons (.bool rfl) .nil)))⟩ ⟨_, rfl, .cons (.ptr (by decide) rfl) (.cons (.int rfl) (.cons (.int rfl) (.cons (.int rfl) (.cons (.mk1 rfl rfl) .nil))))⟩ (.inr ⟨rfl, Nat.le_refl _⟩)
  · intro ⟨i, hi⟩
    conv => whnf
    refine Fork.dec (fun h => ?_) (fun h => ?_)
    · have hi2 : i < X.length := by exact Int.ofNat_lt.1 h
      have hnx := nextS_of h64 hi2
      have ha : (encTo X (i + 1)).length ≤ (encB X).length := encTo_le hi2
      have hs1 : (pack (encB X)).length ≤ 100000000 := by omega
      have hi1 : IntKind.i64.wrap ((i : Int) + 1) = (((i + 1 : Nat)) : Int) := W64_of ⟨by omega, by omega⟩
      have hrow : subL (smp (X.take i)) 0 (i * 2) = some (smp (X.take i)) := subL_all (by rw [smp_length, List.length_take]; omega)
      have hbig : (i + 1) * 16 ≤ 140737488355328 := by omega
      have htk : smp (X.take i) ++ [.si .i64 (tP X (i + 1)), .si .i64 (vP X (i + 1))] = smp (X.take (i + 1)) := by
        rw [List.take_succ_eq_append_getElem hi2, smp_snoc]
        unfold tP vP
        rw [if_neg (by omega), if_neg (by omega), Nat.add_sub_cancel, tAt_of hi2, vAt_of hi2]
      conv => whnf
      refine ⟨1, 0, pack (encB X), (encB X).length, (encTo X i).length, (encTo X (i + 1)).length, tP X i, vP X i, stepAt X i, tP X (i + 1), vP X (i + 1), stepAt X (i + 1), _, rfl, rfl, by decide, by decide, by decide, rfl, rfl, hnx, ha, hN, hs1, hs2, ?_⟩
      conv => whnf
      refine RApp.grow 2 16 _ _ _ _ _ _ tyS (.old rfl) rfl rfl (.rw rfl hrow) hbig ?_
      conv => whnf
      exact ⟨⟨i + 1, hi2⟩, (show X.length - (i + 1) < X.length - i by omega), dc_cov (j2 := 4) (by decide) (Nat.le_refl 0) rfl rfl rfl (SubV.rw (by decide) rfl) (congrArg (AV.si .i64) hi1) ⟨_, rfl, .cons (.str rfl) (.cons (.int rfl) (.cons (.int rfl) (.cons (.bool rfl) .nil)))⟩ ⟨_, rfl, .cons (.ptr (by decide) rfl) (.cons (.int rfl) (.cons (.int rfl) (.cons (.int rfl) (.cons (.mk1 rfl rfl) .nil))))⟩ (.inl ⟨_, rfl, (congrArg (List.map mk) htk).trans (smp_map _)⟩)⟩
    · have hi3 : i = X.length := by have : ¬ i < X.length := fun q => h (Int.ofNat_lt.2 q); omega
      subst hi3
      conv => whnf
      refine Fork.dec (fun h => absurd h (by rw [show IntKind.i64.wrap (((encB X).length : Int) - ((encTo X X.length).length : Int)) = 0 from (W64_of ⟨by show _ ≤ ((encB X).length : Int) - ((encB X).length : Int); omega, by show ((encB X).length : Int) - ((encB X).length : Int) ≤ _; omega⟩).trans (Int.sub_self _)]; decide)) (fun _ => ?_)
      conv => whnf
      have hrow : subL (smp (X.take X.length)) 0 (X.length * 2) = some (smp X) := by rw [List.take_length]; exact smp_whole X
      exact ⟨_, _, rfl, rfl, NewRowG.rw rfl rfl hrow (smp_map X)⟩
/-- Bits' samples. -/
def natDec (args : List AV) (H : AH) (n : Nat) (κ : PK) : Prop := match args with
  | [x, y, z] => ∃ X : Smp, mk x = .ss (pack (encB X)) ∧ mk y = .si .i64 ((encB X).length : Int) ∧ mk z = .si .i64 (X.length : Int) ∧ X.length ≤ 100000 ∧ (∀ x ∈ X, In64 x.1 ∧ In64 x.2) ∧ RowPW (tupE 0) X H n κ
  | _ => False
theorem n_dec : NatP 33 natDec := fun args H n κ hs φ h0' hp vs K hr hargs hk => by
  unfold natDec at hs
  split at hs
  · obtain ⟨x, y, z, rfl, e1, e2, e3⟩ := vs3 hargs
    obtain ⟨X, h1, h2, h3, hX, h64, hs⟩ := hs
    exact smallNewE KD_ok (fun _ _ h => h) (dec_run X hX h64) hs hr hk (by kernel_rfl) HR.ro0 (.cons (flat1_VR rfl (h1 ▸ e1.mk)) (.cons (flat1_VR rfl (h2 ▸ e2.mk)) (.cons (flat1_VR rfl (h3 ▸ e3.mk)) .nil)))
  · exact hs.elim
end Go.Proofs.Ytpfflibkkjjlaaa
namespace Go.Proofs.Ytpfflibkkjjlaaa
open Go Go.RowKit
set_option maxRecDepth 20000
theorem SubV.frE {H : AH} {m : Nat} {r : Nat → Nat} {a : AV} {n k : Nat} {l : List AV} (e : a = .fr n k l) : SubV H m r a (.fr n k l) := by subst e; exact .stab rfl
/-! ### a row of samples, as if it were frozen -/
theorem SmpAt.frz {φ : Ph} {H : AH} {n : Nat} {h0 hp : Hp} (hr : HR φ H n h0 hp) {a : AV} {L : Smp} {v : Value} (hS : SmpAt H a L ∨ a = .fr L.length 2 (smp L)) (hv : VR φ a v) :
    ∃ z : Fz → Prop, (Wf hp → HR ⟨fun _ => none, z, z⟩ .nil 0 hp hp) ∧ VR ⟨fun _ => none, z, z⟩ (.fr L.length 2 (smp L)) v := by
  rcases hS with hS | rfl
  · rcases hS.open hr hv with ⟨rfl, h⟩ | ⟨p, C, hC, ⟨c, t, fz, h1, h2, h3, h4⟩, h⟩
    · refine ⟨fun _ => False, fun hw => start_none hw, ?_⟩
      rw [(h φ).nsl_inv]
      exact .fre fun _ => rfl
    · have hst : (smp L).all stab = true := by
        rw [List.all_eq_true]
        intro y hy
        have := List.all_eq_true.1 (smp_flat L) y hy
        cases y <;> first | rfl | cases this
      refine ⟨fun q => q = ⟨p.B, p.s, smp L⟩, fun hw => ⟨fun _ _ k => (by cases k), fun _ _ k => (by cases k), fun _ _ _ _ _ _ k => (by cases k), fun b o k => ⟨hw b o k, k⟩, Nat.le_refl _, fun q hq => ⟨?_, fun _ _ _ k => (by cases k)⟩⟩, ?_⟩
      · subst hq
        exact ⟨⟨⟨hw _ _ h1, hst⟩, c, t, fz, h1, (show p.s + (smp L).length ≤ c.size by omega), h4 _⟩, .inl rfl⟩
      · obtain ⟨p1, C1, g1, rfl, g3, _⟩ := (h (ph1 p) 0 rfl).sy_inv
        have : p = p1 := by simpa [ph1] using g1
        subst this
        exact .fr (q := ⟨p.B, p.s, smp L⟩) (o := 0) rfl (by rw [g3 rfl]; exact hC) (subL_all (smp_length L))
  · exact ⟨φ.z, fun hw => hr.withz (start_none hw) (fun _ _ h => by cases h) (fun _ h => h), stab_VR (ψ := ⟨fun _ => none, φ.z, φ.z⟩) (fun _ h => h) rfl hv⟩
/-! ### a time's place -/
noncomputable def KL : FuncId → EP := withD 29 [] evP
theorem KL_ok : TabP KL := withD_ok evP_ok (by kernel_rfl) (by kernel_rfl)
noncomputable def pl0 (L : Smp) (t : Int) (i : Nat) : AE × AH := (mkE [(0, .fr L.length 2 (smp L)), (1, .si .i64 (t)), (6, .si .i64 (((i : Nat) : Int)))], mkH [])
theorem pl0_cov {L : Smp} {t : Int} {i : Nat} {p n : Nat} {σ : AE} {H : AH} (hp : p ≤ 0) (e0 : getq (pa 0) σ = .fr L.length 2 (smp L)) (e1 : mk (getq (pa 1) σ) = .si .i64 (t)) (e6 : mk (getq (pa 6) σ) = .si .i64 (((i : Nat) : Int))) : Cov p σ H n ((pl0 L t i).1, (pl0 L t i).2, 0) := by
  refine Cov.ofR (fun b => b) (by omega) (fun b hb => rfl) ?_ ?_ ?_
  · intro x hx
    simp only [List.mem_cons, List.not_mem_nil, or_false] at hx
    rcases hx with rfl | rfl | rfl
    · exact SubV.frE e0
    · exact .int e1
    · exact .int e6
  · intro x hx
    cases hx
  · intro x hx y hy
    cases hx
set_option maxHeartbeats 4000000 in
set_option maxRecDepth 100000 in
theorem place_run (L : Smp) (t : Int) (hL : L.length ≤ 100000000) : callT KL 3 29 [.fr L.length 2 (smp L), .si .i64 t] .nil 0 fun u _ _ => mkT u = mkT (.tup [.si .i64 ((plc L t : Nat) : Int), .sb (has L t)]) := by
  conv => whnf
  refine LoopP.mk { i : Nat // i ≤ plc L t } 0 (fun i => pl0 L t i.val) (fun i => L.length - i.val) ⟨0, Nat.zero_le _⟩ ?_ ?_
  · exact pl0_cov (Nat.le_refl 0) rfl rfl rfl
  · intro ⟨i, hi⟩
    have hpl := plc_le L t
    conv => whnf
    refine Fork.dec (fun h => ?_) (fun h => ?_)
    · have hi2 : i < L.length := by exact Int.ofNat_lt.1 h
      have hti : tAt L i = L[i].1 := tAt_of hi2
      have hi1 : IntKind.i64.wrap ((i : Int) + 1) = (((i + 1 : Nat)) : Int) := W64_of ⟨by omega, by omega⟩
      conv => whnf
      refine Idx.mk i rfl hi2 ?_
      conv => whnf
      refine optP_of (smp_nth0 hi2 rfl) ?_
      conv => whnf
      refine Fork.dec (fun h2 => ?_) (fun h2 => ?_)
      · have hlt : i + 1 ≤ plc L t := by
          rcases Nat.lt_or_ge i (plc L t) with q | q
          · exact q
          · have e : i = plc L t := by omega
            have := plc_at (L := L) (t := t) (by omega)
            rw [← e, hti] at this; omega
        conv => whnf
        exact ⟨⟨i + 1, hlt⟩, (show L.length - (i + 1) < L.length - i by omega), pl0_cov (Nat.le_refl 0) rfl rfl (congrArg (AV.si .i64) hi1)⟩
      · have e : i = plc L t := by
          rcases Nat.lt_or_ge i (plc L t) with q | q
          · have := plc_lt q; rw [hti] at this; exact absurd this h2
          · omega
        have hb : decide (L[i].1 = t) = has L t := by
          unfold has
          rw [← e, hti]
          simp [hi2]
        have hq := congr (congrArg (fun (x : Nat) y => AV.tup [.si .i64 (x : Int), .sb y]) e) hb
        conv => whnf
        refine Fork.dec (fun _ => ?_) (fun q => absurd h q)
        conv => whnf
        refine Idx.mk i rfl hi2 ?_
        conv => whnf
        refine optP_of (smp_nth0 hi2 rfl) ?_
        conv => whnf
        exact hq
    · have e : i = plc L t := by have : ¬ i < L.length := fun q => h (Int.ofNat_lt.2 q); omega
      have hb : false = has L t := by
        unfold has
        refine (decide_eq_false fun q => ?_).symm
        have : ¬ i < L.length := fun q => h (Int.ofNat_lt.2 q)
        omega
      have hq := congr (congrArg (fun (x : Nat) y => AV.tup [.si .i64 (x : Int), .sb y]) e) hb
      conv => whnf
      refine Fork.dec (fun q => absurd q h) (fun _ => ?_)
      conv => whnf
      exact hq
def natPl (args : List AV) (H : AH) (n : Nat) (κ : PK) : Prop := match args with
  | [x, y] => ∃ (L : Smp) (t : Int), (SmpAt H x L ∨ x = .fr L.length 2 (smp L)) ∧ mk y = .si .i64 t ∧ L.length ≤ 100000000 ∧ κ (.tup [.si .i64 ((plc L t : Nat) : Int), .sb (has L t)]) H n
  | _ => False
theorem n_place : NatP 29 natPl := fun args H n κ hs φ h0' hp vs K hr hargs hk => by
  unfold natPl at hs
  split at hs
  · obtain ⟨x, y, rfl, e1, e2⟩ := vs2 hargs
    obtain ⟨L, t, hS, hy, hL, hs⟩ := hs
    obtain ⟨z, hz, hv⟩ := SmpAt.frz hr hS e1
    exact smallN KL_ok (v := .tup [.si .i64 ((plc L t : Nat) : Int), .sb (has L t)]) rfl (place_run L t hL) hs hr hk (by kernel_rfl) hz (.cons hv (.cons (flat1_VR rfl (hy ▸ e2.mk)) .nil))
  · exact hs.elim
/-! ### what two samples become -/
set_option maxHeartbeats 4000000 in
set_option maxRecDepth 100000 in
theorem merge_run (p a b : Int) : callT evP 4 31 [.si .i64 p, .si .i64 a, .si .i64 b] .nil 0 fun u _ _ => mkT u = mkT (.tup [.si .i64 (mergeF p a b).1, .si .i64 (mergeF p a b).2]) := by
  have key : ∀ {x y : Int}, mergeF p a b = (x, y) → mkT (.tup [.si .i64 x, .si .i64 y]) = mkT (.tup [.si .i64 (mergeF p a b).1, .si .i64 (mergeF p a b).2]) := fun e => by rw [e]
  conv => whnf
  refine Fork.dec (fun h1 => ?_) (fun h1 => ?_)
  · have e := key (x := 0) (y := 8) (by simp [mergeF, h1])
    conv => whnf
    exact e
  conv => whnf
  refine Fork.dec (fun h2 => ?_) (fun h2 => ?_)
  · have e := key (x := a) (y := 0) (by simp [mergeF, h2])
    conv => whnf
    exact e
  conv => whnf
  refine Fork.dec (fun h3 => ?_) (fun h3 => ?_)
  · have e := key (x := b) (y := 0) (by simp [mergeF, h3])
    conv => whnf
    exact e
  conv => whnf
  refine Fork.dec (fun h4 => ?_) (fun h4 => ?_)
  · have e := key (x := min a b) (y := 0) (by simp [mergeF, h4])
    conv => whnf
    exact e
  conv => whnf
  refine Fork.dec (fun h5 => ?_) (fun h5 => ?_)
  · have e := key (x := max a b) (y := 0) (by simp [mergeF, h5])
    conv => whnf
    exact e
  conv => whnf
  refine Fork.dec (fun h6 => ?_) (fun h6 => ?_)
  · have e9 : ((0 ≤ b ∧ W64 (a + b) < a) ∨ (b < 0 ∧ a < W64 (a + b))) → _ := fun h => key (x := 0) (y := 9) (by simp [mergeF, h6, h])
    have e0 : ¬ ((0 ≤ b ∧ W64 (a + b) < a) ∨ (b < 0 ∧ a < W64 (a + b))) → _ := fun h => key (x := W64 (a + b)) (y := 0) (by unfold mergeF; rw [if_neg h1, if_neg h2, if_neg h3, if_neg h4, if_neg h5, if_pos h6, if_neg h])
    conv => whnf
    refine Fork.dec (fun hb => ?_) (fun hb => ?_)
    · conv => whnf
      refine Fork.dec (fun hn => ?_) (fun hn => ?_)
      · have e := e9 (.inl ⟨hb, hn⟩)
        conv => whnf
        exact e
      · have e := e0 (fun q => q.elim (fun q => hn q.2) (fun q => by have := q.1; omega))
        conv => whnf
        refine Fork.dec (fun q => absurd q (by omega)) (fun _ => ?_)
        conv => whnf
        exact e
    · conv => whnf
      refine Fork.dec (fun hb2 => ?_) (fun q => absurd q (by omega))
      conv => whnf
      refine Fork.dec (fun hn => ?_) (fun hn => ?_)
      · have e := e9 (.inr ⟨hb2, hn⟩)
        conv => whnf
        exact e
      · have e := e0 (fun q => q.elim (fun q => hb q.1) (fun q => hn q.2))
        conv => whnf
        exact e
  · have e := key (x := 0) (y := 1) (by simp [mergeF, h1, h2, h3, h4, h5, h6])
    conv => whnf
    exact e
def natMe (args : List AV) (H : AH) (n : Nat) (κ : PK) : Prop := match args with
  | [x, y, z] => ∃ p a b : Int, mk x = .si .i64 p ∧ mk y = .si .i64 a ∧ mk z = .si .i64 b ∧ κ (.tup [.si .i64 (mergeF p a b).1, .si .i64 (mergeF p a b).2]) H n
  | _ => False
theorem n_merge : NatP 31 natMe := fun args H n κ hs φ h0' hp vs K hr hargs hk => by
  unfold natMe at hs
  split at hs
  · obtain ⟨x, y, z, rfl, e1, e2, e3⟩ := vs3 hargs
    obtain ⟨p, a, b, h1, h2, h3, hs⟩ := hs
    exact pureN (v := .tup [.si .i64 (mergeF p a b).1, .si .i64 (mergeF p a b).2]) evP_ok rfl rfl (merge_run p a b) hs hr (.cons (flat1_VR rfl (h1 ▸ e1.mk)) (.cons (flat1_VR rfl (h2 ▸ e2.mk)) (.cons (flat1_VR rfl (h3 ▸ e3.mk)) .nil))) hk
  · exact hs.elim
/-! ### all samples -/
def chk (size : Nat) (L : Smp) : List AV := [.si .i64 (size : Int), .ss (pack (encB L)), .si .i64 ((encB L).length : Int), .si .i64 (L.length : Int)]
noncomputable def KAl : FuncId → EP := withD 11 [] (withN 33 natDec evP)
theorem KAl_ok : TabP KAl := withD_ok (withN_ok evP_ok n_dec) (by kernel_rfl) (by kernel_rfl)
set_option maxHeartbeats 4000000 in
set_option maxRecDepth 100000 in
theorem all_run (size : Nat) (L : Smp) (hs : 0 < size) (hL : L.length ≤ 100000) (h64 : ∀ x ∈ L, In64 x.1 ∧ In64 x.2) : callT KAl 3 11 [.ptr 0 0] (mkH [(0, .ro (chk size L))]) 1 fun u H' _ => FrG L.length 2 (smp L) u H' := by
  conv => whnf
  refine Fork.ndec (fun h => absurd (show (0 : Int) < (size : Int) by omega) h) (fun _ => ?_)
  conv => whnf
  refine ⟨L, rfl, rfl, rfl, hL, h64, ⟨rfl, by decide⟩, ?_⟩
  conv => whnf
  exact frG_row rfl rfl rfl rfl (smp_length L)
/-- All samples, frozen. -/
def natAll (args : List AV) (H : AH) (n : Nat) (κ : PK) : Prop := match args with
  | [x] => ∃ (b size : Nat) (l : List AV) (L : Smp), x = .ptr b 0 ∧ H.get b = some (.cells l true) ∧ l.map mk = chk size L ∧ 0 < size ∧ L.length ≤ 100000 ∧ (∀ x ∈ L, In64 x.1 ∧ In64 x.2) ∧ κ (.fr L.length 2 (smp L)) H n
  | _ => False
theorem chk_flat (size : Nat) (L : Smp) : (chk size L).all flat.flat1 = true := rfl
theorem chk_map (size : Nat) (L : Smp) : (chk size L).map mk = chk size L := rfl
theorem n_all : NatP 11 natAll := fun args H n κ hs φ h0' hp vs K hr hargs hk => by
  unfold natAll at hs
  split at hs
  · obtain ⟨x, rfl, e1⟩ := vs1 hargs
    obtain ⟨b, size, l, L, rfl, hb, hl, hsz, hL, h64, hs⟩ := hs
    obtain ⟨p, hpb, rfl⟩ := e1.ptr_inv
    have hl4 : l.length = 4 := by have := congrArg List.length hl; simpa [chk] using this
    have hro := RoAt.of (s := chk size L) hr (.inr ⟨_, hb⟩) hpb (subL_all (n := 4) hl4) (by rw [hl, chk_map]) (chk_flat size L)
    exact smallFr KAl_ok (smp_flat L) (smp_length L) (all_run size L hsz hL h64) hs hr hk (by kernel_rfl) (φ0 := ⟨(ph1 ⟨p.B, p.s + 0, 4⟩).f, φ.z, φ.z⟩)
      (fun hw => hr.withz (HR.ro1 hw hro) (fun b o h => by
        have hm := mkH_get h
        simp only [List.mem_cons, List.not_mem_nil, or_false] at hm
        injection hm with _ e; subst e; rfl) (fun _ h => h)) rfl (.cons (.ptr (p := ⟨p.B, p.s + 0, 4⟩) (o := 0) rfl) .nil)
  · exact hs.elim
theorem singAll : SingG natAll := .pure fun args H n κ hs => by
  unfold natAll at *
  split at hs
  · obtain ⟨b, size, l, L, h1, h2, h3, h4, h5, h6, h7⟩ := hs
    exact ⟨_, h7, fun κ' h => ⟨b, size, l, L, h1, h2, h3, h4, h5, h6, h⟩⟩
  · exact hs.elim
end Go.Proofs.Ytpfflibkkjjlaaa
namespace Go.Proofs.Ytpfflibkkjjlaaa
open Go Go.RowKit
set_option maxRecDepth 20000
theorem PM.get_set0 {α : Type} {v : α} {t : PM α} : (PM.set (some v) depthH t 0).get 0 = some v := by cases t <;> rfl
/-- A leaf of a call that leaves a chunk. -/
theorem chLeaf {u : AV} {H' : AH} {n' size : Nat} {e : Int} {M : Smp} {l : List AV} (hu : mk u = .si .i64 e) (hb : H'.get 0 = some (.cells l true)) (hl : l.map mk = chk size M) :
    ∃ v H2 n2, VTo u v ∧ Recast H' n' H2 n2 ∧ (v = .si .i64 e ∧ PM.get H2 0 = some (.cells (chk size M) true)) :=
  ⟨.si .i64 e, H'.set (some (.cells (chk size M) true)) depthH 0, n', fun φ w h => by rw [← hu]; exact h.mk, Recast.remk hb rfl hl, rfl, PM.get_set0⟩
theorem smp_app (A B : Smp) : smp (A ++ B) = smp A ++ smp B := by simp [smp]
theorem repL_add (z : List AV) (a : Nat) : ∀ b, repL z (a + b) = repL z a ++ repL z b := by
  intro b
  induction a with
  | zero => simp [repL]
  | succ a ih => rw [Nat.succ_add]; simp [repL, ih]
theorem repL_len (z : List AV) : ∀ a, (repL z a).length = a * z.length
  | 0 => by simp [repL]
  | a + 1 => by simp [repL, repL_len z a, Nat.succ_mul]; omega
theorem setL_mid : ∀ (P X Q Y : List AV), Y.length = X.length → setL (P ++ (X ++ Q)) P.length Y = some (P ++ (Y ++ Q))
  | [], [], Q, [], _ => by cases Q <;> rfl
  | [], [], Q, y :: Y, h => by simp at h
  | [], x :: X, Q, [], h => by simp at h
  | [], x :: X, Q, y :: Y, h => by
    have := setL_mid [] X Q Y (by simpa using h)
    simp only [List.nil_append, List.length_nil] at this ⊢
    simp [setL, this]
  | p :: P, X, Q, Y, h => by
    have := setL_mid P X Q Y h
    simp [setL, this]
theorem smp_set1 {L : Smp} {i : Nat} (h : i < L.length) {t m : Int} (ht : tAt L i = t) : setL (smp L) (0 + i * 2 + 1) [.si .i64 m] = some (smp (L.set i (t, m))) := by
  have e : L = L.take i ++ (L[i] :: L.drop (i + 1)) := by rw [← List.drop_eq_getElem_cons h, List.take_append_drop]
  have e2 : L.set i (t, m) = L.take i ++ ((t, m) :: L.drop (i + 1)) := by rw [List.set_eq_take_append_cons_drop, if_pos h]
  have hl : (L.take i).length = i := by rw [List.length_take]; omega
  have e3 : smp L = (smp (L.take i) ++ [.si .i64 L[i].1]) ++ ([.si .i64 L[i].2] ++ smp (L.drop (i + 1))) := by
    have := congrArg smp e
    rw [smp_app] at this
    rw [this, List.append_assoc]; rfl
  have e4 : smp (L.set i (t, m)) = (smp (L.take i) ++ [.si .i64 L[i].1]) ++ ([.si .i64 m] ++ smp (L.drop (i + 1))) := by
    rw [e2, smp_app, ← tAt_of h, ht]; simp [smp]
  have := setL_mid (smp (L.take i) ++ [.si .i64 L[i].1]) [.si .i64 L[i].2] (smp (L.drop (i + 1))) [.si .i64 m] rfl
  rw [List.length_append, smp_length, hl, ← e3, ← e4] at this
  rw [Nat.zero_add]; exact this
def z2 : List AV := [.int .i64 0, .int .i64 0]
theorem emake_smp {l : Nat} {x : Int} {H : AH} {n : Nat} (hx : x = (l : Int)) (hl : l ≤ 1000000) : emake Try.prog 33 (.int .i64 x) (.int .i64 x) H n = some (.sl n 0 l l 0, H.set (some (.cells (repL z2 l) true)) depthH n, n + 1) := by
  subst hx
  have e : emake Try.prog 33 (.int .i64 (l : Int)) (.int .i64 (l : Int)) H n = if l ≤ l ∧ 16 * l ≤ 281474976710656 ∧ l ≤ 9223372036854775807 ∧ (2 : Nat) = 2 then some (.sl n 0 l l 0, H.set (some (.cells (repL z2 l) true)) depthH n, n + 1) else none := rfl
  rw [e, if_pos ⟨Nat.le_refl _, by omega, by omega, rfl⟩]
theorem eslice_lo {b l n c : Nat} {x : Int} (hx : x = (l : Int)) (hl : l ≤ n) (hc : n ≤ c) : eslice Try.prog 33 (.sl b 0 n c 0) (some (.int .i64 x)) none none = some (.sl b (if c = l then 0 else 0 + l * 2) (n - l) (c - l) 0) := by
  subst hx
  have e : eslice Try.prog 33 (.sl b 0 n c 0) (some (.int .i64 (l : Int))) none none = if l ≤ n ∧ n ≤ c ∧ c ≤ c then some (.sl b (if c = l then 0 else 0 + l * 2) (n - l) (c - l) 0) else none := rfl
  rw [e, if_pos ⟨hl, hc, Nat.le_refl _⟩]
noncomputable def KU : FuncId → EP := withD 9 [] (withD 11 [] (withN 29 natPl (withN 31 natMe (withN 33 natDec (withN 41 natEnc evP)))))
theorem KU_ok : TabP KU := withD_ok (withD_ok (withN_ok (withN_ok (withN_ok (withN_ok evP_ok n_enc) n_dec) n_merge) n_place) (by kernel_rfl) (by kernel_rfl)) (by kernel_rfl) (by kernel_rfl)
/-- What lies behind a call that leaves one chunk. -/
def ChQ (e : Int) (size : Nat) (M : Smp) : PK := fun u H' _ => u = .si .i64 e ∧ PM.get H' 0 = some (.cells (chk size M) true)
theorem ne_false_of {b : Bool} (h : b = false) : ¬ b = true := by simp [h]
set_option maxHeartbeats 4000000 in
set_option maxRecDepth 100000 in
theorem put_run (size : Nat) (L : Smp) (t v p : Int) (hs : 0 < size) (hs2 : size ≤ 4096) (hF : Fine L) (hv : In64 v) : post (callT KU 5 9) [.ptr 0 0, .agg [.si .i64 t, .si .i64 v], .si .i64 p] (mkH [(0, .cells (chk size L) true)]) 1 (ChQ (putF size L t v p).2 size (putF size L t v p).1) := by
  have hL := hF.2.2
  have h64 := hF.in64
  have hsz : (0 : Int) < (size : Int) := by omega
  have leaf : ∀ {u : AV} {H' : AH} {n' : Nat} {e : Int} {M : Smp} {l : List AV}, putF size L t v p = (M, e) → mk u = .si .i64 e → PM.get H' 0 = some (.cells l true) → l.map mk = chk size M → ∃ v2 H2 n2, VTo u v2 ∧ Recast H' n' H2 n2 ∧ ChQ (putF size L t v p).2 size (putF size L t v p).1 v2 H2 n2 := fun hp hu hb hl => by
    rw [hp]; exact chLeaf hu hb hl
  show callT KU 5 9 _ _ _ _
  conv => whnf
  refine Fork.ndec (fun h => absurd hsz h) (fun _ => ?_)
  conv => whnf
  refine Fork.dec (fun h => ?_) (fun h => ?_)
  · have e : putF size L t v p = (L, 1) := by unfold putF; rw [if_pos (.inl h)]
    conv => whnf
    exact leaf e rfl rfl rfl
  conv => whnf
  refine Fork.dec (fun h2 => ?_) (fun h2 => ?_)
  · have e : putF size L t v p = (L, 1) := by unfold putF; rw [if_pos (.inr h2)]
    conv => whnf
    exact leaf e rfl rfl rfl
  have hrange : ¬ (t < 0 ∨ 1099511627776 ≤ t) := fun q => q.elim h h2
  conv => whnf
  refine Fork.ndec (fun h => absurd hsz h) (fun _ => ?_)
  conv => whnf
  refine ⟨L, rfl, rfl, rfl, Nat.le_trans hL (by decide), h64, ⟨rfl, by decide⟩, ?_⟩
  conv => whnf
  refine ⟨L, t, .inl (.inr (.inl (.inl ⟨_, 0, 0, _, _, ⟨rfl, by decide⟩, .inr ⟨_, rfl⟩, smp_whole L, smp_map L⟩))), rfl, Nat.le_trans hL (by decide), ?_⟩
  conv => whnf
  refine Fork.nsb (fun hh => ?_) (fun hh => ?_)
  · have ha := plc_le L t
    have hLn := hF.2.2
    have hpe : putF size L t v p = layF size L (insF L t v) := by unfold putF; rw [if_neg hrange, if_neg (ne_false_of hh)]
    have hx : IntKind.i64.wrap ((L.length : Int) + 1) = ((L.length + 1 : Nat) : Int) := W64_of ⟨by omega, by omega⟩
    have hx2 : IntKind.i64.wrap ((plc L t : Int) + 1) = ((plc L t + 1 : Nat) : Int) := W64_of ⟨by omega, by omega⟩
    have htl : (L.take (plc L t)).length = plc L t := by rw [List.length_take]; omega
    have hdl : (L.drop (plc L t)).length = L.length - plc L t := by rw [List.length_drop]
    have hsub1 : subL (smp L) 0 (plc L t * 2) = some (smp (L.take (plc L t))) := by have := smp_sub0 (L := L) ha; rw [htl] at this; exact this
    have hsub2 : subL (smp L) (0 + plc L t * 2) ((L.length - plc L t) * 2) = some (smp (L.drop (plc L t))) := by
      unfold subL
      rw [Nat.ble_eq_true_of_le (by rw [smp_length]; omega), Nat.zero_add, smp_drop, List.take_of_length_le (by rw [smp_length, hdl]; omega)]
    have hone : ∀ (M : Smp) (k : Nat), ((smp M).take k).all one1 = true := fun M k => by
      rw [List.all_eq_true]
      intro y hy
      have := List.all_eq_true.1 (smp_flat M) y (List.mem_of_mem_take hy)
      cases y <;> first | rfl | cases this
    have hr0 : repL z2 (L.length + 1) = repL z2 (plc L t) ++ (repL z2 1 ++ repL z2 (L.length - plc L t)) := by rw [← repL_add, ← repL_add]; congr 1; omega
    have hset1 : setL (repL z2 (L.length + 1)) 0 ((smp (L.take (plc L t))).take (min (plc L t) (L.length + 1) * 2)) = some (smp (L.take (plc L t)) ++ (repL z2 1 ++ repL z2 (L.length - plc L t))) := by
      rw [hr0, Nat.min_eq_left (by omega), List.take_of_length_le (by rw [smp_length, htl]; omega)]
      exact setL_mid [] _ _ _ (by rw [smp_length, htl, repL_len]; rfl)
    have hset2 : setL (smp (L.take (plc L t)) ++ (repL z2 1 ++ repL z2 (L.length - plc L t))) (0 + plc L t * 2) [.si .i64 t, .si .i64 v] = some (smp (L.take (plc L t)) ++ ([.si .i64 t, .si .i64 v] ++ repL z2 (L.length - plc L t))) := by
      have := setL_mid (smp (L.take (plc L t))) (repL z2 1) (repL z2 (L.length - plc L t)) [.si .i64 t, .si .i64 v] rfl
      rw [smp_length, htl] at this
      rw [Nat.zero_add]; exact this
    have hset3 : setL (smp (L.take (plc L t)) ++ ([.si .i64 t, .si .i64 v] ++ repL z2 (L.length - plc L t))) (if L.length + 1 = plc L t + 1 then 0 else 0 + (plc L t + 1) * 2) ((smp (L.drop (plc L t))).take (min (L.length - plc L t) (L.length + 1 - (plc L t + 1)) * 2)) = some (smp (insF L t v)) := by
      have ei : smp (insF L t v) = smp (L.take (plc L t)) ++ ([.si .i64 t, .si .i64 v] ++ smp (L.drop (plc L t))) := by unfold insF; rw [smp_app]; rfl
      have htk : (smp (L.drop (plc L t))).take ((L.length - plc L t) * 2) = smp (L.drop (plc L t)) := List.take_of_length_le (by rw [smp_length, hdl]; omega)
      rw [show min (L.length - plc L t) (L.length + 1 - (plc L t + 1)) = L.length - plc L t from by omega, htk, ei]
      by_cases q : L.length = plc L t
      · have hd0 : L.drop (plc L t) = [] := List.eq_nil_of_length_eq_zero (by omega)
        rw [if_pos (by omega), hd0, show L.length - plc L t = 0 from by omega]
        exact setL_mid [] [] _ [] rfl
      · rw [if_neg (by omega)]
        have := setL_mid (smp (L.take (plc L t)) ++ [.si .i64 t, .si .i64 v]) (repL z2 (L.length - plc L t)) [] (smp (L.drop (plc L t))) (by rw [smp_length, hdl, repL_len]; rfl)
        rw [List.length_append, smp_length, htl] at this
        rw [show 0 + (plc L t + 1) * 2 = plc L t * 2 + [AV.si .i64 t, .si .i64 v].length from by simp; omega]
        simpa using this
    have hhd : hd (AV.sy 3 0 (L.length + 1) (L.length + 1) 0) = .sl 3 0 (insF L t v).length (L.length + 1) 0 := by rw [insF_len]; rfl
    have hins : ∀ x ∈ insF L t v, In64 x.1 ∧ In64 x.2 := fun x hx => by
      rcases insF_mem.1 hx with rfl | hx
      · exact ⟨⟨by omega, by omega⟩, hv⟩
      · exact h64 x hx
    have hw8 : IntKind.i64.wrap (8 * (size : Int)) = ((8 * size : Nat) : Int) := W64_of ⟨by omega, by omega⟩
    have hlq : [AV.si .i64 (size : Int), .ss (pack (encB (insF L t v))), .si .i64 ((encB (insF L t v)).length : Int), .si .i64 ((L.length + 1 : Nat) : Int)].map mk = chk size (insF L t v) := by unfold chk; rw [insF_len]; rfl
    have hil : (insF L t v).length ≤ 100000 := by rw [insF_len]; omega
    have hil2 : (insF L t v).length ≤ L.length + 1 := by rw [insF_len]; exact Nat.le_refl _
    have ha1 : plc L t < L.length + 1 := by omega
    have ha2 : plc L t + 1 ≤ L.length + 1 := by omega
    have hmax : L.length + 1 ≤ 1000000 := by omega
    conv => whnf
    refine Ask.mk _ (emake_smp hx hmax) ?_
    conv => whnf
    refine RSl.mk 0 (plc L t) rfl rfl (.inl rfl) (Nat.zero_le _) ha ?_
    conv => whnf
    refine RCopy.mk 2 (plc L t) (L.length + 1) 3 0 (L.length + 1) 0 2 0 2 0 _ (smp L) (smp (L.take (plc L t))) _ true rfl rfl (by decide) ⟨_, rfl, rfl⟩ (.inr ⟨_, rfl⟩) hsub1 rfl (hone _ _) hset1 ?_
    conv => whnf
    refine Idx.mk (plc L t) rfl ha1 ?_
    conv => whnf
    refine optP_of hset2 ?_
    conv => whnf
    refine Ask.mk _ (eslice_lo hx2 ha2 (Nat.le_refl _)) ?_
    conv => whnf
    refine RSl.mk (plc L t) L.length rfl rfl (.inl rfl) ha (Nat.le_refl _) ?_
    conv => whnf
    refine RCopy.mk 2 (L.length - plc L t) (L.length + 1 - (plc L t + 1)) 3 (if L.length + 1 = plc L t + 1 then 0 else 0 + (plc L t + 1) * 2) (L.length + 1 - (plc L t + 1)) 0 2 (0 + plc L t * 2) 2 0 _ (smp L) (smp (L.drop (plc L t))) _ true rfl rfl (by decide) ⟨_, rfl, rfl⟩ (.inr ⟨_, rfl⟩) hsub2 rfl (hone _ _) hset3 ?_
    conv => whnf
    refine ⟨insF L t v, .inr (.inr ⟨3, 0, L.length + 1, 0, _, _, hhd, .inr ⟨_, rfl⟩, smp_whole _, smp_map _, hil2⟩), hil, hins, ?_⟩
    conv => whnf
    refine Fork.dec (fun h3 => ?_) (fun h3 => ?_)
    · have e : putF size L t v p = (L, 2) := by rw [hpe]; unfold layF; rw [if_neg (by rw [hw8] at h3; omega)]
      conv => whnf
      exact leaf e rfl rfl rfl
    · have e : putF size L t v p = (insF L t v, 0) := by rw [hpe]; unfold layF; rw [if_pos (by rw [hw8] at h3; omega)]
      conv => whnf
      exact leaf e rfl rfl hlq
  · have hpl : plc L t < L.length ∧ tAt L (plc L t) = t := by unfold has at hh; exact of_decide_eq_true hh
    have hvp : L[plc L t].2 = vAt L (plc L t) := (vAt_of hpl.1).symm
    have hpe : putF size L t v p = if (mergeF p (vAt L (plc L t)) v).2 ≠ 0 then (L, (mergeF p (vAt L (plc L t)) v).2) else layF size L (setF L t (mergeF p (vAt L (plc L t)) v).1) := by unfold putF; rw [if_neg hrange, if_pos hh]
    have ho1 : 0 + plc L t * 2 + 1 = plc L t * 2 + 1 := by omega
    have hm0 : In64 (mergeF p L[plc L t].2 v).1 := mergeF_in (h64 _ (List.getElem_mem hpl.1)).2 hv
    have hset := smp_set1 hpl.1 (m := (mergeF p L[plc L t].2 v).1) hpl.2
    have hins : ∀ x ∈ setF L t (mergeF p L[plc L t].2 v).1, In64 x.1 ∧ In64 x.2 := fun x hx => by
      rcases (setF_mem hF.1 hh).1 hx with rfl | ⟨hx, _⟩
      · exact ⟨⟨by omega, by omega⟩, hm0⟩
      · exact h64 x hx
    have hsl := setF_len L t (mergeF p L[plc L t].2 v).1
    have hil : (setF L t (mergeF p L[plc L t].2 v).1).length ≤ 100000 := by omega
    have hw8 : IntKind.i64.wrap (8 * (size : Int)) = ((8 * size : Nat) : Int) := W64_of ⟨by omega, by omega⟩
    have hrw : AV.rw 2 0 L.length 2 0 = .rw 2 0 (setF L t (mergeF p L[plc L t].2 v).1).length 2 0 := by rw [hsl]
    have hlq : [AV.si .i64 (size : Int), .ss (pack (encB (setF L t (mergeF p L[plc L t].2 v).1))), .si .i64 ((encB (setF L t (mergeF p L[plc L t].2 v).1)).length : Int), .si .i64 ((L.length : Nat) : Int)].map mk = chk size (setF L t (mergeF p L[plc L t].2 v).1) := by unfold chk; rw [hsl]; rfl
    conv => whnf
    refine Idx.mk (plc L t) rfl hpl.1 ?_
    conv => whnf
    refine optP_of (smp_nth1 hpl.1 ho1) ?_
    conv => whnf
    refine ⟨p, L[plc L t].2, v, rfl, rfl, rfl, ?_⟩
    conv => whnf
    refine Fork.ndec (fun h3 => ?_) (fun h3 => ?_)
    · have e : putF size L t v p = (L, (mergeF p L[plc L t].2 v).2) := by rw [hpe, ← hvp, if_pos h3]
      conv => whnf
      exact leaf e rfl rfl rfl
    · have hpe2 : putF size L t v p = layF size L (setF L t (mergeF p L[plc L t].2 v).1) := by rw [hpe, ← hvp, if_neg (fun q => q h3)]
      conv => whnf
      refine Idx.mk (plc L t) rfl hpl.1 ?_
      conv => whnf
      refine optP_of hset ?_
      conv => whnf
      refine ⟨setF L t (mergeF p L[plc L t].2 v).1, .inr (.inl (.inl ⟨_, 0, 0, _, _, ⟨hrw, by decide⟩, .inr ⟨_, rfl⟩, smp_whole _, smp_map _⟩)), hil, hins, ?_⟩
      conv => whnf
      refine Fork.dec (fun h4 => ?_) (fun h4 => ?_)
      · have e : putF size L t v p = (L, 2) := by rw [hpe2]; unfold layF; rw [if_neg (by rw [hw8] at h4; omega)]
        conv => whnf
        exact leaf e rfl rfl rfl
      · have e : putF size L t v p = (setF L t (mergeF p L[plc L t].2 v).1, 0) := by rw [hpe2]; unfold layF; rw [if_pos (by rw [hw8] at h4; omega)]
        conv => whnf
        exact leaf e rfl rfl hlq
/-- A sample put in. -/
def natPut (args : List AV) (H : AH) (n : Nat) (κ : PK) : Prop := match args with
  | [x, y, z] => ∃ (b size : Nat) (L : Smp) (t v p : Int), x = .ptr b 0 ∧ PairAt y t v ∧ mk z = .si .i64 p ∧ b < n ∧ H.get b = some (.cells (chk size L) true) ∧ 0 < size ∧ size ≤ 4096 ∧ Fine L ∧ In64 v ∧
      κ (.si .i64 (putF size L t v p).2) (H.set (some (.cells (chk size (putF size L t v p).1) true)) depthH b) n
  | _ => False
theorem n_put : NatP 9 natPut := fun args H n κ hs φ h0' hp vs K hr hargs hk => by
  unfold natPut at hs
  split at hs
  · obtain ⟨x, y, z, rfl, e1, e2, e3⟩ := vs3 hargs
    obtain ⟨b, size, L, t, v, p, rfl, hy, hz, hbn, hb, hsz, hs2, hF, hv, hs⟩ := hs
    refine framed (S := [b]) (O := [.cells (chk size L) true]) (args0 := [.ptr 0 0, .agg [.si .i64 t, .si .i64 v], .si .i64 p]) (NatP.post (callT_nat KU_ok 5 _)) (by kernel_rfl) hr
      (hands1 hbn hb (.inr rfl)) (.cons e1 (.cons (hy.open e2 _) (.cons (flat1_VR rfl (hz ▸ e3.mk)) .nil))) hk (put_run size L t v p hsz hs2 hF hv) fun u H' n' ⟨h1, h2⟩ => ?_
    subst h1
    refine ⟨1, putH [b] n H [(0, some (.cells (chk size (putF size L t v p).1) true))], Nat.le_refl _, After.put (Nat.le_refl _) rfl (fun x hx o ho => ?_), rfl, hs⟩
    simp only [List.mem_cons, List.not_mem_nil, or_false] at hx
    subst hx
    injection ho with ho; subst ho; exact ⟨h2, rfl, rfl⟩
  · exact hs.elim
end Go.Proofs.Ytpfflibkkjjlaaa
namespace Go.Proofs.Ytpfflibkkjjlaaa
open Go Go.RowKit
set_option maxRecDepth 20000
/-! ### samples taken out -/
theorem dropF_snoc (L : Smp) (a b : Int) {i : Nat} (h : i < L.length) : dropF (L.take (i + 1)) a b = dropF (L.take i) a b ++ (if (decide (L[i].1 < a) || decide (b < L[i].1)) = true then [L[i]] else []) := by
  unfold dropF
  rw [List.take_succ_eq_append_getElem h, List.filter_append]
  congr 1
  simp only [List.filter_cons, List.filter_nil]
theorem dropF_len (L : Smp) (a b : Int) : (dropF L a b).length ≤ L.length := List.length_filter_le _ _
noncomputable def dr (size : Nat) (L : Smp) (a : Int) (b : Int) (i : Nat) : AE × AH := (mkE [(0, .ptr 0 (0)), (1, .si .i64 (a)), (2, .si .i64 (b)), (7, .rw 1 0 (dropF (L.take i) a b).length 2 0), (15, .fr L.length 2 (smp L)), (16, .si .i64 (((L.length : Nat) : Int))), (17, .si .i64 (((i : Nat) : Int)))], mkH [(0, .cells (chk size L) true), (1, .cells (smp ((dropF (L.take i) a b))) true)])
theorem dr_cov {size : Nat} {L : Smp} {a : Int} {b : Int} {i : Nat} {p n : Nat} {σ : AE} {H : AH} (j1 : Nat) (hj : j1 ≠ 0) (hp : p ≤ 1) (e0 : getq (pa 0) σ = .ptr 0 (0)) (e1 : mk (getq (pa 1) σ) = .si .i64 (a)) (e2 : mk (getq (pa 2) σ) = .si .i64 (b)) (e7 : SubV H 2 (fun b => if b = 1 then j1 else b) (getq (pa 7) σ) (.rw 1 0 (dropF (L.take i) a b).length 2 0)) (e15 : getq (pa 15) σ = .fr L.length 2 (smp L)) (e16 : mk (getq (pa 16) σ) = .si .i64 (((L.length : Nat) : Int))) (e17 : mk (getq (pa 17) σ) = .si .i64 (((i : Nat) : Int))) (h0 : ∃ l, H.get 0 = some (.cells l true) ∧ SubL H 2 (fun b => if b = 1 then j1 else b) l (chk size L)) (h1 : (∃ l, H.get j1 = some (.cells l true) ∧ l.map mk = smp ((dropF (L.take i) a b))) ∨ (((dropF (L.take i) a b)) = [] ∧ n ≤ j1)) : Cov p σ H n ((dr size L a b i).1, (dr size L a b i).2, 2) := by
  refine Cov.ofR (fun b => if b = 1 then j1 else b) (by omega) (fun b hb => by repeat' rw [if_neg (by omega)]) ?_ ?_ ?_
  · intro x hx
    simp only [List.mem_cons, List.not_mem_nil, or_false] at hx
    rcases hx with rfl | rfl | rfl | rfl | rfl | rfl | rfl
    · exact .ptr (by decide) e0
    · exact .int e1
    · exact .int e2
    · exact e7
    · exact SubV.frE e15
    · exact .int e16
    · exact .int e17
  · intro x hx
    simp only [List.mem_cons, List.not_mem_nil, or_false] at hx
    rcases hx with rfl | rfl
    · exact ⟨by simp, .inl (h0.elim fun l h => ⟨_, h.1, SubO.st h.2⟩)⟩
    · exact ⟨by simp, h1.elim (fun ⟨l, h, g⟩ => .inl ⟨_, h, SubO.cells_mk (smp_flat _) (by rw [g, smp_map]) (fun q => q)⟩) (fun h => .inr ⟨by rw [h.1]; rfl, h.2⟩)⟩
  · intro x hx y hy
    simp only [List.mem_cons, List.not_mem_nil, or_false] at hx hy
    rcases hx with rfl | rfl <;> rcases hy with rfl | rfl <;> simp <;> omega
noncomputable def KDr : FuncId → EP := withN 11 natAll (withN 41 natEnc evP)
theorem KDr_ok : TabP KDr := withN_ok (withN_ok evP_ok n_enc) n_all
set_option maxHeartbeats 4000000 in
set_option maxRecDepth 100000 in
theorem drop_run (size : Nat) (L : Smp) (a b : Int) (hs : 0 < size) (hF : Fine L) : post (callT KDr 5 10) [.ptr 0 0, .si .i64 a, .si .i64 b] (mkH [(0, .cells (chk size L) true)]) 1 (ChQ ((L.length : Int) - ((dropF L a b).length : Int)) size (dropF L a b)) := by
  have hL := hF.2.2
  have h64 := hF.in64
  have hL1 : L.length ≤ 100000 := by omega
  have hsz : (0 : Int) < (size : Int) := by omega
  have hst : ∀ {H : AH} {m : Nat} {r : Nat → Nat}, SubL H m r (chk size L) (chk size L) := .cons (.int rfl) (.cons (.str rfl) (.cons (.int rfl) (.cons (.int rfl) .nil)))
  show callT KDr 5 10 _ _ _ _
  conv => whnf
  refine Fork.ndec (fun h => absurd hsz h) (fun _ => ?_)
  conv => whnf
  refine ⟨0, size, _, L, rfl, rfl, rfl, hs, hL1, h64, ?_⟩
  conv => whnf
  refine LoopP.mk { i : Nat // i ≤ L.length } 2 (fun i => dr size L a b i.val) (fun i => L.length - i.val) ⟨0, Nat.zero_le _⟩ ?_ ?_
  · exact dr_cov (j1 := 1) (by decide) (Nat.le_refl 1) rfl rfl rfl (.nslRw rfl) rfl rfl rfl ⟨_, rfl, hst⟩ (.inr ⟨rfl, Nat.le_refl _⟩)
  · intro ⟨i, hi⟩
    have hml : (dropF (L.take i) a b).length ≤ 20000 := Nat.le_trans (dropF_len _ _ _) (by rw [List.length_take]; omega)
    have hrow : subL (smp (dropF (L.take i) a b)) 0 ((dropF (L.take i) a b).length * 2) = some (smp (dropF (L.take i) a b)) := smp_whole _
    conv => whnf
    refine Fork.dec (fun h => ?_) (fun h => ?_)
    · have hi2 : i < L.length := by exact Int.ofNat_lt.1 h
      have hi1 : IntKind.i64.wrap ((i : Int) + 1) = (((i + 1 : Nat)) : Int) := W64_of ⟨by omega, by omega⟩
      have hbig : ((dropF (L.take i) a b).length + 1) * 16 ≤ 140737488355328 := by omega
      have hlt : L.length - (i + 1) < L.length - i := by omega
      have hsn := dropF_snoc L a b hi2
      have hy : (decide (L[i].1 < a) || decide (b < L[i].1)) = true → dropF (L.take (i + 1)) a b = dropF (L.take i) a b ++ [L[i]] := fun q => by rw [hsn, if_pos q]
      have hn : ¬ (decide (L[i].1 < a) || decide (b < L[i].1)) = true → dropF (L.take (i + 1)) a b = dropF (L.take i) a b := fun q => by rw [hsn, if_neg q, List.append_nil]
      have hyl : (decide (L[i].1 < a) || decide (b < L[i].1)) = true → (dropF (L.take i) a b).length + 1 = (dropF (L.take (i + 1)) a b).length := fun q => by rw [hy q]; simp
      have hys : (decide (L[i].1 < a) || decide (b < L[i].1)) = true → (smp (dropF (L.take i) a b) ++ [AV.si .i64 L[i].1, AV.si .i64 L[i].2]).map mk = smp (dropF (L.take (i + 1)) a b) := fun q => by rw [hy q, ← smp_snoc, smp_map]
      have hns : ¬ (decide (L[i].1 < a) || decide (b < L[i].1)) = true → (smp (dropF (L.take i) a b)).map mk = smp (dropF (L.take (i + 1)) a b) := fun q => by rw [hn q, smp_map]
      have hnl : ¬ (decide (L[i].1 < a) || decide (b < L[i].1)) = true → (dropF (L.take i) a b).length = (dropF (L.take (i + 1)) a b).length := fun q => by rw [hn q]
      conv => whnf
      refine Idx.mk i rfl hi2 ?_
      conv => whnf
      refine optP_of (smp_sub hi2 rfl) ?_
      conv => whnf
      refine Fork.dec (fun h1 => ?_) (fun h1 => ?_)
      · have q : (decide (L[i].1 < a) || decide (b < L[i].1)) = true := by simp [h1]
        conv => whnf
        refine RApp.grow 2 16 _ _ _ _ _ _ tyS (.old rfl) rfl rfl (.rw rfl hrow) hbig ?_
        conv => whnf
        exact ⟨⟨i + 1, hi2⟩, hlt, dr_cov (j1 := 4) (by decide) (Nat.le_refl 1) rfl rfl rfl (SubV.rw (by decide) rfl (hn := hyl q)) rfl rfl (congrArg (AV.si .i64) hi1) ⟨_, rfl, hst⟩ (.inl ⟨_, rfl, hys q⟩)⟩
      · conv => whnf
        refine Fork.dec (fun h2 => ?_) (fun h2 => ?_)
        · have q : (decide (L[i].1 < a) || decide (b < L[i].1)) = true := by simp [h2]
          conv => whnf
          refine RApp.grow 2 16 _ _ _ _ _ _ tyS (.old rfl) rfl rfl (.rw rfl hrow) hbig ?_
          conv => whnf
          exact ⟨⟨i + 1, hi2⟩, hlt, dr_cov (j1 := 4) (by decide) (Nat.le_refl 1) rfl rfl rfl (SubV.rw (by decide) rfl (hn := hyl q)) rfl rfl (congrArg (AV.si .i64) hi1) ⟨_, rfl, hst⟩ (.inl ⟨_, rfl, hys q⟩)⟩
        · have q : ¬ (decide (L[i].1 < a) || decide (b < L[i].1)) = true := by simp [h1, h2]
          conv => whnf
          exact ⟨⟨i + 1, hi2⟩, hlt, dr_cov (j1 := 1) (by decide) (Nat.le_refl 1) rfl rfl rfl (SubV.rw (by decide) rfl (hn := hnl q)) rfl rfl (congrArg (AV.si .i64) hi1) ⟨_, rfl, hst⟩ (.inl ⟨_, rfl, hns q⟩)⟩
    · have hi3 : i = L.length := by have : ¬ i < L.length := fun q => h (Int.ofNat_lt.2 q); omega
      have htk : L.take i = L := by rw [hi3, List.take_length]
      have hFd := dropF_fine (hF.sub (List.take_sublist i L)) a b
      have hil : (dropF (L.take i) a b).length ≤ 100000 := by omega
      have hw : IntKind.i64.wrap ((L.length : Int) - ((dropF (L.take i) a b).length : Int)) = (L.length : Int) - ((dropF L a b).length : Int) := by
        rw [htk] at hml ⊢
        exact W64_of ⟨by omega, by omega⟩
      have hq : (chk size (dropF (L.take i) a b)).map mk = chk size (dropF L a b) := by rw [htk]; rfl
      conv => whnf
      refine ⟨dropF (L.take i) a b, .inr (.inl (.inl ⟨_, 0, 0, _, _, ⟨rfl, by decide⟩, .inr ⟨_, rfl⟩, hrow, smp_map _⟩)), hil, hFd.in64, ?_⟩
      conv => whnf
      exact chLeaf (congrArg (AV.si .i64) hw) rfl hq
/-- Samples taken out. -/
def natDrop (args : List AV) (H : AH) (n : Nat) (κ : PK) : Prop := match args with
  | [x, y, z] => ∃ (c size : Nat) (L : Smp) (a b : Int), x = .ptr c 0 ∧ mk y = .si .i64 a ∧ mk z = .si .i64 b ∧ c < n ∧ H.get c = some (.cells (chk size L) true) ∧ 0 < size ∧ Fine L ∧
      κ (.si .i64 ((L.length : Int) - ((dropF L a b).length : Int))) (H.set (some (.cells (chk size (dropF L a b)) true)) depthH c) n
  | _ => False
theorem n_drop : NatP 10 natDrop := fun args H n κ hs φ h0' hp vs K hr hargs hk => by
  unfold natDrop at hs
  split at hs
  · obtain ⟨x, y, z, rfl, e1, e2, e3⟩ := vs3 hargs
    obtain ⟨c, size, L, a, b, rfl, hy, hz, hbn, hb, hsz, hF, hs⟩ := hs
    refine framed (S := [c]) (O := [.cells (chk size L) true]) (args0 := [.ptr 0 0, .si .i64 a, .si .i64 b]) (NatP.post (callT_nat KDr_ok 5 _)) (by kernel_rfl) hr
      (hands1 hbn hb (.inr rfl)) (.cons e1 (.cons (flat1_VR rfl (hy ▸ e2.mk)) (.cons (flat1_VR rfl (hz ▸ e3.mk)) .nil))) hk (drop_run size L a b hsz hF) fun u H' n' ⟨h1, h2⟩ => ?_
    subst h1
    refine ⟨1, putH [c] n H [(0, some (.cells (chk size (dropF L a b)) true))], Nat.le_refl _, After.put (Nat.le_refl _) rfl (fun x hx o ho => ?_), rfl, hs⟩
    simp only [List.mem_cons, List.not_mem_nil, or_false] at hx
    subst hx
    injection ho with ho; subst ho; exact ⟨h2, rfl, rfl⟩
  · exact hs.elim
/-! ### a time's value -/
noncomputable def KGt : FuncId → EP := withN 11 natAll (withN 29 natPl evP)
theorem KGt_ok : TabP KGt := withN_ok (withN_ok evP_ok n_place) n_all
theorem flLeaf {u v : AV} {H' : AH} {n' size : Nat} {L : Smp} (hu : mkT u = v) (hb : PM.get H' 0 = some (.cells (chk size L) true)) : ∃ v2 H2 n2, VTo u v2 ∧ Recast H' n' H2 n2 ∧ (v2 = v ∧ PM.get H2 0 = some (.cells (chk size L) true)) := ⟨v, H', n', fun φ w h => hu ▸ h.mkT, .refl _ _, rfl, hb⟩
def GtQ (size : Nat) (L : Smp) (t : Int) : PK := fun u H' _ => u = .tup [.si .i64 (getF L t).1, .si .i64 (getF L t).2] ∧ PM.get H' 0 = some (.cells (chk size L) true)
set_option maxHeartbeats 4000000 in
set_option maxRecDepth 100000 in
theorem get_run (size : Nat) (L : Smp) (t : Int) (hs : 0 < size) (hF : Fine L) : post (callT KGt 5 12) [.ptr 0 0, .si .i64 t] (mkH [(0, .cells (chk size L) true)]) 1 (GtQ size L t) := by
  have hL := hF.2.2
  have h64 := hF.in64
  have hL1 : L.length ≤ 100000 := by omega
  have hL2 : L.length ≤ 100000000 := by omega
  have hsz : (0 : Int) < (size : Int) := by omega
  show callT KGt 5 12 _ _ _ _
  conv => whnf
  refine Fork.ndec (fun h => absurd hsz h) (fun _ => ?_)
  conv => whnf
  refine ⟨0, size, _, L, rfl, rfl, rfl, hs, hL1, h64, ?_⟩
  conv => whnf
  refine ⟨L, t, .inr rfl, rfl, hL2, ?_⟩
  conv => whnf
  refine Fork.nsb (fun hh => ?_) (fun hh => ?_)
  · have e : AV.tup [.si .i64 0, .si .i64 5] = .tup [.si .i64 (getF L t).1, .si .i64 (getF L t).2] := by unfold getF; rw [if_neg (by simp [hh])]
    conv => whnf
    exact flLeaf e rfl
  · have hpl : plc L t < L.length ∧ tAt L (plc L t) = t := by unfold has at hh; exact of_decide_eq_true hh
    have e : AV.tup [.si .i64 L[plc L t].2, .si .i64 0] = .tup [.si .i64 (getF L t).1, .si .i64 (getF L t).2] := by unfold getF; rw [if_pos hh, vAt_of hpl.1]
    conv => whnf
    refine Idx.mk (plc L t) rfl hpl.1 ?_
    conv => whnf
    refine optP_of (smp_nth1 hpl.1 rfl) ?_
    conv => whnf
    exact flLeaf e rfl
def natGet (args : List AV) (H : AH) (n : Nat) (κ : PK) : Prop := match args with
  | [x, y] => ∃ (c size : Nat) (L : Smp) (t : Int), x = .ptr c 0 ∧ mk y = .si .i64 t ∧ c < n ∧ H.get c = some (.cells (chk size L) true) ∧ 0 < size ∧ Fine L ∧ κ (.tup [.si .i64 (getF L t).1, .si .i64 (getF L t).2]) H n
  | _ => False
theorem n_get : NatP 12 natGet := fun args H n κ hs φ h0' hp vs K hr hargs hk => by
  unfold natGet at hs
  split at hs
  · obtain ⟨x, y, rfl, e1, e2⟩ := vs2 hargs
    obtain ⟨c, size, L, t, rfl, hy, hbn, hb, hsz, hF, hs⟩ := hs
    refine framed (S := [c]) (O := [.cells (chk size L) true]) (args0 := [.ptr 0 0, .si .i64 t]) (NatP.post (callT_nat KGt_ok 5 _)) (by kernel_rfl) hr
      (hands1 hbn hb (.inr rfl)) (.cons e1 (.cons (flat1_VR rfl (hy ▸ e2.mk)) .nil)) hk (get_run size L t hsz hF) fun u H' n' ⟨h1, h2⟩ => ?_
    subst h1
    refine ⟨1, H, Nat.le_refl _, After.same fun i s o h3 h4 _ => ?_, rfl, hs⟩
    cases i with
    | zero =>
      injection h3 with h3; subst h3
      rw [hb] at h4; injection h4 with h4; subst h4
      exact ⟨_, h2, rfl, rfl, rfl⟩
    | succ i => simp at h3
  · exact hs.elim
end Go.Proofs.Ytpfflibkkjjlaaa
