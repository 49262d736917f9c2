/- The machine of our own: the operations that do. -/
import Derived.Test.YtaejmcgcfopmkaaEvD
namespace Go.Proofs.Ytaejmcgcfopmkaa
open Go Go.RowKit
theorem one1_spec {φ : Ph} {a : AV} {v : Value} (h : VR φ a v) (e : one1 a = true) : v.oneCell' = true := by
  cases a <;> simp only [one1] at e
  case agg => cases e
  case tup => cases e
  case bad => cases e
  case any u => rw [h.any_inv]; exact e
  case si => rw [h.si_inv]; rfl
  case sb => rw [h.sb_inv]; rfl
  case ss => rw [h.ss_inv.1]; rfl
  case sy => obtain ⟨p, C, _, rfl, _⟩ := h.sy_inv; rfl
  case int => rw [h.int_inv]; rfl
  case str => rw [h.str_inv.1]; rfl
  case bool => rw [h.bool_inv]; rfl
  case nil => rw [h.nil_inv]; rfl
  case ptr => obtain ⟨p, _, rfl⟩ := h.ptr_inv; rfl
  case nsl => rw [h.nsl_inv]; rfl
  case sl => obtain ⟨p, C, _, rfl, _⟩ := h.sl_inv; rfl
  case esl => obtain ⟨p, x, C, _, rfl, _⟩ := h.esl_inv; rfl
  case fn => obtain ⟨p, q, rfl, _⟩ := h.fn_inv; rfl
  case map => obtain ⟨p, _, rfl⟩ := h.map_inv; rfl
theorem all_one1 {φ : Ph} : ∀ {l : List AV} {vs : List Value}, VRs φ l vs → l.all one1 = true → vs.all Value.oneCell' = true
  | [], vs, h, _ => by rw [h.nil_inv]; rfl
  | a :: l, vs, h, e => by
    obtain ⟨v, us, rfl, h1, h2⟩ := h.cons_inv
    simp only [List.all_cons, Bool.and_eq_true] at e ⊢
    exact ⟨one1_spec h1 e.1, all_one1 h2 e.2⟩
theorem CR.append {φ : Ph} {c : Array Value} {s : Nat} {l m : List AV} (h : CR φ c s l) (k : CR φ c (s + l.length) m) : CR φ c s (l ++ m) := fun i a e => by
  by_cases hi : i < l.length
  · rw [List.getElem?_append_left hi] at e; exact h i a e
  · rw [List.getElem?_append_right (by omega)] at e
    obtain ⟨v, h1, h2⟩ := k _ a e
    exact ⟨v, by rw [← h1]; congr 1; omega, h2⟩
theorem CR.drop {φ : Ph} {c : Array Value} {s o m : Nat} {l : List AV} (h : CR φ c s l) : CR φ c (s + o) ((l.drop o).take m) := fun i a e => by
  rw [List.getElem?_take] at e
  split at e
  · rw [List.getElem?_drop] at e
    obtain ⟨v, h1, h2⟩ := h _ a e
    exact ⟨v, by rw [← h1]; congr 1; omega, h2⟩
  · cases e
theorem CR.kept {φ : Ph} {c : Array Value} {s o : Nat} {l : List AV} {vs : List Value} (h : CR φ c s l) (ho : s + l.length ≤ o) : CR φ (writeL c o vs) s l := fun i a e => by
  have := (List.getElem?_eq_some_iff.1 e).1
  rw [writeL_get, if_neg (by omega)]
  exact h i a e
theorem CR.wrote {φ : Ph} {c : Array Value} {o : Nat} {l : List AV} {vs : List Value} (h : VRs φ l vs) (ho : o + l.length ≤ c.size) : CR φ (writeL c o vs) o l := fun i a e => by
  have hi := (List.getElem?_eq_some_iff.1 e).1
  obtain ⟨v, h1, h2⟩ := h.at e
  have := h.length
  refine ⟨v, ?_, h2⟩
  rw [writeL_get, if_pos (by omega), show o + i - o = i from by omega]
  exact h1
theorem Free.sub {fz : Nat × Nat} {o m o' m' : Nat} (h : Free fz o m) (h2 : o' + m' ≤ o + m) : Free fz o' m' := by
  unfold Free at *; omega
/-- What follows an operation of our machine. -/
def Then (φ : Ph) (h0 : Hp) (v : AV) (H : AH) (n : Nat) (K : KH) : Prop := ∀ (ψ : Ph) (u : Value) (g : Hp), PLe φ ψ → HR ψ H n h0 g → VR ψ v u → K u g
section
variable {P : Program} {φ : Ph} {H H' : AH} {n n' : Nat} {h0 h : Hp} {K : KH} {σ : AE} {ρ : Env} {r : AV}
theorem enew_sound (hr : HR φ H n h0 h) {l : List AV} {cs : Array Value} {el : TypeId} (hc : VRs φ l cs.toList) (e : enew l H n = some (r, H', n')) (hk : Then φ h0 r H' n' K) : anew el cs h K := by
  unfold enew at e
  injection e with e; injection e with e1 e2; injection e2 with e2 e3
  subst e1 e2 e3
  have hl : l.length = cs.size := by simpa using hc.length
  have ho : OR (PNew φ n ⟨h.n, 0, cs.size⟩) ⟨h.n, 0, cs.size⟩ (.cells l true) (.cells cs el (0, 0)) :=
    ⟨cs, el, (0, 0), rfl, by simp only; omega, by simp only; omega, free_zero _ _, fun _ => rfl, CR.mono (hr.ple _) (CR.of' hc)⟩
  exact hk _ _ _ (hr.ple _) (hr.new ho depthH) (.ptr (PNew_same _ _ _))
theorem estore_sound (hr : HR φ H n h0 h) {t : TypeId} {a x : AV} {av xv : Value} (ha : VR φ a av) (hx : VR φ x xv) (e : estore P t a x H n = some (r, H', n')) (hk : Then φ h0 r H' n' K) : astore P t av xv h K := by
  unfold estore at e
  split at e
  · rename_i b o
    obtain ⟨p, hp, rfl⟩ := ha.ptr_inv
    split at e
    · rename_i l z s hb hs
      obtain ⟨ob, hB, hf, c, ty, fz, rfl, h1, h2, h3, h4, h5⟩ := hr.of hb hp
      split at e
      · rename_i l' hq hset
        simp only [Bool.and_eq_true] at hq
        have hlen := Nat.eq_of_beq_eq_true hq.1
        have hc := hx.cells hq.2.1
        have hcl := hc.length
        have hcl2 : xv.cells.size = s := by rw [← hlen, hcl, Array.length_toList]
        obtain ⟨g1, g2, g3⟩ := setL_spec _ _ _ _ hset
        injection e with e; injection e with e1 e2; injection e2 with e2 e3
        subst e1 e2 e3
        simp only [astore, hf]
        refine ⟨by rw [hs, hcl2], all_one1 hc hq.2.2, by omega, h3.sub (by omega), ?_⟩
        refine hk _ _ _ (PLe.refl _) (hr.put hb hp ?_ depthH) .undef
        exact ⟨_, ty, fz, rfl, by omega, by rw [writeL_size]; omega, h3, h4, h5.set hset hc (by omega)⟩
      · cases e
    · cases e
  · cases e
theorem ebytes_spec : ∀ (l : List AV) (s : List Nat) (vs : List Value), VRs φ l vs → ebytes l = some s → bytesOf vs = some (s.map UInt8.ofNat) ∧ ∀ x ∈ s, x < 256
  | [], s, vs, h, e => by
    rw [h.nil_inv]
    injection e with e; subst e
    exact ⟨rfl, fun _ hx => by cases hx⟩
  | a :: l, s, vs, h, e => by
    unfold ebytes at e
    split at e
    · rename_i q; cases q
    · rename_i m l' q
      injection q with q1 q2
      subst q1 q2
      obtain ⟨v, us, rfl, g1, g2⟩ := h.cons_inv
      rw [g1.int_inv]
      split at e
      · rename_i hlt
        have hlt : m < 256 := by simpa [Nat.blt_eq] using hlt
        simp only [Option.map_eq_some_iff] at e
        obtain ⟨s', e1, rfl⟩ := e
        obtain ⟨i1, i2⟩ := ebytes_spec l s' us g2 e1
        refine ⟨?_, fun x hx => ?_⟩
        · simp only [bytesOf]
          rw [if_pos (by constructor <;> simp only [Int.ofNat_eq_natCast] <;> omega), i1]
          simp
        · rcases List.mem_cons.1 hx with rfl | hx
          · exact hlt
          · exact i2 x hx
      · cases e
    · rename_i m l' q
      injection q with q1 q2
      subst q1 q2
      obtain ⟨v, us, rfl, g1, g2⟩ := h.cons_inv
      rw [g1.si_inv]
      split at e
      · rename_i hlt
        have hlt : m < 256 := by simpa [Nat.blt_eq] using hlt
        simp only [Option.map_eq_some_iff] at e
        obtain ⟨s', e1, rfl⟩ := e
        obtain ⟨i1, i2⟩ := ebytes_spec l s' us g2 e1
        refine ⟨?_, fun x hx => ?_⟩
        · simp only [bytesOf]
          rw [if_pos (by constructor <;> simp only [Int.ofNat_eq_natCast] <;> omega), i1]
          simp
        · rcases List.mem_cons.1 hx with rfl | hx
          · exact hlt
          · exact i2 x hx
      · cases e
    · cases e
theorem byteVals_vstr {s : List Nat} (hs : ∀ x ∈ s, x < 256) : (byteVals (vstr s)).toList = s.map fun c => .int .u8 (Int.ofNat c) := by
  simp only [byteVals, vstr, Array.toList_map, List.map_map]
  apply List.map_congr_left
  intro c hc
  simp only [Function.comp]
  congr 1
  rw [UInt8.toNat_ofNat', Nat.mod_eq_of_lt (hs c hc)]; rfl
theorem VRs.bytes (φ : Ph) (s : List Nat) : VRs φ (s.map fun c => .int .u8 (Int.ofNat c)) (s.map fun c => .int .u8 (Int.ofNat c)) := VRs.map (fun c => .int _ _) s
theorem econv_sound (hr : HR φ H n h0 h) {src dst : TypeId} {x : AV} {xv : Value} (hx : VR φ x xv) (e : econv P src dst x H n = some (r, H', n')) (hk : Then φ h0 r H' n' K) : aconv P src dst xv h K := by
  unfold econv at e
  split at e
  · rename_i k1 k2 k a h1 h2
    rw [hx.int_inv]
    injection e with e; injection e with e1 e2; injection e2 with e2 e3
    subst e1 e2 e3
    simp only [aconv, h1, h2]
    exact hk _ _ _ (PLe.refl _) hr (.int _ _)
  · rename_i s h1 h2
    obtain ⟨rfl, hs⟩ := hx.str_inv
    injection e with e; injection e with e1 e2; injection e2 with e2 e3
    subst e1 e2 e3
    simp only [aconv, h1, h2]
    exact hk _ _ _ (PLe.refl _) hr (.str hs)
  · rename_i el s h1 h2
    obtain ⟨rfl, hs⟩ := hx.str_inv
    split at e
    · rename_i he
      injection e with e; injection e with e1 e2; injection e2 with e2 e3
      subst e1 e2 e3
      simp only [aconv, h1, h2]
      refine ⟨he, fun cap hcap => ?_⟩
      rw [vstr_size] at hcap ⊢
      have hsz : (byteVals (vstr s) ++ Array.replicate (cap - s.length) (Value.int .u8 0)).size = cap := by
        have : (byteVals (vstr s)).size = s.length := by rw [← Array.length_toList, byteVals_vstr hs]; simp
        rw [Array.size_append, this, Array.size_replicate]; omega
      have ho : OR (PNew φ n ⟨h.n, 0, cap⟩) ⟨h.n, 0, cap⟩ (.cells (s.map fun c => .int .u8 (Int.ofNat c)) false) (.cells (byteVals (vstr s) ++ Array.replicate (cap - s.length) (.int .u8 0)) el (cap, cap + 1)) := by
        refine ⟨_, el, _, rfl, by simpa using hcap, by simp only [hsz]; omega, .inr (by simp only; omega), (fun q => by cases q), ?_⟩
        have := CR.of (φ := PNew φ n ⟨h.n, 0, cap⟩) (VRs.bytes _ s) (Array.replicate (cap - s.length) (Value.int .u8 0)).toList
        rw [← byteVals_vstr hs] at this
        have e2 : ((byteVals (vstr s)).toList ++ (Array.replicate (cap - s.length) (Value.int .u8 0)).toList).toArray = byteVals (vstr s) ++ Array.replicate (cap - s.length) (Value.int .u8 0) := by
          apply Array.ext'; simp
        rwa [e2] at this
      have := hk _ (.slice (some ⟨h.n, 0 + 0, none⟩) s.length cap) _ (hr.ple _) (hr.new ho depthH) (.sl (PNew_same _ _ _) (fun q => absurd q (by decide)) (fun _ => ⟨hcap, by simp⟩))
      exact this
    · cases e
  · rename_i el h1 h2
    rw [hx.nsl_inv]
    split at e
    · rename_i he
      injection e with e; injection e with e1 e2; injection e2 with e2 e3
      subst e1 e2 e3
      simp only [aconv, h1, h2]
      exact ⟨he, hk _ _ _ (PLe.refl _) hr (.str (s := []) (fun _ hx => by cases hx))⟩
    · cases e
  · rename_i el b o len c k h1 h2
    obtain ⟨p, C, hp, rfl, _, _⟩ := hx.sl_inv
    split at e
    · rename_i l z he hb
      obtain ⟨ob, hB, hf, c', ty, fz, rfl, _, _, _, _, h5⟩ := hr.of hb hp
      simp only [Option.map_eq_some_iff, Option.bind_eq_some_iff, Prod.mk.injEq] at e
      obtain ⟨s, ⟨l', e1, e2⟩, rfl, rfl, rfl⟩ := e
      obtain ⟨vs, g1, g2⟩ := h5.sub e1
      obtain ⟨g3, g4⟩ := ebytes_spec l' s vs g2 e2
      simp only [aconv, h1, h2, hf, g1, Option.bind_some, g3]
      exact ⟨he, hk _ _ _ (PLe.refl _) hr (.str g4)⟩
    · cases e
  · cases e
theorem emake_sound (hr : HR φ H n h0 h) {t : TypeId} {x y : AV} {xv yv : Value} (hx : VR φ x xv) (hy : VR φ y yv) (e : emake P t x y H n = some (r, H', n')) (hk : Then φ h0 r H' n' K) : amake P t xv yv h K := by
  unfold emake at e
  split at e
  · rename_i el k1 l k2 c hu
    rw [hx.int_inv, hy.int_inv]
    split at e
    · rename_i k by' z hs hb hz
      split at e
      · rename_i hc
        obtain ⟨g1, g2, g3, g4⟩ := hc
        injection e with e; injection e with e1 e2; injection e2 with e2 e3
        subst e1 e2 e3
        simp only [amake, hu, hs, hb, hz]
        have hb2 : (by' : Int) * Int.ofNat c ≤ 281474976710656 := by
          have : ((by' * c : Nat) : Int) ≤ 281474976710656 := by omega
          rwa [Int.natCast_mul] at this
        refine ⟨by simp only [Int.ofNat_eq_natCast]; omega, by simp only [Int.ofNat_eq_natCast]; omega, hb2, by simp only [Int.ofNat_eq_natCast]; omega, ?_⟩
        rw [show (Int.ofNat l).toNat = l from rfl, show (Int.ofNat c).toNat = c from rfl]
        have hcp : madeCells z.cells (c * k) = (copies z.cells.toList c).toArray := by rw [← g4]; exact madeCells_copies _ _
        rw [hcp]
        have hv := repL_spec (ofV_cells φ z) c
        have hl := hv.length
        have ho : OR (PNew φ n ⟨h.n, 0, (copies z.cells.toList c).length⟩) ⟨h.n, 0, (copies z.cells.toList c).length⟩ (.cells (repL (ofV z).cells c) true) (.cells (copies z.cells.toList c).toArray el (0, 0)) :=
          ⟨_, el, _, rfl, by simp only; omega, by simp, free_zero _ _, fun _ => rfl, CR.mono (hr.ple _) (CR.of' (by simpa using hv))⟩
        exact hk _ (.slice (some ⟨h.n, 0 + 0, none⟩) l c) _ (hr.ple _) (hr.new ho depthH) (.sl (PNew_same _ _ _) (fun _ => rfl) (fun q => (q rfl).elim))
      · cases e
    · cases e
  · cases e
theorem esrc_spec (hr : HR φ H n h0 h) {k m : Nat} {x : AV} {xv : Value} {l : List AV} (hx : VR φ x xv) (e : esrc H k x = some (m, l)) : ∃ vs, srcCells h k xv = some (m, vs) ∧ VRs φ l vs := by
  unfold esrc at e
  split at e
  · rw [hx.nsl_inv]
    injection e with e; injection e with e1 e2; subst e1 e2
    exact ⟨[], rfl, .nil⟩
  · rename_i b o m' c k'
    obtain ⟨p, C, hp, rfl, _, _⟩ := hx.sl_inv
    split at e
    · rename_i l' z hb
      obtain ⟨ob, hB, hf, c', ty, fz, rfl, _, _, _, _, h5⟩ := hr.of hb hp
      simp only [Option.map_eq_some_iff, Prod.mk.injEq] at e
      obtain ⟨l2, e1, rfl, rfl⟩ := e
      obtain ⟨vs, g1, g2⟩ := h5.sub e1
      exact ⟨vs, by simp only [srcCells, hf, g1, Option.map_some], g2⟩
    · cases e
  · rename_i b
    obtain ⟨p, y, C, hp, rfl, _⟩ := hx.esl_inv
    split at e
    · rename_i l' z hb
      obtain ⟨ob, hB, hf, c', ty, fz, rfl, _, _, _, _, h5⟩ := hr.of hb hp
      injection e with e; injection e with e1 e2; subst e1 e2
      exact ⟨[], by simp only [srcCells, hf, Nat.zero_mul, cellsL, Option.map_some], .nil⟩
    · cases e
  · rename_i s
    obtain ⟨rfl, hs⟩ := hx.str_inv
    injection e with e; injection e with e1 e2; subst e1 e2
    refine ⟨_, by simp only [srcCells, vstr_size]; rfl, ?_⟩
    rw [byteVals_vstr hs]
    exact VRs.bytes _ _
  · cases e
theorem eappend_sound (hr : HR φ H n h0 h) {t u : TypeId} {s x : AV} {sv xv : Value} (hs : VR φ s sv) (hx : VR φ x xv) (e : eappend P t u s x H n = some (r, H', n')) (hk : Then φ h0 r H' n' K) : aappend P t u sv xv h (Weak K) := by
  have wk : ∀ v g, K v g → Weak K v g := fun v g k => ⟨g, Sub.refl _, k⟩
  unfold eappend at e
  split at e
  case h_2 => cases e
  rename_i el ud hu hud
  split at e
  case h_1 => cases e
  case h_3 => cases e
  rename_i ud2 _ _ _ _ k by' z hni hsz hbz hzz
  have hni' : ∀ q, ud2 ≠ .int q := fun q h => hni q h
  split at e
  case h_2 => cases e
  rename_i m new hsrc
  split at e
  case isFalse => cases e
  rename_i hc
  obtain ⟨c1, c2, c3, c4, c5⟩ := hc
  obtain ⟨nv, hn1, hn2⟩ := esrc_spec hr hx hsrc
  have hnl := hn2.length
  have hone := all_one1 hn2 c5
  have hcpl : ∀ q, (copies z.cells.toList q).length = q * k := fun q => by rw [copies_length]; simp [c1]
  -- a new block
  have grow : ∀ (old : List AV) (ov : List Value) (sn : Nat) (zz : Bool) (d : Nat) (G : AH) (ψ : Ph), ψ = φ → HR φ G n h0 h → VRs φ old ov → ov.length = sn * k → r = .sl n 0 (sn + m) (sn + m) k → H' = G.set (some (.cells (old ++ new) zz)) depthH n → n' = n + 1 → growK el z (sn + m) ov nv h (Weak K) := by
    intro old ov sn zz d G ψ hψ hG ho hol hre hHe hne cap hcap
    subst hre hHe hne
    refine wk _ _ ?_
    have hlen : (ov ++ (nv ++ copies z.cells.toList (cap - (sn + m)))).length = cap * k := by
      simp only [List.length_append, hol, ← hnl, c4, hcpl]
      rw [← Nat.add_mul, ← Nat.add_mul]; congr 1; omega
    have hor : OR (PNew φ n ⟨h.n, 0, cap * k⟩) ⟨h.n, 0, cap * k⟩ (.cells (old ++ new) zz) (.cells (ov ++ (nv ++ copies z.cells.toList (cap - (sn + m)))).toArray el (0, 0)) := by
      refine ⟨_, el, _, rfl, ?_, by simp only [List.size_toArray, hlen]; omega, free_zero _ _, fun _ => rfl, ?_⟩
      · have := ho.length
        simp only [List.length_append, c4, this, hol]
        rw [← Nat.add_mul]; exact Nat.mul_le_mul_right k hcap
      · rw [← List.append_assoc]
        exact CR.mono (hG.ple _) (CR.of (ho.append hn2) _)
    have := hk _ (.slice (some ⟨h.n, 0 + 0, none⟩) (sn + m) cap) _ (hG.ple _) (hG.new hor depthH) (.sl (PNew_same _ _ _) (fun q => by omega) (fun _ => ⟨hcap, by simp⟩))
    exact this
  have fin : ∀ {base : Option Addr} {sLen sCap : Nat}, (sLen + m ≤ sCap → stayK base k sLen m sCap nv h (Weak K)) → (sCap < sLen + m → (sLen + m) * by' ≤ 140737488355328 ∧ ∃ old, srcCells h k (.slice base sLen sCap) = some (sLen, old) ∧ growK el z (sLen + m) old nv h (Weak K)) → aappend P t u (.slice base sLen sCap) xv h (Weak K) := fun a b =>
    ⟨el, ud2, k, by', z, m, nv, hu, hud, hni', hsz, hbz, hzz, c1, c2, hn1, a, b⟩
  split at e
  · -- none
    rw [hs.nsl_inv]
    split at e
    · injection e with e; injection e with e1 e2; injection e2 with e2 e3
      subst e1 e2 e3
      refine fin (fun _ => wk _ _ ?_) (fun q => by omega)
      exact hk _ _ _ (PLe.refl _) hr .nsl
    · rename_i hm0
      split at e
      · rename_i hby
        injection e with e; injection e with e1 e2; injection e2 with e2 e3
        refine fin (fun q => ?_) (fun _ => ⟨by simpa using hby, [], rfl, ?_⟩)
        · have : m = 0 := by omega
          exact (hm0 this).elim
        · exact grow [] [] 0 true depthH H φ rfl hr .nil (by simp) (by rw [← e1]; simp) (by rw [← e2]; simp) e3.symm
      · cases e
  · rename_i b o sn c sk
    obtain ⟨p, C, hp, rfl, hC0, hC1⟩ := hs.sl_inv
    have hcC : c ≤ C := by
      by_cases q : sk = 0
      · rw [hC0 q]; omega
      · exact (hC1 q).1
    split at e
    case h_2 => cases e
    rename_i l z' hb
    obtain ⟨ob, hB, hf, cc, ty, fz, rfl, h1, h2, h3, h4, h5⟩ := hr.of hb hp
    split at e
    · rename_i hle
      split at e
      · rename_i l' hset
        obtain ⟨g1, g2, g3⟩ := setL_spec _ _ _ _ hset
        injection e with e; injection e with e1 e2; injection e2 with e2 e3
        subst e1 e2 e3
        refine fin (fun _ => ?_) (fun q => by omega)
        simp only [stayK, hf]
        refine ⟨hone, by omega, h3.sub (by omega), wk _ _ ?_⟩
        refine hk _ _ _ (PLe.refl _) (hr.put hb hp ?_ depthH) (.sl hp hC0 hC1)
        refine ⟨_, ty, fz, rfl, by omega, by rw [writeL_size]; omega, h3, h4, ?_⟩
        rw [Nat.add_assoc]
        exact h5.set hset hn2 (by omega)
      · cases e
    · rename_i hgt
      split at e
      case isFalse => cases e
      rename_i hby
      split at e
      · rename_i old hold
        injection e with e; injection e with e1 e2; injection e2 with e2 e3
        obtain ⟨ov, g1, g2⟩ := h5.sub hold
        have hol : ov.length = sn * k := by
          have := g2.length
          obtain ⟨q1, rfl⟩ := subL_spec hold
          rw [← this]; simp; omega
        have := hC0 rfl
        refine fin (fun q => by omega) (fun _ => ⟨hby, ov, by simp only [srcCells, hf, g1, Option.map_some], ?_⟩)
        exact grow old ov sn true depthH H φ rfl hr g2 hol e1.symm e2.symm e3.symm
      · rename_i old sk' hold
        split at e
        case isFalse => cases e
        rename_i hsk
        obtain ⟨_, hT⟩ := hC1 (by omega)
        rw [hsk] at hT
        injection e with e; injection e with e1 e2; injection e2 with e2 e3
        obtain ⟨ov, g1, g2⟩ := h5.sub hold
        obtain ⟨q1, hold2⟩ := subL_spec hold
        have hol2 : old.length = sn * k := by subst hold2; simp; omega
        have hol : ov.length = sn * k := by
          have := g2.length
          omega
        refine fin (fun hstay => ?_) (fun _ => ⟨hby, ov, by simp only [srcCells, hf, g1, Option.map_some], ?_⟩)
        · subst e1 e2 e3
          simp only [stayK, hf]
          have hCk : (sn + m) * k ≤ C * k := Nat.mul_le_mul_right k hstay
          have hadd : (sn + m) * k = sn * k + m * k := Nat.add_mul _ _ _
          refine ⟨hone, by omega, h3.sub (by omega), wk _ _ ?_⟩
          have hor : OR (PNew φ n ⟨p.B, p.s + o, C * k⟩) ⟨p.B, p.s + o, C * k⟩ (.cells (old ++ new) z') (.cells (writeL cc (p.s + o + sn * k) nv) ty fz) := by
            refine ⟨_, ty, fz, rfl, by simp only [List.length_append]; omega, by rw [writeL_size]; simp only; omega, h3.sub (by simp only; omega), h4, CR.mono (hr.ple _) (CR.append ?_ ?_)⟩
            · subst hold2
              exact CR.kept (CR.drop h5) (by simp only; omega)
            · simp only
              rw [hol2]
              exact CR.wrote hn2 (by omega)
          have := hk _ (.slice (some ⟨p.B, p.s + o + 0, none⟩) (sn + m) C) _ (hr.ple _) (hr.rename (q := ⟨p.B, p.s + o, C * k⟩) hb hp rfl hor depthH depthH) (.sl (p := ⟨p.B, p.s + o, C * k⟩) (PNew_same _ _ _) (fun q => by omega) (fun _ => ⟨hstay, by simp⟩))
          exact this
        · exact grow old ov sn z' depthH _ φ rfl (hr.kill depthH b) g2 hol e1.symm e2.symm e3.symm
      · cases e
  · cases e
theorem elenV_spec {x : AV} {v : Value} {m : Nat} (hx : VR φ x v) (e : elenV x = some m) : lenV v = some m := by
  unfold elenV at e
  split at e
  · rw [hx.nsl_inv]; exact e
  · obtain ⟨p, C, _, rfl, _⟩ := hx.sl_inv; exact e
  · obtain ⟨p, y, C, _, rfl, _⟩ := hx.esl_inv; exact e
  · obtain ⟨rfl, _⟩ := hx.str_inv; simp only [lenV, vstr_size]; exact e
  · cases e
theorem efirst_spec (hr : HR φ H n h0 h) {k q : Nat} {x : AV} {xv : Value} {l : List AV} (hx : VR φ x xv) (e : efirst H k q x = some l) : ∃ vs, firstC h k q xv = some vs ∧ VRs φ l vs := by
  unfold efirst at e
  split at e
  · rw [hx.nsl_inv]
    injection e with e; subst e
    exact ⟨[], rfl, .nil⟩
  · rename_i b o m' c k'
    obtain ⟨p, C, hp, rfl, _, _⟩ := hx.sl_inv
    split at e
    · rename_i l' z hb
      obtain ⟨ob, hB, hf, c', ty, fz, rfl, _, _, _, _, h5⟩ := hr.of hb hp
      obtain ⟨vs, g1, g2⟩ := h5.sub e
      exact ⟨vs, by simp only [firstC, hf, g1], g2⟩
    · rename_i l' hb
      obtain ⟨ob, hB, hf, c', ty, fz, rfl, _, _, h5⟩ := hr.of hb hp
      obtain ⟨vs, g1, g2⟩ := h5.sub e
      exact ⟨vs, by simp only [firstC, hf, g1], g2⟩
    · cases e
  · rename_i b
    obtain ⟨p, y, C, hp, rfl, _⟩ := hx.esl_inv
    split at e
    · rename_i l' z hb
      obtain ⟨ob, hB, hf, c', ty, fz, rfl, _, _, _, _, h5⟩ := hr.of hb hp
      injection e with e; subst e
      exact ⟨[], by simp only [firstC, hf, Nat.zero_mul, cellsL], .nil⟩
    · rename_i l' hb
      obtain ⟨ob, hB, hf, c', ty, fz, rfl, _, _, h5⟩ := hr.of hb hp
      injection e with e; subst e
      exact ⟨[], by simp only [firstC, hf, Nat.zero_mul, cellsL], .nil⟩
    · cases e
  · rename_i s
    obtain ⟨rfl, hs⟩ := hx.str_inv
    injection e with e; subst e
    refine ⟨_, rfl, ?_⟩
    rw [vstr_toList, ← List.map_take, List.map_map]
    have : ((fun b : UInt8 => Value.int .u8 (b.toNat : Int)) ∘ UInt8.ofNat) = fun c : Nat => Value.int .u8 ((UInt8.ofNat c).toNat : Int) := rfl
    rw [this]
    have h2 : ((s.take q).map fun c : Nat => Value.int .u8 ((UInt8.ofNat c).toNat : Int)) = (s.take q).map fun c : Nat => Value.int .u8 (Int.ofNat c) := List.map_congr_left fun c hc => by
      rw [UInt8.toNat_ofNat', Nat.mod_eq_of_lt (hs c (List.mem_of_mem_take hc))]; rfl
    rw [h2]
    exact VRs.bytes _ _
  · cases e
theorem ecopy_sound (hr : HR φ H n h0 h) {t : TypeId} {d x : AV} {dv xv : Value} (hd : VR φ d dv) (hx : VR φ x xv) (e : ecopy P t d x H n = some (r, H', n')) (hk : Then φ h0 r H' n' K) : acopy P t dv xv h K := by
  unfold ecopy at e
  split at e
  · rename_i el m dn hu hm hdn
    split at e
    · rename_i k hs
      split at e
      · rename_i cells hcells
        obtain ⟨vs, g1, g2⟩ := efirst_spec hr hx hcells
        have hlx := elenV_spec hx hm
        split at e
        · have : dn = 0 := by injection hdn with hdn; exact hdn.symm
          subst this
          rw [hd.nsl_inv]
          injection e with e; injection e with e1 e2; injection e2 with e2 e3
          subst e1 e2 e3
          simp only [acopy, hu, hlx, hs, g1]
          exact hk _ _ _ (PLe.refl _) hr (.int _ _)
        · rename_i b
          have : dn = 0 := by injection hdn with hdn; exact hdn.symm
          subst this
          obtain ⟨p, y, C, hp, rfl, hy1, hy2⟩ := hd.esl_inv
          split at e
          · rename_i l z hb
            obtain ⟨ob, hB, hf, cc, ty, fz, rfl, h1, h2, h3, h4, h5⟩ := hr.of hb hp
            rw [g2.nil_inv] at g1
            injection e with e; injection e with e1 e2; injection e2 with e2 e3
            subst e1 e2 e3
            simp only [acopy, hu, hlx, hs, g1, hf]
            refine ⟨rfl, by simp only [List.length_nil]; omega, h3.sub (by simp only [List.length_nil]; omega), ?_⟩
            exact hk _ _ _ (PLe.refl _) (hr.put hb hp (show OR φ p (.cells l z) (.cells cc ty fz) from ⟨cc, ty, fz, rfl, h1, h2, h3, h4, h5⟩) depthH) (.int _ _)
          · cases e
        · rename_i b o dm c k'
          have : dn = dm := by injection hdn with hdn; exact hdn.symm
          subst this
          obtain ⟨p, C, hp, rfl, _, _⟩ := hd.sl_inv
          split at e
          · rename_i l z hb
            obtain ⟨ob, hB, hf, cc, ty, fz, rfl, h1, h2, h3, h4, h5⟩ := hr.of hb hp
            split at e
            · rename_i l' hset hall
              obtain ⟨q1, q2, q3⟩ := setL_spec _ _ _ _ hset
              have hgl := g2.length
              injection e with e; injection e with e1 e2; injection e2 with e2 e3
              subst e1 e2 e3
              simp only [acopy, hu, hlx, hs, g1, hf]
              refine ⟨all_one1 g2 hall, by omega, h3.sub (by omega), ?_⟩
              refine hk _ _ _ (PLe.refl _) (hr.put hb hp ?_ depthH) (.int _ _)
              exact ⟨_, ty, fz, rfl, by omega, by rw [writeL_size]; omega, h3, h4, h5.set hset g2 (by omega)⟩
            · cases e
          · cases e
        · cases e
      · cases e
    · cases e
  · cases e
theorem eputE_spec {k v : AV} {kv vv : Value} (hk' : VR φ k kv) (hv : VR φ v vv) : ∀ (es : List (AV × AV)) (ms : List MapEntry) (q : Option (Nat × AV)) (q' : Option (Nat × Value)) (cl : Nat), MR φ es ms → (match q, q' with
      | none, none => True
      | some (j, _), some (j', _) => j = j'
      | _, _ => False) → ∃ ms' cl', putEs kv vv ms cl q' = .map ms' cl' ∧ MR φ (eputE k v es q) ms'.toList := by
  have app : ∀ (es : List (AV × AV)) (ms : List MapEntry) (m : MapEntry), MR φ es ms → VR φ k m.key → VR φ v m.val → MR φ (es ++ [(k, v)]) (ms ++ [m]) := by
    intro es
    induction es with
    | nil => intro ms m hm h1 h2; rw [show ms = [] from hm]; exact ⟨m, [], rfl, h1, h2, rfl⟩
    | cons x es ih =>
      intro ms m ⟨m', us, h1, h2, h3, h4⟩ h5 h6
      subst h1
      exact ⟨m', us ++ [m], rfl, h2, h3, ih us m h4 h5 h6⟩
  have chg_ : ∀ (es : List (AV × AV)) (ms : List MapEntry) (i : Nat) (u : AV), MR φ es ms → MR φ (eputE k v es (some (i, u))) (chg kv vv ms i) := by
    intro es
    induction es with
    | nil => intro ms i u hm; rw [show ms = [] from hm]; cases i <;> rfl
    | cons x es ih =>
      intro ms i u ⟨m', us, h1, h2, h3, h4⟩
      subst h1
      cases i with
      | zero => exact ⟨_, us, rfl, hk', hv, h4⟩
      | succ i => exact ⟨m', _, rfl, h2, h3, ih us i u h4⟩
  intro es ms q q' cl hm hq
  cases q with
  | none =>
    cases q' with
    | some x => exact hq.elim
    | none =>
      refine ⟨_, _, rfl, ?_⟩
      have : eputE k v es none = es ++ [(k, v)] := by cases es <;> rfl
      rw [this]
      exact app es ms _ hm hk' hv
  | some y =>
    cases q' with
    | none => exact hq.elim
    | some x =>
      obtain ⟨j, a⟩ := y
      obtain ⟨j', a'⟩ := x
      have : j = j' := hq
      subst this
      exact ⟨_, _, rfl, chg_ es ms j a hm⟩
theorem emapUpd_sound (hr : HR φ H n h0 h) {t : TypeId} {m k v : AV} {mv kv vv : Value} (hm : VR φ m mv) (hk' : VR φ k kv) (hv : VR φ v vv) (e : emapUpd P t m k v H n = some (r, H', n')) (hk : Then φ h0 r H' n' K) : amapUpd P t mv kv vv h K := by
  unfold emapUpd at e
  split at e
  · rename_i b kt kd et hmk
    obtain ⟨p, hp, rfl⟩ := hm.map_inv
    split at e
    · rename_i es hb
      obtain ⟨ob, hB, hf, ms, cl, rfl, h1⟩ := hr.of hb hp
      split at e
      · rename_i q hq
        obtain ⟨q', g1, g2⟩ := efind_spec hk' es ms.toList 0 q h1 hq
        obtain ⟨ms', cl', g3, g4⟩ := eputE_spec hk' hv es ms.toList q q' cl h1 (by
          cases q <;> cases q' <;> first | trivial | exact g2.elim | exact g2.1)
        injection e with e; injection e with e1 e2; injection e2 with e2 e3
        subst e1 e2 e3
        simp only [amapUpd, mapUpdR, hf, hmk, Option.bind_some, g1, Option.map_some, g3]
        exact hk _ _ _ (PLe.refl _) (hr.put hb hp (show OR φ p (.map _) (.map ms' cl') from ⟨ms', cl', rfl, g4⟩) depthH) .undef
      · cases e
    · cases e
  · cases e
end
end Go.Proofs.Ytaejmcgcfopmkaa
