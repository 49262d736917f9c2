/- The machine of our own: slices, aggregates, maps looked into. -/
import Derived.Test.YtaejmcgcfopmkaaEvC
namespace Go.Proofs.Ytaejmcgcfopmkaa
open Go Go.RowKit
section
variable {P : Program} {φ : Ph} {H : AH} {n : Nat} {h0 h : Hp} {K : Value → Prop} {σ : AE} {ρ : Env}
theorem ebnd_spec (hf : FR φ σ ρ) {x : Option Operand} {d i : Nat} (e : ebnd (x.map (eev σ)) d = some i) (d' : Int) (hd : x = none → (i : Int) = d') : bnd (x.map ρ.ev) d' = some (i : Int) := by
  cases x with
  | none => simp only [Option.map_none, bnd]; rw [hd rfl]
  | some y =>
    simp only [Option.map_some, ebnd] at e
    have hy := hf.ev y
    split at e
    · rename_i q; cases q
    · rename_i k j q
      injection e with e; subst e
      injection q with q
      rw [q] at hy
      simp only [Option.map_some, hy.int_inv, bnd]
      rfl
    · cases e
theorem ebnd_none {d i : Nat} (e : ebnd none d = some i) : i = d := by injection e with e; exact e.symm
theorem isSome_map {α β : Type} (f : α → β) (x : Option α) : (x.map f).isSome = x.isSome := by cases x <;> rfl
theorem sliceOf_some (B o l hh m k : Nat) : sliceOf (some ⟨B, o, none⟩) l hh m k = .slice (some ⟨B, if m = l then o else o + l * k, none⟩) (hh - l) (m - l) := by
  unfold sliceOf
  split
  · rfl
  · simp only [Option.map_some, add_addr]
theorem eslice_sound (hf : FR φ σ ρ) {t : TypeId} {x r : AV} {v : Value} {lo hi mx : Option Operand} (hx : VR φ x v) (e : eslice P t x (lo.map (eev σ)) (hi.map (eev σ)) (mx.map (eev σ)) = some r) (hk : ∀ u, VR φ r u → K u) :
    aslice P t v (lo.map ρ.ev) (hi.map ρ.ev) (mx.map ρ.ev) K := by
  unfold eslice at e
  split at e
  · -- a text
    rename_i s
    obtain ⟨rfl, hs⟩ := hx.str_inv
    split at e
    · rename_i l hh hu hmx el eh
      split at e
      · rename_i hc
        injection e with e; subst e
        have hmn : mx = none := by cases mx with | none => rfl | some y => cases hmx
        subst hmn
        have e1 := ebnd_spec hf el 0 (fun q => by subst q; rw [ebnd_none el]; rfl)
        have e2 := ebnd_spec hf eh ((vstr s).size : Int) (fun q => by subst q; rw [ebnd_none eh, vstr_size])
        simp only [aslice, hu, e1, e2, Option.map_none, Option.isSome_none]
        refine ⟨trivial, trivial, by omega, by omega, by rw [vstr_size]; omega, ?_⟩
        rw [Int.toNat_natCast, Int.toNat_natCast, vstr_extract]
        exact hk _ (.str fun x hx => hs x (List.mem_of_mem_drop (List.mem_of_mem_take hx)))
      · cases e
    · cases e
  · -- none
    rw [hx.nsl_inv]
    split at e
    · rename_i el l hh m hu el' eh em
      split at e
      · rename_i hc
        obtain ⟨rfl, rfl, rfl, hmx, hsz⟩ := hc
        injection e with e; subst e
        obtain ⟨k, hsz⟩ := Option.isSome_iff_exists.1 hsz
        have e1 := ebnd_spec hf el' 0 (fun q => rfl)
        have e2 := ebnd_spec hf eh ((0 : Nat) : Int) (fun q => rfl)
        have e3 := ebnd_spec hf em ((0 : Nat) : Int) (fun q => rfl)
        simp only [aslice, hu, hsz, e1, e2, e3]
        rw [isSome_map, isSome_map] at hmx
        refine ⟨by rw [isSome_map, isSome_map]; exact hmx, by omega, by omega, ?_, by omega, hk _ ?_⟩
        · unfold upTo; split
          · trivial
          · omega
        · exact .nsl
      · cases e
    · cases e
  · -- an empty one
    rename_i b
    obtain ⟨p, x, C, hp, rfl, hx1, hx2⟩ := hx.esl_inv
    split at e
    · rename_i el l hh hu hmx el' eh
      split at e
      · rename_i hc
        obtain ⟨rfl, rfl, hsz⟩ := hc
        injection e with e; subst e
        obtain ⟨k, hsz⟩ := Option.isSome_iff_exists.1 hsz
        have hmn : mx = none := by cases mx with | none => rfl | some y => cases hmx
        subst hmn
        have e1 := ebnd_spec hf el' 0 (fun q => rfl)
        have e2 := ebnd_spec hf eh ((0 : Nat) : Int) (fun q => rfl)
        simp only [aslice, hu, hsz, e1, e2, Option.map_none, bnd_none, Option.isSome_none]
        refine ⟨fun q => (Bool.false_ne_true q).elim, by omega, by omega, ?_, by omega, hk _ ?_⟩
        · unfold upTo; split
          · trivial
          · omega
        · show VR φ (.esl b) (sliceOf (some ⟨p.B, x, none⟩) 0 0 C k)
          rw [sliceOf_some, Nat.zero_mul, Nat.add_zero, ite_self]
          exact .esl hp hx1 hx2
      · cases e
    · cases e
  · -- a slice
    rename_i b o m c k
    obtain ⟨p, C, hp, rfl, hC0, hC1⟩ := hx.sl_inv
    split at e
    · rename_i el hu
      split at e
      · rename_i es l hh mm hs el' eh em
        split at e
        · rename_i hc
          obtain ⟨h1, h2, h3⟩ := hc
          have e1 := ebnd_spec hf el' 0 (fun q => by subst q; rw [ebnd_none el']; rfl)
          have e2 := ebnd_spec hf eh (m : Int) (fun q => by subst q; rw [ebnd_none eh])
          have hcC : c ≤ C := by
            by_cases q : k = 0
            · rw [hC0 q]; omega
            · exact (hC1 q).1
          have ups : ∀ M : Int, (hh : Int) ≤ M → upTo (hi.map ρ.ev) (hh : Int) M := fun M hM => by
            unfold upTo; split
            · trivial
            · exact hM
          -- the bound is known
          have exact_ : (mx.isSome = true → hi.isSome = true) → (mx = none → mm = C) → K (.slice (some ⟨p.B, p.s + (if mm = l then o else o + l * es), none⟩) (hh - l) (mm - l)) → aslice P t (.slice (some ⟨p.B, p.s + o, none⟩) m C) (lo.map ρ.ev) (hi.map ρ.ev) (mx.map ρ.ev) K := fun hmx hmc hK => by
            have e3 := ebnd_spec hf em (C : Int) (fun q => by rw [hmc q])
            simp only [aslice, hu, hs, e1, e2, e3]
            refine ⟨by rw [isSome_map, isSome_map]; exact hmx, by omega, by omega, ups _ (by omega), by omega, ?_⟩
            rw [Int.toNat_natCast, Int.toNat_natCast, Int.toNat_natCast, sliceOf_some]
            have : (if mm = l then p.s + o else p.s + o + l * es) = p.s + (if mm = l then o else o + l * es) := by split <;> omega
            rw [this]
            exact hK
          split at e
          · rename_i hmx
            have hmn : mx = none := by cases mx with | none => rfl | some y => cases hmx
            subst hmn
            have hm := ebnd_none em
            injection e with e; subst e
            exact exact_ (fun q => by cases q) (fun _ => by rw [hm, hC0 rfl]) (hk _ (.sl hp (fun _ => rfl) (fun q => (q rfl).elim)))
          · rename_i y hmx
            split at e
            · rename_i hhi
              injection e with e; subst e
              rw [isSome_map] at hhi
              have hmn : mx ≠ none := fun q => by subst q; cases hmx
              exact exact_ (fun _ => hhi) (fun q => (hmn q).elim) (hk _ (.sl hp (fun _ => rfl) (fun q => (q rfl).elim)))
            · cases e
          · rename_i k' hmx
            have hmn : mx = none := by cases mx with | none => rfl | some y => cases hmx
            subst hmn
            obtain ⟨_, hT⟩ := hC1 (by omega)
            split at e
            · rename_i hes
              subst hes
              have hm := ebnd_none em
              have red : K (sliceOf (some ⟨p.B, p.s + o, none⟩) l hh C (k' + 1)) → aslice P t (.slice (some ⟨p.B, p.s + o, none⟩) m C) (lo.map ρ.ev) (hi.map ρ.ev) (Option.map ρ.ev none) K := fun hK => by
                simp only [aslice, hu, hs, e1, e2, Option.map_none, bnd_none]
                refine ⟨(fun q => by cases q), by omega, by omega, ups _ (by omega), by omega, ?_⟩
                rw [Int.toNat_natCast, Int.toNat_natCast, Int.toNat_natCast]
                exact hK
              refine red ?_
              rw [sliceOf_some]
              split at e
              · rename_i hl
                injection e with e; subst e
                have e4 : (if C = l then p.s + o else p.s + o + l * (k' + 1)) = p.s + (o + l * (k' + 1)) := by
                  split
                  · rename_i q
                    have : l = 0 := by omega
                    subst this; omega
                  · omega
                rw [e4]
                refine hk _ (.sl hp (fun q => by omega) (fun _ => ⟨by omega, ?_⟩))
                have : l * (k' + 1) + (C - l) * (k' + 1) = C * (k' + 1) := by
                  rw [← Nat.add_mul]; congr 1; omega
                rw [Nat.add_assoc, this]; exact hT
              · rename_i hl
                injection e with e; subst e
                have : hh - l = 0 := by omega
                have hlc : l = c := by omega
                have hck : l * (k' + 1) ≤ C * (k' + 1) := Nat.mul_le_mul_right _ (by omega)
                rw [this]
                exact hk _ (.esl hp (by split <;> omega) (by rw [show C * (k' + 1) = C * k'.succ from rfl] at hck; split <;> omega))
            · cases e
          · rename_i y hmx
            split at e
            · rename_i hhi
              injection e with e; subst e
              rw [isSome_map] at hhi
              have hmn : mx ≠ none := fun q => by subst q; cases hmx
              exact exact_ (fun _ => hhi) (fun q => (hmn q).elim) (hk _ (.sl hp (fun _ => rfl) (fun q => (q rfl).elim)))
            · cases e
        · cases e
      · cases e
    · cases e
  · cases e

/-! ### aggregates -/
theorem efill_spec {place : Nat → Option (Nat × Nat)} : ∀ (ps : List (Nat × Operand)) (cells r : List AV) (c : Array Value), FR φ σ ρ → VRs φ cells c.toList → efill place cells (ps.map fun x => (x.1, eev σ x.2)) = some r →
    ∃ r', fillP place c (ps.map fun x => (x.1, ρ.ev x.2)) = some r' ∧ VRs φ r r'.toList
  | [], cells, r, c, _, hc, e => by
    injection e with e; subst e
    exact ⟨c, rfl, hc⟩
  | x :: ps, cells, r, c, hf, hc, e => by
    simp only [List.map_cons, efill] at e
    split at e
    · cases e
    · rename_i off size hp
      split at e
      · rename_i c2 hb hset
        simp only [Bool.and_eq_true] at hb
        have hlen := Nat.eq_of_beq_eq_true hb.1
        have hv := (hf.ev x.2).cells hb.2.1
        have hle := Nat.le_of_ble_eq_true hb.2.2
        have hl := hv.length
        obtain ⟨g1, g2, g3⟩ := setL_spec _ _ _ _ hset
        have hcl := hc.length
        have hcs : cells.length = c.size := by simpa using hcl
        have hset2 := (hc.toCR).set hset hv (by omega)
        rw [Nat.zero_add] at hset2
        have := hset2.toVRs (by rw [writeL_size]; omega)
        obtain ⟨r', h1, h2⟩ := efill_spec ps c2 r _ hf this e
        refine ⟨r', ?_, h2⟩
        simp only [List.map_cons, fillP, hp]
        have hsz : x.2 = x.2 := rfl
        have h3 : (ρ.ev x.2).cells.size = size := by rw [← hlen, hl, Array.length_toList]
        rw [if_pos ⟨h3, by omega⟩]
        exact h1
      · cases e
theorem ebuild_spec (hf : FR φ σ ρ) {t : TypeId} {ps : Array (Nat × Operand)} {r : List AV} (e : ebuild P t (ps.toList.map fun x => (x.1, eev σ x.2)) = some r) :
    ∃ r', tyBuild P t (ps.toList.map fun x => (x.1, ρ.ev x.2)) = some r' ∧ VRs φ r r'.toList := by
  unfold ebuild at e
  unfold tyBuild
  split at e
  · rename_i z hz
    simp only [hz]
    split at e
    · rename_i fs hu
      simp only [hu]
      split at e
      · rename_i hall
        rw [if_pos hall]
        exact efill_spec _ _ _ _ hf (ofV_cells φ z) e
      · cases e
    · rename_i m el hu
      simp only [hu]
      split at e
      · rename_i s hs
        simp only [hs]
        exact efill_spec _ _ _ _ hf (ofV_cells φ z) e
      · cases e
    · cases e
  · cases e
theorem repL_spec {z : List AV} {zs : List Value} (hz : VRs φ z zs) : ∀ m, VRs φ (repL z m) (copies zs m)
  | 0 => .nil
  | m + 1 => hz.append (repL_spec hz m)
theorem eplaces_spec (hf : FR φ σ ρ) {t : TypeId} {len : Nat} {ps : Array (Nat × Operand)} {r : List AV} (e : eplaces P t len (ps.toList.map fun x => (x.1, eev σ x.2)) = some r) :
    ∃ el r', tyBuildSlice P t len (ps.toList.map fun x => (x.1, ρ.ev x.2)) = some (el, r') ∧ VRs φ r r'.toList := by
  unfold eplaces at e
  unfold tyBuildSlice
  split at e
  · rename_i el hu
    simp only [hu]
    split at e
    · rename_i s z hs hz
      simp only [hs, hz]
      split at e
      · rename_i hc
        rw [if_pos hc]
        obtain ⟨r', h1, h2⟩ := efill_spec ps.toList _ _ (copies z.cells.toList len).toArray hf (by simpa using repL_spec (ofV_cells φ z) len) e
        exact ⟨el, r', by rw [h1]; rfl, h2⟩
      · cases e
    · cases e
  · cases e

/-! ### maps -/
theorem esame_spec {kd : TypeDesc} {a b : AV} {v u : Value} {q : Bool} (ha : VR φ a v) (hb : VR φ b u) (e : esame kd a b = some q) : Instr.sameNow kd v u = some q := by
  unfold esame at e
  split at e
  · rename_i k m k' m'
    rw [ha.int_inv, hb.int_inv]
    split at e
    · rename_i hk
      injection e with e; subst e
      simp only [Instr.sameNow]
      rw [if_pos hk]
      congr 1
    · cases e
  · rename_i s r
    obtain ⟨rfl, h1⟩ := ha.str_inv
    obtain ⟨rfl, h2⟩ := hb.str_inv
    injection e with e; subst e
    simp only [Instr.sameNow]
    congr 1
    rw [beqL_spec s r h1 h2, Bool.eq_iff_iff, bytes_beq, beq_iff_eq]
    constructor
    · intro q
      have := congrArg ByteArray.toList q
      rwa [vstr_toList, vstr_toList] at this
    · intro q
      unfold vstr; rw [q]
  · cases e
theorem efind_spec {kd : TypeDesc} {k : AV} {v : Value} (hk : VR φ k v) : ∀ (es : List (AV × AV)) (ms : List MapEntry) (i : Nat) (r : Option (Nat × AV)), MR φ es ms → efind kd k es i = some r →
    ∃ r', mfind kd v ms i = some r' ∧ (match r, r' with
      | none, none => True
      | some (j, a), some (j', u) => j = j' ∧ VR φ a u
      | _, _ => False)
  | [], ms, i, r, hm, e => by
    injection e with e; subst e
    rw [show ms = [] from hm]
    exact ⟨none, rfl, trivial⟩
  | x :: es, ms, i, r, ⟨m, us, h1, h2, h3, h4⟩, e => by
    subst h1
    unfold efind at e
    split at e
    · rename_i hs
      injection e with e; subst e
      have := esame_spec hk h2 hs
      refine ⟨some (i, m.val), by simp only [mfind, this], rfl, h3⟩
    · rename_i hs
      have := esame_spec hk h2 hs
      obtain ⟨r', g1, g2⟩ := efind_spec hk es us (i + 1) r h4 e
      exact ⟨r', by simp only [mfind, this, g1], g2⟩
    · cases e
theorem elookup_sound (hr : HR φ H n h0 h) {t : TypeId} {m k r : AV} {ok : Bool} {mv kv : Value} (hm : VR φ m mv) (hk' : VR φ k kv) (e : elookup P t m k ok H = some r) (hk : ∀ u, VR φ r u → K u) : alookup P t mv kv ok h K := by
  unfold elookup at e
  split at e
  · rename_i b kt kd et hmk
    obtain ⟨p, hp, rfl⟩ := hm.map_inv
    split at e
    · rename_i es hb
      obtain ⟨ob, hB, hf, ms, cl, rfl, h1⟩ := hr.of hb hp
      have fin : ∀ {q}, efind kd k es 0 = some q → ∃ q', mfind kd kv ms.toList 0 = some q' ∧ lookupR P t (.map (some p.B)) kv ok h = found (tyZero P et) ok q' ∧ (match q, q' with
        | none, none => True
        | some (j, a), some (j', u) => j = j' ∧ VR φ a u
        | _, _ => False) := fun {q} hq => by
        obtain ⟨q', g1, g2⟩ := efind_spec hk' es ms.toList 0 q h1 hq
        refine ⟨q', g1, ?_, g2⟩
        simp only [lookupR, hmk, Option.bind_some, mapRow, hf, g1]
      split at e
      · rename_i j a hq
        obtain ⟨q', g1, g2, g3⟩ := fin hq
        cases q' with
        | none => exact g3.elim
        | some x =>
          obtain ⟨j', u⟩ := x
          obtain ⟨_, g3⟩ := g3
          injection e with e; subst e
          simp only [alookup, g2, found]
          cases ok
          · exact hk _ g3
          · exact hk _ (.tup (cs := #[u, .bool true]) (.cons g3 (.cons (.bool _) .nil)))
      · rename_i hq
        obtain ⟨q', g1, g2, g3⟩ := fin hq
        cases q' with
        | some x => exact g3.elim
        | none =>
          split at e
          · rename_i z hz
            injection e with e; subst e
            simp only [alookup, g2, found, hz, Option.map_some]
            cases ok
            · exact hk _ (ofV_sound z)
            · exact hk _ (.tup (cs := #[z, .bool false]) (.cons (ofV_sound z) (.cons (.bool _) .nil)))
          · cases e
      · cases e
    · cases e
  · cases e

/-! ### all of them -/
theorem epure_sound (hr : HR φ H n h0 h) (hf : FR φ σ ρ) {o : Op} {r : AV} (e : epure P o σ H = some r) (hk : ∀ u, VR φ r u → K u) : apure P o ρ h K := by
  unfold epure at e
  split at e
  · rename_i x
    injection e with e; subst e
    exact hk _ (hf.ev x)
  · rename_i x
    injection e with e; subst e
    exact hk _ (hf.ev x)
  · rename_i c a b
    have hc := hf.ev c
    simp only [apure]
    split at e
    · rename_i q
      rw [q] at hc
      rw [hc.bool_inv]
      injection e with e; subst e
      exact hk _ (hf.ev a)
    · rename_i q
      rw [q] at hc
      rw [hc.bool_inv]
      injection e with e; subst e
      exact hk _ (hf.ev b)
    · cases e
  · rename_i t parts
    simp only [Option.map_eq_some_iff] at e
    obtain ⟨l, e1, rfl⟩ := e
    obtain ⟨r', h1, h2⟩ := ebuild_spec hf e1
    simp only [apure, h1]
    exact hk _ (.agg h2)
  · exact eload_sound hr (hf.ev _) e hk
  · rename_i x
    have hx := hf.ev x
    simp only [apure]
    split at e
    · rename_i b o q
      rw [q] at hx
      obtain ⟨p, hp, hv⟩ := hx.ptr_inv
      injection e with e; subst e
      rw [hv]
      exact hk _ (.ptr hp)
    · rename_i f a c q
      rw [q] at hx
      obtain ⟨a', c', hv, h1, h2⟩ := hx.fn_inv
      injection e with e; subst e
      rw [hv]
      exact hk _ (.fn h1 h2)
    · cases e
  · exact ebin_sound hr (hf.ev _) (hf.ev _) e hk
  · exact eun_sound (hf.ev _) e hk
  · rename_i f first captured
    injection e with e; subst e
    refine hk _ (.fn ?_ ?_)
    · rw [Array.toList_map]; exact VRs.map hf.ev _
    · rw [Array.toList_map]; exact VRs.map hf.ev _
  · exact eslice_sound hf (hf.ev _) e hk
  · exact efieldAddr_sound (hf.ev _) e hk
  · exact efield_sound (hf.ev _) e hk
  · exact eindexAddr_sound (hf.ev _) (hf.ev _) e hk
  · exact eindex_sound (hf.ev _) (hf.ev _) e hk
  · exact eextract_sound (hf.ev _) e hk
  · exact elookup_sound hr (hf.ev _) (hf.ev _) e hk
  · rename_i c
    have hm := VRs.map hf.ev c.args.toList
    simp only [apure]
    split at e
    · rename_i t x e1 e2 e3
      rw [e3] at hm
      obtain ⟨v, us, h1, h2, h3⟩ := hm.cons_inv
      rw [h3.nil_inv] at h1
      simp only [e1, e2, h1, qbuiltin]
      exact elen_sound hr h2 e hk
    · rename_i x y e1 e3
      rw [e3] at hm
      obtain ⟨v, us, h1, h2, h3⟩ := hm.cons_inv
      obtain ⟨u, ws, h4, h5, h6⟩ := h3.cons_inv
      rw [h4, h6.nil_inv] at h1
      simp only [e1, h1, qbuiltin]
      exact emm_sound h2 h5 e hk
    · rename_i x y e1 e3
      rw [e3] at hm
      obtain ⟨v, us, h1, h2, h3⟩ := hm.cons_inv
      obtain ⟨u, ws, h4, h5, h6⟩ := h3.cons_inv
      rw [h4, h6.nil_inv] at h1
      simp only [e1, h1, qbuiltin]
      exact emm_sound h2 h5 e hk
    · cases e
  · cases e
end
end Go.Proofs.Ytaejmcgcfopmkaa
