/- The engine: blocks that are and blocks that are new. -/
import Derived.Test.YtaejmcgcfopmkaaEngSimp
import Derived.Laws.Strings
namespace Go.Proofs.Ytaejmcgcfopmkaa
open Go Go.RowKit
theorem Fin.sub {K : KH} {v : Value} {g h : Hp} (hs : Sub g h) (k : K v g) : Fin K v h := ⟨g, hs, k⟩
theorem Wf.none {h : Hp} (hw : Wf h) {b : Nat} (hb : h.n ≤ b) : h.f b = none := by
  cases e : h.f b with
  | none => rfl
  | some o => exact absurd (hw b o e) (by omega)
theorem Sub.put_new {g h : Hp} (hs : Sub g h) {b : Nat} (hb : g.f b = none) (o : Obj) : Sub g (h.put b o) := ⟨hs.1, fun x y e => by
  rw [put_f_ne _ _ _ _ (fun q => by rw [q, hb] at e; cases e)]
  exact hs.2 x y e⟩
theorem Sub.put_both {g h : Hp} (hs : Sub g h) (b : Nat) (o : Obj) : Sub (g.put b o) (h.put b o) := ⟨hs.1, fun x y e => by
  by_cases q : x = b
  · subst q; rwa [put_f_same] at e ⊢
  · rw [put_f_ne _ _ _ _ q] at e ⊢; exact hs.2 x y e⟩
theorem put_f_old {g : Hp} {b n : Nat} {o : Obj} (hb : b < n) : (g.put n o).f b = g.f b := put_f_ne _ _ _ _ (by omega)
theorem put_f_old' {g : Hp} {b n k : Nat} {o : Obj} (hb : b < n) : (g.put (n + k) o).f b = g.f b := put_f_ne _ _ _ _ (by omega)
theorem put_f_new {g : Hp} {b n : Nat} {o : Obj} (hb : b < n) : (g.put b o).f n = g.f n := put_f_ne _ _ _ _ (by omega)
theorem put_f_new' {g : Hp} {b n k : Nat} {o : Obj} (hb : b < n) : (g.put b o).f (n + k) = g.f (n + k) := put_f_ne _ _ _ _ (by omega)
theorem put_f_up (g : Hp) (n k : Nat) (o : Obj) : (g.put n o).f (n + (k + 1)) = g.f (n + (k + 1)) := put_f_ne _ _ _ _ (by omega)
theorem put_f_dn (g : Hp) (n k : Nat) (o : Obj) : (g.put (n + (k + 1)) o).f n = g.f n := put_f_ne _ _ _ _ (by omega)
theorem put_f_add (g : Hp) (n j k : Nat) (o : Obj) (hjk : (j == k) = false) : (g.put (n + j) o).f (n + k) = g.f (n + k) := put_f_ne _ _ _ _ (by simp at hjk; omega)
theorem put_f_add0 (g : Hp) (n j : Nat) (o : Obj) (hj : (j == 0) = false) : (g.put (n + j) o).f n = g.f n := put_f_ne _ _ _ _ (by simp at hj; omega)
theorem put_f_0add (g : Hp) (n j : Nat) (o : Obj) (hj : (j == 0) = false) : (g.put n o).f (n + j) = g.f (n + j) := put_f_ne _ _ _ _ (by simp at hj; omega)
theorem str_eq (a b : ByteArray) : ((a.toList == b.toList) = true) = (a = b) := by
  rw [beq_iff_eq, ByteArray.toList_eq, ByteArray.toList_eq]
  refine propext ⟨fun h => ?_, fun h => by rw [h]⟩
  obtain ⟨⟨a⟩⟩ := a
  obtain ⟨⟨b⟩⟩ := b
  exact congrArg (fun l => ByteArray.mk ⟨l⟩) h
attribute [go_sem] str_eq
/-! ### long lists of operations, laid in parts -/
section
variable (P : Program) (ops : Array Oper) (o : Oper) (l r s : List Oper) (ρ : Env) (h : Hp)
theorem aops_app (N : EH) : aops P ops (List.append (o :: l) r) ρ h N = aops P ops (o :: List.append l r) ρ h N := id rfl
theorem aops_app0 (N : EH) : aops P ops (List.append [] r) ρ h N = aops P ops r ρ h N := id rfl
theorem aops_app2 (N : EH) : aops P ops (List.append (List.append l r) s) ρ h N = aops P ops (List.append l (List.append r s)) ρ h N := by simp
theorem aopsQ_app (N : Env → Prop) : aopsQ P ops h (List.append (o :: l) r) ρ N = aopsQ P ops h (o :: List.append l r) ρ N := id rfl
theorem aopsQ_app0 (N : Env → Prop) : aopsQ P ops h (List.append [] r) ρ N = aopsQ P ops h r ρ N := id rfl
theorem aopsQ_app2 (N : Env → Prop) : aopsQ P ops h (List.append (List.append l r) s) ρ N = aopsQ P ops h (List.append l (List.append r s)) ρ N := by simp
theorem gs_app0 : gs (List.append (o :: l) r) 0 = o.dst := id rfl
theorem gs_appS (n : Nat) : gs (List.append (o :: l) r) (n + 1) = gs (List.append l r) n := id rfl
theorem gs_appN (n : Nat) : gs (List.append [] r) n = gs r n := id rfl
theorem gs_app2 (n : Nat) : gs (List.append (List.append l r) s) n = gs (List.append l (List.append r s)) n := by simp
end
attribute [go_sem ↓] aops_app aops_app0 aops_app2 aopsQ_app aopsQ_app0 aopsQ_app2 gs_app0 gs_appS gs_appN gs_app2 gslot_list gs_zero gs_succ
/-! ### append -/
structure SlTy (P : Program) (t e : TypeId) (k by' : Nat) (z : Value) : Prop where
  un : P.underlying t = some (.slice e)
  sz : tySize P e = some k
  bs : tyBytes P e = some by'
  ze : tyZero P e = some z
  zc : z.cells.size = k
  k0 : 0 < k
  b0 : 0 < by'
theorem copies_length (z : List Value) : ∀ n, (copies z n).length = n * z.length
  | 0 => by simp [copies]
  | n + 1 => by simp [copies, copies_length z n, Nat.succ_mul, Nat.add_comm]
theorem writeL_append : ∀ (a new old rest : List Value), new.length = old.length → writeL (a ++ (old ++ rest)).toArray a.length new = (a ++ (new ++ rest)).toArray
  | a, [], [], rest, _ => rfl
  | a, x :: new, y :: old, rest, h => by
    have ih := writeL_append (a ++ [x]) new old rest (by simpa using h)
    simp only [writeL]
    have e1 : (a ++ (y :: old ++ rest)).toArray.setIfInBounds a.length x = (a ++ [x] ++ (old ++ rest)).toArray := by simp
    rw [e1]
    simpa using ih
theorem cellsL_all : ∀ (l r p : List Value), cellsL (p ++ (l ++ r)).toArray p.length l.length = some l
  | [], _, _ => rfl
  | x :: l, r, p => by
    have ih := cellsL_all l r (p ++ [x])
    simp only [List.length_cons, cellsL]
    have e1 : (p ++ (x :: l ++ r)).toArray[p.length]? = some x := by simp
    have e2 : (p ++ (x :: l ++ r)) = (p ++ [x] ++ (l ++ r)) := by simp
    rw [e1, e2]
    rw [show p.length + 1 = (p ++ [x]).length from by simp, ih]
section
variable {P : Program} {t u e : TypeId} {k by' : Nat} {z x : Value} {h : Hp}
/-- Appended to a slice that is none: a new block. -/
theorem append_nil {K : CH} (hT : SlTy P t e k by' z) (hU : ∃ e', P.underlying u = some (.slice e')) {m : Nat} {new : List Value} (hx : srcCells h k x = some (m, new)) (hm : 0 < m) (hb : m * by' ≤ 140737488355328)
    (hk : ∀ cap rest, m ≤ cap → rest.length = (cap - m) * k → K.go (.slice (some ⟨h.n, 0, none⟩) m cap) ((h.put h.n (.cells (new ++ rest).toArray e (0, 0))).to (h.n + 1))) : @Go1 _ (appW P t u (.slice none 0 0) x h) K := by
  obtain ⟨e', he'⟩ := hU
  refine ⟨e, _, k, by', z, m, new, hT.un, he', fun q => by simp, hT.sz, hT.bs, hT.ze, hT.zc, hT.b0, hx, fun q => by omega, fun q => ⟨by simpa using hb, [], rfl, fun cap hc => ⟨_, Sub.refl _, ?_⟩⟩⟩
  have := hk cap (copies z.cells.toList (cap - m)) (by omega) (by rw [copies_length]; simp [hT.zc])
  simpa using this
/-- Appended to a row of one's own: there, or in a new block; what was there is forgotten. -/
theorem append_own {K : CH} (hT : SlTy P t e k by' z) (hU : ∃ e', P.underlying u = some (.slice e')) {b n cap m : Nat} {base : Hp} {vs rest new : List Value} (hbl : h.f b = some (.cells (vs ++ rest).toArray e (0, 0))) (hvs : vs.length = n * k) (hc : n ≤ cap) (hr : rest.length = (cap - n) * k)
    (hsub : Sub base h) (hx : srcCells h k x = some (m, new)) (hnew : new.length = m * k) (hone : new.all Value.oneCell' = true) (hb : (n + m) * by' ≤ 140737488355328)
    (hk : ∀ b' n' cap rest, (b' = b ∧ n' = h.n ∨ b' = h.n ∧ n' = h.n + 1) → n + m ≤ cap → rest.length = (cap - (n + m)) * k → K.go (.slice (some ⟨b', 0, none⟩) (n + m) cap) ((base.put b' (.cells (vs ++ new ++ rest).toArray e (0, 0))).to n')) :
    @Go1 _ (appW P t u (.slice (some ⟨b, 0, none⟩) n cap) x h) K := by
  obtain ⟨e', he'⟩ := hU
  refine ⟨e, _, k, by', z, m, new, hT.un, he', fun q => by simp, hT.sz, hT.bs, hT.ze, hT.zc, hT.b0, hx, fun q => ?_, fun q => ⟨hb, vs, ?_, fun cap' hc' => ?_⟩⟩
  · simp only [stayK, hbl]
    have hle : m * k ≤ (cap - n) * k := Nat.mul_le_mul_right k (by omega)
    have hcap : n * k + (cap - n) * k = cap * k := by rw [← Nat.add_mul]; congr 1; omega
    refine ⟨hone, ?_, free_zero _ _, ?_⟩
    · simp only [List.size_toArray, List.length_append, hvs, hr, hnew]; omega
    · obtain ⟨old, rest', rfl, hold⟩ : ∃ old rest', rest = old ++ rest' ∧ old.length = new.length := ⟨rest.take new.length, rest.drop new.length, by simp, by simp; omega⟩
      refine ⟨_, ?_, hk b h.n cap rest' (.inl ⟨rfl, rfl⟩) q ?_⟩
      · rw [Nat.zero_add, ← hvs, writeL_append vs new old rest' hold.symm]
        have := hsub.put b (.cells (vs ++ (new ++ rest')).toArray e (0, 0))
        rw [List.append_assoc]
        exact ⟨rfl, this.2⟩
      · simp only [List.length_append, hold, hnew] at hr
        have : (cap - n) * k = m * k + (cap - (n + m)) * k := by rw [← Nat.add_mul]; congr 1; omega
        omega
  · simp only [srcCells, hbl]
    have := cellsL_all vs rest []
    simp only [List.nil_append, List.length_nil] at this
    rw [← hvs, this]; rfl
  · refine ⟨_, ?_, hk h.n (h.n + 1) cap' (copies z.cells.toList (cap' - (n + m))) (.inr ⟨rfl, rfl⟩) hc' (by rw [copies_length]; simp [hT.zc])⟩
    have := (hsub.put h.n (.cells (vs ++ new ++ copies z.cells.toList (cap' - (n + m))).toArray e (0, 0))).to (h.n + 1)
    simpa [List.append_assoc] using this
end
attribute [go_sem] put_f_old put_f_old' put_f_new put_f_new' put_f_add put_f_add0 put_f_0add Nat.add_assoc
/-! ### the slots forgotten, but those that are named -/
theorem aops_forget {P : Program} {ops : Array Oper} {l : List Oper} {ρ : Env} {h : Hp} {N : EH} (L : List Nat) (k : ∀ ρ' : Env, (∀ t, L.contains t = true → ρ' t = ρ t) → aops P ops l ρ' h N) : aops P ops l ρ h N := k ρ fun _ _ => rfl
theorem avc_forget {P : Program} {c : Code} {ρ : Env} {h : Hp} {N R : EH} {X : Nat → EH} (L : List Nat) (k : ∀ ρ' : Env, (∀ t, L.contains t = true → ρ' t = ρ t) → avc P c N R X ρ' h) : avc P c N R X ρ h := k ρ fun _ _ => rfl
end Go.Proofs.Ytaejmcgcfopmkaa
