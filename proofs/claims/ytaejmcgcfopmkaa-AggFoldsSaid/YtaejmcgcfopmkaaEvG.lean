/- The machine of our own: a law that it finds true is true in every world, and leaves what was there as it was. -/
import Derived.Test.YtaejmcgcfopmkaaEvY
import Derived.Below
import Derived.Carry
import Derived.ProofKit
import Derived.OpenShut
namespace Go.Proofs.Ytaejmcgcfopmkaa
open Go Go.RowKit
/-- The table: each function whose text is in order is run. -/
noncomputable def evF (P : Program) (f : FuncId) : EF := cond (fnOk P f) .run .no
theorem evF_ok (P : Program) : TabOk P (evF P) := fun f => by
  unfold evF
  cases h : fnOk P f with
  | true => rfl
  | false => trivial
def wholeHp (w : World) : Hp := ⟨fun b => w.heap[b]?, w.heap.size⟩
theorem wholeHp_is (w : World) : Is w (wholeHp w) := ⟨rfl, fun _ _ h => h⟩
theorem wholeHp_start (w : World) : HR (fun _ => none) .nil 0 (wholeHp w) (wholeHp w) :=
  ⟨fun _ _ h => (by cases h), fun _ _ h => (by cases h), fun _ _ _ _ _ _ h => (by cases h), fun b o h => ⟨(Array.getElem?_eq_some_iff.1 h).1, h⟩, Nat.le_refl _⟩
theorem ev_calls {P : Program} (hm : P.follows .mixedOrders = true) {F : FuncId → EF} (hF : TabOk P F) {d : Nat} {f : FuncId} {args : List AV} {vs : Array Value} (hargs : VRs (fun _ => none) args vs.toList)
    (he : isTrue (ecall P F d f args .nil 0) = true) (w : World) : Calls P f vs w fun e w' => e = .returned (.bool true) ∧ Below w.heap.size w w' := by
  unfold isTrue at he
  split at he
  · rename_i H' n' e
    have hs := ecall_sound hm hF d f args .nil 0 _ H' n' e _ (wholeHp w) (wholeHp w) vs (fun v g => v = .bool true ∧ (wholeHp w).n ≤ g.n ∧ ∀ b o, (wholeHp w).f b = some o → g.f b = some o) (wholeHp_start w) hargs
      (fun ψ u g _ hg hu => ⟨hu.bool_inv, hg.size, fun b o hb => (hg.base b o hb).2⟩)
    refine (hs.2 w (wholeHp_is w)).mono fun e' w' ⟨v, g, h1, h2, h3, h4, h5, h6⟩ => ?_
    subst h1 h4
    refine ⟨rfl, h3.1, h3.2.1, h3.2.2, ?_, fun b hb => ?_⟩
    · rw [h2.1]; exact h5
    · have := h6 b _ (show (wholeHp w).f b = some w.heap[b] from Array.getElem?_eq_getElem hb)
      rw [h2.2 b _ this, Array.getElem?_eq_getElem hb]
  · cases he
open Go.ChangeShapes Go.WideShapes Go.ChangeAt
section
variable {H : Type} {enc : TypeId × Value → H} {P : Program} {W W' : World}
/-- Arguments read behind a call as before, if nothing that was there has turned. -/
theorem args_stay (hl : laidOutB P = true) (hb : Below W.heap.size W W') : ∀ (ts : List TypeId) (vs : List Value) (ds : List (DataW H)) (ps : List MemPlace), (ts.all fun t => P.readableRec t && decide (t < P.types.size)) = true →
    DataW.TrodAll enc P W 0 (fun _ => true) true ts vs ds ps → (∀ x ∈ ps, x.block < W.heap.size) → DataW.TrodAll enc P W' 0 (fun b => decide (b < W.heap.size)) true ts vs ds ps
  | [], vs, ds, ps, _, h, _ => by
    obtain ⟨rfl, rfl, rfl⟩ := trodAll_nil h
    exact h
  | t :: ts, vs, ds, ps, hr, h, hlt => by
    obtain ⟨v, vs', d, ds', p, q, rfl, rfl, rfl, h1, h2⟩ := trodAll_cons h
    simp only [List.all_cons, Bool.and_eq_true, decide_eq_true_eq] at hr
    exact trodAll_cons_mk (Below.trod hl hr.1.1 hr.1.2 h1 hb fun x hx => hlt x (List.mem_append_left _ hx)) (args_stay hl hb ts vs' ds' q hr.2 h2 fun x hx => hlt x (List.mem_append_right _ hx))
/-- A law's last step: it answered true, and what was there is as it was. -/
theorem law_left {f : Func} {s : ChangeSpec} {apart fresh handsOn : Bool} {args : Array Value} {ds gs : List (DataW H)} {before : List MemPlace} {tb : TypeId} (hl : laidOutB P = true)
    (hr : (f.params.toList.all fun t => P.readableRec t && decide (t < P.types.size)) = true) (hres : f.resultTypes = #[tb]) (hub : P.underlying tb = some .bool) (hv : s.vars = [])
    (hfn : s.fn H (ds ++ gs) = { results := [.lit (.bool true)], args := ds }) (hW : DataW.Whole enc P f.params.toList s.vars apart W args.toList ds gs before) (hb : Below W.heap.size W W') :
    s.post enc P f apart fresh handsOn false W args (.bool true) W' := by
  have hlt := hW.lt
  have hW2 := hW
  obtain ⟨p, q, h1, h2, rfl, _, _⟩ := hW2
  refine ⟨ds, gs, p ++ q, [], p, [], hW, ?_, ?_, ?_, hb.frame _, fun k => by cases k⟩
  · rw [hfn, hres]
    exact trodAll_mk1 (shut_bool hub true)
  · rw [hfn]
    exact args_stay hl hb _ _ _ _ hr h1 fun x hx => hlt x (List.mem_append_left _ hx)
  · rw [hfn, hv]
    rfl
end
end Go.Proofs.Ytaejmcgcfopmkaa
