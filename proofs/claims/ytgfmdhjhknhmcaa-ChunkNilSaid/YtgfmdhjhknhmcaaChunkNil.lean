/-
  PROVED: 'Rows.ChunkNilSaid': a chunk that is not there has no samples: for every input the law returns true, and each argument reads afterwards as it read before. No condition.
-/
import Derived.Test.YtgfmdhjhknhmcaaEvT
import Derived.Test.YtgfmdhjhknhmcaaChunkKnown
namespace Go.Proofs.Ytgfmdhjhknhmcaa.chunkNil
open Go Go.RowKit Go.ChangeShapes Go.WideShapes Go.ChangeAt
theorem own : ownKnob Try.prog.godebug = none := by kernel_rfl
noncomputable def tab : FuncId → EQ := withTrue 24 evQ
theorem ran (c0 c1 : Value) : isTrue (callq tab 60 4 [.agg [.any c0, .any c1]] .nil 0 topq) = true := by kernel_rfl
set_option maxRecDepth 100000 in
theorem lifted (os : Os) (started : os.Started) (H : Type) (enc : TypeId × Value → H) :
    ReturnsInHanded {} Try.checked os 4 .any (Rows.chunkNilSpec.pre6 enc Try.prog Try.f4 Rows.chunkNilRow.domain false) (Rows.chunkNilSpec.post enc Try.prog Try.f4 false true false false) := by
  refine returnsInHanded_of_change (C := Try.checked) own started (by kernel_rfl) Try.func4
    (ChangeSpec.witness6 (enc := enc) (C := Try.checked) false ⟨#[], #[.agg #[.int .i64 0, .int .i64 0]], []⟩ 8 (by kernel_rfl) (by kernel_rfl) (by kernel_rfl) (by kernel_rfl)) ?_
  intro W base args ds gs before hval0 hW hcnd _
  have hval : ∀ (j : Nat) t v, Try.f4.params[j]? = some t → args[j]? = some v → Value.okWide Try.prog W .any base t v := hval0
  have hW2 := hW
  obtain ⟨p, q, hA0, hV, rfl, _, _⟩ := hW2
  have hA : DataW.TrodAll enc Try.prog W 0 (fun _ => true) true Try.f4.params.toList args.toList ds p := hA0
  rw [Try.params4] at hA hval
  obtain ⟨v0, vs0, d0, ds0, p0, q0, hargs, rfl, rfl, h0, r0⟩ := trodAll_cons hA
  obtain ⟨rfl, rfl, rfl⟩ := trodAll_nil r0
  obtain rfl : args = #[v0] := by cases args; simp_all
  obtain ⟨rfl, rfl⟩ := trodVars_none hV
  have hv0 := hval 0 34 v0 rfl rfl
  simp only [Value.okWide, Try.underlying34] at hv0
  obtain ⟨cs, rfl, hsz, _⟩ := hv0
  have hcl : Try.prog.cellsOf 34 = 2 := by kernel_rfl
  rw [hcl] at hsz
  obtain ⟨c0, c1, rfl⟩ := two_cells hsz
  clear hA0 hval0
  refine (evQ_calls (withTrue_ok evQ_ok evQ_ok chunk_known_ran) (.cons (.agg (cs := #[c0, c1]) (.cons (.any c0) (.cons (.any c1) .nil))) .nil) (ran c0 c1) W).mono fun e W' ⟨he, hb⟩ => ?_
  subst he
  exact ⟨_, rfl, law_left (by kernel_rfl) (by kernel_rfl) (by kernel_rfl) Try.underlying4 rfl rfl hW hb⟩
theorem proved : Rows.ChunkNilSaid :=
  OpenClaim.holds_of_wide 4 Try.f4 rfl rfl rfl rfl rfl rfl rfl ⟨rfl, rfl, rfl, rfl, rfl⟩ rfl rfl rfl rfl rfl (by kernel_rfl) Try.func4 (by kernel_rfl)
    (of_decide_eq_true (by kernel_rfl)) (by unfold Func.isWrapper; first | (rw [if_pos (by decide +kernel)]; kernel_rfl) | (rw [if_neg (by decide +kernel)]; exact ⟨rfl, rfl⟩))
    (fun os started H enc _ => lifted os started H enc)
#print axioms proved
end Go.Proofs.Ytgfmdhjhknhmcaa.chunkNil
