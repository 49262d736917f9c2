/-
  PROVED: 'Rows.ChunkPlaysSaid': whatever is put, dropped, split and joined, in whatever order: what is told, and what samples there are, is as the document says: for every input the law returns true, and each argument reads afterwards as it read before. No condition.
-/
import Derived.Test.YtpfflibkkjjlaaaJk
import Derived.Test.YtpfflibkkjjlaaaJh
namespace Go.Proofs.Ytpfflibkkjjlaaa.chunkPlays
open Go Go.RowKit Go.ChangeShapes Go.WideShapes Go.ChangeAt
theorem own : ownKnob Try.prog.godebug = none := by kernel_rfl
set_option maxHeartbeats 2000000 in
set_option maxRecDepth 100000 in
theorem lifted (os : Os) (started : os.Started) (H : Type) (enc : TypeId × Value → H) :
    ReturnsInHanded {} Try.checked os 6 .any (Rows.chunkPlaysSpec.pre6 enc Try.prog Try.f6 Rows.chunkPlaysRow.domain false) (Rows.chunkPlaysSpec.post enc Try.prog Try.f6 false true false false) := by
  refine returnsInHanded_of_change_sized (C := Try.checked) own started (by kernel_rfl) Try.func6
    (ChangeSpec.witness6 (enc := enc) (C := Try.checked) false ⟨#[], #[.int .i64 0, .slice none 0 0], []⟩ 8 (by kernel_rfl) (by kernel_rfl) (by kernel_rfl) (by kernel_rfl)) ?_
  intro W base args ds gs before hval0 hW hcnd hsz _
  have hval : ∀ (j : Nat) t v, Try.f6.params[j]? = some t → args[j]? = some v → Value.okWide Try.prog W .any base t v := hval0
  have hW2 := hW
  obtain ⟨p, q, hA0, hV, rfl, _, _⟩ := hW2
  have hA : DataW.TrodAll enc Try.prog W 0 (fun _ => true) true Try.f6.params.toList args.toList ds p := hA0
  rw [Try.params6] at hA hval
  obtain ⟨v0, vs0, d0, ds0, p0, q0, hargs, rfl, rfl, h0, r0⟩ := trodAll_cons hA
  obtain ⟨v1, vs1, d1, ds1, p1, q1, rfl, rfl, rfl, h1, r1⟩ := trodAll_cons r0
  obtain ⟨rfl, rfl, rfl⟩ := trodAll_nil r1
  obtain rfl : args = #[v0, v1] := by cases args; simp_all
  obtain ⟨rfl, rfl⟩ := trodVars_none hV
  obtain ⟨a0, rfl, rfl, rfl, w0⟩ := open_int Try.underlying3 (hval 0 3 v0 rfl rfl) h0
  obtain ⟨X1, z1, in1, fr1, hv1, dd1, ln1⟩ := arg_ops (P := Try.prog) (d := 5) Try.underlying22 (by kernel_rfl) (by kernel_rfl) (slice_cells Try.underlying22 (hval 1 22 v1 rfl rfl)) h1
  have sz1 : X1.length ≤ 8796093022208 := sized_len2 (P := Try.prog) (t := 22) (e := 30) hsz (j := 1) rfl rfl ((by first | exact dd1.imp (fun q => by rw [q]; rfl) id | exact dd1) : X1.length = 0 ∨ _) (by kernel_rfl) (Nat.le_of_ble_eq_true (by kernel_rfl))
  clear hA0 hval0
  refine (evP_callsM (KPl_ok n_known4) (w_chunkPlays a0 X1 in1 sz1) W (HR.frs (fr1)) (.cons (.si .i64 a0) (.cons (hv1 _ fun _ h => h) .nil))).mono fun e W' ⟨he, hb⟩ => ?_
  subst he
  exact ⟨_, rfl, law_left (by kernel_rfl) (by kernel_rfl) (by kernel_rfl) Try.underlying4 rfl rfl hW hb⟩
theorem proved : Rows.ChunkPlaysSaid :=
  OpenClaim.holds_of_wide 6 Try.f6 rfl rfl rfl rfl rfl rfl rfl ⟨rfl, rfl, rfl, rfl, rfl⟩ rfl rfl rfl rfl rfl (by kernel_rfl) Try.func6 (by kernel_rfl)
    (of_decide_eq_true (by kernel_rfl)) (by unfold Func.isWrapper; first | (rw [if_pos (by decide +kernel)]; kernel_rfl) | (rw [if_neg (by decide +kernel)]; exact ⟨rfl, rfl⟩))
    (fun os started H enc _ => lifted os started H enc)
#print axioms proved
end Go.Proofs.Ytpfflibkkjjlaaa.chunkPlays
