/- The statement BareissSolution holds of every input. -/
import Derived.Test.YtjpknabdmmkobaaX1
set_option linter.unusedVariables false
set_option linter.unusedSimpArgs false
section
open Go Go.QM Go.RowKit Go.ChangeShapes
namespace Go.Proofs.Ytjpknabdmmkobaa
set_option maxRecDepth 100000 in
theorem bareissSolution_lifted (os : Os) (started : os.Started) (H : Type) (enc : TypeId × Value → H) :
  ReturnsInHanded {} Try.checked os 7 .any (Rows.bareissSolutionSpec.pre6 enc Try.prog Try.f7 Rows.bareissSolutionRow.domain false) (Rows.bareissSolutionSpec.post enc Try.prog Try.f7 false true false false) := by
 refine returnsInHanded_of_change_shaped (C := Try.checked) own started (by kernel_rfl) Try.func7
  (ChangeSpec.witness6 (enc := enc) (C := Try.checked) false ⟨#[], #[.agg #[.int .u8 0, .int .u8 0, .slice none 0 0], .slice none 0 0], []⟩ 8 (by kernel_rfl) (by kernel_rfl) (by kernel_rfl) (by kernel_rfl)) ?_
 intro W base args ds gs before hval0 hW _ hwt0 _ _
 have hval : ∀ (j : Nat) t v, Try.f7.params[j]? = some t → args[j]? = some v → Value.okWide Try.prog W .any base t v := hval0
 have hwt : (DataW.weightsEach Try.prog (Try.f7.params.toList ++ Rows.bareissSolutionSpec.plain.varTypes Try.prog) (ds ++ gs)).all (· ≤ reachBytes) = true := hwt0
 have hW' := hW
 obtain ⟨p, q, hA0, hV, rfl, hfz, hnd⟩ := hW
 have hA : DataW.TrodAll enc Try.prog W 0 (fun _ => true) true Try.f7.params.toList args.toList ds p := hA0
 rw [Try.params7] at hA hval hwt
 obtain ⟨v0, vs0, d0, ds0, p0, q0, hargs, rfl, rfl, h0, r0⟩ := trodAll_cons hA
 obtain ⟨v1, vs1, d1, ds1, p1, q1, rfl, rfl, rfl, h1, r1⟩ := trodAll_cons r0
 obtain ⟨rfl, rfl, rfl⟩ := trodAll_nil r1
 obtain rfl : args = #[v0, v1] := by cases args; simp_all
 obtain ⟨rfl, rfl⟩ := trodVars_none hV
 simp only [List.all_eq_true, decide_eq_true_eq] at hwt
 obtain ⟨f0, hf0⟩ := u_struct k_quadformmake_Grid
 obtain ⟨a0, o0, x0⟩ := arg_struct (rd_grid W) gridC_one (cells_struct hf0 (hval 0 _ v0 rfl rfl)) h0 (fun x hx => hwt x (weights_each (ts := []) (i := 0) rfl rfl x hx))
 obtain ⟨a1, o1, x1⟩ := arg_cell (rd_i8s W) (cells_slice (u_of k_Sint8) (hval 1 _ v1 rfl rfl)) h1 (fun x hx => hwt x (weights_each (ts := []) (i := 1) rfl rfl x hx))
 refine (calls_of_runs cfg_ok mixed noGl (VRL.cons x0 (VRL.cons x1 (VRL.nil _))) (BareissSolution_runs a0 o0 a1 o1)).mono fun e W' ⟨he, hB⟩ => ⟨_, he, ?_⟩
 refine post_true (tb := 4) laidOut ?_ rfl (by kernel_rfl) u_bool hW' rfl hB
 intro t ht
 have ht2 : t ∈ Try.f7.params.toList := ht
 rw [Try.params7] at ht2
 simp only [List.mem_cons, List.not_mem_nil, or_false] at ht2
 rcases ht2 with rfl | rfl <;> exact ⟨by kernel_rfl, of_decide_eq_true (by kernel_rfl)⟩
theorem bareissSolution_holds : Rows.BareissSolutionSaid :=
 OpenClaim.holds_of_wide 7 Try.f7 rfl rfl rfl rfl rfl rfl rfl ⟨rfl, rfl, rfl, rfl, rfl⟩ rfl rfl rfl rfl rfl (by kernel_rfl) Try.func7 (by kernel_rfl)
  (of_decide_eq_true (by kernel_rfl)) (by unfold Func.isWrapper; first | (rw [if_pos (by decide +kernel)]; kernel_rfl) | (rw [if_neg (by decide +kernel)]; exact ⟨rfl, rfl⟩))
  (fun os started H enc _ => bareissSolution_lifted os started H enc)
end Go.Proofs.Ytjpknabdmmkobaa
end
#print axioms Go.Proofs.Ytjpknabdmmkobaa.bareissSolution_holds
