/- The statement BareissRecurrence holds of every input. -/
import Derived.Test.YtjpknabdmmkobaaY1
set_option linter.unusedVariables false
set_option linter.unusedSimpArgs false
section
open Go Go.QM Go.RowKit Go.ChangeShapes
namespace Go.Proofs.Ytjpknabdmmkobaa
set_option maxRecDepth 100000 in
theorem bareissRecurrence_lifted (os : Os) (started : os.Started) (H : Type) (enc : TypeId × Value → H) :
  ReturnsInHanded {} Try.checked os 4 .any (Rows.bareissRecurrenceSpec.pre6 enc Try.prog Try.f4 Rows.bareissRecurrenceRow.domain false) (Rows.bareissRecurrenceSpec.post enc Try.prog Try.f4 false true false false) := by
 refine returnsInHanded_of_change_shaped (C := Try.checked) own started (by kernel_rfl) Try.func4
  (ChangeSpec.witness6 (enc := enc) (C := Try.checked) false ⟨#[], #[.agg #[.int .u8 0, .int .u8 0, .slice none 0 0]], []⟩ 8 (by kernel_rfl) (by kernel_rfl) (by kernel_rfl) (by kernel_rfl)) ?_
 intro W base args ds gs before hval0 hW _ hwt0 _ _
 have hval : ∀ (j : Nat) t v, Try.f4.params[j]? = some t → args[j]? = some v → Value.okWide Try.prog W .any base t v := hval0
 have hwt : (DataW.weightsEach Try.prog (Try.f4.params.toList ++ Rows.bareissRecurrenceSpec.plain.varTypes Try.prog) (ds ++ gs)).all (· ≤ reachBytes) = true := hwt0
 have hW' := hW
 obtain ⟨p, q, hA0, hV, rfl, hfz, hnd⟩ := hW
 have hA : DataW.TrodAll enc Try.prog W 0 (fun _ => true) true Try.f4.params.toList args.toList ds p := hA0
 rw [Try.params4] at hA hval hwt
 obtain ⟨v0, vs0, d0, ds0, p0, q0, hargs, rfl, rfl, h0, r0⟩ := trodAll_cons hA
 obtain ⟨rfl, rfl, rfl⟩ := trodAll_nil r0
 obtain rfl : args = #[v0] := by cases args; simp_all
 obtain ⟨rfl, rfl⟩ := trodVars_none hV
 simp only [List.all_eq_true, decide_eq_true_eq] at hwt
 obtain ⟨f0, hf0⟩ := u_struct k_quadformmake_Grid
 obtain ⟨a0, o0, x0⟩ := arg_struct (rd_grid W) gridC_one (cells_struct hf0 (hval 0 _ v0 rfl rfl)) h0 (fun x hx => hwt x (weights_each (ts := []) (i := 0) rfl rfl x hx))
 refine (calls_of_runs cfg_ok mixed noGl (VRL.cons x0 (VRL.nil _)) (BareissRecurrence_runs a0 o0)).mono fun e W' ⟨he, hB⟩ => ⟨_, he, ?_⟩
 refine post_true (tb := 4) laidOut ?_ rfl (by kernel_rfl) u_bool hW' rfl hB
 intro t ht
 have ht2 : t ∈ Try.f4.params.toList := ht
 rw [Try.params4] at ht2
 simp only [List.mem_cons, List.not_mem_nil, or_false] at ht2
 rcases ht2 with rfl <;> exact ⟨by kernel_rfl, of_decide_eq_true (by kernel_rfl)⟩
theorem bareissRecurrence_holds : Rows.BareissRecurrenceSaid :=
 OpenClaim.holds_of_wide 4 Try.f4 rfl rfl rfl rfl rfl rfl rfl ⟨rfl, rfl, rfl, rfl, rfl⟩ rfl rfl rfl rfl rfl (by kernel_rfl) Try.func4 (by kernel_rfl)
  (of_decide_eq_true (by kernel_rfl)) (by unfold Func.isWrapper; first | (rw [if_pos (by decide +kernel)]; kernel_rfl) | (rw [if_neg (by decide +kernel)]; exact ⟨rfl, rfl⟩))
  (fun os started H enc _ => bareissRecurrence_lifted os started H enc)
end Go.Proofs.Ytjpknabdmmkobaa
end
#print axioms Go.Proofs.Ytjpknabdmmkobaa.bareissRecurrence_holds
