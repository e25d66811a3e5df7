/-
  For every input ClassFits returns true, and each argument reads behind the call as it read before.
  No further condition.
-/
import Derived.Test.YtfpdkikhigffoaaRows
import Derived.Test.YtfpdkikhigffoaaMwClM
import Derived.ProofKit
import Derived.OpenShut
import Derived.ChangeOld
import Derived.SizedLaws
namespace Go.Proofs.Ytfpdkikhigffoaa
open Go Go.MW Go.ChangeShapes Go.WideShapes Go.ChangeAt Go.RowKit
set_option linter.unusedVariables false
set_option linter.unusedSimpArgs false
theorem own : ownKnob Try.prog.godebug = none := by kernel_rfl
theorem laidOut : laidOutB Try.prog = true := by kernel_rfl

set_option maxRecDepth 100000 in
theorem classFits_lifted (os : Os) (started : os.Started) (H : Type) (enc : TypeId × Value → H) :
    ReturnsInHanded {} Try.checked os 4 .any (Rows.classFitsSpec.pre6 enc Try.prog Try.f4 Rows.classFitsRow.domain false) (Rows.classFitsSpec.post enc Try.prog Try.f4 false true false false) := by
  refine returnsInHanded_of_change_sized (C := Try.checked) own started (by kernel_rfl) Try.func4
    (ChangeSpec.witness6 (enc := enc) (C := Try.checked) false ⟨#[], #[.int .i64 0], []⟩ 8 (by kernel_rfl) (by kernel_rfl) (by kernel_rfl) (by kernel_rfl)) ?_
  intro W base args ds gs before hval hW hcnd hsz _
  refine law_contract (P := Try.prog) (G := G0) (n := 5) (M := maxLen) (μ := fun _ => 0) (tb := 4) laidOut (by kernel_rfl) rfl Try.underlying4 rfl ?_ (.inl rfl) (glob0 _ _) ?_ hval hW
  · intro ds hd
    rw [Try.params4] at hd
    rcases ds with _ | ⟨a, _ | ⟨z, ds⟩⟩ <;> first | rfl | (simp at hd)
  · intro Vs hV _
    rw [Try.params4] at hV
    obtain ⟨v, rfl, h1⟩ := typ_one hV
    obtain ⟨n, rfl, _⟩ := typ_int Try.underlying3 h1
    exact fits_law n

theorem classFits_holds : Rows.ClassFitsSaid :=
  OpenClaim.holds_of_wide 4 Try.f4 rfl rfl rfl rfl rfl rfl rfl ⟨rfl, rfl, rfl, rfl, rfl⟩ rfl rfl rfl rfl rfl (by kernel_rfl) Try.func4 (by kernel_rfl)
    (of_decide_eq_true (by kernel_rfl)) (by unfold Func.isWrapper; first | (rw [if_pos (by decide +kernel)]; kernel_rfl) | (rw [if_neg (by decide +kernel)]; exact ⟨rfl, rfl⟩))
    (fun os started H enc _ => classFits_lifted os started H enc)
#print axioms classFits_holds

end Go.Proofs.Ytfpdkikhigffoaa
