/-
  For every input ThingFew returns true, and each argument reads behind the call as it read before.
  No further condition.
-/
import Derived.Test.YtoopcfgmffpogaaRows
import Derived.ProofKit
import Derived.OpenShut
import Derived.ChangeOld
import Derived.SizedLaws
import Derived.Test.YtoopcfgmffpogaaMwB7
namespace Go.Proofs.Ytoopcfgmffpogaa
open Go Go.MW Go.ChangeShapes Go.WideShapes Go.ChangeAt Go.RowKit
set_option linter.unusedVariables false
set_option linter.unusedSimpArgs false
theorem own : ownKnob Try.prog.godebug = none := by kernel_rfl
theorem laidOut : laidOutB Try.prog = true := by kernel_rfl

set_option maxRecDepth 100000 in
theorem thingFew_lifted (os : Os) (started : os.Started) (H : Type) (enc : TypeId × Value → H) :
    ReturnsInHanded {} Try.checked os 11 .any (Rows.thingFewSpec.pre6 enc Try.prog Try.f11 Rows.thingFewRow.domain false) (Rows.thingFewSpec.post enc Try.prog Try.f11 false true false false) := by
  refine returnsInHanded_of_change_sized (C := Try.checked) own started (by kernel_rfl) Try.func11
    (ChangeSpec.witness6 (enc := enc) (C := Try.checked) false ⟨#[], #[.slice none 0 0], []⟩ 8 (by kernel_rfl) (by kernel_rfl) (by kernel_rfl) (by kernel_rfl)) ?_
  intro W base args ds gs before hval hW hcnd hsz _
  refine law_contract (P := Try.prog) (G := G0) (n := 6) (M := maxLen) (μ := fun _ => 0) (tb := 4) laidOut (by kernel_rfl) rfl Try.underlying4 rfl ?_ (.inl rfl) (glob0 _ _) ?_ hval hW
  · intro ds hd
    rw [Try.params11] at hd
    rcases ds with _ | ⟨a, _ | ⟨z, ds⟩⟩ <;> first | rfl | (simp at hd)
  · intro Vs hV _
    rw [Try.params11] at hV
    obtain ⟨v, rfl, h1⟩ := typ_one hV
    obtain ⟨l, il, hl⟩ := typ_strs h1
    exact few_law il hl

theorem thingFew_holds : Rows.ThingFewSaid :=
  OpenClaim.holds_of_wide 11 Try.f11 rfl rfl rfl rfl rfl rfl rfl ⟨rfl, rfl, rfl, rfl, rfl⟩ rfl rfl rfl rfl rfl (by kernel_rfl) Try.func11 (by kernel_rfl)
    (of_decide_eq_true (by kernel_rfl)) (by unfold Func.isWrapper; first | (rw [if_pos (by decide +kernel)]; kernel_rfl) | (rw [if_neg (by decide +kernel)]; exact ⟨rfl, rfl⟩))
    (fun os started H enc _ => thingFew_lifted os started H enc)
#print axioms thingFew_holds

end Go.Proofs.Ytoopcfgmffpogaa
