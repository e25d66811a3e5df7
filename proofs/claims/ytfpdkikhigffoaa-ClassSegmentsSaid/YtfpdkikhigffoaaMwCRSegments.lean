/-
  For every input ClassSegments returns true, and each argument reads behind the call as it read before.
  No further condition.
-/
import Derived.Test.YtfpdkikhigffoaaRows
import Derived.Test.YtfpdkikhigffoaaMwClM
import Derived.ProofKit
import Derived.OpenShut
import Derived.ChangeOld
import Derived.SizedLaws
namespace Go.Proofs.Ytfpdkikhigffoaa
open Go Go.MW Go.ChangeShapes Go.WideShapes Go.ChangeAt Go.RowKit
set_option linter.unusedVariables false
set_option linter.unusedSimpArgs false
theorem own : ownKnob Try.prog.godebug = none := by kernel_rfl
theorem laidOut : laidOutB Try.prog = true := by kernel_rfl

set_option maxRecDepth 100000 in
theorem classSegments_lifted (os : Os) (started : os.Started) (H : Type) (enc : TypeId × Value → H) :
    ReturnsInHanded {} Try.checked os 7 .any (Rows.classSegmentsSpec.pre6 enc Try.prog Try.f7 Rows.classSegmentsRow.domain false) (Rows.classSegmentsSpec.post enc Try.prog Try.f7 false true false false) := by
  refine returnsInHanded_of_change_sized (C := Try.checked) own started (by kernel_rfl) Try.func7
    (ChangeSpec.witness6 (enc := enc) (C := Try.checked) false ⟨#[], #[.int .u8 0, .slice none 0 0, .slice none 0 0], []⟩ 8 (by kernel_rfl) (by kernel_rfl) (by kernel_rfl) (by kernel_rfl)) ?_
  intro W base args ds gs before hval hW hcnd hsz _
  refine law_contract (P := Try.prog) (G := G0) (n := 5) (M := maxLen) (μ := fun _ => 0) (tb := 4) laidOut (by kernel_rfl) rfl Try.underlying4 rfl ?_ (.inl rfl) (glob0 _ _) ?_ hval hW
  · intro ds hd
    rw [Try.params7] at hd
    rcases ds with _ | ⟨a, _ | ⟨b, _ | ⟨c, _ | ⟨z, ds⟩⟩⟩⟩ <;> first | rfl | (simp at hd)
  · intro Vs hV _
    rw [Try.params7] at hV
    obtain ⟨v, x, y, rfl, h1, h2, h3⟩ := typ_three hV
    obtain ⟨c, rfl, h4⟩ := typ_int Try.underlying5 h1
    obtain ⟨l, hl, _⟩ := typ_ints Try.underlying22 Try.underlying3 h2
    obtain ⟨m, hm, _⟩ := typ_ints Try.underlying22 Try.underlying3 h3
    exact segments_law c h4 hl hm

theorem classSegments_holds : Rows.ClassSegmentsSaid :=
  OpenClaim.holds_of_wide 7 Try.f7 rfl rfl rfl rfl rfl rfl rfl ⟨rfl, rfl, rfl, rfl, rfl⟩ rfl rfl rfl rfl rfl (by kernel_rfl) Try.func7 (by kernel_rfl)
    (of_decide_eq_true (by kernel_rfl)) (by unfold Func.isWrapper; first | (rw [if_pos (by decide +kernel)]; kernel_rfl) | (rw [if_neg (by decide +kernel)]; exact ⟨rfl, rfl⟩))
    (fun os started H enc _ => classSegments_lifted os started H enc)
#print axioms classSegments_holds

end Go.Proofs.Ytfpdkikhigffoaa
