/-
  For every input ThingHome returns true, and each argument reads behind the call as it read before.
  No further condition.
-/
import Derived.Test.YtoopcfgmffpogaaRows
import Derived.ProofKit
import Derived.OpenShut
import Derived.ChangeOld
import Derived.SizedLaws
import Derived.Test.YtoopcfgmffpogaaMwB7
namespace Go.Proofs.Ytoopcfgmffpogaa
open Go Go.MW Go.ChangeShapes Go.WideShapes Go.ChangeAt Go.RowKit
set_option linter.unusedVariables false
set_option linter.unusedSimpArgs false
theorem own : ownKnob Try.prog.godebug = none := by kernel_rfl
theorem laidOut : laidOutB Try.prog = true := by kernel_rfl

set_option maxRecDepth 100000 in
theorem thingHome_lifted (os : Os) (started : os.Started) (H : Type) (enc : TypeId × Value → H) :
    ReturnsInHanded {} Try.checked os 13 .any (Rows.thingHomeSpec.pre6 enc Try.prog Try.f13 Rows.thingHomeRow.domain false) (Rows.thingHomeSpec.post enc Try.prog Try.f13 false true false false) := by
  refine returnsInHanded_of_change_sized (C := Try.checked) own started (by kernel_rfl) Try.func13
    (ChangeSpec.witness6 (enc := enc) (C := Try.checked) false ⟨#[], #[.string ⟨#[]⟩, .int .i64 0, .int .u8 0], []⟩ 8 (by kernel_rfl) (by kernel_rfl) (by kernel_rfl) (by kernel_rfl)) ?_
  intro W base args ds gs before hval hW hcnd hsz _
  refine law_contract (P := Try.prog) (G := G0) (n := 6) (M := maxLen) (μ := fun _ => 0) (tb := 4) laidOut (by kernel_rfl) rfl Try.underlying4 rfl ?_ (.inl rfl) (glob0 _ _) ?_ hval hW
  · intro ds hd
    rw [Try.params13] at hd
    rcases ds with _ | ⟨a, _ | ⟨b, _ | ⟨c, _ | ⟨z, ds⟩⟩⟩⟩ <;> first | rfl | (simp at hd)
  · intro Vs hV _
    rw [Try.params13] at hV
    obtain ⟨v, x, y, rfl, h1, h2, h3⟩ := typ_three hV
    obtain ⟨k, rfl, _⟩ := typ_string h1
    obtain ⟨n, rfl, _, hn2⟩ := typ_int Try.underlying3 h2
    obtain ⟨c, rfl, hc1, hc2⟩ := typ_int Try.underlying5 h3
    obtain ⟨c', rfl, hc⟩ := u8_nat ⟨hc1, hc2⟩
    exact home_law k n hn2 c' hc

theorem thingHome_holds : Rows.ThingHomeSaid :=
  OpenClaim.holds_of_wide 13 Try.f13 rfl rfl rfl rfl rfl rfl rfl ⟨rfl, rfl, rfl, rfl, rfl⟩ rfl rfl rfl rfl rfl (by kernel_rfl) Try.func13 (by kernel_rfl)
    (of_decide_eq_true (by kernel_rfl)) (by unfold Func.isWrapper; first | (rw [if_pos (by decide +kernel)]; kernel_rfl) | (rw [if_neg (by decide +kernel)]; exact ⟨rfl, rfl⟩))
    (fun os started H enc _ => thingHome_lifted os started H enc)
#print axioms thingHome_holds

end Go.Proofs.Ytoopcfgmffpogaa
