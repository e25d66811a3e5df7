/-
  For every input TableBack returns true, and each argument reads behind the call as it read before.
  No further condition.
-/
import Derived.Test.YtgilodbgleogmaaRows
import Derived.ProofKit
import Derived.OpenShut
import Derived.ChangeOld
import Derived.SizedLaws
import Derived.Test.YtgilodbgleogmaaMwB7
namespace Go.Proofs.Ytgilodbgleogmaa
open Go Go.MW Go.ChangeShapes Go.WideShapes Go.ChangeAt Go.RowKit
set_option linter.unusedVariables false
set_option linter.unusedSimpArgs false
theorem own : ownKnob Try.prog.godebug = none := by kernel_rfl
theorem laidOut : laidOutB Try.prog = true := by kernel_rfl

set_option maxRecDepth 100000 in
theorem tableBack_lifted (os : Os) (started : os.Started) (H : Type) (enc : TypeId × Value → H) :
    ReturnsInHanded {} Try.checked os 4 .any (Rows.tableBackSpec.pre6 enc Try.prog Try.f4 Rows.tableBackRow.domain false) (Rows.tableBackSpec.post enc Try.prog Try.f4 false true false false) := by
  refine returnsInHanded_of_change_sized (C := Try.checked) own started (by kernel_rfl) Try.func4
    (ChangeSpec.witness6 (enc := enc) (C := Try.checked) false ⟨#[], #[.slice none 0 0, .string ⟨#[]⟩, .int .i64 0, .string ⟨#[]⟩], []⟩ 8 (by kernel_rfl) (by kernel_rfl) (by kernel_rfl) (by kernel_rfl)) ?_
  intro W base args ds gs before hval hW hcnd hsz _
  refine law_contract (P := Try.prog) (G := G0) (n := 6) (M := maxLen) (μ := fun _ => 0) (tb := 4) laidOut (by kernel_rfl) rfl Try.underlying4 rfl ?_ (.inl rfl) (glob0 _ _) ?_ hval hW
  · intro ds hd
    rw [Try.params4] at hd
    rcases ds with _ | ⟨a, _ | ⟨b, _ | ⟨c, _ | ⟨d, _ | ⟨z, ds⟩⟩⟩⟩⟩ <;> first | rfl | (simp at hd)
  · intro Vs hV _
    rw [Try.params4] at hV
    obtain ⟨v, x, y, z, rfl, h1, h2, h3, h4⟩ := typ_four hV
    obtain ⟨l, il, hl⟩ := typ_steps h1
    obtain ⟨k, rfl, _⟩ := typ_string h2
    obtain ⟨c, rfl, _⟩ := typ_int Try.underlying3 h3
    obtain ⟨q, rfl, _⟩ := typ_string h4
    exact back_fn il hl k c q

theorem tableBack_holds : Rows.TableBackSaid :=
  OpenClaim.holds_of_wide 4 Try.f4 rfl rfl rfl rfl rfl rfl rfl ⟨rfl, rfl, rfl, rfl, rfl⟩ rfl rfl rfl rfl rfl (by kernel_rfl) Try.func4 (by kernel_rfl)
    (of_decide_eq_true (by kernel_rfl)) (by unfold Func.isWrapper; first | (rw [if_pos (by decide +kernel)]; kernel_rfl) | (rw [if_neg (by decide +kernel)]; exact ⟨rfl, rfl⟩))
    (fun os started H enc _ => tableBack_lifted os started H enc)
#print axioms tableBack_holds

end Go.Proofs.Ytgilodbgleogmaa
