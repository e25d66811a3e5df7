/-
  For every input TableTurns returns true, and each argument reads behind the call as it read before.
  No further condition.
-/
import Derived.Test.YtgilodbgleogmaaRows
import Derived.ProofKit
import Derived.OpenShut
import Derived.ChangeOld
import Derived.SizedLaws
import Derived.Test.YtgilodbgleogmaaMwB7
namespace Go.Proofs.Ytgilodbgleogmaa
open Go Go.MW Go.ChangeShapes Go.WideShapes Go.ChangeAt Go.RowKit
set_option linter.unusedVariables false
set_option linter.unusedSimpArgs false
theorem own : ownKnob Try.prog.godebug = none := by kernel_rfl
theorem laidOut : laidOutB Try.prog = true := by kernel_rfl

set_option maxRecDepth 100000 in
theorem tableTurns_lifted (os : Os) (started : os.Started) (H : Type) (enc : TypeId × Value → H) :
    ReturnsInHanded {} Try.checked os 7 .any (Rows.tableTurnsSpec.pre6 enc Try.prog Try.f7 Rows.tableTurnsRow.domain false) (Rows.tableTurnsSpec.post enc Try.prog Try.f7 false true false false) := by
  refine returnsInHanded_of_change_sized (C := Try.checked) own started (by kernel_rfl) Try.func7
    (ChangeSpec.witness6 (enc := enc) (C := Try.checked) false ⟨#[], #[.slice none 0 0, .int .u8 0, .string ⟨#[]⟩], []⟩ 8 (by kernel_rfl) (by kernel_rfl) (by kernel_rfl) (by kernel_rfl)) ?_
  intro W base args ds gs before hval hW hcnd hsz _
  refine law_contract (P := Try.prog) (G := G0) (n := 6) (M := maxLen) (μ := fun _ => 0) (tb := 4) laidOut (by kernel_rfl) rfl Try.underlying4 rfl ?_ (.inl rfl) (glob0 _ _) ?_ hval hW
  · intro ds hd
    rw [Try.params7] at hd
    rcases ds with _ | ⟨a, _ | ⟨b, _ | ⟨c, _ | ⟨z, ds⟩⟩⟩⟩ <;> first | rfl | (simp at hd)
  · intro Vs hV _
    rw [Try.params7] at hV
    obtain ⟨v, x, y, rfl, h1, h2, h3⟩ := typ_three hV
    obtain ⟨l, il, hl⟩ := typ_strs h1
    obtain ⟨n, rfl, hn1, hn2⟩ := typ_int Try.underlying5 h2
    obtain ⟨n', rfl, hn⟩ := u8_nat ⟨hn1, hn2⟩
    obtain ⟨q, rfl, _⟩ := typ_string h3
    exact turns_fn il hl n' hn q

theorem tableTurns_holds : Rows.TableTurnsSaid :=
  OpenClaim.holds_of_wide 7 Try.f7 rfl rfl rfl rfl rfl rfl rfl ⟨rfl, rfl, rfl, rfl, rfl⟩ rfl rfl rfl rfl rfl (by kernel_rfl) Try.func7 (by kernel_rfl)
    (of_decide_eq_true (by kernel_rfl)) (by unfold Func.isWrapper; first | (rw [if_pos (by decide +kernel)]; kernel_rfl) | (rw [if_neg (by decide +kernel)]; exact ⟨rfl, rfl⟩))
    (fun os started H enc _ => tableTurns_lifted os started H enc)
#print axioms tableTurns_holds

end Go.Proofs.Ytgilodbgleogmaa
