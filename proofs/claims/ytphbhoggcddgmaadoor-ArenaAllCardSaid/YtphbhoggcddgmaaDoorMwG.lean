/- Arena: the listed variable; the door; the arguments' types. -/
import Derived.Test.YtphbhoggcddgmaaDoorRows
import Derived.Test.YtphbhoggcddgmaaDoorMwTyp
import Derived.Test.YtphbhoggcddgmaaDoorMwC
import Derived.ProofKit
import Derived.LaidMore
import Derived.OpenShut
import Derived.Stop.Joined
namespace Go.Proofs.YtphbhoggcddgmaaDoor
open Go Go.MW Go.ChangeShapes Go.WideShapes Go.ChangeAt Go.RowKit
set_option linter.unusedVariables false
set_option linter.unusedSimpArgs false
theorem own : ownKnob Tryd.prog.godebug = none := by kernel_rfl
theorem laidOut : laidOutB Tryd.prog = true := by kernel_rfl
theorem gTab : Tryd.prog.globalNamed "math/bits.deBruijn64tab" = some 0 := by kernel_rfl
theorem tTab : (Tryd.prog.globals[0]?).map (·.type) = some 59 := by kernel_rfl
abbrev laids : List (String × DataW Unit) := [("math/bits.deBruijn64tab", Rows.laid_math_bits_deBruijn64tab)]

/-- The door's own heap meets the condition. -/
theorem door_met (os : Os) (args : Array Value) : laidMetH Tryd.prog laids ((World.doorLaid Tryd.prog 400 os).forCall (fun _ _ => 0) ⟨#[], args, []⟩).memory :=
  laidMetH_of_parts3 (fuel := 8) (laidMet_of_run' 8 (by kernel_rfl) (by kernel_rfl)) (by kernel_rfl) (by kernel_rfl)

theorem of_laid {W : World} (h : laidMetH Tryd.prog laids W) : GlobOK G0 (fun r => r < W.heap.size) W := by
  rw [MakeChecks.laidMetH_plain _ _ _ (by kernel_rfl)] at h
  obtain ⟨ps, ⟨g0, t0, cs0, f0, p0, q0, hg0, ht0, hv0, hd0, _, _⟩, _, _⟩ := h
  obtain rfl := Option.some.inj (gTab.symm.trans hg0)
  obtain rfl := Option.some.inj (tTab.symm.trans ht0)
  have hd : (Rows.laid_math_bits_deBruijn64tab : DataW Unit) = .agg ((Lib.deBruijn64tab.map fun (n : Nat) => (n : Int)).map fun v => .lit (.int .u8 v)) := rfl
  rw [hd] at hd0
  obtain ⟨h1, h2⟩ := glob_ints (e := 5) (k := .u8) (n := 64) gTab hv0 Tryd.underlying59 Tryd.underlying5 (by kernel_rfl) hd0
  intro g cs hg
  by_cases e : g = 0
  · subst e
    obtain rfl : Lib.deBruijn64tab.map (fun (n : Nat) => V.int .u8 n) = cs := by simpa [G0] using hg
    refine ⟨h1, fun j => .int .u8 ((Lib.deBruijn64tab.map fun (n : Nat) => (n : Int)).getD j 0), fun j hj => h2 j (by simpa using hj), fun j hj => ?_⟩
    have : (Lib.deBruijn64tab.map fun (n : Nat) => V.int .u8 n).getD j .junk = .int .u8 ((Lib.deBruijn64tab.map fun (n : Nat) => (n : Int)).getD j 0) := by
      have hj : j < Lib.deBruijn64tab.length := by simpa using hj
      simp [List.getD_eq_getElem?_getD, hj]
    rw [this]
    exact .int _ _
  · simp [G0, e] at hg

end Go.Proofs.YtphbhoggcddgmaaDoor
