/- Class: what the laws do. -/
import Derived.Test.YtfpdkikhigffoaaMwClF
namespace Go.Proofs.Ytfpdkikhigffoaa
open Go Go.MW
set_option linter.unusedSimpArgs false
set_option linter.unusedVariables false

theorem awake_fn : Does Try.prog G0 false 8 [] (.bool true) := by
  refine Does.intro mixed comp8 ?_
  unfold c8
  have hc : cut 150 = [3, 3, 2] := by decide
  have hr : room [3, 3, 2] = 160 := by decide
  have hb0 : byts 0 = 8 := by decide
  have hb3 : byts 3 = 64 := by decide
  have hb4 : byts 4 = 0 := by decide
  have hs0 : slts 0 = 64 := by decide
  have hs3 : slts 3 = 8 := by decide
  have hs1 : slts (-1) = 0 := by decide
  have hf9 : fit 9 = 1 := by decide
  have hf65 : fit 65 = -1 := by decide
  have hf0 : fit 0 = -1 := by decide
  simp -implicitDefEqProofs (disch := omega) only [mwx, ne_eq, false_implies, implies_true, forall_eq_or_imp, MW.get, ev, evs, argFr, resV, slHK, partsV, partsS, setR, Nat.reduceLeDiff, reduceIte, Nat.reduceEqDiff, Nat.reduceBEq, reduceCtorEq, Nat.reduceAdd, Nat.reduceMul, Nat.reduceSub, Nat.reduceLT, Int.reduceToNat, Int.reduceLT, Int.reduceLE, Int.reduceEq, Int.reduceAdd, Int.reduceNeg, Int.reduceMul, Int.reduceSub]
  refine Does.call (cut_fn 150 (by omega)) (fr1 (.int _ _)) ?_
  simp -implicitDefEqProofs (disch := omega) only [hc, mwx, ne_eq, false_implies, implies_true, forall_eq_or_imp, MW.get, ev, evs, argFr, resV, slHK, partsV, partsS, setR, Nat.reduceLeDiff, reduceIte, Nat.reduceEqDiff, Nat.reduceBEq, reduceCtorEq, Nat.reduceAdd, Nat.reduceMul, Nat.reduceSub, Nat.reduceLT, Int.reduceToNat, Int.reduceLT, Int.reduceLE, Int.reduceEq, Int.reduceAdd, Int.reduceNeg, Int.reduceMul, Int.reduceSub]
  refine Does.call (cut_bad 0 (by omega)) (fr1 (.int _ _)) ?_
  simp -implicitDefEqProofs (disch := omega) only [mwx, ne_eq, false_implies, implies_true, forall_eq_or_imp, MW.get, ev, evs, argFr, resV, slHK, partsV, partsS, setR, Nat.reduceLeDiff, reduceIte, Nat.reduceEqDiff, Nat.reduceBEq, reduceCtorEq, Nat.reduceAdd, Nat.reduceMul, Nat.reduceSub, Nat.reduceLT, Int.reduceToNat, Int.reduceLT, Int.reduceLE, Int.reduceEq, Int.reduceAdd, Int.reduceNeg, Int.reduceMul, Int.reduceSub]
  refine Does.call (cut_bad 4097 (by omega)) (fr1 (.int _ _)) ?_
  simp -implicitDefEqProofs (disch := omega) only [mwx, ne_eq, false_implies, implies_true, forall_eq_or_imp, MW.get, ev, evs, argFr, resV, slHK, partsV, partsS, setR, Nat.reduceLeDiff, reduceIte, Nat.reduceEqDiff, Nat.reduceBEq, reduceCtorEq, Nat.reduceAdd, Nat.reduceMul, Nat.reduceSub, Nat.reduceLT, Int.reduceToNat, Int.reduceLT, Int.reduceLE, Int.reduceEq, Int.reduceAdd, Int.reduceNeg, Int.reduceMul, Int.reduceSub]
  refine Does.callB (same_ref (isI_vs [3, 3, 2]) (isI_vs [3, 3, 2]) (by decide)) (frzs2 (.free (free_ints _)) (frz_row (l := [3, 3, 2]) rfl rfl rfl)) ?_
  simp -implicitDefEqProofs (disch := omega) only [mwx, ne_eq, false_implies, implies_true, forall_eq_or_imp, MW.get, ev, evs, argFr, resV, slHK, partsV, partsS, setR, Nat.reduceLeDiff, reduceIte, Nat.reduceEqDiff, Nat.reduceBEq, reduceCtorEq, Nat.reduceAdd, Nat.reduceMul, Nat.reduceSub, Nat.reduceLT, Int.reduceToNat, Int.reduceLT, Int.reduceLE, Int.reduceEq, Int.reduceAdd, Int.reduceNeg, Int.reduceMul, Int.reduceSub]
  refine Does.call (room_fn (isI_vs [3, 3, 2]) (by decide)) (fr1 (free_ints _)) ?_
  simp -implicitDefEqProofs (disch := omega) only [hr, mwx, ne_eq, false_implies, implies_true, forall_eq_or_imp, MW.get, ev, evs, argFr, resV, slHK, partsV, partsS, setR, Nat.reduceLeDiff, reduceIte, Nat.reduceEqDiff, Nat.reduceBEq, reduceCtorEq, Nat.reduceAdd, Nat.reduceMul, Nat.reduceSub, Nat.reduceLT, Int.reduceToNat, Int.reduceLT, Int.reduceLE, Int.reduceEq, Int.reduceAdd, Int.reduceNeg, Int.reduceMul, Int.reduceSub]
  refine Does.call (bytes_fn 0) (fr1 (.int _ _)) ?_
  simp -implicitDefEqProofs (disch := omega) only [hb0, mwx, ne_eq, false_implies, implies_true, forall_eq_or_imp, MW.get, ev, evs, argFr, resV, slHK, partsV, partsS, setR, Nat.reduceLeDiff, reduceIte, Nat.reduceEqDiff, Nat.reduceBEq, reduceCtorEq, Nat.reduceAdd, Nat.reduceMul, Nat.reduceSub, Nat.reduceLT, Int.reduceToNat, Int.reduceLT, Int.reduceLE, Int.reduceEq, Int.reduceAdd, Int.reduceNeg, Int.reduceMul, Int.reduceSub]
  refine Does.call (bytes_fn 3) (fr1 (.int _ _)) ?_
  simp -implicitDefEqProofs (disch := omega) only [hb3, mwx, ne_eq, false_implies, implies_true, forall_eq_or_imp, MW.get, ev, evs, argFr, resV, slHK, partsV, partsS, setR, Nat.reduceLeDiff, reduceIte, Nat.reduceEqDiff, Nat.reduceBEq, reduceCtorEq, Nat.reduceAdd, Nat.reduceMul, Nat.reduceSub, Nat.reduceLT, Int.reduceToNat, Int.reduceLT, Int.reduceLE, Int.reduceEq, Int.reduceAdd, Int.reduceNeg, Int.reduceMul, Int.reduceSub]
  refine Does.call (bytes_fn 4) (fr1 (.int _ _)) ?_
  simp -implicitDefEqProofs (disch := omega) only [hb4, mwx, ne_eq, false_implies, implies_true, forall_eq_or_imp, MW.get, ev, evs, argFr, resV, slHK, partsV, partsS, setR, Nat.reduceLeDiff, reduceIte, Nat.reduceEqDiff, Nat.reduceBEq, reduceCtorEq, Nat.reduceAdd, Nat.reduceMul, Nat.reduceSub, Nat.reduceLT, Int.reduceToNat, Int.reduceLT, Int.reduceLE, Int.reduceEq, Int.reduceAdd, Int.reduceNeg, Int.reduceMul, Int.reduceSub]
  refine Does.call (slots_fn 0) (fr1 (.int _ _)) ?_
  simp -implicitDefEqProofs (disch := omega) only [hs0, mwx, ne_eq, false_implies, implies_true, forall_eq_or_imp, MW.get, ev, evs, argFr, resV, slHK, partsV, partsS, setR, Nat.reduceLeDiff, reduceIte, Nat.reduceEqDiff, Nat.reduceBEq, reduceCtorEq, Nat.reduceAdd, Nat.reduceMul, Nat.reduceSub, Nat.reduceLT, Int.reduceToNat, Int.reduceLT, Int.reduceLE, Int.reduceEq, Int.reduceAdd, Int.reduceNeg, Int.reduceMul, Int.reduceSub]
  refine Does.call (slots_fn 3) (fr1 (.int _ _)) ?_
  simp -implicitDefEqProofs (disch := omega) only [hs3, mwx, ne_eq, false_implies, implies_true, forall_eq_or_imp, MW.get, ev, evs, argFr, resV, slHK, partsV, partsS, setR, Nat.reduceLeDiff, reduceIte, Nat.reduceEqDiff, Nat.reduceBEq, reduceCtorEq, Nat.reduceAdd, Nat.reduceMul, Nat.reduceSub, Nat.reduceLT, Int.reduceToNat, Int.reduceLT, Int.reduceLE, Int.reduceEq, Int.reduceAdd, Int.reduceNeg, Int.reduceMul, Int.reduceSub]
  refine Does.call (slots_fn (-1)) (fr1 (.int _ _)) ?_
  simp -implicitDefEqProofs (disch := omega) only [hs1, mwx, ne_eq, false_implies, implies_true, forall_eq_or_imp, MW.get, ev, evs, argFr, resV, slHK, partsV, partsS, setR, Nat.reduceLeDiff, reduceIte, Nat.reduceEqDiff, Nat.reduceBEq, reduceCtorEq, Nat.reduceAdd, Nat.reduceMul, Nat.reduceSub, Nat.reduceLT, Int.reduceToNat, Int.reduceLT, Int.reduceLE, Int.reduceEq, Int.reduceAdd, Int.reduceNeg, Int.reduceMul, Int.reduceSub]
  refine Does.call (fit_fn 9) (fr1 (.int _ _)) ?_
  simp -implicitDefEqProofs (disch := omega) only [hf9, mwx, ne_eq, false_implies, implies_true, forall_eq_or_imp, MW.get, ev, evs, argFr, resV, slHK, partsV, partsS, setR, Nat.reduceLeDiff, reduceIte, Nat.reduceEqDiff, Nat.reduceBEq, reduceCtorEq, Nat.reduceAdd, Nat.reduceMul, Nat.reduceSub, Nat.reduceLT, Int.reduceToNat, Int.reduceLT, Int.reduceLE, Int.reduceEq, Int.reduceAdd, Int.reduceNeg, Int.reduceMul, Int.reduceSub]
  refine Does.call (fit_fn 65) (fr1 (.int _ _)) ?_
  simp -implicitDefEqProofs (disch := omega) only [hf65, mwx, ne_eq, false_implies, implies_true, forall_eq_or_imp, MW.get, ev, evs, argFr, resV, slHK, partsV, partsS, setR, Nat.reduceLeDiff, reduceIte, Nat.reduceEqDiff, Nat.reduceBEq, reduceCtorEq, Nat.reduceAdd, Nat.reduceMul, Nat.reduceSub, Nat.reduceLT, Int.reduceToNat, Int.reduceLT, Int.reduceLE, Int.reduceEq, Int.reduceAdd, Int.reduceNeg, Int.reduceMul, Int.reduceSub]
  refine Does.call (fit_fn 0) (fr1 (.int _ _)) ?_
  simp -implicitDefEqProofs (disch := omega) only [hf0, mwx, ne_eq, false_implies, implies_true, forall_eq_or_imp, MW.get, ev, evs, argFr, resV, slHK, partsV, partsS, setR, Nat.reduceLeDiff, reduceIte, Nat.reduceEqDiff, Nat.reduceBEq, reduceCtorEq, Nat.reduceAdd, Nat.reduceMul, Nat.reduceSub, Nat.reduceLT, Int.reduceToNat, Int.reduceLT, Int.reduceLE, Int.reduceEq, Int.reduceAdd, Int.reduceNeg, Int.reduceMul, Int.reduceSub]
  exact frz_bool rfl

theorem tells_law (c n : Int) {v : V} {l : List Int} (hv : IsI v l) : Does Try.prog G0 true 3 [.int .i64 c, .int .i64 n, v] (.bool true) := by
  refine Does.intro mixed comp3 ?_
  unfold c3
  simp -implicitDefEqProofs (disch := omega) only [mwx, ne_eq, false_implies, implies_true, forall_eq_or_imp, MW.get, ev, evs, argFr, resV, slHK, partsV, partsS, setR, Nat.reduceLeDiff, reduceIte, Nat.reduceEqDiff, Nat.reduceBEq, reduceCtorEq, Nat.reduceAdd, Nat.reduceMul, Nat.reduceSub, Nat.reduceLT, Int.reduceToNat, Int.reduceLT, Int.reduceLE, Int.reduceEq, Int.reduceAdd, Int.reduceNeg, Int.reduceMul, Int.reduceSub]
  refine Does.call awake_fn fr0 ?_
  simp -implicitDefEqProofs (disch := omega) only [lenK_isI hv, mwx, ne_eq, false_implies, implies_true, forall_eq_or_imp, MW.get, ev, evs, argFr, resV, slHK, partsV, partsS, setR, Nat.reduceLeDiff, reduceIte, Nat.reduceEqDiff, Nat.reduceBEq, reduceCtorEq, Nat.reduceAdd, Nat.reduceMul, Nat.reduceSub, Nat.reduceLT, Int.reduceToNat, Int.reduceLT, Int.reduceLE, Int.reduceEq, Int.reduceAdd, Int.reduceNeg, Int.reduceMul, Int.reduceSub]
  refine xc_dec (fun h => ?_) fun h => ?_
  · simp -implicitDefEqProofs (disch := omega) only [mwx, ne_eq, false_implies, implies_true, forall_eq_or_imp, MW.get, ev, evs, argFr, resV, slHK, partsV, partsS, setR, Nat.reduceLeDiff, reduceIte, Nat.reduceEqDiff, Nat.reduceBEq, reduceCtorEq, Nat.reduceAdd, Nat.reduceMul, Nat.reduceSub, Nat.reduceLT, Int.reduceToNat, Int.reduceLT, Int.reduceLE, Int.reduceEq, Int.reduceAdd, Int.reduceNeg, Int.reduceMul, Int.reduceSub]
    exact frz_bool rfl
  have hl : l.length < 2 ^ 62 := by omega
  simp -implicitDefEqProofs (disch := omega) only [mwx, ne_eq, false_implies, implies_true, forall_eq_or_imp, MW.get, ev, evs, argFr, resV, slHK, partsV, partsS, setR, Nat.reduceLeDiff, reduceIte, Nat.reduceEqDiff, Nat.reduceBEq, reduceCtorEq, Nat.reduceAdd, Nat.reduceMul, Nat.reduceSub, Nat.reduceLT, Int.reduceToNat, Int.reduceLT, Int.reduceLE, Int.reduceEq, Int.reduceAdd, Int.reduceNeg, Int.reduceMul, Int.reduceSub]
  by_cases hn : 1 ≤ n ∧ n ≤ 4096
  · refine Does.call (cut_fn n hn) (fr1 (.int _ _)) ?_
    simp -implicitDefEqProofs (disch := omega) only [mwx, ne_eq, false_implies, implies_true, forall_eq_or_imp, MW.get, ev, evs, argFr, resV, slHK, partsV, partsS, setR, Nat.reduceLeDiff, reduceIte, Nat.reduceEqDiff, Nat.reduceBEq, reduceCtorEq, Nat.reduceAdd, Nat.reduceMul, Nat.reduceSub, Nat.reduceLT, Int.reduceToNat, Int.reduceLT, Int.reduceLE, Int.reduceEq, Int.reduceAdd, Int.reduceNeg, Int.reduceMul, Int.reduceSub]
    refine Does.call (cut_ref n hn) (fr1 (.int _ _)) ?_
    simp -implicitDefEqProofs (disch := omega) only [mwx, ne_eq, false_implies, implies_true, forall_eq_or_imp, MW.get, ev, evs, argFr, resV, slHK, partsV, partsS, setR, Nat.reduceLeDiff, reduceIte, Nat.reduceEqDiff, Nat.reduceBEq, reduceCtorEq, Nat.reduceAdd, Nat.reduceMul, Nat.reduceSub, Nat.reduceLT, Int.reduceToNat, Int.reduceLT, Int.reduceLE, Int.reduceEq, Int.reduceAdd, Int.reduceNeg, Int.reduceMul, Int.reduceSub]
    refine Does.call (bytes_fn c) (fr1 (.int _ _)) ?_
    simp -implicitDefEqProofs (disch := omega) only [mwx, ne_eq, false_implies, implies_true, forall_eq_or_imp, MW.get, ev, evs, argFr, resV, slHK, partsV, partsS, setR, Nat.reduceLeDiff, reduceIte, Nat.reduceEqDiff, Nat.reduceBEq, reduceCtorEq, Nat.reduceAdd, Nat.reduceMul, Nat.reduceSub, Nat.reduceLT, Int.reduceToNat, Int.reduceLT, Int.reduceLE, Int.reduceEq, Int.reduceAdd, Int.reduceNeg, Int.reduceMul, Int.reduceSub]
    refine Does.call (bytes_ref c) (fr1 (.int _ _)) ?_
    simp -implicitDefEqProofs (disch := omega) only [mwx, ne_eq, false_implies, implies_true, forall_eq_or_imp, MW.get, ev, evs, argFr, resV, slHK, partsV, partsS, setR, Nat.reduceLeDiff, reduceIte, Nat.reduceEqDiff, Nat.reduceBEq, reduceCtorEq, Nat.reduceAdd, Nat.reduceMul, Nat.reduceSub, Nat.reduceLT, Int.reduceToNat, Int.reduceLT, Int.reduceLE, Int.reduceEq, Int.reduceAdd, Int.reduceNeg, Int.reduceMul, Int.reduceSub]
    refine Does.call (slots_fn c) (fr1 (.int _ _)) ?_
    simp -implicitDefEqProofs (disch := omega) only [mwx, ne_eq, false_implies, implies_true, forall_eq_or_imp, MW.get, ev, evs, argFr, resV, slHK, partsV, partsS, setR, Nat.reduceLeDiff, reduceIte, Nat.reduceEqDiff, Nat.reduceBEq, reduceCtorEq, Nat.reduceAdd, Nat.reduceMul, Nat.reduceSub, Nat.reduceLT, Int.reduceToNat, Int.reduceLT, Int.reduceLE, Int.reduceEq, Int.reduceAdd, Int.reduceNeg, Int.reduceMul, Int.reduceSub]
    refine Does.call (slots_ref c) (fr1 (.int _ _)) ?_
    simp -implicitDefEqProofs (disch := omega) only [mwx, ne_eq, false_implies, implies_true, forall_eq_or_imp, MW.get, ev, evs, argFr, resV, slHK, partsV, partsS, setR, Nat.reduceLeDiff, reduceIte, Nat.reduceEqDiff, Nat.reduceBEq, reduceCtorEq, Nat.reduceAdd, Nat.reduceMul, Nat.reduceSub, Nat.reduceLT, Int.reduceToNat, Int.reduceLT, Int.reduceLE, Int.reduceEq, Int.reduceAdd, Int.reduceNeg, Int.reduceMul, Int.reduceSub]
    refine Does.call (fit_fn n) (fr1 (.int _ _)) ?_
    simp -implicitDefEqProofs (disch := omega) only [mwx, ne_eq, false_implies, implies_true, forall_eq_or_imp, MW.get, ev, evs, argFr, resV, slHK, partsV, partsS, setR, Nat.reduceLeDiff, reduceIte, Nat.reduceEqDiff, Nat.reduceBEq, reduceCtorEq, Nat.reduceAdd, Nat.reduceMul, Nat.reduceSub, Nat.reduceLT, Int.reduceToNat, Int.reduceLT, Int.reduceLE, Int.reduceEq, Int.reduceAdd, Int.reduceNeg, Int.reduceMul, Int.reduceSub]
    refine Does.call (fit_ref n) (fr1 (.int _ _)) ?_
    simp -implicitDefEqProofs (disch := omega) only [mwx, ne_eq, false_implies, implies_true, forall_eq_or_imp, MW.get, ev, evs, argFr, resV, slHK, partsV, partsS, setR, Nat.reduceLeDiff, reduceIte, Nat.reduceEqDiff, Nat.reduceBEq, reduceCtorEq, Nat.reduceAdd, Nat.reduceMul, Nat.reduceSub, Nat.reduceLT, Int.reduceToNat, Int.reduceLT, Int.reduceLE, Int.reduceEq, Int.reduceAdd, Int.reduceNeg, Int.reduceMul, Int.reduceSub]
    have hcl : (cut n).length < 2 ^ 62 := by
      unfold cut
      simp
      split <;> simp <;> omega
    refine Does.call (same_ref (isI_vs (cut n)) (isI_vs (cut n)) hcl) (fr2 (free_ints _) (free_ints _)) ?_
    simp -implicitDefEqProofs (disch := omega) only [mwx, ne_eq, false_implies, implies_true, forall_eq_or_imp, MW.get, ev, evs, argFr, resV, slHK, partsV, partsS, setR, Nat.reduceLeDiff, reduceIte, Nat.reduceEqDiff, Nat.reduceBEq, reduceCtorEq, Nat.reduceAdd, Nat.reduceMul, Nat.reduceSub, Nat.reduceLT, Int.reduceToNat, Int.reduceLT, Int.reduceLE, Int.reduceEq, Int.reduceAdd, Int.reduceNeg, Int.reduceMul, Int.reduceSub]
    refine Does.call (room_fn hv hl) (fr1 hv.free) ?_
    simp -implicitDefEqProofs (disch := omega) only [mwx, ne_eq, false_implies, implies_true, forall_eq_or_imp, MW.get, ev, evs, argFr, resV, slHK, partsV, partsS, setR, Nat.reduceLeDiff, reduceIte, Nat.reduceEqDiff, Nat.reduceBEq, reduceCtorEq, Nat.reduceAdd, Nat.reduceMul, Nat.reduceSub, Nat.reduceLT, Int.reduceToNat, Int.reduceLT, Int.reduceLE, Int.reduceEq, Int.reduceAdd, Int.reduceNeg, Int.reduceMul, Int.reduceSub]
    refine Does.call (room_ref hv hl) (fr1 hv.free) ?_
    simp -implicitDefEqProofs (disch := omega) only [mwx, ne_eq, false_implies, implies_true, forall_eq_or_imp, MW.get, ev, evs, argFr, resV, slHK, partsV, partsS, setR, Nat.reduceLeDiff, reduceIte, Nat.reduceEqDiff, Nat.reduceBEq, reduceCtorEq, Nat.reduceAdd, Nat.reduceMul, Nat.reduceSub, Nat.reduceLT, Int.reduceToNat, Int.reduceLT, Int.reduceLE, Int.reduceEq, Int.reduceAdd, Int.reduceNeg, Int.reduceMul, Int.reduceSub]
    exact frz_bool rfl
  · have hn' : n < 1 ∨ 4096 < n := by omega
    refine Does.call (cut_bad n hn') (fr1 (.int _ _)) ?_
    simp -implicitDefEqProofs (disch := omega) only [mwx, ne_eq, false_implies, implies_true, forall_eq_or_imp, MW.get, ev, evs, argFr, resV, slHK, partsV, partsS, setR, Nat.reduceLeDiff, reduceIte, Nat.reduceEqDiff, Nat.reduceBEq, reduceCtorEq, Nat.reduceAdd, Nat.reduceMul, Nat.reduceSub, Nat.reduceLT, Int.reduceToNat, Int.reduceLT, Int.reduceLE, Int.reduceEq, Int.reduceAdd, Int.reduceNeg, Int.reduceMul, Int.reduceSub]
    refine Does.call (cut_bad_ref n hn') (fr1 (.int _ _)) ?_
    simp -implicitDefEqProofs (disch := omega) only [mwx, ne_eq, false_implies, implies_true, forall_eq_or_imp, MW.get, ev, evs, argFr, resV, slHK, partsV, partsS, setR, Nat.reduceLeDiff, reduceIte, Nat.reduceEqDiff, Nat.reduceBEq, reduceCtorEq, Nat.reduceAdd, Nat.reduceMul, Nat.reduceSub, Nat.reduceLT, Int.reduceToNat, Int.reduceLT, Int.reduceLE, Int.reduceEq, Int.reduceAdd, Int.reduceNeg, Int.reduceMul, Int.reduceSub]
    refine Does.call (bytes_fn c) (fr1 (.int _ _)) ?_
    simp -implicitDefEqProofs (disch := omega) only [mwx, ne_eq, false_implies, implies_true, forall_eq_or_imp, MW.get, ev, evs, argFr, resV, slHK, partsV, partsS, setR, Nat.reduceLeDiff, reduceIte, Nat.reduceEqDiff, Nat.reduceBEq, reduceCtorEq, Nat.reduceAdd, Nat.reduceMul, Nat.reduceSub, Nat.reduceLT, Int.reduceToNat, Int.reduceLT, Int.reduceLE, Int.reduceEq, Int.reduceAdd, Int.reduceNeg, Int.reduceMul, Int.reduceSub]
    refine Does.call (bytes_ref c) (fr1 (.int _ _)) ?_
    simp -implicitDefEqProofs (disch := omega) only [mwx, ne_eq, false_implies, implies_true, forall_eq_or_imp, MW.get, ev, evs, argFr, resV, slHK, partsV, partsS, setR, Nat.reduceLeDiff, reduceIte, Nat.reduceEqDiff, Nat.reduceBEq, reduceCtorEq, Nat.reduceAdd, Nat.reduceMul, Nat.reduceSub, Nat.reduceLT, Int.reduceToNat, Int.reduceLT, Int.reduceLE, Int.reduceEq, Int.reduceAdd, Int.reduceNeg, Int.reduceMul, Int.reduceSub]
    refine Does.call (slots_fn c) (fr1 (.int _ _)) ?_
    simp -implicitDefEqProofs (disch := omega) only [mwx, ne_eq, false_implies, implies_true, forall_eq_or_imp, MW.get, ev, evs, argFr, resV, slHK, partsV, partsS, setR, Nat.reduceLeDiff, reduceIte, Nat.reduceEqDiff, Nat.reduceBEq, reduceCtorEq, Nat.reduceAdd, Nat.reduceMul, Nat.reduceSub, Nat.reduceLT, Int.reduceToNat, Int.reduceLT, Int.reduceLE, Int.reduceEq, Int.reduceAdd, Int.reduceNeg, Int.reduceMul, Int.reduceSub]
    refine Does.call (slots_ref c) (fr1 (.int _ _)) ?_
    simp -implicitDefEqProofs (disch := omega) only [mwx, ne_eq, false_implies, implies_true, forall_eq_or_imp, MW.get, ev, evs, argFr, resV, slHK, partsV, partsS, setR, Nat.reduceLeDiff, reduceIte, Nat.reduceEqDiff, Nat.reduceBEq, reduceCtorEq, Nat.reduceAdd, Nat.reduceMul, Nat.reduceSub, Nat.reduceLT, Int.reduceToNat, Int.reduceLT, Int.reduceLE, Int.reduceEq, Int.reduceAdd, Int.reduceNeg, Int.reduceMul, Int.reduceSub]
    refine Does.call (fit_fn n) (fr1 (.int _ _)) ?_
    simp -implicitDefEqProofs (disch := omega) only [mwx, ne_eq, false_implies, implies_true, forall_eq_or_imp, MW.get, ev, evs, argFr, resV, slHK, partsV, partsS, setR, Nat.reduceLeDiff, reduceIte, Nat.reduceEqDiff, Nat.reduceBEq, reduceCtorEq, Nat.reduceAdd, Nat.reduceMul, Nat.reduceSub, Nat.reduceLT, Int.reduceToNat, Int.reduceLT, Int.reduceLE, Int.reduceEq, Int.reduceAdd, Int.reduceNeg, Int.reduceMul, Int.reduceSub]
    refine Does.call (fit_ref n) (fr1 (.int _ _)) ?_
    simp -implicitDefEqProofs (disch := omega) only [mwx, ne_eq, false_implies, implies_true, forall_eq_or_imp, MW.get, ev, evs, argFr, resV, slHK, partsV, partsS, setR, Nat.reduceLeDiff, reduceIte, Nat.reduceEqDiff, Nat.reduceBEq, reduceCtorEq, Nat.reduceAdd, Nat.reduceMul, Nat.reduceSub, Nat.reduceLT, Int.reduceToNat, Int.reduceLT, Int.reduceLE, Int.reduceEq, Int.reduceAdd, Int.reduceNeg, Int.reduceMul, Int.reduceSub]
    refine Does.call (same_ref isI_nil isI_nil (by decide)) (fr2 .nils .nils) ?_
    simp -implicitDefEqProofs (disch := omega) only [mwx, ne_eq, false_implies, implies_true, forall_eq_or_imp, MW.get, ev, evs, argFr, resV, slHK, partsV, partsS, setR, Nat.reduceLeDiff, reduceIte, Nat.reduceEqDiff, Nat.reduceBEq, reduceCtorEq, Nat.reduceAdd, Nat.reduceMul, Nat.reduceSub, Nat.reduceLT, Int.reduceToNat, Int.reduceLT, Int.reduceLE, Int.reduceEq, Int.reduceAdd, Int.reduceNeg, Int.reduceMul, Int.reduceSub]
    refine Does.call (room_fn hv hl) (fr1 hv.free) ?_
    simp -implicitDefEqProofs (disch := omega) only [mwx, ne_eq, false_implies, implies_true, forall_eq_or_imp, MW.get, ev, evs, argFr, resV, slHK, partsV, partsS, setR, Nat.reduceLeDiff, reduceIte, Nat.reduceEqDiff, Nat.reduceBEq, reduceCtorEq, Nat.reduceAdd, Nat.reduceMul, Nat.reduceSub, Nat.reduceLT, Int.reduceToNat, Int.reduceLT, Int.reduceLE, Int.reduceEq, Int.reduceAdd, Int.reduceNeg, Int.reduceMul, Int.reduceSub]
    refine Does.call (room_ref hv hl) (fr1 hv.free) ?_
    simp -implicitDefEqProofs (disch := omega) only [mwx, ne_eq, false_implies, implies_true, forall_eq_or_imp, MW.get, ev, evs, argFr, resV, slHK, partsV, partsS, setR, Nat.reduceLeDiff, reduceIte, Nat.reduceEqDiff, Nat.reduceBEq, reduceCtorEq, Nat.reduceAdd, Nat.reduceMul, Nat.reduceSub, Nat.reduceLT, Int.reduceToNat, Int.reduceLT, Int.reduceLE, Int.reduceEq, Int.reduceAdd, Int.reduceNeg, Int.reduceMul, Int.reduceSub]
    exact frz_bool rfl

end Go.Proofs.Ytfpdkikhigffoaa
