/- Class: what the functions do. -/
import Derived.Test.YtfpdkikhigffoaaMwClC
namespace Go.Proofs.Ytfpdkikhigffoaa
open Go Go.MW
set_option linter.unusedSimpArgs false
set_option linter.unusedVariables false

/-- How many bytes a slot of a class has. -/
def byts (c : Int) : Int := if c = 3 then 64 else if c = 2 then 32 else if c = 1 then 16 else if c = 0 then 8 else 0

theorem bytes_fn (c : Int) : Does Try.prog G0 false 11 [.int .i64 c] (.int .i64 (byts c)) := by
  refine Does.intro mixed comp11 ?_
  unfold c11
  simp -implicitDefEqProofs (disch := omega) only [mwx, ne_eq, false_implies, implies_true, forall_eq_or_imp, MW.get, ev, evs, argFr, resV, slHK, partsV, partsS, setR, Nat.reduceLeDiff, reduceIte, Nat.reduceEqDiff, Nat.reduceBEq, reduceCtorEq, Nat.reduceAdd, Nat.reduceMul, Nat.reduceSub, Nat.reduceLT, Int.reduceToNat, Int.reduceLT, Int.reduceLE, Int.reduceEq, Int.reduceAdd, Int.reduceNeg, Int.reduceMul, Int.reduceSub]
  refine xc_dec (fun h => ?_) fun h => ?_
  · simp -implicitDefEqProofs (disch := omega) only [mwx, ne_eq, false_implies, implies_true, forall_eq_or_imp, MW.get, ev, evs, argFr, resV, slHK, partsV, partsS, setR, Nat.reduceLeDiff, reduceIte, Nat.reduceEqDiff, Nat.reduceBEq, reduceCtorEq, Nat.reduceAdd, Nat.reduceMul, Nat.reduceSub, Nat.reduceLT, Int.reduceToNat, Int.reduceLT, Int.reduceLE, Int.reduceEq, Int.reduceAdd, Int.reduceNeg, Int.reduceMul, Int.reduceSub]
    exact frz_int (by simp [byts, h])
  simp -implicitDefEqProofs (disch := omega) only [mwx, ne_eq, false_implies, implies_true, forall_eq_or_imp, MW.get, ev, evs, argFr, resV, slHK, partsV, partsS, setR, Nat.reduceLeDiff, reduceIte, Nat.reduceEqDiff, Nat.reduceBEq, reduceCtorEq, Nat.reduceAdd, Nat.reduceMul, Nat.reduceSub, Nat.reduceLT, Int.reduceToNat, Int.reduceLT, Int.reduceLE, Int.reduceEq, Int.reduceAdd, Int.reduceNeg, Int.reduceMul, Int.reduceSub]
  refine xc_dec (fun h => ?_) fun h2 => ?_
  · simp -implicitDefEqProofs (disch := omega) only [mwx, ne_eq, false_implies, implies_true, forall_eq_or_imp, MW.get, ev, evs, argFr, resV, slHK, partsV, partsS, setR, Nat.reduceLeDiff, reduceIte, Nat.reduceEqDiff, Nat.reduceBEq, reduceCtorEq, Nat.reduceAdd, Nat.reduceMul, Nat.reduceSub, Nat.reduceLT, Int.reduceToNat, Int.reduceLT, Int.reduceLE, Int.reduceEq, Int.reduceAdd, Int.reduceNeg, Int.reduceMul, Int.reduceSub]
    exact frz_int (by simp [byts, h])
  simp -implicitDefEqProofs (disch := omega) only [mwx, ne_eq, false_implies, implies_true, forall_eq_or_imp, MW.get, ev, evs, argFr, resV, slHK, partsV, partsS, setR, Nat.reduceLeDiff, reduceIte, Nat.reduceEqDiff, Nat.reduceBEq, reduceCtorEq, Nat.reduceAdd, Nat.reduceMul, Nat.reduceSub, Nat.reduceLT, Int.reduceToNat, Int.reduceLT, Int.reduceLE, Int.reduceEq, Int.reduceAdd, Int.reduceNeg, Int.reduceMul, Int.reduceSub]
  refine xc_dec (fun h => ?_) fun h3 => ?_
  · simp -implicitDefEqProofs (disch := omega) only [mwx, ne_eq, false_implies, implies_true, forall_eq_or_imp, MW.get, ev, evs, argFr, resV, slHK, partsV, partsS, setR, Nat.reduceLeDiff, reduceIte, Nat.reduceEqDiff, Nat.reduceBEq, reduceCtorEq, Nat.reduceAdd, Nat.reduceMul, Nat.reduceSub, Nat.reduceLT, Int.reduceToNat, Int.reduceLT, Int.reduceLE, Int.reduceEq, Int.reduceAdd, Int.reduceNeg, Int.reduceMul, Int.reduceSub]
    exact frz_int (by simp [byts, h])
  simp -implicitDefEqProofs (disch := omega) only [mwx, ne_eq, false_implies, implies_true, forall_eq_or_imp, MW.get, ev, evs, argFr, resV, slHK, partsV, partsS, setR, Nat.reduceLeDiff, reduceIte, Nat.reduceEqDiff, Nat.reduceBEq, reduceCtorEq, Nat.reduceAdd, Nat.reduceMul, Nat.reduceSub, Nat.reduceLT, Int.reduceToNat, Int.reduceLT, Int.reduceLE, Int.reduceEq, Int.reduceAdd, Int.reduceNeg, Int.reduceMul, Int.reduceSub]
  refine xc_dec (fun h => ?_) fun h4 => ?_
  · simp -implicitDefEqProofs (disch := omega) only [mwx, ne_eq, false_implies, implies_true, forall_eq_or_imp, MW.get, ev, evs, argFr, resV, slHK, partsV, partsS, setR, Nat.reduceLeDiff, reduceIte, Nat.reduceEqDiff, Nat.reduceBEq, reduceCtorEq, Nat.reduceAdd, Nat.reduceMul, Nat.reduceSub, Nat.reduceLT, Int.reduceToNat, Int.reduceLT, Int.reduceLE, Int.reduceEq, Int.reduceAdd, Int.reduceNeg, Int.reduceMul, Int.reduceSub]
    exact frz_int (by simp [byts, h])
  simp -implicitDefEqProofs (disch := omega) only [mwx, ne_eq, false_implies, implies_true, forall_eq_or_imp, MW.get, ev, evs, argFr, resV, slHK, partsV, partsS, setR, Nat.reduceLeDiff, reduceIte, Nat.reduceEqDiff, Nat.reduceBEq, reduceCtorEq, Nat.reduceAdd, Nat.reduceMul, Nat.reduceSub, Nat.reduceLT, Int.reduceToNat, Int.reduceLT, Int.reduceLE, Int.reduceEq, Int.reduceAdd, Int.reduceNeg, Int.reduceMul, Int.reduceSub]
  exact frz_int (by simp [byts, *])

theorem bytes_ref (c : Int) : Does Try.prog G0 false 12 [.int .i64 c] (.int .i64 (byts c)) := by
  refine Does.intro mixed comp12 ?_
  unfold c12
  simp -implicitDefEqProofs (disch := omega) only [mwx, ne_eq, false_implies, implies_true, forall_eq_or_imp, MW.get, ev, evs, argFr, resV, slHK, partsV, partsS, setR, Nat.reduceLeDiff, reduceIte, Nat.reduceEqDiff, Nat.reduceBEq, reduceCtorEq, Nat.reduceAdd, Nat.reduceMul, Nat.reduceSub, Nat.reduceLT, Int.reduceToNat, Int.reduceLT, Int.reduceLE, Int.reduceEq, Int.reduceAdd, Int.reduceNeg, Int.reduceMul, Int.reduceSub]
  refine xg_decf (fun h => ?_) fun h => ?_
  · simp -implicitDefEqProofs (disch := omega) only [h, mwx, ne_eq, false_implies, implies_true, forall_eq_or_imp, MW.get, ev, evs, argFr, resV, slHK, partsV, partsS, setR, Nat.reduceLeDiff, reduceIte, Nat.reduceEqDiff, Nat.reduceBEq, reduceCtorEq, Nat.reduceAdd, Nat.reduceMul, Nat.reduceSub, Nat.reduceLT, Int.reduceToNat, Int.reduceLT, Int.reduceLE, Int.reduceEq, Int.reduceAdd, Int.reduceNeg, Int.reduceMul, Int.reduceSub]
    exact frz_int (by unfold byts; repeat' split; all_goals omega)
  simp -implicitDefEqProofs (disch := omega) only [h, mwx, ne_eq, false_implies, implies_true, forall_eq_or_imp, MW.get, ev, evs, argFr, resV, slHK, partsV, partsS, setR, Nat.reduceLeDiff, reduceIte, Nat.reduceEqDiff, Nat.reduceBEq, reduceCtorEq, Nat.reduceAdd, Nat.reduceMul, Nat.reduceSub, Nat.reduceLT, Int.reduceToNat, Int.reduceLT, Int.reduceLE, Int.reduceEq, Int.reduceAdd, Int.reduceNeg, Int.reduceMul, Int.reduceSub]
  refine xc_dec (fun h' => ?_) fun h' => ?_
  · simp -implicitDefEqProofs (disch := omega) only [mwx, ne_eq, false_implies, implies_true, forall_eq_or_imp, MW.get, ev, evs, argFr, resV, slHK, partsV, partsS, setR, Nat.reduceLeDiff, reduceIte, Nat.reduceEqDiff, Nat.reduceBEq, reduceCtorEq, Nat.reduceAdd, Nat.reduceMul, Nat.reduceSub, Nat.reduceLT, Int.reduceToNat, Int.reduceLT, Int.reduceLE, Int.reduceEq, Int.reduceAdd, Int.reduceNeg, Int.reduceMul, Int.reduceSub]
    exact frz_int (by unfold byts; repeat' split; all_goals omega)
  simp -implicitDefEqProofs (disch := omega) only [mwx, ne_eq, false_implies, implies_true, forall_eq_or_imp, MW.get, ev, evs, argFr, resV, slHK, partsV, partsS, setR, Nat.reduceLeDiff, reduceIte, Nat.reduceEqDiff, Nat.reduceBEq, reduceCtorEq, Nat.reduceAdd, Nat.reduceMul, Nat.reduceSub, Nat.reduceLT, Int.reduceToNat, Int.reduceLT, Int.reduceLE, Int.reduceEq, Int.reduceAdd, Int.reduceNeg, Int.reduceMul, Int.reduceSub]
  refine xl_loop (fun n st => ∃ i : Nat, (i : Int) ≤ c ∧ n + i = c.toNat ∧ get st.fr 0 = .int .i64 c ∧ get st.fr 4 = .int .i64 i ∧ get st.fr 3 = .int .i64 (8 * 2 ^ i)) (c.toNat) ⟨0, by omega, by omega, rfl, rfl, rfl⟩ ?_
  rintro J hJ n fr H ⟨i, h1, h2, h3, h4, h5⟩
  simp -implicitDefEqProofs (disch := omega) only [h3, h4, h5, mwx, ne_eq, false_implies, implies_true, forall_eq_or_imp, MW.get, ev, evs, argFr, resV, slHK, partsV, partsS, setR, Nat.reduceLeDiff, reduceIte, Nat.reduceEqDiff, Nat.reduceBEq, reduceCtorEq, Nat.reduceAdd, Nat.reduceMul, Nat.reduceSub, Nat.reduceLT, Int.reduceToNat, Int.reduceLT, Int.reduceLE, Int.reduceEq, Int.reduceAdd, Int.reduceNeg, Int.reduceMul, Int.reduceSub]
  refine xc_dec (fun h6 => ?_) fun h6 => ?_
  · have h7 : i ≤ 2 := by omega
    have h8 : 0 < (2 : Int) ^ i ∧ (2 : Int) ^ i ≤ 4 := by
      have : i = 0 ∨ i = 1 ∨ i = 2 := by omega
      rcases this with rfl | rfl | rfl <;> decide
    simp -implicitDefEqProofs (disch := omega) only [h3, h4, h5, mwx, ne_eq, false_implies, implies_true, forall_eq_or_imp, MW.get, ev, evs, argFr, resV, slHK, partsV, partsS, setR, Nat.reduceLeDiff, reduceIte, Nat.reduceEqDiff, Nat.reduceBEq, reduceCtorEq, Nat.reduceAdd, Nat.reduceMul, Nat.reduceSub, Nat.reduceLT, Int.reduceToNat, Int.reduceLT, Int.reduceLE, Int.reduceEq, Int.reduceAdd, Int.reduceNeg, Int.reduceMul, Int.reduceSub]
    have h9 : (2 : Int) * (8 * 2 ^ i) = 8 * 2 ^ (i + 1) := by rw [Int.pow_succ]; omega
    exact ⟨n - 1, by omega, hJ _ _ ⟨i + 1, by omega, by omega, h3, rfl, by rw [← h9]; rfl⟩⟩
  · simp -implicitDefEqProofs (disch := omega) only [h3, h4, h5, mwx, ne_eq, false_implies, implies_true, forall_eq_or_imp, MW.get, ev, evs, argFr, resV, slHK, partsV, partsS, setR, Nat.reduceLeDiff, reduceIte, Nat.reduceEqDiff, Nat.reduceBEq, reduceCtorEq, Nat.reduceAdd, Nat.reduceMul, Nat.reduceSub, Nat.reduceLT, Int.reduceToNat, Int.reduceLT, Int.reduceLE, Int.reduceEq, Int.reduceAdd, Int.reduceNeg, Int.reduceMul, Int.reduceSub]
    refine frz_int ?_
    have : c = 0 ∨ c = 1 ∨ c = 2 ∨ c = 3 := by omega
    obtain rfl : c = i := by omega
    have : i = 0 ∨ i = 1 ∨ i = 2 ∨ i = 3 := by omega
    rcases this with rfl | rfl | rfl | rfl <;> decide

theorem byts_cases (c : Int) : (byts c = 64 ∧ c = 3) ∨ (byts c = 32 ∧ c = 2) ∨ (byts c = 16 ∧ c = 1) ∨ (byts c = 8 ∧ c = 0) ∨ byts c = 0 := by
  unfold byts
  repeat' split
  all_goals omega

/-- How many slots of a class are in a segment. -/
def slts (c : Int) : Int := if 0 < byts c then Int.tdiv 512 (byts c) else 0

theorem slts_wrap (c : Int) : IntKind.i64.wrap (Int.tdiv 512 (byts c)) = Int.tdiv 512 (byts c) := by
  rcases byts_cases c with ⟨h, _⟩ | ⟨h, _⟩ | ⟨h, _⟩ | ⟨h, _⟩ | h <;> rw [h] <;> decide

theorem slots_fn (c : Int) : Does Try.prog G0 false 13 [.int .i64 c] (.int .i64 (slts c)) := by
  refine Does.intro mixed comp13 ?_
  unfold c13
  simp -implicitDefEqProofs (disch := omega) only [mwx, ne_eq, false_implies, implies_true, forall_eq_or_imp, MW.get, ev, evs, argFr, resV, slHK, partsV, partsS, setR, Nat.reduceLeDiff, reduceIte, Nat.reduceEqDiff, Nat.reduceBEq, reduceCtorEq, Nat.reduceAdd, Nat.reduceMul, Nat.reduceSub, Nat.reduceLT, Int.reduceToNat, Int.reduceLT, Int.reduceLE, Int.reduceEq, Int.reduceAdd, Int.reduceNeg, Int.reduceMul, Int.reduceSub]
  refine Does.call (bytes_fn c) (fr1 (.int _ _)) ?_
  simp -implicitDefEqProofs (disch := omega) only [mwx, ne_eq, false_implies, implies_true, forall_eq_or_imp, MW.get, ev, evs, argFr, resV, slHK, partsV, partsS, setR, Nat.reduceLeDiff, reduceIte, Nat.reduceEqDiff, Nat.reduceBEq, reduceCtorEq, Nat.reduceAdd, Nat.reduceMul, Nat.reduceSub, Nat.reduceLT, Int.reduceToNat, Int.reduceLT, Int.reduceLE, Int.reduceEq, Int.reduceAdd, Int.reduceNeg, Int.reduceMul, Int.reduceSub]
  refine xc_dec (fun h => ?_) fun h => ?_
  · have h2 : ¬ byts c = 0 := by omega
    simp -implicitDefEqProofs (disch := omega) only [h2, slts_wrap, mwx, ne_eq, false_implies, implies_true, forall_eq_or_imp, MW.get, ev, evs, argFr, resV, slHK, partsV, partsS, setR, Nat.reduceLeDiff, reduceIte, Nat.reduceEqDiff, Nat.reduceBEq, reduceCtorEq, Nat.reduceAdd, Nat.reduceMul, Nat.reduceSub, Nat.reduceLT, Int.reduceToNat, Int.reduceLT, Int.reduceLE, Int.reduceEq, Int.reduceAdd, Int.reduceNeg, Int.reduceMul, Int.reduceSub]
    exact frz_int (by rw [slts, if_pos h])
  · simp -implicitDefEqProofs (disch := omega) only [mwx, ne_eq, false_implies, implies_true, forall_eq_or_imp, MW.get, ev, evs, argFr, resV, slHK, partsV, partsS, setR, Nat.reduceLeDiff, reduceIte, Nat.reduceEqDiff, Nat.reduceBEq, reduceCtorEq, Nat.reduceAdd, Nat.reduceMul, Nat.reduceSub, Nat.reduceLT, Int.reduceToNat, Int.reduceLT, Int.reduceLE, Int.reduceEq, Int.reduceAdd, Int.reduceNeg, Int.reduceMul, Int.reduceSub]
    exact frz_int (by rw [slts, if_neg h])

theorem slots_ref (c : Int) : Does Try.prog G0 false 14 [.int .i64 c] (.int .i64 (slts c)) := by
  refine Does.intro mixed comp14 ?_
  unfold c14
  simp -implicitDefEqProofs (disch := omega) only [mwx, ne_eq, false_implies, implies_true, forall_eq_or_imp, MW.get, ev, evs, argFr, resV, slHK, partsV, partsS, setR, Nat.reduceLeDiff, reduceIte, Nat.reduceEqDiff, Nat.reduceBEq, reduceCtorEq, Nat.reduceAdd, Nat.reduceMul, Nat.reduceSub, Nat.reduceLT, Int.reduceToNat, Int.reduceLT, Int.reduceLE, Int.reduceEq, Int.reduceAdd, Int.reduceNeg, Int.reduceMul, Int.reduceSub]
  refine Does.call (bytes_ref c) (fr1 (.int _ _)) ?_
  simp -implicitDefEqProofs (disch := omega) only [mwx, ne_eq, false_implies, implies_true, forall_eq_or_imp, MW.get, ev, evs, argFr, resV, slHK, partsV, partsS, setR, Nat.reduceLeDiff, reduceIte, Nat.reduceEqDiff, Nat.reduceBEq, reduceCtorEq, Nat.reduceAdd, Nat.reduceMul, Nat.reduceSub, Nat.reduceLT, Int.reduceToNat, Int.reduceLT, Int.reduceLE, Int.reduceEq, Int.reduceAdd, Int.reduceNeg, Int.reduceMul, Int.reduceSub]
  refine xc_dec (fun h => ?_) fun h => ?_
  · simp -implicitDefEqProofs (disch := omega) only [mwx, ne_eq, false_implies, implies_true, forall_eq_or_imp, MW.get, ev, evs, argFr, resV, slHK, partsV, partsS, setR, Nat.reduceLeDiff, reduceIte, Nat.reduceEqDiff, Nat.reduceBEq, reduceCtorEq, Nat.reduceAdd, Nat.reduceMul, Nat.reduceSub, Nat.reduceLT, Int.reduceToNat, Int.reduceLT, Int.reduceLE, Int.reduceEq, Int.reduceAdd, Int.reduceNeg, Int.reduceMul, Int.reduceSub]
    exact frz_int (by rw [slts, if_neg (by omega)])
  · simp -implicitDefEqProofs (disch := omega) only [h, slts_wrap, mwx, ne_eq, false_implies, implies_true, forall_eq_or_imp, MW.get, ev, evs, argFr, resV, slHK, partsV, partsS, setR, Nat.reduceLeDiff, reduceIte, Nat.reduceEqDiff, Nat.reduceBEq, reduceCtorEq, Nat.reduceAdd, Nat.reduceMul, Nat.reduceSub, Nat.reduceLT, Int.reduceToNat, Int.reduceLT, Int.reduceLE, Int.reduceEq, Int.reduceAdd, Int.reduceNeg, Int.reduceMul, Int.reduceSub]
    exact frz_int (by rw [slts, if_pos (by have := byts_cases c; omega)])

/-- The class of so many bytes. -/
def fit (n : Int) : Int := if n < 1 then -1 else if n ≤ 8 then 0 else if n ≤ 16 then 1 else if n ≤ 32 then 2 else if n ≤ 64 then 3 else -1

theorem byts_nat (i : Nat) (h : i < 4) : byts i = 8 * 2 ^ i := by
  have : i = 0 ∨ i = 1 ∨ i = 2 ∨ i = 3 := by omega
  rcases this with rfl | rfl | rfl | rfl <;> decide

theorem fit_fn (n : Int) : Does Try.prog G0 false 15 [.int .i64 n] (.int .i64 (fit n)) := by
  refine Does.intro mixed comp15 ?_
  unfold c15
  simp -implicitDefEqProofs (disch := omega) only [mwx, ne_eq, false_implies, implies_true, forall_eq_or_imp, MW.get, ev, evs, argFr, resV, slHK, partsV, partsS, setR, Nat.reduceLeDiff, reduceIte, Nat.reduceEqDiff, Nat.reduceBEq, reduceCtorEq, Nat.reduceAdd, Nat.reduceMul, Nat.reduceSub, Nat.reduceLT, Int.reduceToNat, Int.reduceLT, Int.reduceLE, Int.reduceEq, Int.reduceAdd, Int.reduceNeg, Int.reduceMul, Int.reduceSub]
  refine xl_loop (fun k st => ∃ i : Nat, i ≤ 4 ∧ k + i = 4 ∧ st.H = [.row 1 (ints [0, 1, 2, 3]) false false] ∧ get st.fr 0 = .int .i64 n ∧ get st.fr 5 = .hs 0 4 0 0 4 (some 4) 1 ∧ get st.fr 6 = .int .i64 4 ∧ get st.fr 7 = .int .i64 i ∧
    ∀ j : Nat, j < i → ¬ (1 ≤ n ∧ n ≤ byts j)) 4 ⟨0, by omega, by omega, rfl, rfl, rfl, rfl, rfl, by omega⟩ ?_
  rintro J hJ k fr H ⟨i, h1, h2, hH, h3, h4, h5, h6, h7⟩
  obtain rfl : H = [.row 1 (ints [0, 1, 2, 3]) false false] := hH
  simp -implicitDefEqProofs (disch := omega) only [h3, h4, h5, h6, mwx, ne_eq, false_implies, implies_true, forall_eq_or_imp, MW.get, ev, evs, argFr, resV, slHK, partsV, partsS, setR, Nat.reduceLeDiff, reduceIte, Nat.reduceEqDiff, Nat.reduceBEq, reduceCtorEq, Nat.reduceAdd, Nat.reduceMul, Nat.reduceSub, Nat.reduceLT, Int.reduceToNat, Int.reduceLT, Int.reduceLE, Int.reduceEq, Int.reduceAdd, Int.reduceNeg, Int.reduceMul, Int.reduceSub]
  refine xc_dec (fun h8 => ?_) fun h8 => ?_
  · have hi : i < 4 := by omega
    have hg : ([0, 1, 2, 3] : List Int).getD i 0 = i := by
      have : i = 0 ∨ i = 1 ∨ i = 2 ∨ i = 3 := by omega
      rcases this with rfl | rfl | rfl | rfl <;> rfl
    simp -implicitDefEqProofs (disch := omega) only [h3, h4, h5, h6, hi, hg, mwx, ne_eq, false_implies, implies_true, forall_eq_or_imp, MW.get, ev, evs, argFr, resV, slHK, partsV, partsS, setR, Nat.reduceLeDiff, reduceIte, Nat.reduceEqDiff, Nat.reduceBEq, reduceCtorEq, Nat.reduceAdd, Nat.reduceMul, Nat.reduceSub, Nat.reduceLT, Int.reduceToNat, Int.reduceLT, Int.reduceLE, Int.reduceEq, Int.reduceAdd, Int.reduceNeg, Int.reduceMul, Int.reduceSub]
    refine xg_dec (fun h9 => ?_) fun h9 => ?_
    · simp -implicitDefEqProofs (disch := omega) only [h3, h9, mwx, ne_eq, false_implies, implies_true, forall_eq_or_imp, MW.get, ev, evs, argFr, resV, slHK, partsV, partsS, setR, Nat.reduceLeDiff, reduceIte, Nat.reduceEqDiff, Nat.reduceBEq, reduceCtorEq, Nat.reduceAdd, Nat.reduceMul, Nat.reduceSub, Nat.reduceLT, Int.reduceToNat, Int.reduceLT, Int.reduceLE, Int.reduceEq, Int.reduceAdd, Int.reduceNeg, Int.reduceMul, Int.reduceSub]
      refine Does.call (bytes_fn i) (fr1 (.int _ _)) ?_
      simp -implicitDefEqProofs (disch := omega) only [h3, h9, mwx, ne_eq, false_implies, implies_true, forall_eq_or_imp, MW.get, ev, evs, argFr, resV, slHK, partsV, partsS, setR, Nat.reduceLeDiff, reduceIte, Nat.reduceEqDiff, Nat.reduceBEq, reduceCtorEq, Nat.reduceAdd, Nat.reduceMul, Nat.reduceSub, Nat.reduceLT, Int.reduceToNat, Int.reduceLT, Int.reduceLE, Int.reduceEq, Int.reduceAdd, Int.reduceNeg, Int.reduceMul, Int.reduceSub]
      refine xc_dec (fun h10 => ?_) fun h10 => ?_
      · simp -implicitDefEqProofs (disch := omega) only [h3, mwx, ne_eq, false_implies, implies_true, forall_eq_or_imp, MW.get, ev, evs, argFr, resV, slHK, partsV, partsS, setR, Nat.reduceLeDiff, reduceIte, Nat.reduceEqDiff, Nat.reduceBEq, reduceCtorEq, Nat.reduceAdd, Nat.reduceMul, Nat.reduceSub, Nat.reduceLT, Int.reduceToNat, Int.reduceLT, Int.reduceLE, Int.reduceEq, Int.reduceAdd, Int.reduceNeg, Int.reduceMul, Int.reduceSub]
        refine frz_int ?_
        have hi' : i = 0 ∨ i = 1 ∨ i = 2 ∨ i = 3 := by omega
        have b0 := h7 0
        have b1 := h7 1
        have b2 := h7 2
        have b3 := h7 3
        simp [byts] at b0 b1 b2 b3
        unfold fit
        rcases hi' with rfl | rfl | rfl | rfl <;> simp [byts] at h10 <;> (repeat' split) <;> omega
      · simp -implicitDefEqProofs (disch := omega) only [h3, h4, h5, h6, mwx, ne_eq, false_implies, implies_true, forall_eq_or_imp, MW.get, ev, evs, argFr, resV, slHK, partsV, partsS, setR, Nat.reduceLeDiff, reduceIte, Nat.reduceEqDiff, Nat.reduceBEq, reduceCtorEq, Nat.reduceAdd, Nat.reduceMul, Nat.reduceSub, Nat.reduceLT, Int.reduceToNat, Int.reduceLT, Int.reduceLE, Int.reduceEq, Int.reduceAdd, Int.reduceNeg, Int.reduceMul, Int.reduceSub]
        refine ⟨k - 1, by omega, hJ _ _ ⟨i + 1, by omega, by omega, rfl, h3, h4, h5, rfl, fun j hj => ?_⟩⟩
        by_cases hji : j = i
        · subst hji; omega
        · exact h7 j (by omega)
    · simp -implicitDefEqProofs (disch := omega) only [h3, h4, h5, h6, h9, mwx, ne_eq, false_implies, implies_true, forall_eq_or_imp, MW.get, ev, evs, argFr, resV, slHK, partsV, partsS, setR, Nat.reduceLeDiff, reduceIte, Nat.reduceEqDiff, Nat.reduceBEq, reduceCtorEq, Nat.reduceAdd, Nat.reduceMul, Nat.reduceSub, Nat.reduceLT, Int.reduceToNat, Int.reduceLT, Int.reduceLE, Int.reduceEq, Int.reduceAdd, Int.reduceNeg, Int.reduceMul, Int.reduceSub]
      exact ⟨k - 1, by omega, hJ _ _ ⟨i + 1, by omega, by omega, rfl, h3, h4, h5, rfl, fun j hj => by omega⟩⟩
  · simp -implicitDefEqProofs (disch := omega) only [h3, mwx, ne_eq, false_implies, implies_true, forall_eq_or_imp, MW.get, ev, evs, argFr, resV, slHK, partsV, partsS, setR, Nat.reduceLeDiff, reduceIte, Nat.reduceEqDiff, Nat.reduceBEq, reduceCtorEq, Nat.reduceAdd, Nat.reduceMul, Nat.reduceSub, Nat.reduceLT, Int.reduceToNat, Int.reduceLT, Int.reduceLE, Int.reduceEq, Int.reduceAdd, Int.reduceNeg, Int.reduceMul, Int.reduceSub]
    refine frz_int ?_
    obtain rfl : i = 4 := by omega
    have b0 := h7 0
    have b1 := h7 1
    have b2 := h7 2
    have b3 := h7 3
    simp [byts] at b0 b1 b2 b3
    unfold fit
    repeat' split
    all_goals omega

theorem fit_ref (n : Int) : Does Try.prog G0 false 16 [.int .i64 n] (.int .i64 (fit n)) := by
  refine Does.intro mixed comp16 ?_
  unfold c16
  simp -implicitDefEqProofs (disch := omega) only [mwx, ne_eq, false_implies, implies_true, forall_eq_or_imp, MW.get, ev, evs, argFr, resV, slHK, partsV, partsS, setR, Nat.reduceLeDiff, reduceIte, Nat.reduceEqDiff, Nat.reduceBEq, reduceCtorEq, Nat.reduceAdd, Nat.reduceMul, Nat.reduceSub, Nat.reduceLT, Int.reduceToNat, Int.reduceLT, Int.reduceLE, Int.reduceEq, Int.reduceAdd, Int.reduceNeg, Int.reduceMul, Int.reduceSub]
  refine xl_loop (fun k st => ∃ i : Nat, i ≤ 4 ∧ k + i = 4 ∧ get st.fr 0 = .int .i64 n ∧ get st.fr 3 = .int .i64 i ∧ ∀ j : Nat, j < i → ¬ (1 ≤ n ∧ n ≤ byts j)) 4 ⟨0, by omega, by omega, rfl, rfl, by omega⟩ ?_
  rintro J hJ k fr H ⟨i, h1, h2, h3, h6, h7⟩
  simp -implicitDefEqProofs (disch := omega) only [h3, h6, mwx, ne_eq, false_implies, implies_true, forall_eq_or_imp, MW.get, ev, evs, argFr, resV, slHK, partsV, partsS, setR, Nat.reduceLeDiff, reduceIte, Nat.reduceEqDiff, Nat.reduceBEq, reduceCtorEq, Nat.reduceAdd, Nat.reduceMul, Nat.reduceSub, Nat.reduceLT, Int.reduceToNat, Int.reduceLT, Int.reduceLE, Int.reduceEq, Int.reduceAdd, Int.reduceNeg, Int.reduceMul, Int.reduceSub]
  refine xc_dec (fun h8 => ?_) fun h8 => ?_
  · have hi : i < 4 := by omega
    simp -implicitDefEqProofs (disch := omega) only [h3, h6, mwx, ne_eq, false_implies, implies_true, forall_eq_or_imp, MW.get, ev, evs, argFr, resV, slHK, partsV, partsS, setR, Nat.reduceLeDiff, reduceIte, Nat.reduceEqDiff, Nat.reduceBEq, reduceCtorEq, Nat.reduceAdd, Nat.reduceMul, Nat.reduceSub, Nat.reduceLT, Int.reduceToNat, Int.reduceLT, Int.reduceLE, Int.reduceEq, Int.reduceAdd, Int.reduceNeg, Int.reduceMul, Int.reduceSub]
    refine xg_dec (fun h9 => ?_) fun h9 => ?_
    · simp -implicitDefEqProofs (disch := omega) only [h9, h3, h6, mwx, ne_eq, false_implies, implies_true, forall_eq_or_imp, MW.get, ev, evs, argFr, resV, slHK, partsV, partsS, setR, Nat.reduceLeDiff, reduceIte, Nat.reduceEqDiff, Nat.reduceBEq, reduceCtorEq, Nat.reduceAdd, Nat.reduceMul, Nat.reduceSub, Nat.reduceLT, Int.reduceToNat, Int.reduceLT, Int.reduceLE, Int.reduceEq, Int.reduceAdd, Int.reduceNeg, Int.reduceMul, Int.reduceSub]
      refine Does.call (bytes_ref i) (fr1 (.int _ _)) ?_
      simp -implicitDefEqProofs (disch := omega) only [h9, h3, h6, mwx, ne_eq, false_implies, implies_true, forall_eq_or_imp, MW.get, ev, evs, argFr, resV, slHK, partsV, partsS, setR, Nat.reduceLeDiff, reduceIte, Nat.reduceEqDiff, Nat.reduceBEq, reduceCtorEq, Nat.reduceAdd, Nat.reduceMul, Nat.reduceSub, Nat.reduceLT, Int.reduceToNat, Int.reduceLT, Int.reduceLE, Int.reduceEq, Int.reduceAdd, Int.reduceNeg, Int.reduceMul, Int.reduceSub]
      refine xc_dec (fun h10 => ?_) fun h10 => ?_
      · simp -implicitDefEqProofs (disch := omega) only [h3, h6, mwx, ne_eq, false_implies, implies_true, forall_eq_or_imp, MW.get, ev, evs, argFr, resV, slHK, partsV, partsS, setR, Nat.reduceLeDiff, reduceIte, Nat.reduceEqDiff, Nat.reduceBEq, reduceCtorEq, Nat.reduceAdd, Nat.reduceMul, Nat.reduceSub, Nat.reduceLT, Int.reduceToNat, Int.reduceLT, Int.reduceLE, Int.reduceEq, Int.reduceAdd, Int.reduceNeg, Int.reduceMul, Int.reduceSub]
        refine frz_int ?_
        have hi' : i = 0 ∨ i = 1 ∨ i = 2 ∨ i = 3 := by omega
        have b0 := h7 0
        have b1 := h7 1
        have b2 := h7 2
        have b3 := h7 3
        simp [byts] at b0 b1 b2 b3
        unfold fit
        rcases hi' with rfl | rfl | rfl | rfl <;> simp [byts] at h10 <;> (repeat' split) <;> omega
      · simp -implicitDefEqProofs (disch := omega) only [h3, h6, mwx, ne_eq, false_implies, implies_true, forall_eq_or_imp, MW.get, ev, evs, argFr, resV, slHK, partsV, partsS, setR, Nat.reduceLeDiff, reduceIte, Nat.reduceEqDiff, Nat.reduceBEq, reduceCtorEq, Nat.reduceAdd, Nat.reduceMul, Nat.reduceSub, Nat.reduceLT, Int.reduceToNat, Int.reduceLT, Int.reduceLE, Int.reduceEq, Int.reduceAdd, Int.reduceNeg, Int.reduceMul, Int.reduceSub]
        refine ⟨k - 1, by omega, hJ _ _ ⟨i + 1, by omega, by omega, h3, rfl, fun j hj => ?_⟩⟩
        by_cases hji : j = i
        · subst hji; omega
        · exact h7 j (by omega)
    · simp -implicitDefEqProofs (disch := omega) only [h3, h6, h9, mwx, ne_eq, false_implies, implies_true, forall_eq_or_imp, MW.get, ev, evs, argFr, resV, slHK, partsV, partsS, setR, Nat.reduceLeDiff, reduceIte, Nat.reduceEqDiff, Nat.reduceBEq, reduceCtorEq, Nat.reduceAdd, Nat.reduceMul, Nat.reduceSub, Nat.reduceLT, Int.reduceToNat, Int.reduceLT, Int.reduceLE, Int.reduceEq, Int.reduceAdd, Int.reduceNeg, Int.reduceMul, Int.reduceSub]
      exact ⟨k - 1, by omega, hJ _ _ ⟨i + 1, by omega, by omega, h3, rfl, fun j hj => by omega⟩⟩
  · simp -implicitDefEqProofs (disch := omega) only [h3, mwx, ne_eq, false_implies, implies_true, forall_eq_or_imp, MW.get, ev, evs, argFr, resV, slHK, partsV, partsS, setR, Nat.reduceLeDiff, reduceIte, Nat.reduceEqDiff, Nat.reduceBEq, reduceCtorEq, Nat.reduceAdd, Nat.reduceMul, Nat.reduceSub, Nat.reduceLT, Int.reduceToNat, Int.reduceLT, Int.reduceLE, Int.reduceEq, Int.reduceAdd, Int.reduceNeg, Int.reduceMul, Int.reduceSub]
    refine frz_int ?_
    obtain rfl : i = 4 := by omega
    have b0 := h7 0
    have b1 := h7 1
    have b2 := h7 2
    have b3 := h7 3
    simp [byts] at b0 b1 b2 b3
    unfold fit
    repeat' split
    all_goals omega

/-- How many bytes slots of classes have. -/
def room (l : List Int) : Int := l.foldl (fun a c => IntKind.i64.wrap (a + byts c)) 0

theorem room_take {l : List Int} {i : Nat} (h : i < l.length) : room (l.take (i + 1)) = IntKind.i64.wrap (room (l.take i) + byts (l.getD i 0)) := by
  unfold room
  rw [List.take_add_one, List.foldl_append, List.getElem?_eq_getElem h, List.getD_eq_getElem?_getD, List.getElem?_eq_getElem h]
  rfl

theorem room_vars {v : V} {l : List Int} (hv : IsI v l) (hl : l.length < 2 ^ 62) : Does Try.prog G0 false 20 [v] (.int .i64 (room l)) := by
  refine Does.intro mixed comp20 ?_
  unfold c20
  simp -implicitDefEqProofs (disch := omega) only [lenK_isI hv, mwx, ne_eq, false_implies, implies_true, forall_eq_or_imp, MW.get, ev, evs, argFr, resV, slHK, partsV, partsS, setR, Nat.reduceLeDiff, reduceIte, Nat.reduceEqDiff, Nat.reduceBEq, reduceCtorEq, Nat.reduceAdd, Nat.reduceMul, Nat.reduceSub, Nat.reduceLT, Int.reduceToNat, Int.reduceLT, Int.reduceLE, Int.reduceEq, Int.reduceAdd, Int.reduceNeg, Int.reduceMul, Int.reduceSub]
  refine xl_loop (fun k st => ∃ i : Nat, i ≤ l.length ∧ k + i = l.length ∧ get st.fr 5 = v ∧ get st.fr 6 = .int .i64 l.length ∧ get st.fr 7 = .int .i64 i ∧ get st.fr 2 = .int .i64 (room (l.take i))) (l.length) ⟨0, by omega, by omega, rfl, rfl, rfl, rfl⟩ ?_
  rintro J hJ k fr H ⟨i, h1, h2, h3, h4, h5, h6⟩
  simp -implicitDefEqProofs (disch := omega) only [h3, h4, h5, h6, mwx, ne_eq, false_implies, implies_true, forall_eq_or_imp, MW.get, ev, evs, argFr, resV, slHK, partsV, partsS, setR, Nat.reduceLeDiff, reduceIte, Nat.reduceEqDiff, Nat.reduceBEq, reduceCtorEq, Nat.reduceAdd, Nat.reduceMul, Nat.reduceSub, Nat.reduceLT, Int.reduceToNat, Int.reduceLT, Int.reduceLE, Int.reduceEq, Int.reduceAdd, Int.reduceNeg, Int.reduceMul, Int.reduceSub]
  refine xc_dec (fun h8 => ?_) fun h8 => ?_
  · have hi : i < l.length := by omega
    simp -implicitDefEqProofs (disch := omega) only [h3, h4, h5, h6, iaK_isI hv, mwx, ne_eq, false_implies, implies_true, forall_eq_or_imp, MW.get, ev, evs, argFr, resV, slHK, partsV, partsS, setR, Nat.reduceLeDiff, reduceIte, Nat.reduceEqDiff, Nat.reduceBEq, reduceCtorEq, Nat.reduceAdd, Nat.reduceMul, Nat.reduceSub, Nat.reduceLT, Int.reduceToNat, Int.reduceLT, Int.reduceLE, Int.reduceEq, Int.reduceAdd, Int.reduceNeg, Int.reduceMul, Int.reduceSub]
    refine Does.call (bytes_fn _) (fr1 (.int _ _)) ?_
    simp -implicitDefEqProofs (disch := omega) only [h3, h4, h5, h6, mwx, ne_eq, false_implies, implies_true, forall_eq_or_imp, MW.get, ev, evs, argFr, resV, slHK, partsV, partsS, setR, Nat.reduceLeDiff, reduceIte, Nat.reduceEqDiff, Nat.reduceBEq, reduceCtorEq, Nat.reduceAdd, Nat.reduceMul, Nat.reduceSub, Nat.reduceLT, Int.reduceToNat, Int.reduceLT, Int.reduceLE, Int.reduceEq, Int.reduceAdd, Int.reduceNeg, Int.reduceMul, Int.reduceSub]
    exact ⟨k - 1, by omega, hJ _ _ ⟨i + 1, by omega, by omega, h3, h4, rfl, by rw [room_take hi]; rfl⟩⟩
  · simp -implicitDefEqProofs (disch := omega) only [h3, h6, mwx, ne_eq, false_implies, implies_true, forall_eq_or_imp, MW.get, ev, evs, argFr, resV, slHK, partsV, partsS, setR, Nat.reduceLeDiff, reduceIte, Nat.reduceEqDiff, Nat.reduceBEq, reduceCtorEq, Nat.reduceAdd, Nat.reduceMul, Nat.reduceSub, Nat.reduceLT, Int.reduceToNat, Int.reduceLT, Int.reduceLE, Int.reduceEq, Int.reduceAdd, Int.reduceNeg, Int.reduceMul, Int.reduceSub]
    obtain rfl : i = l.length := by omega
    exact frz_int (by rw [List.take_length])

theorem room_fn {v : V} {l : List Int} (hv : IsI v l) (hl : l.length < 2 ^ 62) : Does Try.prog G0 false 18 [v] (.int .i64 (room l)) := by
  refine Does.intro mixed comp18 ?_
  unfold c18
  simp -implicitDefEqProofs (disch := omega) only [mwx, ne_eq, false_implies, implies_true, forall_eq_or_imp, MW.get, ev, evs, argFr, resV, slHK, partsV, partsS, setR, Nat.reduceLeDiff, reduceIte, Nat.reduceEqDiff, Nat.reduceBEq, reduceCtorEq, Nat.reduceAdd, Nat.reduceMul, Nat.reduceSub, Nat.reduceLT, Int.reduceToNat, Int.reduceLT, Int.reduceLE, Int.reduceEq, Int.reduceAdd, Int.reduceNeg, Int.reduceMul, Int.reduceSub]
  refine Does.call (room_vars hv hl) (fr1 hv.free) ?_
  simp -implicitDefEqProofs (disch := omega) only [mwx, ne_eq, false_implies, implies_true, forall_eq_or_imp, MW.get, ev, evs, argFr, resV, slHK, partsV, partsS, setR, Nat.reduceLeDiff, reduceIte, Nat.reduceEqDiff, Nat.reduceBEq, reduceCtorEq, Nat.reduceAdd, Nat.reduceMul, Nat.reduceSub, Nat.reduceLT, Int.reduceToNat, Int.reduceLT, Int.reduceLE, Int.reduceEq, Int.reduceAdd, Int.reduceNeg, Int.reduceMul, Int.reduceSub]
  exact frz_int rfl

theorem room_ref {v : V} {l : List Int} (hv : IsI v l) (hl : l.length < 2 ^ 62) : Does Try.prog G0 false 19 [v] (.int .i64 (room l)) := by
  refine Does.intro mixed comp19 ?_
  unfold c19
  simp -implicitDefEqProofs (disch := omega) only [mwx, ne_eq, false_implies, implies_true, forall_eq_or_imp, MW.get, ev, evs, argFr, resV, slHK, partsV, partsS, setR, Nat.reduceLeDiff, reduceIte, Nat.reduceEqDiff, Nat.reduceBEq, reduceCtorEq, Nat.reduceAdd, Nat.reduceMul, Nat.reduceSub, Nat.reduceLT, Int.reduceToNat, Int.reduceLT, Int.reduceLE, Int.reduceEq, Int.reduceAdd, Int.reduceNeg, Int.reduceMul, Int.reduceSub]
  refine xl_loop (fun k st => ∃ i : Nat, i ≤ l.length ∧ k + i = l.length ∧ get st.fr 0 = v ∧ get st.fr 4 = .int .i64 i ∧ get st.fr 3 = .int .i64 (room (l.take i))) l.length ⟨0, by omega, by omega, rfl, rfl, rfl⟩ ?_
  rintro J hJ k fr H ⟨i, h1, h2, h3, h4, h6⟩
  simp -implicitDefEqProofs (disch := omega) only [h3, h4, h6, lenK_isI hv, mwx, ne_eq, false_implies, implies_true, forall_eq_or_imp, MW.get, ev, evs, argFr, resV, slHK, partsV, partsS, setR, Nat.reduceLeDiff, reduceIte, Nat.reduceEqDiff, Nat.reduceBEq, reduceCtorEq, Nat.reduceAdd, Nat.reduceMul, Nat.reduceSub, Nat.reduceLT, Int.reduceToNat, Int.reduceLT, Int.reduceLE, Int.reduceEq, Int.reduceAdd, Int.reduceNeg, Int.reduceMul, Int.reduceSub]
  refine xc_dec (fun h8 => ?_) fun h8 => ?_
  · have hi : i < l.length := by omega
    simp -implicitDefEqProofs (disch := omega) only [h3, h4, h6, iaK_isI hv, mwx, ne_eq, false_implies, implies_true, forall_eq_or_imp, MW.get, ev, evs, argFr, resV, slHK, partsV, partsS, setR, Nat.reduceLeDiff, reduceIte, Nat.reduceEqDiff, Nat.reduceBEq, reduceCtorEq, Nat.reduceAdd, Nat.reduceMul, Nat.reduceSub, Nat.reduceLT, Int.reduceToNat, Int.reduceLT, Int.reduceLE, Int.reduceEq, Int.reduceAdd, Int.reduceNeg, Int.reduceMul, Int.reduceSub]
    refine Does.call (bytes_ref _) (fr1 (.int _ _)) ?_
    simp -implicitDefEqProofs (disch := omega) only [h3, h4, h6, mwx, ne_eq, false_implies, implies_true, forall_eq_or_imp, MW.get, ev, evs, argFr, resV, slHK, partsV, partsS, setR, Nat.reduceLeDiff, reduceIte, Nat.reduceEqDiff, Nat.reduceBEq, reduceCtorEq, Nat.reduceAdd, Nat.reduceMul, Nat.reduceSub, Nat.reduceLT, Int.reduceToNat, Int.reduceLT, Int.reduceLE, Int.reduceEq, Int.reduceAdd, Int.reduceNeg, Int.reduceMul, Int.reduceSub]
    exact ⟨k - 1, by omega, hJ _ _ ⟨i + 1, by omega, by omega, h3, rfl, by rw [room_take hi]; rfl⟩⟩
  · simp -implicitDefEqProofs (disch := omega) only [h3, h6, mwx, ne_eq, false_implies, implies_true, forall_eq_or_imp, MW.get, ev, evs, argFr, resV, slHK, partsV, partsS, setR, Nat.reduceLeDiff, reduceIte, Nat.reduceEqDiff, Nat.reduceBEq, reduceCtorEq, Nat.reduceAdd, Nat.reduceMul, Nat.reduceSub, Nat.reduceLT, Int.reduceToNat, Int.reduceLT, Int.reduceLE, Int.reduceEq, Int.reduceAdd, Int.reduceNeg, Int.reduceMul, Int.reduceSub]
    obtain rfl : i = l.length := by omega
    exact frz_int (by rw [List.take_length])

theorem take_step {l m : List Int} {i : Nat} (h1 : i < l.length) (h2 : i < m.length) : l.take (i + 1) = m.take (i + 1) ↔ l.take i = m.take i ∧ l.getD i 0 = m.getD i 0 := by
  rw [List.take_add_one, List.take_add_one, List.getElem?_eq_getElem h1, List.getElem?_eq_getElem h2, List.getD_eq_getElem?_getD, List.getD_eq_getElem?_getD, List.getElem?_eq_getElem h1, List.getElem?_eq_getElem h2]
  constructor
  · intro h
    have := List.append_inj' h rfl
    simpa using this
  · rintro ⟨h, h'⟩
    simp at h'
    rw [h, h']

theorem same_ref {v u : V} {l m : List Int} (hv : IsI v l) (hu : IsI u m) (hl : l.length < 2 ^ 62) : Does Try.prog G0 false 17 [v, u] (.bool (decide (l = m))) := by
  refine Does.intro mixed comp17 ?_
  unfold c17
  simp -implicitDefEqProofs (disch := omega) only [lenK_isI hv, lenK_isI hu, mwx, ne_eq, false_implies, implies_true, forall_eq_or_imp, MW.get, ev, evs, argFr, resV, slHK, partsV, partsS, setR, Nat.reduceLeDiff, reduceIte, Nat.reduceEqDiff, Nat.reduceBEq, reduceCtorEq, Nat.reduceAdd, Nat.reduceMul, Nat.reduceSub, Nat.reduceLT, Int.reduceToNat, Int.reduceLT, Int.reduceLE, Int.reduceEq, Int.reduceAdd, Int.reduceNeg, Int.reduceMul, Int.reduceSub]
  refine xc_dec (fun h => ?_) fun h => ?_
  rotate_left
  · simp -implicitDefEqProofs (disch := omega) only [mwx, ne_eq, false_implies, implies_true, forall_eq_or_imp, MW.get, ev, evs, argFr, resV, slHK, partsV, partsS, setR, Nat.reduceLeDiff, reduceIte, Nat.reduceEqDiff, Nat.reduceBEq, reduceCtorEq, Nat.reduceAdd, Nat.reduceMul, Nat.reduceSub, Nat.reduceLT, Int.reduceToNat, Int.reduceLT, Int.reduceLE, Int.reduceEq, Int.reduceAdd, Int.reduceNeg, Int.reduceMul, Int.reduceSub]
    exact frz_bool (by symm; rw [decide_eq_false_iff_not]; rintro rfl; exact h rfl)
  have hlen : l.length = m.length := by omega
  simp -implicitDefEqProofs (disch := omega) only [mwx, ne_eq, false_implies, implies_true, forall_eq_or_imp, MW.get, ev, evs, argFr, resV, slHK, partsV, partsS, setR, Nat.reduceLeDiff, reduceIte, Nat.reduceEqDiff, Nat.reduceBEq, reduceCtorEq, Nat.reduceAdd, Nat.reduceMul, Nat.reduceSub, Nat.reduceLT, Int.reduceToNat, Int.reduceLT, Int.reduceLE, Int.reduceEq, Int.reduceAdd, Int.reduceNeg, Int.reduceMul, Int.reduceSub]
  refine xl_loop (fun k st => ∃ i : Nat, i ≤ l.length ∧ k + i = l.length ∧ get st.fr 0 = v ∧ get st.fr 1 = u ∧ get st.fr 5 = .int .i64 i ∧ l.take i = m.take i) l.length ⟨0, by omega, by omega, rfl, rfl, rfl, rfl⟩ ?_
  rintro J hJ k fr H ⟨i, h1, h2, h3, h4, h5, h6⟩
  simp -implicitDefEqProofs (disch := omega) only [h3, h4, h5, lenK_isI hv, mwx, ne_eq, false_implies, implies_true, forall_eq_or_imp, MW.get, ev, evs, argFr, resV, slHK, partsV, partsS, setR, Nat.reduceLeDiff, reduceIte, Nat.reduceEqDiff, Nat.reduceBEq, reduceCtorEq, Nat.reduceAdd, Nat.reduceMul, Nat.reduceSub, Nat.reduceLT, Int.reduceToNat, Int.reduceLT, Int.reduceLE, Int.reduceEq, Int.reduceAdd, Int.reduceNeg, Int.reduceMul, Int.reduceSub]
  refine xc_dec (fun h8 => ?_) fun h8 => ?_
  · have hi : i < l.length := by omega
    have hi' : i < m.length := by omega
    simp -implicitDefEqProofs (disch := omega) only [h3, h4, h5, iaK_isI hv, iaK_isI hu, mwx, ne_eq, false_implies, implies_true, forall_eq_or_imp, MW.get, ev, evs, argFr, resV, slHK, partsV, partsS, setR, Nat.reduceLeDiff, reduceIte, Nat.reduceEqDiff, Nat.reduceBEq, reduceCtorEq, Nat.reduceAdd, Nat.reduceMul, Nat.reduceSub, Nat.reduceLT, Int.reduceToNat, Int.reduceLT, Int.reduceLE, Int.reduceEq, Int.reduceAdd, Int.reduceNeg, Int.reduceMul, Int.reduceSub]
    refine xc_dec (fun h9 => ?_) fun h9 => ?_
    · simp -implicitDefEqProofs (disch := omega) only [h5, mwx, ne_eq, false_implies, implies_true, forall_eq_or_imp, MW.get, ev, evs, argFr, resV, slHK, partsV, partsS, setR, Nat.reduceLeDiff, reduceIte, Nat.reduceEqDiff, Nat.reduceBEq, reduceCtorEq, Nat.reduceAdd, Nat.reduceMul, Nat.reduceSub, Nat.reduceLT, Int.reduceToNat, Int.reduceLT, Int.reduceLE, Int.reduceEq, Int.reduceAdd, Int.reduceNeg, Int.reduceMul, Int.reduceSub]
      exact ⟨k - 1, by omega, hJ _ _ ⟨i + 1, by omega, by omega, h3, h4, rfl, (take_step hi hi').2 ⟨h6, h9⟩⟩⟩
    · simp -implicitDefEqProofs (disch := omega) only [mwx, ne_eq, false_implies, implies_true, forall_eq_or_imp, MW.get, ev, evs, argFr, resV, slHK, partsV, partsS, setR, Nat.reduceLeDiff, reduceIte, Nat.reduceEqDiff, Nat.reduceBEq, reduceCtorEq, Nat.reduceAdd, Nat.reduceMul, Nat.reduceSub, Nat.reduceLT, Int.reduceToNat, Int.reduceLT, Int.reduceLE, Int.reduceEq, Int.reduceAdd, Int.reduceNeg, Int.reduceMul, Int.reduceSub]
      refine frz_bool ?_
      symm
      rw [decide_eq_false_iff_not]
      rintro rfl
      exact h9 rfl
  · simp -implicitDefEqProofs (disch := omega) only [h3, mwx, ne_eq, false_implies, implies_true, forall_eq_or_imp, MW.get, ev, evs, argFr, resV, slHK, partsV, partsS, setR, Nat.reduceLeDiff, reduceIte, Nat.reduceEqDiff, Nat.reduceBEq, reduceCtorEq, Nat.reduceAdd, Nat.reduceMul, Nat.reduceSub, Nat.reduceLT, Int.reduceToNat, Int.reduceLT, Int.reduceLE, Int.reduceEq, Int.reduceAdd, Int.reduceNeg, Int.reduceMul, Int.reduceSub]
    refine frz_bool ?_
    obtain rfl : i = l.length := by omega
    symm
    rw [decide_eq_true_iff]
    rw [List.take_length] at h6
    rw [h6, hlen, List.take_length]

/-- The classes of an object's slots. -/
def cut (n : Int) : List Int := List.replicate (n / 64).toNat 3 ++ (if 0 < n % 64 then [fit (n % 64)] else [])

theorem rep_succ (k : Nat) : List.replicate k (3 : Int) ++ [3] = List.replicate (k + 1) 3 := by
  rw [List.replicate_succ']

theorem cut_fn (n : Int) (h : 1 ≤ n ∧ n ≤ 4096) : Does Try.prog G0 false 9 [.int .i64 n] (.tup [.vs (ints (cut n)), .int .i64 0]) := by
  refine Does.intro mixed comp9 ?_
  unfold c9
  have g1 : ¬ n < 1 := by omega
  have g2 : ¬ 4096 < n := by omega
  simp -implicitDefEqProofs (disch := omega) only [g1, g2, mwx, ne_eq, false_implies, implies_true, forall_eq_or_imp, MW.get, ev, evs, argFr, resV, slHK, partsV, partsS, setR, Nat.reduceLeDiff, reduceIte, Nat.reduceEqDiff, Nat.reduceBEq, reduceCtorEq, Nat.reduceAdd, Nat.reduceMul, Nat.reduceSub, Nat.reduceLT, Int.reduceToNat, Int.reduceLT, Int.reduceLE, Int.reduceEq, Int.reduceAdd, Int.reduceNeg, Int.reduceMul, Int.reduceSub]
  refine xl_loop (fun k st => ∃ (i : Nat) (v : V), 64 * (i : Int) ≤ n ∧ k + i = 64 ∧ get st.fr 0 = .int .i64 (n - 64 * i) ∧ get st.fr 2 = v ∧ Own 1 st.H v (ints (List.replicate i 3))) 64 ⟨0, .nils, by omega, by omega, by simp [MW.get], rfl, Own.nil _ _⟩ ?_
  rintro J hJ k fr H ⟨i, v, h1, h2, h3, h4, h5⟩
  have hO : Own 1 H v (ints (List.replicate i 3)) := h5
  simp -implicitDefEqProofs (disch := omega) only [h3, h4, mwx, ne_eq, false_implies, implies_true, forall_eq_or_imp, MW.get, ev, evs, argFr, resV, slHK, partsV, partsS, setR, Nat.reduceLeDiff, reduceIte, Nat.reduceEqDiff, Nat.reduceBEq, reduceCtorEq, Nat.reduceAdd, Nat.reduceMul, Nat.reduceSub, Nat.reduceLT, Int.reduceToNat, Int.reduceLT, Int.reduceLE, Int.reduceEq, Int.reduceAdd, Int.reduceNeg, Int.reduceMul, Int.reduceSub]
  refine Does.call (bytes_fn 3) (fr1 (.int _ _)) ?_
  have hb3 : byts 3 = 64 := by decide
  simp -implicitDefEqProofs (disch := omega) only [h3, h4, hb3, mwx, ne_eq, false_implies, implies_true, forall_eq_or_imp, MW.get, ev, evs, argFr, resV, slHK, partsV, partsS, setR, Nat.reduceLeDiff, reduceIte, Nat.reduceEqDiff, Nat.reduceBEq, reduceCtorEq, Nat.reduceAdd, Nat.reduceMul, Nat.reduceSub, Nat.reduceLT, Int.reduceToNat, Int.reduceLT, Int.reduceLE, Int.reduceEq, Int.reduceAdd, Int.reduceNeg, Int.reduceMul, Int.reduceSub]
  refine xc_dec (fun h8 => ?_) fun h8 => ?_
  · simp -implicitDefEqProofs (disch := omega) only [h3, h4, mwx, ne_eq, false_implies, implies_true, forall_eq_or_imp, MW.get, ev, evs, argFr, resV, slHK, partsV, partsS, setR, Nat.reduceLeDiff, reduceIte, Nat.reduceEqDiff, Nat.reduceBEq, reduceCtorEq, Nat.reduceAdd, Nat.reduceMul, Nat.reduceSub, Nat.reduceLT, Int.reduceToNat, Int.reduceLT, Int.reduceLE, Int.reduceEq, Int.reduceAdd, Int.reduceNeg, Int.reduceMul, Int.reduceSub]
    refine (hO.grow _).app (ints_goods _) ?_ ?_ fun v' H' hO' => ?_
    · simp only [goods_cons, goods_nil, good_int, and_self]
    · exact roomy_of (by simp [ints_length]; omega) (by omega)
    simp -implicitDefEqProofs (disch := omega) only [h3, h4, mwx, ne_eq, false_implies, implies_true, forall_eq_or_imp, MW.get, ev, evs, argFr, resV, slHK, partsV, partsS, setR, Nat.reduceLeDiff, reduceIte, Nat.reduceEqDiff, Nat.reduceBEq, reduceCtorEq, Nat.reduceAdd, Nat.reduceMul, Nat.reduceSub, Nat.reduceLT, Int.reduceToNat, Int.reduceLT, Int.reduceLE, Int.reduceEq, Int.reduceAdd, Int.reduceNeg, Int.reduceMul, Int.reduceSub]
    refine Does.call (bytes_fn 3) (fr1 (.int _ _)) ?_
    simp -implicitDefEqProofs (disch := omega) only [h3, h4, hb3, mwx, ne_eq, false_implies, implies_true, forall_eq_or_imp, MW.get, ev, evs, argFr, resV, slHK, partsV, partsS, setR, Nat.reduceLeDiff, reduceIte, Nat.reduceEqDiff, Nat.reduceBEq, reduceCtorEq, Nat.reduceAdd, Nat.reduceMul, Nat.reduceSub, Nat.reduceLT, Int.reduceToNat, Int.reduceLT, Int.reduceLE, Int.reduceEq, Int.reduceAdd, Int.reduceNeg, Int.reduceMul, Int.reduceSub]
    refine ⟨k - 1, by omega, hJ _ _ ⟨i + 1, v', by omega, by omega, by show V.int _ _ = V.int _ _; congr 1; omega, rfl, ?_⟩⟩
    have := hO'
    rw [show [V.int .i64 3] = ints [3] from rfl, ints_append, rep_succ] at this
    exact this
  · have hq : (n / 64).toNat = i := by omega
    have hr : n % 64 = n - 64 * i := by omega
    simp -implicitDefEqProofs (disch := omega) only [h3, h4, mwx, ne_eq, false_implies, implies_true, forall_eq_or_imp, MW.get, ev, evs, argFr, resV, slHK, partsV, partsS, setR, Nat.reduceLeDiff, reduceIte, Nat.reduceEqDiff, Nat.reduceBEq, reduceCtorEq, Nat.reduceAdd, Nat.reduceMul, Nat.reduceSub, Nat.reduceLT, Int.reduceToNat, Int.reduceLT, Int.reduceLE, Int.reduceEq, Int.reduceAdd, Int.reduceNeg, Int.reduceMul, Int.reduceSub]
    refine xc_dec (fun h9 => ?_) fun h9 => ?_
    · simp -implicitDefEqProofs (disch := omega) only [h3, h4, mwx, ne_eq, false_implies, implies_true, forall_eq_or_imp, MW.get, ev, evs, argFr, resV, slHK, partsV, partsS, setR, Nat.reduceLeDiff, reduceIte, Nat.reduceEqDiff, Nat.reduceBEq, reduceCtorEq, Nat.reduceAdd, Nat.reduceMul, Nat.reduceSub, Nat.reduceLT, Int.reduceToNat, Int.reduceLT, Int.reduceLE, Int.reduceEq, Int.reduceAdd, Int.reduceNeg, Int.reduceMul, Int.reduceSub]
      refine Does.call (fit_fn _) (fr1 (.int _ _)) ?_
      simp -implicitDefEqProofs (disch := omega) only [h3, h4, mwx, ne_eq, false_implies, implies_true, forall_eq_or_imp, MW.get, ev, evs, argFr, resV, slHK, partsV, partsS, setR, Nat.reduceLeDiff, reduceIte, Nat.reduceEqDiff, Nat.reduceBEq, reduceCtorEq, Nat.reduceAdd, Nat.reduceMul, Nat.reduceSub, Nat.reduceLT, Int.reduceToNat, Int.reduceLT, Int.reduceLE, Int.reduceEq, Int.reduceAdd, Int.reduceNeg, Int.reduceMul, Int.reduceSub]
      refine (hO.grow _).app (ints_goods _) ?_ ?_ fun v' H' hO' => ?_
      · simp only [goods_cons, goods_nil, good_int, and_self]
      · exact roomy_of (by simp [ints_length]; omega) (by omega)
      simp -implicitDefEqProofs (disch := omega) only [mwx, ne_eq, false_implies, implies_true, forall_eq_or_imp, MW.get, ev, evs, argFr, resV, slHK, partsV, partsS, setR, Nat.reduceLeDiff, reduceIte, Nat.reduceEqDiff, Nat.reduceBEq, reduceCtorEq, Nat.reduceAdd, Nat.reduceMul, Nat.reduceSub, Nat.reduceLT, Int.reduceToNat, Int.reduceLT, Int.reduceLE, Int.reduceEq, Int.reduceAdd, Int.reduceNeg, Int.reduceMul, Int.reduceSub]
      refine frz_tup2 ?_ (frz_int rfl)
      rw [show [V.int .i64 (fit (n - 64 * i))] = ints [fit (n - 64 * i)] from rfl, ints_append] at hO'
      unfold cut
      rw [hq, hr, if_pos (by omega)]
      exact hO'.frz (by simp)
    · simp -implicitDefEqProofs (disch := omega) only [h4, mwx, ne_eq, false_implies, implies_true, forall_eq_or_imp, MW.get, ev, evs, argFr, resV, slHK, partsV, partsS, setR, Nat.reduceLeDiff, reduceIte, Nat.reduceEqDiff, Nat.reduceBEq, reduceCtorEq, Nat.reduceAdd, Nat.reduceMul, Nat.reduceSub, Nat.reduceLT, Int.reduceToNat, Int.reduceLT, Int.reduceLE, Int.reduceEq, Int.reduceAdd, Int.reduceNeg, Int.reduceMul, Int.reduceSub]
      refine frz_tup2 ?_ (frz_int rfl)
      unfold cut
      rw [hq, hr, if_neg (by omega), List.append_nil]
      exact hO.frz (by intro h0; simp at h0; omega)

theorem cut_bad (n : Int) (h : n < 1 ∨ 4096 < n) : Does Try.prog G0 false 9 [.int .i64 n] (.tup [.nils, .int .i64 100]) := by
  refine Does.intro mixed comp9 ?_
  unfold c9
  simp -implicitDefEqProofs (disch := omega) only [mwx, ne_eq, false_implies, implies_true, forall_eq_or_imp, MW.get, ev, evs, argFr, resV, slHK, partsV, partsS, setR, Nat.reduceLeDiff, reduceIte, Nat.reduceEqDiff, Nat.reduceBEq, reduceCtorEq, Nat.reduceAdd, Nat.reduceMul, Nat.reduceSub, Nat.reduceLT, Int.reduceToNat, Int.reduceLT, Int.reduceLE, Int.reduceEq, Int.reduceAdd, Int.reduceNeg, Int.reduceMul, Int.reduceSub]
  refine xg_decf (fun h1 => ?_) fun h1 => ?_
  · simp -implicitDefEqProofs (disch := omega) only [h1, mwx, ne_eq, false_implies, implies_true, forall_eq_or_imp, MW.get, ev, evs, argFr, resV, slHK, partsV, partsS, setR, Nat.reduceLeDiff, reduceIte, Nat.reduceEqDiff, Nat.reduceBEq, reduceCtorEq, Nat.reduceAdd, Nat.reduceMul, Nat.reduceSub, Nat.reduceLT, Int.reduceToNat, Int.reduceLT, Int.reduceLE, Int.reduceEq, Int.reduceAdd, Int.reduceNeg, Int.reduceMul, Int.reduceSub]
    exact .free (.tup fun i hi => by have : i = 0 ∨ i = 1 := (by simp at hi; omega); rcases this with rfl | rfl; exact .nils; exact .int _ _)
  · have h2 : 4096 < n := by omega
    simp -implicitDefEqProofs (disch := omega) only [h1, h2, mwx, ne_eq, false_implies, implies_true, forall_eq_or_imp, MW.get, ev, evs, argFr, resV, slHK, partsV, partsS, setR, Nat.reduceLeDiff, reduceIte, Nat.reduceEqDiff, Nat.reduceBEq, reduceCtorEq, Nat.reduceAdd, Nat.reduceMul, Nat.reduceSub, Nat.reduceLT, Int.reduceToNat, Int.reduceLT, Int.reduceLE, Int.reduceEq, Int.reduceAdd, Int.reduceNeg, Int.reduceMul, Int.reduceSub]
    exact .free (.tup fun i hi => by have : i = 0 ∨ i = 1 := (by simp at hi; omega); rcases this with rfl | rfl; exact .nils; exact .int _ _)

theorem cut_bad_ref (n : Int) (h : n < 1 ∨ 4096 < n) : Does Try.prog G0 false 10 [.int .i64 n] (.tup [.nils, .int .i64 100]) := by
  refine Does.intro mixed comp10 ?_
  unfold c10
  simp -implicitDefEqProofs (disch := omega) only [mwx, ne_eq, false_implies, implies_true, forall_eq_or_imp, MW.get, ev, evs, argFr, resV, slHK, partsV, partsS, setR, Nat.reduceLeDiff, reduceIte, Nat.reduceEqDiff, Nat.reduceBEq, reduceCtorEq, Nat.reduceAdd, Nat.reduceMul, Nat.reduceSub, Nat.reduceLT, Int.reduceToNat, Int.reduceLT, Int.reduceLE, Int.reduceEq, Int.reduceAdd, Int.reduceNeg, Int.reduceMul, Int.reduceSub]
  refine xg_decf (fun h1 => ?_) fun h1 => ?_
  · simp -implicitDefEqProofs (disch := omega) only [h1, mwx, ne_eq, false_implies, implies_true, forall_eq_or_imp, MW.get, ev, evs, argFr, resV, slHK, partsV, partsS, setR, Nat.reduceLeDiff, reduceIte, Nat.reduceEqDiff, Nat.reduceBEq, reduceCtorEq, Nat.reduceAdd, Nat.reduceMul, Nat.reduceSub, Nat.reduceLT, Int.reduceToNat, Int.reduceLT, Int.reduceLE, Int.reduceEq, Int.reduceAdd, Int.reduceNeg, Int.reduceMul, Int.reduceSub]
    exact .free (.tup fun i hi => by have : i = 0 ∨ i = 1 := (by simp at hi; omega); rcases this with rfl | rfl; exact .nils; exact .int _ _)
  · have h2 : 4096 < n := by omega
    simp -implicitDefEqProofs (disch := omega) only [h1, h2, mwx, ne_eq, false_implies, implies_true, forall_eq_or_imp, MW.get, ev, evs, argFr, resV, slHK, partsV, partsS, setR, Nat.reduceLeDiff, reduceIte, Nat.reduceEqDiff, Nat.reduceBEq, reduceCtorEq, Nat.reduceAdd, Nat.reduceMul, Nat.reduceSub, Nat.reduceLT, Int.reduceToNat, Int.reduceLT, Int.reduceLE, Int.reduceEq, Int.reduceAdd, Int.reduceNeg, Int.reduceMul, Int.reduceSub]
    exact .free (.tup fun i hi => by have : i = 0 ∨ i = 1 := (by simp at hi; omega); rcases this with rfl | rfl; exact .nils; exact .int _ _)

theorem cut_ref (n : Int) (h : 1 ≤ n ∧ n ≤ 4096) : Does Try.prog G0 false 10 [.int .i64 n] (.tup [.vs (ints (cut n)), .int .i64 0]) := by
  refine Does.intro mixed comp10 ?_
  unfold c10
  have g1 : ¬ n < 1 := by omega
  have g2 : ¬ 4096 < n := by omega
  have g3 : Int.tdiv n 64 = n / 64 := Int.tdiv_eq_ediv_of_nonneg (by omega)
  have g4 : Int.tmod n 64 = n % 64 := Int.tmod_eq_emod_of_nonneg (by omega)
  simp -implicitDefEqProofs (disch := omega) only [g1, g2, mwx, ne_eq, false_implies, implies_true, forall_eq_or_imp, MW.get, ev, evs, argFr, resV, slHK, partsV, partsS, setR, Nat.reduceLeDiff, reduceIte, Nat.reduceEqDiff, Nat.reduceBEq, reduceCtorEq, Nat.reduceAdd, Nat.reduceMul, Nat.reduceSub, Nat.reduceLT, Int.reduceToNat, Int.reduceLT, Int.reduceLE, Int.reduceEq, Int.reduceAdd, Int.reduceNeg, Int.reduceMul, Int.reduceSub]
  refine xl_loop (fun k st => ∃ (i : Nat) (v : V), (i : Int) ≤ n / 64 ∧ k + i = 64 ∧ get st.fr 0 = .int .i64 n ∧ get st.fr 5 = .int .i64 i ∧ get st.fr 4 = v ∧ Own 1 st.H v (ints (List.replicate i 3))) 64 ⟨0, .nils, by omega, by omega, rfl, rfl, rfl, Own.nil _ _⟩ ?_
  rintro J hJ k fr H ⟨i, v, h1, h2, h3, h3', h4, h5⟩
  have hO : Own 1 H v (ints (List.replicate i 3)) := h5
  have g5 : IntKind.i64.wrap (n / 64) = n / 64 := wrap64 (by omega) (by omega)
  simp -implicitDefEqProofs (disch := omega) only [h3, h3', h4, g3, g5, mwx, ne_eq, false_implies, implies_true, forall_eq_or_imp, MW.get, ev, evs, argFr, resV, slHK, partsV, partsS, setR, Nat.reduceLeDiff, reduceIte, Nat.reduceEqDiff, Nat.reduceBEq, reduceCtorEq, Nat.reduceAdd, Nat.reduceMul, Nat.reduceSub, Nat.reduceLT, Int.reduceToNat, Int.reduceLT, Int.reduceLE, Int.reduceEq, Int.reduceAdd, Int.reduceNeg, Int.reduceMul, Int.reduceSub]
  refine xc_dec (fun h8 => ?_) fun h8 => ?_
  · simp -implicitDefEqProofs (disch := omega) only [h3, h4, mwx, ne_eq, false_implies, implies_true, forall_eq_or_imp, MW.get, ev, evs, argFr, resV, slHK, partsV, partsS, setR, Nat.reduceLeDiff, reduceIte, Nat.reduceEqDiff, Nat.reduceBEq, reduceCtorEq, Nat.reduceAdd, Nat.reduceMul, Nat.reduceSub, Nat.reduceLT, Int.reduceToNat, Int.reduceLT, Int.reduceLE, Int.reduceEq, Int.reduceAdd, Int.reduceNeg, Int.reduceMul, Int.reduceSub]
    refine (hO.grow _).app (ints_goods _) ?_ ?_ fun v' H' hO' => ?_
    · simp only [goods_cons, goods_nil, good_int, and_self]
    · exact roomy_of (by simp [ints_length]; omega) (by omega)
    simp -implicitDefEqProofs (disch := omega) only [h3, h3', h4, mwx, ne_eq, false_implies, implies_true, forall_eq_or_imp, MW.get, ev, evs, argFr, resV, slHK, partsV, partsS, setR, Nat.reduceLeDiff, reduceIte, Nat.reduceEqDiff, Nat.reduceBEq, reduceCtorEq, Nat.reduceAdd, Nat.reduceMul, Nat.reduceSub, Nat.reduceLT, Int.reduceToNat, Int.reduceLT, Int.reduceLE, Int.reduceEq, Int.reduceAdd, Int.reduceNeg, Int.reduceMul, Int.reduceSub]
    refine ⟨k - 1, by omega, hJ _ _ ⟨i + 1, v', by omega, by omega, h3, rfl, rfl, ?_⟩⟩
    have := hO'
    rw [show [V.int .i64 3] = ints [3] from rfl, ints_append, rep_succ] at this
    exact this
  · have hq : (n / 64).toNat = i := by omega
    simp -implicitDefEqProofs (disch := omega) only [h3, h4, g4, mwx, ne_eq, false_implies, implies_true, forall_eq_or_imp, MW.get, ev, evs, argFr, resV, slHK, partsV, partsS, setR, Nat.reduceLeDiff, reduceIte, Nat.reduceEqDiff, Nat.reduceBEq, reduceCtorEq, Nat.reduceAdd, Nat.reduceMul, Nat.reduceSub, Nat.reduceLT, Int.reduceToNat, Int.reduceLT, Int.reduceLE, Int.reduceEq, Int.reduceAdd, Int.reduceNeg, Int.reduceMul, Int.reduceSub]
    refine xc_dec (fun h9 => ?_) fun h9 => ?_
    · simp -implicitDefEqProofs (disch := omega) only [h3, h4, g4, mwx, ne_eq, false_implies, implies_true, forall_eq_or_imp, MW.get, ev, evs, argFr, resV, slHK, partsV, partsS, setR, Nat.reduceLeDiff, reduceIte, Nat.reduceEqDiff, Nat.reduceBEq, reduceCtorEq, Nat.reduceAdd, Nat.reduceMul, Nat.reduceSub, Nat.reduceLT, Int.reduceToNat, Int.reduceLT, Int.reduceLE, Int.reduceEq, Int.reduceAdd, Int.reduceNeg, Int.reduceMul, Int.reduceSub]
      refine Does.call (fit_ref _) (fr1 (.int _ _)) ?_
      simp -implicitDefEqProofs (disch := omega) only [h3, h4, mwx, ne_eq, false_implies, implies_true, forall_eq_or_imp, MW.get, ev, evs, argFr, resV, slHK, partsV, partsS, setR, Nat.reduceLeDiff, reduceIte, Nat.reduceEqDiff, Nat.reduceBEq, reduceCtorEq, Nat.reduceAdd, Nat.reduceMul, Nat.reduceSub, Nat.reduceLT, Int.reduceToNat, Int.reduceLT, Int.reduceLE, Int.reduceEq, Int.reduceAdd, Int.reduceNeg, Int.reduceMul, Int.reduceSub]
      refine (hO.grow _).app (ints_goods _) ?_ ?_ fun v' H' hO' => ?_
      · simp only [goods_cons, goods_nil, good_int, and_self]
      · exact roomy_of (by simp [ints_length]; omega) (by omega)
      simp -implicitDefEqProofs (disch := omega) only [mwx, ne_eq, false_implies, implies_true, forall_eq_or_imp, MW.get, ev, evs, argFr, resV, slHK, partsV, partsS, setR, Nat.reduceLeDiff, reduceIte, Nat.reduceEqDiff, Nat.reduceBEq, reduceCtorEq, Nat.reduceAdd, Nat.reduceMul, Nat.reduceSub, Nat.reduceLT, Int.reduceToNat, Int.reduceLT, Int.reduceLE, Int.reduceEq, Int.reduceAdd, Int.reduceNeg, Int.reduceMul, Int.reduceSub]
      refine frz_tup2 ?_ (frz_int rfl)
      rw [show [V.int .i64 (fit (n % 64))] = ints [fit (n % 64)] from rfl, ints_append] at hO'
      unfold cut
      rw [hq, if_pos h9]
      exact hO'.frz (by simp)
    · simp -implicitDefEqProofs (disch := omega) only [h4, mwx, ne_eq, false_implies, implies_true, forall_eq_or_imp, MW.get, ev, evs, argFr, resV, slHK, partsV, partsS, setR, Nat.reduceLeDiff, reduceIte, Nat.reduceEqDiff, Nat.reduceBEq, reduceCtorEq, Nat.reduceAdd, Nat.reduceMul, Nat.reduceSub, Nat.reduceLT, Int.reduceToNat, Int.reduceLT, Int.reduceLE, Int.reduceEq, Int.reduceAdd, Int.reduceNeg, Int.reduceMul, Int.reduceSub]
      refine frz_tup2 ?_ (frz_int rfl)
      unfold cut
      rw [hq, if_neg h9, List.append_nil]
      exact hO.frz (by intro h0; simp at h0; omega)

end Go.Proofs.Ytfpdkikhigffoaa
