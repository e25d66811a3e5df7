/- Class: what the other laws do. -/
import Derived.Test.YtfpdkikhigffoaaMwClP
namespace Go.Proofs.Ytfpdkikhigffoaa
open Go Go.MW
set_option linter.unusedSimpArgs false
set_option linter.unusedVariables false

theorem take_ints_free (l : List Int) : Free true (.vs (ints l)) := free_ints l

/-- What the law ClassFits asks of the cut. -/
theorem fits_pure {n : Int} (h : 1 ≤ n ∧ n ≤ 4096) : ∃ (l : List Int) (x : Int), cut n = l ++ [x] ∧ (∀ c ∈ l, c = 3) ∧ l.length ≤ 63 ∧ x = fit (n - room l) ∧ n ≤ room (cut n) ∧ room l < n := by
  obtain ⟨hr, hl⟩ := cut_room h
  obtain ⟨q, hq, hq2, ⟨h1, h2⟩ | ⟨h1, h3, h2⟩⟩ := cut_spec h
  · refine ⟨List.replicate q 3, fit (n % 64), h2, by simp, ?_, ?_, ?_, ?_⟩
    · simp; omega
    · rw [room_rsum (by simp; omega), rsum_rep]; congr 1; omega
    · rw [hr, if_pos h1]
      have := fit_cases (r := n % 64) (by omega)
      omega
    · rw [room_rsum (by simp; omega), rsum_rep]; omega
  · refine ⟨List.replicate (q - 1) 3, 3, ?_, by simp, ?_, ?_, ?_, ?_⟩
    · rw [h2, rep_succ, Nat.sub_add_cancel h3]
    · simp; omega
    · rw [room_rsum (by simp; omega), rsum_rep, show n - 64 * ((q - 1 : Nat) : Int) = 64 by omega]; decide
    · rw [hr, if_neg (by omega)]; omega
    · rw [room_rsum (by simp; omega), rsum_rep]; omega

theorem fits_law (n : Int) : Does Try.prog G0 true 4 [.int .i64 n] (.bool true) := by
  refine Does.intro mixed comp4 ?_
  unfold c4
  simp -implicitDefEqProofs (disch := omega) only [mwx, ne_eq, false_implies, implies_true, forall_eq_or_imp, MW.get, ev, evs, argFr, resV, slHK, partsV, partsS, setR, Nat.reduceLeDiff, reduceIte, Nat.reduceEqDiff, Nat.reduceBEq, reduceCtorEq, Nat.reduceAdd, Nat.reduceMul, Nat.reduceSub, Nat.reduceLT, Int.reduceToNat, Int.reduceLT, Int.reduceLE, Int.reduceEq, Int.reduceAdd, Int.reduceNeg, Int.reduceMul, Int.reduceSub]
  refine Does.call awake_fn fr0 ?_
  simp -implicitDefEqProofs (disch := omega) only [mwx, ne_eq, false_implies, implies_true, forall_eq_or_imp, MW.get, ev, evs, argFr, resV, slHK, partsV, partsS, setR, Nat.reduceLeDiff, reduceIte, Nat.reduceEqDiff, Nat.reduceBEq, reduceCtorEq, Nat.reduceAdd, Nat.reduceMul, Nat.reduceSub, Nat.reduceLT, Int.reduceToNat, Int.reduceLT, Int.reduceLE, Int.reduceEq, Int.reduceAdd, Int.reduceNeg, Int.reduceMul, Int.reduceSub]
  by_cases hn : 1 ≤ n ∧ n ≤ 4096
  · obtain ⟨l, x, hc, hl3, hl63, hx, hge, hlt⟩ := fits_pure hn
    have hlen : (l ++ [x]).length = l.length + 1 := by simp
    refine Does.call (cut_fn n hn) (fr1 (.int _ _)) ?_
    rw [hc] at hge ⊢
    have e0 : ¬ ((l.length : Int) + 1 = 0) := by omega
    have e1 : (((l.length + 1 : Nat) : Int)) = l.length + 1 := by omega
    have e2 : ((l.length : Int) + 1 - 1) = l.length := by omega
    have e3 : l.length ≤ l.length + 1 := by omega
    have e4 : l.length < l.length + 1 := by omega
    have hr0 := rsum_range l
    have hr1 : room l = rsum l := room_rsum (by omega)
    have htk : (l ++ [x]).take l.length = l := by simp
    have hgx : (l ++ [x]).getD l.length 0 = x := by simp [List.getD_eq_getElem?_getD]
    simp -implicitDefEqProofs (disch := omega) only [hlen, e1, e2, e0, e3, htk, mwx, ne_eq, false_implies, implies_true, forall_eq_or_imp, MW.get, ev, evs, argFr, resV, slHK, partsV, partsS, setR, Nat.reduceLeDiff, reduceIte, Nat.reduceEqDiff, Nat.reduceBEq, reduceCtorEq, Nat.reduceAdd, Nat.reduceMul, Nat.reduceSub, Nat.reduceLT, Int.reduceToNat, Int.reduceLT, Int.reduceLE, Int.reduceEq, Int.reduceAdd, Int.reduceNeg, Int.reduceMul, Int.reduceSub]
    refine Does.call (room_fn (isI_vs l) (by omega)) (fr1 (free_ints _)) ?_
    simp -implicitDefEqProofs (disch := omega) only [hlen, e1, e2, e3, e4, hgx, mwx, ne_eq, false_implies, implies_true, forall_eq_or_imp, MW.get, ev, evs, argFr, resV, slHK, partsV, partsS, setR, Nat.reduceLeDiff, reduceIte, Nat.reduceEqDiff, Nat.reduceBEq, reduceCtorEq, Nat.reduceAdd, Nat.reduceMul, Nat.reduceSub, Nat.reduceLT, Int.reduceToNat, Int.reduceLT, Int.reduceLE, Int.reduceEq, Int.reduceAdd, Int.reduceNeg, Int.reduceMul, Int.reduceSub]
    refine Does.call (fit_fn _) (fr1 (.int _ _)) ?_
    simp -implicitDefEqProofs (disch := omega) only [← hx, mwx, ne_eq, false_implies, implies_true, forall_eq_or_imp, MW.get, ev, evs, argFr, resV, slHK, partsV, partsS, setR, Nat.reduceLeDiff, reduceIte, Nat.reduceEqDiff, Nat.reduceBEq, reduceCtorEq, Nat.reduceAdd, Nat.reduceMul, Nat.reduceSub, Nat.reduceLT, Int.reduceToNat, Int.reduceLT, Int.reduceLE, Int.reduceEq, Int.reduceAdd, Int.reduceNeg, Int.reduceMul, Int.reduceSub]
    refine xl_loop (fun k st => ∃ i : Nat, i ≤ l.length ∧ k + i = l.length ∧ get st.fr 8 = .int .i64 i ∧ get st.fr 4 = .vs (ints (l ++ [x])) ∧ get st.fr 3 = .bool true ∧ get st.fr 0 = .int .i64 n ∧ get st.fr 6 = .int .i64 (room l) ∧ get st.fr 7 = .bool true) l.length ⟨0, by omega, by omega, rfl, rfl, rfl, rfl, rfl, rfl⟩ ?_
    rintro J hJ k fr H ⟨i, h1, h2, h3, h4, h5, h6, h7, h8⟩
    simp -implicitDefEqProofs (disch := omega) only [h3, h4, hlen, e1, mwx, ne_eq, false_implies, implies_true, forall_eq_or_imp, MW.get, ev, evs, argFr, resV, slHK, partsV, partsS, setR, Nat.reduceLeDiff, reduceIte, Nat.reduceEqDiff, Nat.reduceBEq, reduceCtorEq, Nat.reduceAdd, Nat.reduceMul, Nat.reduceSub, Nat.reduceLT, Int.reduceToNat, Int.reduceLT, Int.reduceLE, Int.reduceEq, Int.reduceAdd, Int.reduceNeg, Int.reduceMul, Int.reduceSub]
    refine xc_dec (fun h9 => ?_) fun h9 => ?_
    · have hi : i < l.length + 1 := by omega
      have hg : (l ++ [x]).getD i 0 = 3 := by
        have hil : i < l.length := by omega
        rw [List.getD_eq_getElem?_getD, List.getElem?_append_left hil, List.getElem?_eq_getElem hil]
        exact hl3 _ (List.getElem_mem hil)
      simp -implicitDefEqProofs (disch := omega) only [h3, h4, hlen, hi, hg, mwx, ne_eq, false_implies, implies_true, forall_eq_or_imp, MW.get, ev, evs, argFr, resV, slHK, partsV, partsS, setR, Nat.reduceLeDiff, reduceIte, Nat.reduceEqDiff, Nat.reduceBEq, reduceCtorEq, Nat.reduceAdd, Nat.reduceMul, Nat.reduceSub, Nat.reduceLT, Int.reduceToNat, Int.reduceLT, Int.reduceLE, Int.reduceEq, Int.reduceAdd, Int.reduceNeg, Int.reduceMul, Int.reduceSub]
      exact ⟨k - 1, by omega, hJ _ _ ⟨i + 1, by omega, by omega, rfl, h4, h5, h6, h7, h8⟩⟩
    · simp -implicitDefEqProofs (disch := omega) only [h3, h4, h5, h6, h7, h8, hlen, e1, mwx, ne_eq, false_implies, implies_true, forall_eq_or_imp, MW.get, ev, evs, argFr, resV, slHK, partsV, partsS, setR, Nat.reduceLeDiff, reduceIte, Nat.reduceEqDiff, Nat.reduceBEq, reduceCtorEq, Nat.reduceAdd, Nat.reduceMul, Nat.reduceSub, Nat.reduceLT, Int.reduceToNat, Int.reduceLT, Int.reduceLE, Int.reduceEq, Int.reduceAdd, Int.reduceNeg, Int.reduceMul, Int.reduceSub]
      refine Does.call (room_fn (isI_vs (l ++ [x])) (by simp; omega)) (fr1 (free_ints _)) ?_
      have d1 : (n ≤ room (l ++ [x])) = True := eq_true hge
      have d2 : (room l < n) = True := eq_true hlt
      have d3 : ((l.length : Int) + 1 ≤ 64) = True := eq_true (by omega)
      simp -implicitDefEqProofs (disch := omega) only [h3, h4, h5, h6, h7, h8, hlen, e1, d1, d2, d3, mwx, ne_eq, false_implies, implies_true, forall_eq_or_imp, MW.get, ev, evs, argFr, resV, slHK, partsV, partsS, setR, Nat.reduceLeDiff, reduceIte, Nat.reduceEqDiff, Nat.reduceBEq, reduceCtorEq, Nat.reduceAdd, Nat.reduceMul, Nat.reduceSub, Nat.reduceLT, Int.reduceToNat, Int.reduceLT, Int.reduceLE, Int.reduceEq, Int.reduceAdd, Int.reduceNeg, Int.reduceMul, Int.reduceSub]
      exact frz_bool rfl
  · have hn' : n < 1 ∨ 4096 < n := by omega
    refine Does.call (cut_bad n hn') (fr1 (.int _ _)) ?_
    simp -implicitDefEqProofs (disch := omega) only [mwx, ne_eq, false_implies, implies_true, forall_eq_or_imp, MW.get, ev, evs, argFr, resV, slHK, partsV, partsS, setR, Nat.reduceLeDiff, reduceIte, Nat.reduceEqDiff, Nat.reduceBEq, reduceCtorEq, Nat.reduceAdd, Nat.reduceMul, Nat.reduceSub, Nat.reduceLT, Int.reduceToNat, Int.reduceLT, Int.reduceLE, Int.reduceEq, Int.reduceAdd, Int.reduceNeg, Int.reduceMul, Int.reduceSub]
    refine xg_decf (fun h => ?_) fun h => ?_
    · simp -implicitDefEqProofs (disch := omega) only [h, mwx, ne_eq, false_implies, implies_true, forall_eq_or_imp, MW.get, ev, evs, argFr, resV, slHK, partsV, partsS, setR, Nat.reduceLeDiff, reduceIte, Nat.reduceEqDiff, Nat.reduceBEq, reduceCtorEq, Nat.reduceAdd, Nat.reduceMul, Nat.reduceSub, Nat.reduceLT, Int.reduceToNat, Int.reduceLT, Int.reduceLE, Int.reduceEq, Int.reduceAdd, Int.reduceNeg, Int.reduceMul, Int.reduceSub]
      exact frz_bool rfl
    · have h2 : 4096 < n := by omega
      simp -implicitDefEqProofs (disch := omega) only [h, h2, mwx, ne_eq, false_implies, implies_true, forall_eq_or_imp, MW.get, ev, evs, argFr, resV, slHK, partsV, partsS, setR, Nat.reduceLeDiff, reduceIte, Nat.reduceEqDiff, Nat.reduceBEq, reduceCtorEq, Nat.reduceAdd, Nat.reduceMul, Nat.reduceSub, Nat.reduceLT, Int.reduceToNat, Int.reduceLT, Int.reduceLE, Int.reduceEq, Int.reduceAdd, Int.reduceNeg, Int.reduceMul, Int.reduceSub]
      exact frz_bool rfl

theorem waste_law (m : Int) (h0 : 0 ≤ m ∧ m ≤ 65535) : Does Try.prog G0 true 5 [.int .u16 m] (.bool true) := by
  refine Does.intro mixed comp5 ?_
  unfold c5
  have e0 : Int.tmod m 4096 = m % 4096 := Int.tmod_eq_emod_of_nonneg (by omega)
  have hn : 1 ≤ 1 + m % 4096 ∧ 1 + m % 4096 ≤ 4096 := by omega
  simp -implicitDefEqProofs (disch := omega) only [mwx, ne_eq, false_implies, implies_true, forall_eq_or_imp, MW.get, ev, evs, argFr, resV, slHK, partsV, partsS, setR, Nat.reduceLeDiff, reduceIte, Nat.reduceEqDiff, Nat.reduceBEq, reduceCtorEq, Nat.reduceAdd, Nat.reduceMul, Nat.reduceSub, Nat.reduceLT, Int.reduceToNat, Int.reduceLT, Int.reduceLE, Int.reduceEq, Int.reduceAdd, Int.reduceNeg, Int.reduceMul, Int.reduceSub]
  refine Does.call awake_fn fr0 ?_
  simp -implicitDefEqProofs (disch := omega) only [e0, mwx, ne_eq, false_implies, implies_true, forall_eq_or_imp, MW.get, ev, evs, argFr, resV, slHK, partsV, partsS, setR, Nat.reduceLeDiff, reduceIte, Nat.reduceEqDiff, Nat.reduceBEq, reduceCtorEq, Nat.reduceAdd, Nat.reduceMul, Nat.reduceSub, Nat.reduceLT, Int.reduceToNat, Int.reduceLT, Int.reduceLE, Int.reduceEq, Int.reduceAdd, Int.reduceNeg, Int.reduceMul, Int.reduceSub]
  generalize 1 + m % 4096 = n at hn
  obtain ⟨l, x, hc, hl3, hl63, hx, hge, hlt⟩ := fits_pure hn
  obtain ⟨hr, hl⟩ := cut_room hn
  have hlen : (l ++ [x]).length = l.length + 1 := by simp
  have e1 : (((l.length + 1 : Nat) : Int)) = l.length + 1 := by omega
  have e2 : ((l.length : Int) + 1 - 1) = l.length := by omega
  have e3 : ¬ ((l.length : Int) + 1 = 0) := by omega
  have e4 : l.length < l.length + 1 := by omega
  have hgx : (l ++ [x]).getD l.length 0 = x := by simp [List.getD_eq_getElem?_getD]
  have hbx := byts_range x
  have hover : room (l ++ [x]) - n < 8 ∨ 2 * (room (l ++ [x]) - n) < byts x := by
    rw [← hc, hr]
    obtain ⟨q, hq, hq2, ⟨h1, h2⟩ | ⟨h1, h3, h2⟩⟩ := cut_spec hn
    · have : x = fit (n % 64) := by
        have h3 := hc.symm.trans h2
        have := List.append_inj' h3 rfl
        simpa using this.2
      rw [this]
      rw [if_pos h1]
      have := fit_cases (r := n % 64) (by omega)
      omega
    · rw [if_neg (by omega)]; omega
  have hup : room (l ++ [x]) ≤ 5000 := by
    rw [← hc, hr]
    have := byts_range (fit (n % 64))
    split <;> omega
  refine Does.call (cut_fn n hn) (fr1 (.int _ _)) ?_
  rw [hc] at hge ⊢
  simp -implicitDefEqProofs (disch := omega) only [hlen, e1, e2, e3, mwx, ne_eq, false_implies, implies_true, forall_eq_or_imp, MW.get, ev, evs, argFr, resV, slHK, partsV, partsS, setR, Nat.reduceLeDiff, reduceIte, Nat.reduceEqDiff, Nat.reduceBEq, reduceCtorEq, Nat.reduceAdd, Nat.reduceMul, Nat.reduceSub, Nat.reduceLT, Int.reduceToNat, Int.reduceLT, Int.reduceLE, Int.reduceEq, Int.reduceAdd, Int.reduceNeg, Int.reduceMul, Int.reduceSub]
  refine Does.call (room_fn (isI_vs (l ++ [x])) (by simp; omega)) (fr1 (free_ints _)) ?_
  have d1 : (0 ≤ room (l ++ [x]) - n) = True := eq_true (by omega)
  simp -implicitDefEqProofs (disch := omega) only [d1, hlen, e1, e2, mwx, ne_eq, false_implies, implies_true, forall_eq_or_imp, MW.get, ev, evs, argFr, resV, slHK, partsV, partsS, setR, Nat.reduceLeDiff, reduceIte, Nat.reduceEqDiff, Nat.reduceBEq, reduceCtorEq, Nat.reduceAdd, Nat.reduceMul, Nat.reduceSub, Nat.reduceLT, Int.reduceToNat, Int.reduceLT, Int.reduceLE, Int.reduceEq, Int.reduceAdd, Int.reduceNeg, Int.reduceMul, Int.reduceSub]
  refine xg_decf (fun h => ?_) fun h => ?_
  · simp -implicitDefEqProofs (disch := omega) only [h, mwx, ne_eq, false_implies, implies_true, forall_eq_or_imp, MW.get, ev, evs, argFr, resV, slHK, partsV, partsS, setR, Nat.reduceLeDiff, reduceIte, Nat.reduceEqDiff, Nat.reduceBEq, reduceCtorEq, Nat.reduceAdd, Nat.reduceMul, Nat.reduceSub, Nat.reduceLT, Int.reduceToNat, Int.reduceLT, Int.reduceLE, Int.reduceEq, Int.reduceAdd, Int.reduceNeg, Int.reduceMul, Int.reduceSub]
    exact frz_bool rfl
  · simp -implicitDefEqProofs (disch := omega) only [h, hlen, e1, e2, e4, hgx, mwx, ne_eq, false_implies, implies_true, forall_eq_or_imp, MW.get, ev, evs, argFr, resV, slHK, partsV, partsS, setR, Nat.reduceLeDiff, reduceIte, Nat.reduceEqDiff, Nat.reduceBEq, reduceCtorEq, Nat.reduceAdd, Nat.reduceMul, Nat.reduceSub, Nat.reduceLT, Int.reduceToNat, Int.reduceLT, Int.reduceLE, Int.reduceEq, Int.reduceAdd, Int.reduceNeg, Int.reduceMul, Int.reduceSub]
    refine Does.call (bytes_fn x) (fr1 (.int _ _)) ?_
    have d2 : (2 * (room (l ++ [x]) - n) < byts x) = True := eq_true (by omega)
    simp -implicitDefEqProofs (disch := omega) only [h, d2, mwx, ne_eq, false_implies, implies_true, forall_eq_or_imp, MW.get, ev, evs, argFr, resV, slHK, partsV, partsS, setR, Nat.reduceLeDiff, reduceIte, Nat.reduceEqDiff, Nat.reduceBEq, reduceCtorEq, Nat.reduceAdd, Nat.reduceMul, Nat.reduceSub, Nat.reduceLT, Int.reduceToNat, Int.reduceLT, Int.reduceLE, Int.reduceEq, Int.reduceAdd, Int.reduceNeg, Int.reduceMul, Int.reduceSub]
    exact frz_bool rfl

theorem rises_pure {a b : Int} (ha : 1 ≤ a) (hab : a ≤ b) (hb : b ≤ 4096) : room (cut a) ≤ room (cut b) ∧ ((cut a).length : Int) ≤ (cut b).length + 1 ∧ (fit b = -1 ∨ fit a ≤ fit b) := by
  obtain ⟨r1, l1⟩ := cut_room (n := a) (by omega)
  obtain ⟨r2, l2⟩ := cut_room (n := b) (by omega)
  refine ⟨?_, ?_, ?_⟩
  · rw [r1, r2]
    have h1 := byts_range (fit (a % 64))
    have h2 := byts_range (fit (b % 64))
    have h3 := fun h => fit_cases (r := a % 64) h
    have h4 := fun h => fit_cases (r := b % 64) h
    split <;> split
    · have h3 := h3 (by omega)
      have h4 := h4 (by omega)
      omega
    · omega
    · omega
    · omega
  · rw [l1, l2]
    split <;> split <;> omega
  · by_cases h : b ≤ 64
    · right
      have h1 := fit_cases (r := a) (by omega)
      have h2 := fit_cases (r := b) (by omega)
      omega
    · left
      unfold fit
      (repeat' split) <;> omega

theorem rises_law (a b : Int) (ha : 0 ≤ a ∧ a ≤ 65535) (hb : 0 ≤ b ∧ b ≤ 65535) : Does Try.prog G0 true 6 [.int .u16 a, .int .u16 b] (.bool true) := by
  refine Does.intro mixed comp6 ?_
  unfold c6
  have hmin : ∃ m, (if b < a then b else a) = m ∧ 0 ≤ m ∧ m ≤ 65535 := ⟨_, rfl, by split <;> omega⟩
  have hmax : ∃ m, (if a < b then b else a) = m ∧ 0 ≤ m ∧ m ≤ 65535 := ⟨_, rfl, by split <;> omega⟩
  obtain ⟨mn, hmn, hmn0⟩ := hmin
  obtain ⟨mx, hmx, hmx0⟩ := hmax
  have hle : mn ≤ mx := by
    rw [← hmn, ← hmx]
    split <;> split <;> omega
  have e0 : Int.tmod mn 4096 = mn % 4096 := Int.tmod_eq_emod_of_nonneg (by omega)
  have e1 : Int.tmod (mx - mn) (4097 - (1 + mn % 4096)) = (mx - mn) % (4097 - (1 + mn % 4096)) := Int.tmod_eq_emod_of_nonneg (by omega)
  have e2 : ¬ (4097 - (1 + mn % 4096) = 0) := by omega
  have hrem : 0 ≤ (mx - mn) % (4097 - (1 + mn % 4096)) ∧ (mx - mn) % (4097 - (1 + mn % 4096)) < 4097 - (1 + mn % 4096) := ⟨Int.emod_nonneg _ (by omega), Int.emod_lt_of_pos _ (by omega)⟩
  simp -implicitDefEqProofs (disch := omega) only [mwx, ne_eq, false_implies, implies_true, forall_eq_or_imp, MW.get, ev, evs, argFr, resV, slHK, partsV, partsS, setR, Nat.reduceLeDiff, reduceIte, Nat.reduceEqDiff, Nat.reduceBEq, reduceCtorEq, Nat.reduceAdd, Nat.reduceMul, Nat.reduceSub, Nat.reduceLT, Int.reduceToNat, Int.reduceLT, Int.reduceLE, Int.reduceEq, Int.reduceAdd, Int.reduceNeg, Int.reduceMul, Int.reduceSub]
  refine Does.call awake_fn fr0 ?_
  simp -implicitDefEqProofs (disch := omega) only [hmn, hmx, e0, e1, e2, mwx, ne_eq, false_implies, implies_true, forall_eq_or_imp, MW.get, ev, evs, argFr, resV, slHK, partsV, partsS, setR, Nat.reduceLeDiff, reduceIte, Nat.reduceEqDiff, Nat.reduceBEq, reduceCtorEq, Nat.reduceAdd, Nat.reduceMul, Nat.reduceSub, Nat.reduceLT, Int.reduceToNat, Int.reduceLT, Int.reduceLE, Int.reduceEq, Int.reduceAdd, Int.reduceNeg, Int.reduceMul, Int.reduceSub]
  generalize hlo : 1 + mn % 4096 = lo at *
  generalize hhi : lo + (mx - mn) % (4097 - lo) = hi
  have h1 : 1 ≤ lo ∧ lo ≤ 4096 := by omega
  have h2 : lo ≤ hi ∧ hi ≤ 4096 := by omega
  obtain ⟨p1, p2, p3⟩ := rises_pure h1.1 h2.1 h2.2
  have hl1 : (cut lo).length < 2 ^ 62 := by rw [(cut_room h1).2]; split <;> omega
  have hl2 : (cut hi).length < 2 ^ 61 := by rw [(cut_room (n := hi) (by omega)).2]; split <;> omega
  refine Does.call (cut_fn lo h1) (fr1 (.int _ _)) ?_
  simp -implicitDefEqProofs (disch := omega) only [mwx, ne_eq, false_implies, implies_true, forall_eq_or_imp, MW.get, ev, evs, argFr, resV, slHK, partsV, partsS, setR, Nat.reduceLeDiff, reduceIte, Nat.reduceEqDiff, Nat.reduceBEq, reduceCtorEq, Nat.reduceAdd, Nat.reduceMul, Nat.reduceSub, Nat.reduceLT, Int.reduceToNat, Int.reduceLT, Int.reduceLE, Int.reduceEq, Int.reduceAdd, Int.reduceNeg, Int.reduceMul, Int.reduceSub]
  refine Does.call (cut_fn hi (by omega)) (fr1 (.int _ _)) ?_
  simp -implicitDefEqProofs (disch := omega) only [mwx, ne_eq, false_implies, implies_true, forall_eq_or_imp, MW.get, ev, evs, argFr, resV, slHK, partsV, partsS, setR, Nat.reduceLeDiff, reduceIte, Nat.reduceEqDiff, Nat.reduceBEq, reduceCtorEq, Nat.reduceAdd, Nat.reduceMul, Nat.reduceSub, Nat.reduceLT, Int.reduceToNat, Int.reduceLT, Int.reduceLE, Int.reduceEq, Int.reduceAdd, Int.reduceNeg, Int.reduceMul, Int.reduceSub]
  refine Does.call (fit_fn hi) (fr1 (.int _ _)) ?_
  have d1 : (room (cut lo) ≤ room (cut hi)) = True := eq_true p1
  have d2 : (((cut lo).length : Int) ≤ (cut hi).length + 1) = True := eq_true p2
  simp -implicitDefEqProofs (disch := omega) only [mwx, ne_eq, false_implies, implies_true, forall_eq_or_imp, MW.get, ev, evs, argFr, resV, slHK, partsV, partsS, setR, Nat.reduceLeDiff, reduceIte, Nat.reduceEqDiff, Nat.reduceBEq, reduceCtorEq, Nat.reduceAdd, Nat.reduceMul, Nat.reduceSub, Nat.reduceLT, Int.reduceToNat, Int.reduceLT, Int.reduceLE, Int.reduceEq, Int.reduceAdd, Int.reduceNeg, Int.reduceMul, Int.reduceSub]
  refine xg_decf (fun h => ?_) fun h => ?_
  · simp -implicitDefEqProofs (disch := omega) only [h, mwx, ne_eq, false_implies, implies_true, forall_eq_or_imp, MW.get, ev, evs, argFr, resV, slHK, partsV, partsS, setR, Nat.reduceLeDiff, reduceIte, Nat.reduceEqDiff, Nat.reduceBEq, reduceCtorEq, Nat.reduceAdd, Nat.reduceMul, Nat.reduceSub, Nat.reduceLT, Int.reduceToNat, Int.reduceLT, Int.reduceLE, Int.reduceEq, Int.reduceAdd, Int.reduceNeg, Int.reduceMul, Int.reduceSub]
    refine Does.call (room_fn (isI_vs _) hl1) (fr1 (free_ints _)) ?_
    simp -implicitDefEqProofs (disch := omega) only [mwx, ne_eq, false_implies, implies_true, forall_eq_or_imp, MW.get, ev, evs, argFr, resV, slHK, partsV, partsS, setR, Nat.reduceLeDiff, reduceIte, Nat.reduceEqDiff, Nat.reduceBEq, reduceCtorEq, Nat.reduceAdd, Nat.reduceMul, Nat.reduceSub, Nat.reduceLT, Int.reduceToNat, Int.reduceLT, Int.reduceLE, Int.reduceEq, Int.reduceAdd, Int.reduceNeg, Int.reduceMul, Int.reduceSub]
    refine Does.call (room_fn (isI_vs _) (by omega)) (fr1 (free_ints _)) ?_
    simp -implicitDefEqProofs (disch := omega) only [d1, d2, mwx, ne_eq, false_implies, implies_true, forall_eq_or_imp, MW.get, ev, evs, argFr, resV, slHK, partsV, partsS, setR, Nat.reduceLeDiff, reduceIte, Nat.reduceEqDiff, Nat.reduceBEq, reduceCtorEq, Nat.reduceAdd, Nat.reduceMul, Nat.reduceSub, Nat.reduceLT, Int.reduceToNat, Int.reduceLT, Int.reduceLE, Int.reduceEq, Int.reduceAdd, Int.reduceNeg, Int.reduceMul, Int.reduceSub]
    exact frz_bool rfl
  · simp -implicitDefEqProofs (disch := omega) only [h, mwx, ne_eq, false_implies, implies_true, forall_eq_or_imp, MW.get, ev, evs, argFr, resV, slHK, partsV, partsS, setR, Nat.reduceLeDiff, reduceIte, Nat.reduceEqDiff, Nat.reduceBEq, reduceCtorEq, Nat.reduceAdd, Nat.reduceMul, Nat.reduceSub, Nat.reduceLT, Int.reduceToNat, Int.reduceLT, Int.reduceLE, Int.reduceEq, Int.reduceAdd, Int.reduceNeg, Int.reduceMul, Int.reduceSub]
    refine Does.call (fit_fn lo) (fr1 (.int _ _)) ?_
    simp -implicitDefEqProofs (disch := omega) only [mwx, ne_eq, false_implies, implies_true, forall_eq_or_imp, MW.get, ev, evs, argFr, resV, slHK, partsV, partsS, setR, Nat.reduceLeDiff, reduceIte, Nat.reduceEqDiff, Nat.reduceBEq, reduceCtorEq, Nat.reduceAdd, Nat.reduceMul, Nat.reduceSub, Nat.reduceLT, Int.reduceToNat, Int.reduceLT, Int.reduceLE, Int.reduceEq, Int.reduceAdd, Int.reduceNeg, Int.reduceMul, Int.reduceSub]
    refine Does.call (fit_fn hi) (fr1 (.int _ _)) ?_
    have d3 : (fit lo ≤ fit hi) = True := eq_true (p3.resolve_left h)
    simp -implicitDefEqProofs (disch := omega) only [d3, h, mwx, ne_eq, false_implies, implies_true, forall_eq_or_imp, MW.get, ev, evs, argFr, resV, slHK, partsV, partsS, setR, Nat.reduceLeDiff, reduceIte, Nat.reduceEqDiff, Nat.reduceBEq, reduceCtorEq, Nat.reduceAdd, Nat.reduceMul, Nat.reduceSub, Nat.reduceLT, Int.reduceToNat, Int.reduceLT, Int.reduceLE, Int.reduceEq, Int.reduceAdd, Int.reduceNeg, Int.reduceMul, Int.reduceSub]
    refine Does.call (room_fn (isI_vs _) hl1) (fr1 (free_ints _)) ?_
    simp -implicitDefEqProofs (disch := omega) only [mwx, ne_eq, false_implies, implies_true, forall_eq_or_imp, MW.get, ev, evs, argFr, resV, slHK, partsV, partsS, setR, Nat.reduceLeDiff, reduceIte, Nat.reduceEqDiff, Nat.reduceBEq, reduceCtorEq, Nat.reduceAdd, Nat.reduceMul, Nat.reduceSub, Nat.reduceLT, Int.reduceToNat, Int.reduceLT, Int.reduceLE, Int.reduceEq, Int.reduceAdd, Int.reduceNeg, Int.reduceMul, Int.reduceSub]
    refine Does.call (room_fn (isI_vs _) (by omega)) (fr1 (free_ints _)) ?_
    simp -implicitDefEqProofs (disch := omega) only [d1, d2, mwx, ne_eq, false_implies, implies_true, forall_eq_or_imp, MW.get, ev, evs, argFr, resV, slHK, partsV, partsS, setR, Nat.reduceLeDiff, reduceIte, Nat.reduceEqDiff, Nat.reduceBEq, reduceCtorEq, Nat.reduceAdd, Nat.reduceMul, Nat.reduceSub, Nat.reduceLT, Int.reduceToNat, Int.reduceLT, Int.reduceLE, Int.reduceEq, Int.reduceAdd, Int.reduceNeg, Int.reduceMul, Int.reduceSub]
    exact frz_bool rfl

theorem segments_law (c : Int) (hc : 0 ≤ c ∧ c ≤ 255) {v u : V} {l m : List Int} (hv : IsI v l) (hu : IsI u m) : Does Try.prog G0 true 7 [.int .u8 c, v, u] (.bool true) := by
  refine Does.intro mixed comp7 ?_
  unfold c7
  have e0 : Int.tmod c 4 = c % 4 := Int.tmod_eq_emod_of_nonneg (by omega)
  simp -implicitDefEqProofs (disch := omega) only [mwx, ne_eq, false_implies, implies_true, forall_eq_or_imp, MW.get, ev, evs, argFr, resV, slHK, partsV, partsS, setR, Nat.reduceLeDiff, reduceIte, Nat.reduceEqDiff, Nat.reduceBEq, reduceCtorEq, Nat.reduceAdd, Nat.reduceMul, Nat.reduceSub, Nat.reduceLT, Int.reduceToNat, Int.reduceLT, Int.reduceLE, Int.reduceEq, Int.reduceAdd, Int.reduceNeg, Int.reduceMul, Int.reduceSub]
  refine Does.call awake_fn fr0 ?_
  simp -implicitDefEqProofs (disch := omega) only [lenK_isI hv, lenK_isI hu, mwx, ne_eq, false_implies, implies_true, forall_eq_or_imp, MW.get, ev, evs, argFr, resV, slHK, partsV, partsS, setR, Nat.reduceLeDiff, reduceIte, Nat.reduceEqDiff, Nat.reduceBEq, reduceCtorEq, Nat.reduceAdd, Nat.reduceMul, Nat.reduceSub, Nat.reduceLT, Int.reduceToNat, Int.reduceLT, Int.reduceLE, Int.reduceEq, Int.reduceAdd, Int.reduceNeg, Int.reduceMul, Int.reduceSub]
  refine xg_decf (fun h => ?_) fun h => ?_
  · simp -implicitDefEqProofs (disch := omega) only [h, mwx, ne_eq, false_implies, implies_true, forall_eq_or_imp, MW.get, ev, evs, argFr, resV, slHK, partsV, partsS, setR, Nat.reduceLeDiff, reduceIte, Nat.reduceEqDiff, Nat.reduceBEq, reduceCtorEq, Nat.reduceAdd, Nat.reduceMul, Nat.reduceSub, Nat.reduceLT, Int.reduceToNat, Int.reduceLT, Int.reduceLE, Int.reduceEq, Int.reduceAdd, Int.reduceNeg, Int.reduceMul, Int.reduceSub]
    exact frz_bool rfl
  simp -implicitDefEqProofs (disch := omega) only [h, lenK_isI hu, mwx, ne_eq, false_implies, implies_true, forall_eq_or_imp, MW.get, ev, evs, argFr, resV, slHK, partsV, partsS, setR, Nat.reduceLeDiff, reduceIte, Nat.reduceEqDiff, Nat.reduceBEq, reduceCtorEq, Nat.reduceAdd, Nat.reduceMul, Nat.reduceSub, Nat.reduceLT, Int.reduceToNat, Int.reduceLT, Int.reduceLE, Int.reduceEq, Int.reduceAdd, Int.reduceNeg, Int.reduceMul, Int.reduceSub]
  refine xc_dec (fun h' => ?_) fun h' => ?_
  · simp -implicitDefEqProofs (disch := omega) only [mwx, ne_eq, false_implies, implies_true, forall_eq_or_imp, MW.get, ev, evs, argFr, resV, slHK, partsV, partsS, setR, Nat.reduceLeDiff, reduceIte, Nat.reduceEqDiff, Nat.reduceBEq, reduceCtorEq, Nat.reduceAdd, Nat.reduceMul, Nat.reduceSub, Nat.reduceLT, Int.reduceToNat, Int.reduceLT, Int.reduceLE, Int.reduceEq, Int.reduceAdd, Int.reduceNeg, Int.reduceMul, Int.reduceSub]
    exact frz_bool rfl
  simp -implicitDefEqProofs (disch := omega) only [e0, mwx, ne_eq, false_implies, implies_true, forall_eq_or_imp, MW.get, ev, evs, argFr, resV, slHK, partsV, partsS, setR, Nat.reduceLeDiff, reduceIte, Nat.reduceEqDiff, Nat.reduceBEq, reduceCtorEq, Nat.reduceAdd, Nat.reduceMul, Nat.reduceSub, Nat.reduceLT, Int.reduceToNat, Int.reduceLT, Int.reduceLE, Int.reduceEq, Int.reduceAdd, Int.reduceNeg, Int.reduceMul, Int.reduceSub]
  generalize hk : c % 4 = k
  have hk0 : k = 0 ∨ k = 1 ∨ k = 2 ∨ k = 3 := by omega
  have f1 : byts k * slts k = 512 := by rcases hk0 with rfl | rfl | rfl | rfl <;> decide
  have f2 : k ≠ 0 → byts k = 2 * byts (k - 1) := by rcases hk0 with rfl | rfl | rfl | rfl <;> decide
  have f3 : fit (byts k) = k := by rcases hk0 with rfl | rfl | rfl | rfl <;> decide
  have hb1 := byts_range (k - 1)
  have hrl := rsum_range l
  have hrm := rsum_range m
  have hr1 : room l = rsum l := room_rsum (by omega)
  have hr2 : room m = rsum m := room_rsum (by omega)
  have hr3 : room (l ++ m) = rsum l + rsum m := by rw [room_rsum (by simp; omega), rsum_append]
  rw [elemsK_isI hv]
  simp -implicitDefEqProofs (disch := omega) only [mwx, ne_eq, false_implies, implies_true, forall_eq_or_imp, MW.get, ev, evs, argFr, resV, slHK, partsV, partsS, setR, Nat.reduceLeDiff, reduceIte, Nat.reduceEqDiff, Nat.reduceBEq, reduceCtorEq, Nat.reduceAdd, Nat.reduceMul, Nat.reduceSub, Nat.reduceLT, Int.reduceToNat, Int.reduceLT, Int.reduceLE, Int.reduceEq, Int.reduceAdd, Int.reduceNeg, Int.reduceMul, Int.reduceSub]
  refine Own.app (xs := []) (Own.hs (b := 0) (H := [.row 1 [] false false]) (opn := false) rfl rfl (.inr rfl)) (by simp [Goods]) (ints_goods _) ?_ fun v' H' hO => ?_
  · exact roomy_of (by simp [ints_length]; omega) (by omega)
  simp -implicitDefEqProofs (disch := omega) only [elemsK_isI hu, mwx, ne_eq, false_implies, implies_true, forall_eq_or_imp, MW.get, ev, evs, argFr, resV, slHK, partsV, partsS, setR, Nat.reduceLeDiff, reduceIte, Nat.reduceEqDiff, Nat.reduceBEq, reduceCtorEq, Nat.reduceAdd, Nat.reduceMul, Nat.reduceSub, Nat.reduceLT, Int.reduceToNat, Int.reduceLT, Int.reduceLE, Int.reduceEq, Int.reduceAdd, Int.reduceNeg, Int.reduceMul, Int.reduceSub]
  rw [List.nil_append] at hO
  refine Own.app hO (ints_goods _) (ints_goods _) ?_ fun w' H'' hO' => ?_
  · exact roomy_of (by simp [ints_length]; omega) (by omega)
  rw [ints_append] at hO'
  obtain ⟨w'', hi, hf⟩ := hO'.isI (im := true)
  simp -implicitDefEqProofs (disch := omega) only [mwx, ne_eq, false_implies, implies_true, forall_eq_or_imp, MW.get, ev, evs, argFr, resV, slHK, partsV, partsS, setR, Nat.reduceLeDiff, reduceIte, Nat.reduceEqDiff, Nat.reduceBEq, reduceCtorEq, Nat.reduceAdd, Nat.reduceMul, Nat.reduceSub, Nat.reduceLT, Int.reduceToNat, Int.reduceLT, Int.reduceLE, Int.reduceEq, Int.reduceAdd, Int.reduceNeg, Int.reduceMul, Int.reduceSub]
  refine Does.call (bytes_fn k) (fr1 (.int _ _)) ?_
  simp -implicitDefEqProofs (disch := omega) only [mwx, ne_eq, false_implies, implies_true, forall_eq_or_imp, MW.get, ev, evs, argFr, resV, slHK, partsV, partsS, setR, Nat.reduceLeDiff, reduceIte, Nat.reduceEqDiff, Nat.reduceBEq, reduceCtorEq, Nat.reduceAdd, Nat.reduceMul, Nat.reduceSub, Nat.reduceLT, Int.reduceToNat, Int.reduceLT, Int.reduceLE, Int.reduceEq, Int.reduceAdd, Int.reduceNeg, Int.reduceMul, Int.reduceSub]
  refine Does.call (slots_fn k) (fr1 (.int _ _)) ?_
  simp -implicitDefEqProofs (disch := omega) only [f1, mwx, ne_eq, false_implies, implies_true, forall_eq_or_imp, MW.get, ev, evs, argFr, resV, slHK, partsV, partsS, setR, Nat.reduceLeDiff, reduceIte, Nat.reduceEqDiff, Nat.reduceBEq, reduceCtorEq, Nat.reduceAdd, Nat.reduceMul, Nat.reduceSub, Nat.reduceLT, Int.reduceToNat, Int.reduceLT, Int.reduceLE, Int.reduceEq, Int.reduceAdd, Int.reduceNeg, Int.reduceMul, Int.reduceSub]
  refine xg_decf (fun h2 => ?_) fun h2 => ?_
  · simp -implicitDefEqProofs (disch := omega) only [h2, mwx, ne_eq, false_implies, implies_true, forall_eq_or_imp, MW.get, ev, evs, argFr, resV, slHK, partsV, partsS, setR, Nat.reduceLeDiff, reduceIte, Nat.reduceEqDiff, Nat.reduceBEq, reduceCtorEq, Nat.reduceAdd, Nat.reduceMul, Nat.reduceSub, Nat.reduceLT, Int.reduceToNat, Int.reduceLT, Int.reduceLE, Int.reduceEq, Int.reduceAdd, Int.reduceNeg, Int.reduceMul, Int.reduceSub]
    have f3' : fit (byts 0) = 0 := by decide

    refine Does.call (bytes_fn 0) (fr1 (.int _ _)) ?_
    simp -implicitDefEqProofs (disch := omega) only [mwx, ne_eq, false_implies, implies_true, forall_eq_or_imp, MW.get, ev, evs, argFr, resV, slHK, partsV, partsS, setR, Nat.reduceLeDiff, reduceIte, Nat.reduceEqDiff, Nat.reduceBEq, reduceCtorEq, Nat.reduceAdd, Nat.reduceMul, Nat.reduceSub, Nat.reduceLT, Int.reduceToNat, Int.reduceLT, Int.reduceLE, Int.reduceEq, Int.reduceAdd, Int.reduceNeg, Int.reduceMul, Int.reduceSub]
    refine Does.call (fit_fn (byts 0)) (fr1 (.int _ _)) ?_
    simp -implicitDefEqProofs (disch := omega) only [f3', mwx, ne_eq, false_implies, implies_true, forall_eq_or_imp, MW.get, ev, evs, argFr, resV, slHK, partsV, partsS, setR, Nat.reduceLeDiff, reduceIte, Nat.reduceEqDiff, Nat.reduceBEq, reduceCtorEq, Nat.reduceAdd, Nat.reduceMul, Nat.reduceSub, Nat.reduceLT, Int.reduceToNat, Int.reduceLT, Int.reduceLE, Int.reduceEq, Int.reduceAdd, Int.reduceNeg, Int.reduceMul, Int.reduceSub]
    refine Does.callB (room_fn hi (by simp; omega)) (frzs1 hf) ?_
    simp -implicitDefEqProofs (disch := omega) only [mwx, ne_eq, false_implies, implies_true, forall_eq_or_imp, MW.get, ev, evs, argFr, resV, slHK, partsV, partsS, setR, Nat.reduceLeDiff, reduceIte, Nat.reduceEqDiff, Nat.reduceBEq, reduceCtorEq, Nat.reduceAdd, Nat.reduceMul, Nat.reduceSub, Nat.reduceLT, Int.reduceToNat, Int.reduceLT, Int.reduceLE, Int.reduceEq, Int.reduceAdd, Int.reduceNeg, Int.reduceMul, Int.reduceSub]
    refine Does.call (room_fn hv (by omega)) (fr1 hv.free) ?_
    simp -implicitDefEqProofs (disch := omega) only [mwx, ne_eq, false_implies, implies_true, forall_eq_or_imp, MW.get, ev, evs, argFr, resV, slHK, partsV, partsS, setR, Nat.reduceLeDiff, reduceIte, Nat.reduceEqDiff, Nat.reduceBEq, reduceCtorEq, Nat.reduceAdd, Nat.reduceMul, Nat.reduceSub, Nat.reduceLT, Int.reduceToNat, Int.reduceLT, Int.reduceLE, Int.reduceEq, Int.reduceAdd, Int.reduceNeg, Int.reduceMul, Int.reduceSub]
    refine Does.call (room_fn hu (by omega)) (fr1 hu.free) ?_
    simp -implicitDefEqProofs (disch := omega) only [hr1, hr2, hr3, mwx, ne_eq, false_implies, implies_true, forall_eq_or_imp, MW.get, ev, evs, argFr, resV, slHK, partsV, partsS, setR, Nat.reduceLeDiff, reduceIte, Nat.reduceEqDiff, Nat.reduceBEq, reduceCtorEq, Nat.reduceAdd, Nat.reduceMul, Nat.reduceSub, Nat.reduceLT, Int.reduceToNat, Int.reduceLT, Int.reduceLE, Int.reduceEq, Int.reduceAdd, Int.reduceNeg, Int.reduceMul, Int.reduceSub]
    exact frz_bool rfl
  · simp -implicitDefEqProofs (disch := omega) only [h2, mwx, ne_eq, false_implies, implies_true, forall_eq_or_imp, MW.get, ev, evs, argFr, resV, slHK, partsV, partsS, setR, Nat.reduceLeDiff, reduceIte, Nat.reduceEqDiff, Nat.reduceBEq, reduceCtorEq, Nat.reduceAdd, Nat.reduceMul, Nat.reduceSub, Nat.reduceLT, Int.reduceToNat, Int.reduceLT, Int.reduceLE, Int.reduceEq, Int.reduceAdd, Int.reduceNeg, Int.reduceMul, Int.reduceSub]
    refine Does.call (bytes_fn k) (fr1 (.int _ _)) ?_
    simp -implicitDefEqProofs (disch := omega) only [mwx, ne_eq, false_implies, implies_true, forall_eq_or_imp, MW.get, ev, evs, argFr, resV, slHK, partsV, partsS, setR, Nat.reduceLeDiff, reduceIte, Nat.reduceEqDiff, Nat.reduceBEq, reduceCtorEq, Nat.reduceAdd, Nat.reduceMul, Nat.reduceSub, Nat.reduceLT, Int.reduceToNat, Int.reduceLT, Int.reduceLE, Int.reduceEq, Int.reduceAdd, Int.reduceNeg, Int.reduceMul, Int.reduceSub]
    refine Does.call (bytes_fn (k - 1)) (fr1 (.int _ _)) ?_
    have d1 := f2 h2
    simp -implicitDefEqProofs (disch := omega) only [← d1, mwx, ne_eq, false_implies, implies_true, forall_eq_or_imp, MW.get, ev, evs, argFr, resV, slHK, partsV, partsS, setR, Nat.reduceLeDiff, reduceIte, Nat.reduceEqDiff, Nat.reduceBEq, reduceCtorEq, Nat.reduceAdd, Nat.reduceMul, Nat.reduceSub, Nat.reduceLT, Int.reduceToNat, Int.reduceLT, Int.reduceLE, Int.reduceEq, Int.reduceAdd, Int.reduceNeg, Int.reduceMul, Int.reduceSub]
    refine Does.call (bytes_fn k) (fr1 (.int _ _)) ?_
    simp -implicitDefEqProofs (disch := omega) only [mwx, ne_eq, false_implies, implies_true, forall_eq_or_imp, MW.get, ev, evs, argFr, resV, slHK, partsV, partsS, setR, Nat.reduceLeDiff, reduceIte, Nat.reduceEqDiff, Nat.reduceBEq, reduceCtorEq, Nat.reduceAdd, Nat.reduceMul, Nat.reduceSub, Nat.reduceLT, Int.reduceToNat, Int.reduceLT, Int.reduceLE, Int.reduceEq, Int.reduceAdd, Int.reduceNeg, Int.reduceMul, Int.reduceSub]
    refine Does.call (fit_fn (byts k)) (fr1 (.int _ _)) ?_
    simp -implicitDefEqProofs (disch := omega) only [f3, h2, mwx, ne_eq, false_implies, implies_true, forall_eq_or_imp, MW.get, ev, evs, argFr, resV, slHK, partsV, partsS, setR, Nat.reduceLeDiff, reduceIte, Nat.reduceEqDiff, Nat.reduceBEq, reduceCtorEq, Nat.reduceAdd, Nat.reduceMul, Nat.reduceSub, Nat.reduceLT, Int.reduceToNat, Int.reduceLT, Int.reduceLE, Int.reduceEq, Int.reduceAdd, Int.reduceNeg, Int.reduceMul, Int.reduceSub]
    refine Does.callB (room_fn hi (by simp; omega)) (frzs1 hf) ?_
    simp -implicitDefEqProofs (disch := omega) only [mwx, ne_eq, false_implies, implies_true, forall_eq_or_imp, MW.get, ev, evs, argFr, resV, slHK, partsV, partsS, setR, Nat.reduceLeDiff, reduceIte, Nat.reduceEqDiff, Nat.reduceBEq, reduceCtorEq, Nat.reduceAdd, Nat.reduceMul, Nat.reduceSub, Nat.reduceLT, Int.reduceToNat, Int.reduceLT, Int.reduceLE, Int.reduceEq, Int.reduceAdd, Int.reduceNeg, Int.reduceMul, Int.reduceSub]
    refine Does.call (room_fn hv (by omega)) (fr1 hv.free) ?_
    simp -implicitDefEqProofs (disch := omega) only [mwx, ne_eq, false_implies, implies_true, forall_eq_or_imp, MW.get, ev, evs, argFr, resV, slHK, partsV, partsS, setR, Nat.reduceLeDiff, reduceIte, Nat.reduceEqDiff, Nat.reduceBEq, reduceCtorEq, Nat.reduceAdd, Nat.reduceMul, Nat.reduceSub, Nat.reduceLT, Int.reduceToNat, Int.reduceLT, Int.reduceLE, Int.reduceEq, Int.reduceAdd, Int.reduceNeg, Int.reduceMul, Int.reduceSub]
    refine Does.call (room_fn hu (by omega)) (fr1 hu.free) ?_
    simp -implicitDefEqProofs (disch := omega) only [hr1, hr2, hr3, mwx, ne_eq, false_implies, implies_true, forall_eq_or_imp, MW.get, ev, evs, argFr, resV, slHK, partsV, partsS, setR, Nat.reduceLeDiff, reduceIte, Nat.reduceEqDiff, Nat.reduceBEq, reduceCtorEq, Nat.reduceAdd, Nat.reduceMul, Nat.reduceSub, Nat.reduceLT, Int.reduceToNat, Int.reduceLT, Int.reduceLE, Int.reduceEq, Int.reduceAdd, Int.reduceNeg, Int.reduceMul, Int.reduceSub]
    exact frz_bool rfl

end Go.Proofs.Ytfpdkikhigffoaa
