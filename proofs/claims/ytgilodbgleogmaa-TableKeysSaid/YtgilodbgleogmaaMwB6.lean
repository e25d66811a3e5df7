import Derived.Sort.Walk0
import Derived.Test.YtgilodbgleogmaaMwB5
/- Table (chapter 13): may a table be? Get, put, delete, all keys. -/
namespace Go.Proofs.Ytgilodbgleogmaa
open Go Go.MW
set_option linter.unusedSimpArgs false
set_option linter.unusedVariables false
set_option maxRecDepth 8000

theorem bodied22 : (Try.prog.funcs[22]?).any (fun fn => fn.body.isSome && fn.name != "runtime.NumGoroutine") = true := by kernel_rfl

theorem sorts : Sorts Try.prog 27 := fun blk off cap ss w h1 h2 h3 => Try.slices_Sort_string blk off cap ss w h1 h2 h3
theorem sorts0 (w : World) : Calls Try.prog 27 #[.slice none 0 0] w fun e w' => e = .returned (.tuple #[]) ∧ w' = w := Try.slices_Sort_string_none none 0 w

theorem lost_fn (p : Pc) : Does Try.prog G0 false 22 [.agg [.str p.1, .int .i64 p.2]] (.bool (p.1 != [])) := by
  refine Does.intro mixed comp22 ?_
  unfold c22
  simp -implicitDefEqProofs (disch := omega) only [mwx, ne_eq, false_implies, implies_true, forall_eq_or_imp, MW.get, ev, evs, argFr, resK, packV, slHK, partsV, partsS, setR, Int.cast_ofNat_Int, Int.natCast_zero, Int.natCast_one, Nat.reduceLeDiff, reduceIte, Nat.reduceEqDiff, Nat.reduceBEq, reduceCtorEq, Nat.reduceAdd, Nat.reduceMul, Nat.reduceSub, Nat.reduceLT, Int.reduceToNat, Int.reduceLT, Int.reduceLE, Int.reduceEq, Int.reduceAdd, Int.reduceNeg, Int.reduceMul, Int.reduceSub]
  exact frz_bool rfl

theorem pl_free (p : Pc) {im : Bool} : Free im (.agg [.str p.1, .int .i64 p.2]) := free_agg2 (.str _) (.int _ _)

/-- How many keys there are among the first places. -/
theorem full_take {t : List Pc} {i : Nat} (h : i < t.length) : full (t.take (i + 1)) = full (t.take i) + (if keyAt t i = [] then 0 else 1) := by
  unfold full keyAt
  rw [List.take_add_one, List.countP_append, List.getElem?_eq_getElem h, List.getD_eq_getElem?_getD, List.getElem?_eq_getElem h]
  by_cases h1 : t[i].1 = []
  · simp [h1]
  · simp [h1]

theorem full_take_le {t : List Pc} (i : Nat) : full (t.take i) ≤ full t := by
  have : full t = full (t.take i) + full (t.drop i) := by
    unfold full
    rw [← List.countP_append, List.take_append_drop]
  omega

theorem chk_fn {v : V} {t : List Pc} (hv : IsE plE v t) (h : WF t) : Does Try.prog G0 false 15 [v] (.bool true) := by
  refine Does.intro mixed comp15 ?_
  unfold c15
  have hl := h.len
  simp -implicitDefEqProofs (disch := omega) only [lenK_isE hv, hl, mwx, ne_eq, false_implies, implies_true, forall_eq_or_imp, MW.get, ev, evs, argFr, resK, packV, slHK, partsV, partsS, setR, Int.cast_ofNat_Int, Int.natCast_zero, Int.natCast_one, Nat.reduceLeDiff, reduceIte, Nat.reduceEqDiff, Nat.reduceBEq, reduceCtorEq, Nat.reduceAdd, Nat.reduceMul, Nat.reduceSub, Nat.reduceLT, Int.reduceToNat, Int.reduceLT, Int.reduceLE, Int.reduceEq, Int.reduceAdd, Int.reduceNeg, Int.reduceMul, Int.reduceSub]
  refine xl_loop (fun m st => ∃ i : Nat, m + i = 128 ∧ get st.fr 0 = v ∧ get st.fr 3 = .int .i64 (full (t.take i)) ∧ get st.fr 14 = v ∧ get st.fr 15 = .int .i64 128 ∧ get st.fr 16 = .int .i64 i) 128 ⟨0, by omega, rfl, rfl, rfl, rfl, rfl⟩ ?_
  rintro J hJ m fr H ⟨i, h1, h2, h3, h4, h5, h6⟩
  simp -implicitDefEqProofs (disch := omega) only [h2, h3, h4, h5, h6, mwx, ne_eq, false_implies, implies_true, forall_eq_or_imp, MW.get, ev, evs, argFr, resK, packV, slHK, partsV, partsS, setR, Int.cast_ofNat_Int, Int.natCast_zero, Int.natCast_one, Nat.reduceLeDiff, reduceIte, Nat.reduceEqDiff, Nat.reduceBEq, reduceCtorEq, Nat.reduceAdd, Nat.reduceMul, Nat.reduceSub, Nat.reduceLT, Int.reduceToNat, Int.reduceLT, Int.reduceLE, Int.reduceEq, Int.reduceAdd, Int.reduceNeg, Int.reduceMul, Int.reduceSub]
  refine xc_dec (fun h7 => ?_) fun h7 => ?_
  · have hi : i < 128 := by omega
    have hi0 : (0 : Int) ≤ (i : Int) := by omega
    have hi1 : (i : Int).toNat < t.length := by omega
    have hft := full_take (t := t) (i := i) (by omega)
    have hfl := full_take_le (t := t) i
    have hcnt := h.cnt
    by_cases hk : keyAt t i = []
    · have g1 : (keyAt t i != []) = false := by rw [hk]; rfl
      have g2 : (keyAt t i == []) = true := by rw [hk]; rfl
      have g3 : (t.getD i e0).2 = 0 := by rw [h.val i hi hk]; rfl
      rw [if_pos hk] at hft
      simp -implicitDefEqProofs (disch := omega) only [h2, h3, h4, h5, h6, iaK_pl hv hi0 hi1, g1, g2, g3, mwx, ne_eq, false_implies, implies_true, forall_eq_or_imp, MW.get, ev, evs, argFr, resK, packV, slHK, partsV, partsS, setR, Int.cast_ofNat_Int, Int.natCast_zero, Int.natCast_one, Nat.reduceLeDiff, reduceIte, Nat.reduceEqDiff, Nat.reduceBEq, reduceCtorEq, Nat.reduceAdd, Nat.reduceMul, Nat.reduceSub, Nat.reduceLT, Int.reduceToNat, Int.reduceLT, Int.reduceLE, Int.reduceEq, Int.reduceAdd, Int.reduceNeg, Int.reduceMul, Int.reduceSub]
      exact ⟨m - 1, by omega, hJ _ _ ⟨i + 1, by omega, h2, by rw [hft, Nat.add_zero]; exact h3, h4, h5, rfl⟩⟩
    · have g1 : (keyAt t i != []) = true := by simpa using hk
      have g2 : (keyAt t i == []) = false := by simpa using hk
      have g3 : keyOK (keyAt t i) = true := keyOK_iff.2 ⟨hk, h.key i hi⟩
      rw [if_neg hk] at hft
      simp -implicitDefEqProofs (disch := omega) only [h2, h3, h4, h5, h6, iaK_pl hv hi0 hi1, g1, g2, mwx, ne_eq, false_implies, implies_true, forall_eq_or_imp, MW.get, ev, evs, argFr, resK, packV, slHK, partsV, partsS, setR, Int.cast_ofNat_Int, Int.natCast_zero, Int.natCast_one, Nat.reduceLeDiff, reduceIte, Nat.reduceEqDiff, Nat.reduceBEq, reduceCtorEq, Nat.reduceAdd, Nat.reduceMul, Nat.reduceSub, Nat.reduceLT, Int.reduceToNat, Int.reduceLT, Int.reduceLE, Int.reduceEq, Int.reduceAdd, Int.reduceNeg, Int.reduceMul, Int.reduceSub]
      refine Does.call (key_fn (keyAt t i)) (fr1 (.str _)) ?_
      simp -implicitDefEqProofs (disch := omega) only [h2, h3, h4, h5, h6, g1, g2, g3, mwx, ne_eq, false_implies, implies_true, forall_eq_or_imp, MW.get, ev, evs, argFr, resK, packV, slHK, partsV, partsS, setR, Int.cast_ofNat_Int, Int.natCast_zero, Int.natCast_one, Nat.reduceLeDiff, reduceIte, Nat.reduceEqDiff, Nat.reduceBEq, reduceCtorEq, Nat.reduceAdd, Nat.reduceMul, Nat.reduceSub, Nat.reduceLT, Int.reduceToNat, Int.reduceLT, Int.reduceLE, Int.reduceEq, Int.reduceAdd, Int.reduceNeg, Int.reduceMul, Int.reduceSub]
      exact ⟨m - 1, by omega, hJ _ _ ⟨i + 1, by omega, h2, by rw [hft]; rfl, h4, h5, rfl⟩⟩
  · have ht : t.take i = t := List.take_of_length_le (by omega)
    have hcnt := h.cnt
    have g0 : ¬ (96 < (full t : Int)) := by omega
    rw [ht] at h3
    simp -implicitDefEqProofs (disch := omega) only [h2, h3, h4, h5, h6, lenK_isE hv, hl, g0, mwx, ne_eq, false_implies, implies_true, forall_eq_or_imp, MW.get, ev, evs, argFr, resK, packV, slHK, partsV, partsS, setR, Int.cast_ofNat_Int, Int.natCast_zero, Int.natCast_one, Nat.reduceLeDiff, reduceIte, Nat.reduceEqDiff, Nat.reduceBEq, reduceCtorEq, Nat.reduceAdd, Nat.reduceMul, Nat.reduceSub, Nat.reduceLT, Int.reduceToNat, Int.reduceLT, Int.reduceLE, Int.reduceEq, Int.reduceAdd, Int.reduceNeg, Int.reduceMul, Int.reduceSub]
    refine xl_loop (fun m st => ∃ i : Nat, m + i = 128 ∧ get st.fr 0 = v ∧ get st.fr 6 = .fn (.func 22) [] [] ∧ get st.fr 47 = v ∧ get st.fr 48 = .int .i64 128 ∧ get st.fr 49 = .int .i64 i) 128 ⟨0, by omega, h2, rfl, rfl, rfl, rfl⟩ ?_
    rintro J hJ m fr H ⟨i, h1, h2, h3, h4, h5, h6⟩
    simp -implicitDefEqProofs (disch := omega) only [h2, h3, h4, h5, h6, mwx, ne_eq, false_implies, implies_true, forall_eq_or_imp, MW.get, ev, evs, argFr, resK, packV, slHK, partsV, partsS, setR, Int.cast_ofNat_Int, Int.natCast_zero, Int.natCast_one, Nat.reduceLeDiff, reduceIte, Nat.reduceEqDiff, Nat.reduceBEq, reduceCtorEq, Nat.reduceAdd, Nat.reduceMul, Nat.reduceSub, Nat.reduceLT, Int.reduceToNat, Int.reduceLT, Int.reduceLE, Int.reduceEq, Int.reduceAdd, Int.reduceNeg, Int.reduceMul, Int.reduceSub]
    refine xc_dec (fun h7 => ?_) fun h7 => ?_
    · have hi : i < 128 := by omega
      have hi0 : (0 : Int) ≤ (i : Int) := by omega
      have hi1 : (i : Int).toNat < t.length := by omega
      simp -implicitDefEqProofs (disch := omega) only [h2, h3, h4, h5, h6, iaK_pl hv hi0 hi1, callvK_of bodied22, mwx, ne_eq, false_implies, implies_true, forall_eq_or_imp, MW.get, ev, evs, argFr, resK, packV, slHK, partsV, partsS, setR, Int.cast_ofNat_Int, Int.natCast_zero, Int.natCast_one, Nat.reduceLeDiff, reduceIte, Nat.reduceEqDiff, Nat.reduceBEq, reduceCtorEq, Nat.reduceAdd, Nat.reduceMul, Nat.reduceSub, Nat.reduceLT, Int.reduceToNat, Int.reduceLT, Int.reduceLE, Int.reduceEq, Int.reduceAdd, Int.reduceNeg, Int.reduceMul, Int.reduceSub]
      refine Does.call (lost_fn (t.getD i e0)) (fr1 (pl_free _)) ?_
      by_cases hk : keyAt t i = []
      · have g1 : ((t.getD i e0).1 != []) = false := by unfold keyAt at hk; rw [hk]; rfl
        simp -implicitDefEqProofs (disch := omega) only [h2, h3, h4, h5, h6, g1, mwx, ne_eq, false_implies, implies_true, forall_eq_or_imp, MW.get, ev, evs, argFr, resK, packV, slHK, partsV, partsS, setR, Int.cast_ofNat_Int, Int.natCast_zero, Int.natCast_one, Nat.reduceLeDiff, reduceIte, Nat.reduceEqDiff, Nat.reduceBEq, reduceCtorEq, Nat.reduceAdd, Nat.reduceMul, Nat.reduceSub, Nat.reduceLT, Int.reduceToNat, Int.reduceLT, Int.reduceLE, Int.reduceEq, Int.reduceAdd, Int.reduceNeg, Int.reduceMul, Int.reduceSub]
        exact ⟨m - 1, by omega, hJ _ _ ⟨i + 1, by omega, h2, h3, h4, h5, rfl⟩⟩
      · have g1 : ((t.getD i e0).1 != []) = true := by unfold keyAt at hk; simpa using hk
        simp -implicitDefEqProofs (disch := omega) only [h2, h3, h4, h5, h6, g1, mwx, ne_eq, false_implies, implies_true, forall_eq_or_imp, MW.get, ev, evs, argFr, resK, packV, slHK, partsV, partsS, setR, Int.cast_ofNat_Int, Int.natCast_zero, Int.natCast_one, Nat.reduceLeDiff, reduceIte, Nat.reduceEqDiff, Nat.reduceBEq, reduceCtorEq, Nat.reduceAdd, Nat.reduceMul, Nat.reduceSub, Nat.reduceLT, Int.reduceToNat, Int.reduceLT, Int.reduceLE, Int.reduceEq, Int.reduceAdd, Int.reduceNeg, Int.reduceMul, Int.reduceSub]
        refine Does.call (seek_fn hv hl (by have := h.key i hi; omega) (h.seek_at hi hk)) (fr2 hv.free (.str _)) ?_
        simp -implicitDefEqProofs (disch := omega) only [h2, h3, h4, h5, h6, mwx, ne_eq, false_implies, implies_true, forall_eq_or_imp, MW.get, ev, evs, argFr, resK, packV, slHK, partsV, partsS, setR, Int.cast_ofNat_Int, Int.natCast_zero, Int.natCast_one, Nat.reduceLeDiff, reduceIte, Nat.reduceEqDiff, Nat.reduceBEq, reduceCtorEq, Nat.reduceAdd, Nat.reduceMul, Nat.reduceSub, Nat.reduceLT, Int.reduceToNat, Int.reduceLT, Int.reduceLE, Int.reduceEq, Int.reduceAdd, Int.reduceNeg, Int.reduceMul, Int.reduceSub]
        exact ⟨m - 1, by omega, hJ _ _ ⟨i + 1, by omega, h2, h3, h4, h5, rfl⟩⟩
    · simp -implicitDefEqProofs (disch := omega) only [h2, mwx, ne_eq, false_implies, implies_true, forall_eq_or_imp, MW.get, ev, evs, argFr, resK, packV, slHK, partsV, partsS, setR, Int.cast_ofNat_Int, Int.natCast_zero, Int.natCast_one, Nat.reduceLeDiff, reduceIte, Nat.reduceEqDiff, Nat.reduceBEq, reduceCtorEq, Nat.reduceAdd, Nat.reduceMul, Nat.reduceSub, Nat.reduceLT, Int.reduceToNat, Int.reduceLT, Int.reduceLE, Int.reduceEq, Int.reduceAdd, Int.reduceNeg, Int.reduceMul, Int.reduceSub]
      exact frz_bool rfl

theorem chk_nil : Does Try.prog G0 false 15 [.nils] (.bool false) := by
  refine Does.intro mixed comp15 ?_
  unfold c15
  have h : ¬ (0 : Int) = 128 := by decide
  simp -implicitDefEqProofs (disch := omega) only [h, mwx, ne_eq, false_implies, implies_true, forall_eq_or_imp, MW.get, ev, evs, argFr, resK, packV, slHK, partsV, partsS, setR, Int.cast_ofNat_Int, Int.natCast_zero, Int.natCast_one, Nat.reduceLeDiff, reduceIte, Nat.reduceEqDiff, Nat.reduceBEq, reduceCtorEq, Nat.reduceAdd, Nat.reduceMul, Nat.reduceSub, Nat.reduceLT, Int.reduceToNat, Int.reduceLT, Int.reduceLE, Int.reduceEq, Int.reduceAdd, Int.reduceNeg, Int.reduceMul, Int.reduceSub]
  exact frz_bool rfl

/-- What a key has, with whether it has anything. -/
def getT (t : List Pc) (k : List UInt8) : Int × Bool := match look t k with
  | some x => (x, true)
  | none => (0, false)

theorem get_fn {v : V} {t : List Pc} (hv : IsE plE v t) (h : WF t) {k : List UInt8} (hk : k.length ≤ 1000000) : Does Try.prog G0 false 14 [v, .str k] (.tup [.int .i64 (getT t k).1, .bool (getT t k).2]) := by
  refine Does.intro mixed comp14 ?_
  unfold c14
  simp -implicitDefEqProofs (disch := omega) only [mwx, ne_eq, false_implies, implies_true, forall_eq_or_imp, MW.get, ev, evs, argFr, resK, packV, slHK, partsV, partsS, setR, Int.cast_ofNat_Int, Int.natCast_zero, Int.natCast_one, Nat.reduceLeDiff, reduceIte, Nat.reduceEqDiff, Nat.reduceBEq, reduceCtorEq, Nat.reduceAdd, Nat.reduceMul, Nat.reduceSub, Nat.reduceLT, Int.reduceToNat, Int.reduceLT, Int.reduceLE, Int.reduceEq, Int.reduceAdd, Int.reduceNeg, Int.reduceMul, Int.reduceSub]
  refine Does.call (chk_fn hv h) (fr1 hv.free) ?_
  by_cases hk0 : k = []
  · have g1 : (k == []) = true := by rw [hk0]; rfl
    have g2 : look t k = none := by unfold look; rw [if_pos hk0]
    simp -implicitDefEqProofs (disch := omega) only [g1, mwx, ne_eq, false_implies, implies_true, forall_eq_or_imp, MW.get, ev, evs, argFr, resK, packV, slHK, partsV, partsS, setR, Int.cast_ofNat_Int, Int.natCast_zero, Int.natCast_one, Nat.reduceLeDiff, reduceIte, Nat.reduceEqDiff, Nat.reduceBEq, reduceCtorEq, Nat.reduceAdd, Nat.reduceMul, Nat.reduceSub, Nat.reduceLT, Int.reduceToNat, Int.reduceLT, Int.reduceLE, Int.reduceEq, Int.reduceAdd, Int.reduceNeg, Int.reduceMul, Int.reduceSub]
    exact frz_tup2 (frz_int (by simp [getT, g2])) (frz_bool (by simp [getT, g2]))
  · have g1 : (k == []) = false := by simpa using hk0
    simp -implicitDefEqProofs (disch := omega) only [g1, mwx, ne_eq, false_implies, implies_true, forall_eq_or_imp, MW.get, ev, evs, argFr, resK, packV, slHK, partsV, partsS, setR, Int.cast_ofNat_Int, Int.natCast_zero, Int.natCast_one, Nat.reduceLeDiff, reduceIte, Nat.reduceEqDiff, Nat.reduceBEq, reduceCtorEq, Nat.reduceAdd, Nat.reduceMul, Nat.reduceSub, Nat.reduceLT, Int.reduceToNat, Int.reduceLT, Int.reduceLE, Int.reduceEq, Int.reduceAdd, Int.reduceNeg, Int.reduceMul, Int.reduceSub]
    rcases hs : look t k with _ | x
    · obtain ⟨p, d, hr, hp, _⟩ := seek_miss h hk0 hs
      refine Does.call (seek_fn hv h.len hk hr) (fr2 hv.free (.str _)) ?_
      simp -implicitDefEqProofs (disch := omega) only [mwx, ne_eq, false_implies, implies_true, forall_eq_or_imp, MW.get, ev, evs, argFr, resK, packV, slHK, partsV, partsS, setR, Int.cast_ofNat_Int, Int.natCast_zero, Int.natCast_one, Nat.reduceLeDiff, reduceIte, Nat.reduceEqDiff, Nat.reduceBEq, reduceCtorEq, Nat.reduceAdd, Nat.reduceMul, Nat.reduceSub, Nat.reduceLT, Int.reduceToNat, Int.reduceLT, Int.reduceLE, Int.reduceEq, Int.reduceAdd, Int.reduceNeg, Int.reduceMul, Int.reduceSub]
      exact frz_tup2 (frz_int (by simp [getT, hs])) (frz_bool (by simp [getT, hs]))
    · obtain ⟨p, hr, hp, he⟩ := seek_there h hs
      have hi0 : (0 : Int) ≤ (p : Int) := by omega
      have hi1 : (p : Int).toNat < t.length := by have := h.len; omega
      refine Does.call (seek_fn hv h.len hk hr) (fr2 hv.free (.str _)) ?_
      simp -implicitDefEqProofs (disch := omega) only [iaK_pl hv hi0 hi1, mwx, ne_eq, false_implies, implies_true, forall_eq_or_imp, MW.get, ev, evs, argFr, resK, packV, slHK, partsV, partsS, setR, Int.cast_ofNat_Int, Int.natCast_zero, Int.natCast_one, Nat.reduceLeDiff, reduceIte, Nat.reduceEqDiff, Nat.reduceBEq, reduceCtorEq, Nat.reduceAdd, Nat.reduceMul, Nat.reduceSub, Nat.reduceLT, Int.reduceToNat, Int.reduceLT, Int.reduceLE, Int.reduceEq, Int.reduceAdd, Int.reduceNeg, Int.reduceMul, Int.reduceSub]
      exact frz_tup2 (frz_int (by simp only [getT, hs]; rw [he])) (frz_bool (by simp [getT, hs]))

/-- A table in memory of its own. -/
theorem own_sim {v : V} {t : List Pc} (hv : IsE plE v t) (hl : t.length = 128) (H : List Blk) : Sim Try.prog G0 23 [v] H (.hs H.length t.length 0 0 t.length (some t.length) 2) (H ++ [.row 2 (plE.vs t) false false]) := by
  refine SimP.sim (SimP.intro mixed comp23 ?_)
  unfold c23
  have h1 : (0 : Int) ≤ (t.length : Int) := by omega
  have h2 : (t.length : Int) < 2 ^ 63 := by omega
  have h3 : (24 : Int) * (t.length : Int) ≤ 2 ^ 48 := by omega
  have h4 : (plE.vs t).length = t.length := El.vs_length t
  have h5 : (plE.vs t).take t.length = plE.vs t := List.take_of_length_le (by omega)
  have h6 : Goods 2 (plE.vs t) := El.vs_goods (e := plE) t
  simp -implicitDefEqProofs (disch := omega) only [lenK_isE hv, h1, h2, h3, elemsK_isE hv, h4, h5, h6, mwx, ne_eq, false_implies, implies_true, forall_eq_or_imp, MW.get, ev, evs, argFr, resK, packV, slHK, partsV, partsS, setR, Int.cast_ofNat_Int, Int.natCast_zero, Int.natCast_one, Nat.reduceLeDiff, reduceIte, Nat.reduceEqDiff, Nat.reduceBEq, reduceCtorEq, Nat.reduceAdd, Nat.reduceMul, Nat.reduceSub, Nat.reduceLT, Int.reduceToNat, Int.reduceLT, Int.reduceLE, Int.reduceEq, Int.reduceAdd, Int.reduceNeg, Int.reduceMul, Int.reduceSub]
  refine ⟨Int.le_refl _, List.length_replicate, ?_⟩
  rw [List.drop_eq_nil_of_le (by simp), List.append_nil]

/-- All keys, in their order. -/
def rawK (t : List Pc) : List (List UInt8) := (t.filter fun p => decide (p.1 ≠ [])).map (·.1)
def keysT (t : List Pc) : List (List UInt8) := srt (rawK t)
theorem rawK_length (t : List Pc) : (rawK t).length = full t := by
  unfold rawK full
  rw [List.length_map, List.countP_eq_length_filter]
theorem keysT_length (t : List Pc) : (keysT t).length = full t := by unfold keysT; rw [srt_length, rawK_length]

theorem rawK_take {t : List Pc} {i : Nat} (h : i < t.length) : rawK (t.take (i + 1)) = rawK (t.take i) ++ (if keyAt t i = [] then [] else [keyAt t i]) := by
  unfold rawK keyAt
  rw [List.take_add_one, List.filter_append, List.map_append, List.getElem?_eq_getElem h, List.getD_eq_getElem?_getD, List.getElem?_eq_getElem h]
  by_cases h1 : t[i].1 = []
  · simp [h1]
  · simp [h1]

theorem keys_fn {v : V} {t : List Pc} (hv : IsE plE v t) (h : WF t) : ∃ r, IsE strE r (keysT t) ∧ Does Try.prog G0 false 19 [v] r := by
  have hl := h.len
  have key : SimX Try.prog G0 19 [v] [] fun r' H' => ∃ r, IsE strE r (keysT t) ∧ Frz false H' r' r := by
    refine SimX.intro mixed comp19 ?_
    unfold c19
    simp -implicitDefEqProofs (disch := omega) only [mwx, ne_eq, false_implies, implies_true, forall_eq_or_imp, MW.get, ev, evs, argFr, resK, packV, slHK, partsV, partsS, setR, Int.cast_ofNat_Int, Int.natCast_zero, Int.natCast_one, Nat.reduceLeDiff, reduceIte, Nat.reduceEqDiff, Nat.reduceBEq, reduceCtorEq, Nat.reduceAdd, Nat.reduceMul, Nat.reduceSub, Nat.reduceLT, Int.reduceToNat, Int.reduceLT, Int.reduceLE, Int.reduceEq, Int.reduceAdd, Int.reduceNeg, Int.reduceMul, Int.reduceSub]
    refine Does.call (chk_fn hv h) (fr1 hv.free) ?_
    simp -implicitDefEqProofs (disch := omega) only [lenK_isE hv, hl, mwx, ne_eq, false_implies, implies_true, forall_eq_or_imp, MW.get, ev, evs, argFr, resK, packV, slHK, partsV, partsS, setR, Int.cast_ofNat_Int, Int.natCast_zero, Int.natCast_one, Nat.reduceLeDiff, reduceIte, Nat.reduceEqDiff, Nat.reduceBEq, reduceCtorEq, Nat.reduceAdd, Nat.reduceMul, Nat.reduceSub, Nat.reduceLT, Int.reduceToNat, Int.reduceLT, Int.reduceLE, Int.reduceEq, Int.reduceAdd, Int.reduceNeg, Int.reduceMul, Int.reduceSub]
    refine xl_loop (fun m st => ∃ (i : Nat) (u : V), m + i = 128 ∧ get st.fr 8 = v ∧ get st.fr 9 = .int .i64 128 ∧ get st.fr 10 = .int .i64 i ∧ get st.fr 2 = u ∧ Own 1 st.H u (strE.vs (rawK (t.take i)))) 128 ⟨0, .nils, by omega, rfl, rfl, rfl, rfl, Own.nil _ _⟩ ?_
    rintro J hJ m fr H ⟨i, u, h1, h2, h3, h4, h5, hO⟩
    have hO : Own 1 H u (strE.vs (rawK (t.take i))) := hO
    simp -implicitDefEqProofs (disch := omega) only [h2, h3, h4, h5, mwx, ne_eq, false_implies, implies_true, forall_eq_or_imp, MW.get, ev, evs, argFr, resK, packV, slHK, partsV, partsS, setR, Int.cast_ofNat_Int, Int.natCast_zero, Int.natCast_one, Nat.reduceLeDiff, reduceIte, Nat.reduceEqDiff, Nat.reduceBEq, reduceCtorEq, Nat.reduceAdd, Nat.reduceMul, Nat.reduceSub, Nat.reduceLT, Int.reduceToNat, Int.reduceLT, Int.reduceLE, Int.reduceEq, Int.reduceAdd, Int.reduceNeg, Int.reduceMul, Int.reduceSub]
    refine xc_dec (fun h7 => ?_) fun h7 => ?_
    · have hi : i < 128 := by omega
      have hi0 : (0 : Int) ≤ (i : Int) := by omega
      have hi1 : (i : Int).toNat < t.length := by omega
      have hft := rawK_take (t := t) (i := i) (by omega)
      by_cases hk : keyAt t i = []
      · have g1 : (keyAt t i != []) = false := by rw [hk]; rfl
        rw [if_pos hk, List.append_nil] at hft
        simp -implicitDefEqProofs (disch := omega) only [h2, h3, h4, h5, iaK_pl hv hi0 hi1, g1, mwx, ne_eq, false_implies, implies_true, forall_eq_or_imp, MW.get, ev, evs, argFr, resK, packV, slHK, partsV, partsS, setR, Int.cast_ofNat_Int, Int.natCast_zero, Int.natCast_one, Nat.reduceLeDiff, reduceIte, Nat.reduceEqDiff, Nat.reduceBEq, reduceCtorEq, Nat.reduceAdd, Nat.reduceMul, Nat.reduceSub, Nat.reduceLT, Int.reduceToNat, Int.reduceLT, Int.reduceLE, Int.reduceEq, Int.reduceAdd, Int.reduceNeg, Int.reduceMul, Int.reduceSub]
        exact ⟨m - 1, by omega, hJ _ _ ⟨i + 1, u, by omega, h2, h3, rfl, h5, by rw [hft]; exact hO.grow _⟩⟩
      · have g1 : (keyAt t i != []) = true := by simpa using hk
        rw [if_neg hk] at hft
        have hgb : ∀ a b : Blk, getB (H ++ [a, b]) (H ++ [a]).length = b := fun a b => by
          have := getB_new (H ++ [a]) b
          rwa [List.append_assoc] at this
        simp -implicitDefEqProofs (disch := omega) only [h2, h3, h4, h5, iaK_pl hv hi0 hi1, g1, hgb, mwx, ne_eq, false_implies, implies_true, forall_eq_or_imp, MW.get, ev, evs, argFr, resK, packV, slHK, partsV, partsS, setR, Int.cast_ofNat_Int, Int.natCast_zero, Int.natCast_one, Nat.reduceLeDiff, reduceIte, Nat.reduceEqDiff, Nat.reduceBEq, reduceCtorEq, Nat.reduceAdd, Nat.reduceMul, Nat.reduceSub, Nat.reduceLT, Int.reduceToNat, Int.reduceLT, Int.reduceLE, Int.reduceEq, Int.reduceAdd, Int.reduceNeg, Int.reduceMul, Int.reduceSub]
        refine (hO.grow _).app (El.vs_goods (e := strE) _) ?_ ?_ fun v' H' hO' => ?_
        · simp only [goods_cons, goods_nil, good_str, and_self]
        · refine roomy_of ?_ (by omega)
          have h8 := rawK_length (t.take i)
          have h9 := full_take_le (t := t) i
          have h10 := h.cnt
          rw [El.vs_length]
          simp
          omega
        simp -implicitDefEqProofs (disch := omega) only [h2, h3, h4, h5, mwx, ne_eq, false_implies, implies_true, forall_eq_or_imp, MW.get, ev, evs, argFr, resK, packV, slHK, partsV, partsS, setR, Int.cast_ofNat_Int, Int.natCast_zero, Int.natCast_one, Nat.reduceLeDiff, reduceIte, Nat.reduceEqDiff, Nat.reduceBEq, reduceCtorEq, Nat.reduceAdd, Nat.reduceMul, Nat.reduceSub, Nat.reduceLT, Int.reduceToNat, Int.reduceLT, Int.reduceLE, Int.reduceEq, Int.reduceAdd, Int.reduceNeg, Int.reduceMul, Int.reduceSub]
        refine ⟨m - 1, by omega, hJ _ _ ⟨i + 1, v', by omega, h2, h3, rfl, rfl, ?_⟩⟩
        rw [hft]
        have := hO'
        rw [show [V.str (keyAt t i)] = strE.vs [keyAt t i] from rfl, El.vs_append] at this
        exact this
    · have ht : t.take i = t := List.take_of_length_le (by omega)
      rw [ht] at hO
      simp -implicitDefEqProofs (disch := omega) only [h2, h3, h4, h5, mwx, ne_eq, false_implies, implies_true, forall_eq_or_imp, MW.get, ev, evs, argFr, resK, packV, slHK, partsV, partsS, setR, Int.cast_ofNat_Int, Int.natCast_zero, Int.natCast_one, Nat.reduceLeDiff, reduceIte, Nat.reduceEqDiff, Nat.reduceBEq, reduceCtorEq, Nat.reduceAdd, Nat.reduceMul, Nat.reduceSub, Nat.reduceLT, Int.reduceToNat, Int.reduceLT, Int.reduceLE, Int.reduceEq, Int.reduceAdd, Int.reduceNeg, Int.reduceMul, Int.reduceSub]
      refine hO.sort sorts sorts0 (by rw [rawK_length]; have := h.cnt; omega) fun H' hO' _ => ?_
      obtain ⟨r, g1, g2⟩ := hO'.isE (im := false) rfl (by decide)
      simp -implicitDefEqProofs (disch := omega) only [h5, mwx, ne_eq, false_implies, implies_true, forall_eq_or_imp, MW.get, ev, evs, argFr, resK, packV, slHK, partsV, partsS, setR, Int.cast_ofNat_Int, Int.natCast_zero, Int.natCast_one, Nat.reduceLeDiff, reduceIte, Nat.reduceEqDiff, Nat.reduceBEq, reduceCtorEq, Nat.reduceAdd, Nat.reduceMul, Nat.reduceSub, Nat.reduceLT, Int.reduceToNat, Int.reduceLT, Int.reduceLE, Int.reduceEq, Int.reduceAdd, Int.reduceNeg, Int.reduceMul, Int.reduceSub]
      exact ⟨r, g1, g2⟩
  exact Does.ofX key

/-- A key is given a number. -/
def seat (t : List Pc) (k : List UInt8) : Nat := match seekF t k 128 (home k) with
  | some (p, _) => p
  | none => 0
def putT (t : List Pc) (k : List UInt8) (x : Int) : List Pc × Int :=
  if keyOK k = false then (t, 90) else if look t k = none ∧ 96 ≤ full t then (t, 110) else (t.set (seat t k) (k, x), 0)

theorem put_fn {v : V} {t : List Pc} (hv : IsE plE v t) (h : WF t) (k : List UInt8) (x : Int) : Does Try.prog G0 false 16 [v, .str k, .int .i64 x] (.tup [.vs (plE.vs (putT t k x).1), .int .i64 (putT t k x).2]) := by
  have hl := h.len
  have hs := own_sim hv hl []
  have hL : (plE.vs t).length = t.length := El.vs_length t
  refine Does.intro mixed comp16 ?_
  unfold c16
  simp -implicitDefEqProofs (disch := omega) only [mwx, ne_eq, false_implies, implies_true, forall_eq_or_imp, MW.get, ev, evs, argFr, resK, packV, slHK, partsV, partsS, setR, Int.cast_ofNat_Int, Int.natCast_zero, Int.natCast_one, Nat.reduceLeDiff, reduceIte, Nat.reduceEqDiff, Nat.reduceBEq, reduceCtorEq, Nat.reduceAdd, Nat.reduceMul, Nat.reduceSub, Nat.reduceLT, Int.reduceToNat, Int.reduceLT, Int.reduceLE, Int.reduceEq, Int.reduceAdd, Int.reduceNeg, Int.reduceMul, Int.reduceSub]
  refine callK_sim hs ?_
  simp -implicitDefEqProofs (disch := omega) only [mwx, ne_eq, false_implies, implies_true, forall_eq_or_imp, MW.get, ev, evs, argFr, resK, packV, slHK, partsV, partsS, setR, Int.cast_ofNat_Int, Int.natCast_zero, Int.natCast_one, Nat.reduceLeDiff, reduceIte, Nat.reduceEqDiff, Nat.reduceBEq, reduceCtorEq, Nat.reduceAdd, Nat.reduceMul, Nat.reduceSub, Nat.reduceLT, Int.reduceToNat, Int.reduceLT, Int.reduceLE, Int.reduceEq, Int.reduceAdd, Int.reduceNeg, Int.reduceMul, Int.reduceSub]
  refine Does.call (chk_fn hv h) (fr1 hv.free) ?_
  simp -implicitDefEqProofs (disch := omega) only [mwx, ne_eq, false_implies, implies_true, forall_eq_or_imp, MW.get, ev, evs, argFr, resK, packV, slHK, partsV, partsS, setR, Int.cast_ofNat_Int, Int.natCast_zero, Int.natCast_one, Nat.reduceLeDiff, reduceIte, Nat.reduceEqDiff, Nat.reduceBEq, reduceCtorEq, Nat.reduceAdd, Nat.reduceMul, Nat.reduceSub, Nat.reduceLT, Int.reduceToNat, Int.reduceLT, Int.reduceLE, Int.reduceEq, Int.reduceAdd, Int.reduceNeg, Int.reduceMul, Int.reduceSub]
  refine Does.call (key_fn k) (fr1 (.str _)) ?_
  have frz0 : ∀ H : List Blk, getB H 0 = .row 2 (plE.vs t) false false → Frz false H (.hs 0 t.length 0 0 t.length (some t.length) 2) (.vs (plE.vs t)) := fun H hH => frz_rowE (e := plE) rfl (fun h => by cases h) hH rfl rfl
  by_cases hok : keyOK k = true
  · have hk0 := (keyOK_iff.1 hok).1
    have hk : k.length ≤ 1000000 := by have := (keyOK_iff.1 hok).2; omega
    simp -implicitDefEqProofs (disch := omega) only [hok, mwx, ne_eq, false_implies, implies_true, forall_eq_or_imp, MW.get, ev, evs, argFr, resK, packV, slHK, partsV, partsS, setR, Int.cast_ofNat_Int, Int.natCast_zero, Int.natCast_one, Nat.reduceLeDiff, reduceIte, Nat.reduceEqDiff, Nat.reduceBEq, reduceCtorEq, Nat.reduceAdd, Nat.reduceMul, Nat.reduceSub, Nat.reduceLT, Int.reduceToNat, Int.reduceLT, Int.reduceLE, Int.reduceEq, Int.reduceAdd, Int.reduceNeg, Int.reduceMul, Int.reduceSub]
    rcases hlk : look t k with _ | y
    · obtain ⟨p, d, hr, hp, _⟩ := seek_miss h hk0 hlk
      have hseat : seat t k = p := by unfold seat; rw [hr]
      refine Does.call (seek_fn hv hl hk hr) (fr2 hv.free (.str _)) ?_
      simp -implicitDefEqProofs (disch := omega) only [mwx, ne_eq, false_implies, implies_true, forall_eq_or_imp, MW.get, ev, evs, argFr, resK, packV, slHK, partsV, partsS, setR, Int.cast_ofNat_Int, Int.natCast_zero, Int.natCast_one, Nat.reduceLeDiff, reduceIte, Nat.reduceEqDiff, Nat.reduceBEq, reduceCtorEq, Nat.reduceAdd, Nat.reduceMul, Nat.reduceSub, Nat.reduceLT, Int.reduceToNat, Int.reduceLT, Int.reduceLE, Int.reduceEq, Int.reduceAdd, Int.reduceNeg, Int.reduceMul, Int.reduceSub]
      obtain ⟨r, g1, g2⟩ := keys_fn hv h
      refine Does.call g2 (fr1 hv.free) ?_
      simp -implicitDefEqProofs (disch := omega) only [lenK_isE g1, keysT_length, mwx, ne_eq, false_implies, implies_true, forall_eq_or_imp, MW.get, ev, evs, argFr, resK, packV, slHK, partsV, partsS, setR, Int.cast_ofNat_Int, Int.natCast_zero, Int.natCast_one, Nat.reduceLeDiff, reduceIte, Nat.reduceEqDiff, Nat.reduceBEq, reduceCtorEq, Nat.reduceAdd, Nat.reduceMul, Nat.reduceSub, Nat.reduceLT, Int.reduceToNat, Int.reduceLT, Int.reduceLE, Int.reduceEq, Int.reduceAdd, Int.reduceNeg, Int.reduceMul, Int.reduceSub]
      refine xc_dec (fun h1 => ?_) fun h1 => ?_
      · simp -implicitDefEqProofs (disch := omega) only [mwx, ne_eq, false_implies, implies_true, forall_eq_or_imp, MW.get, ev, evs, argFr, resK, packV, slHK, partsV, partsS, setR, Int.cast_ofNat_Int, Int.natCast_zero, Int.natCast_one, Nat.reduceLeDiff, reduceIte, Nat.reduceEqDiff, Nat.reduceBEq, reduceCtorEq, Nat.reduceAdd, Nat.reduceMul, Nat.reduceSub, Nat.reduceLT, Int.reduceToNat, Int.reduceLT, Int.reduceLE, Int.reduceEq, Int.reduceAdd, Int.reduceNeg, Int.reduceMul, Int.reduceSub]
        have e1 : putT t k x = (t, 110) := by unfold putT; rw [if_neg (by simp [hok]), if_pos ⟨hlk, by omega⟩]
        rw [e1]
        exact frz_tup2 (frz0 _ rfl) (frz_int rfl)
      · have e1 : putT t k x = (t.set (seat t k) (k, x), 0) := by unfold putT; rw [if_neg (by simp [hok]), if_neg (by omega)]
        have hp1 : p < t.length := by omega
        have hset : (plE.vs t).set p (.agg [.str k, .int .i64 x]) = plE.vs (t.set p (k, x)) := El.vs_set (e := plE) t p (k, x)
        simp -implicitDefEqProofs (disch := omega) only [hL, hp1, hset, mwx, ne_eq, false_implies, implies_true, forall_eq_or_imp, MW.get, ev, evs, argFr, resK, packV, slHK, partsV, partsS, setR, Int.cast_ofNat_Int, Int.natCast_zero, Int.natCast_one, Nat.reduceLeDiff, reduceIte, Nat.reduceEqDiff, Nat.reduceBEq, reduceCtorEq, Nat.reduceAdd, Nat.reduceMul, Nat.reduceSub, Nat.reduceLT, Int.reduceToNat, Int.reduceLT, Int.reduceLE, Int.reduceEq, Int.reduceAdd, Int.reduceNeg, Int.reduceMul, Int.reduceSub]
        rw [e1, hseat]
        exact frz_tup2 (frz_rowE (e := plE) rfl (fun h => by cases h) rfl (by simp) rfl) (frz_int rfl)
    · obtain ⟨p, hr, hp, _⟩ := seek_there h hlk
      have hseat : seat t k = p := by unfold seat; rw [hr]
      refine Does.call (seek_fn hv hl hk hr) (fr2 hv.free (.str _)) ?_
      have e1 : putT t k x = (t.set (seat t k) (k, x), 0) := by unfold putT; rw [if_neg (by simp [hok]), if_neg (by rw [hlk]; simp)]
      have hp1 : p < t.length := by omega
      have hset : (plE.vs t).set p (.agg [.str k, .int .i64 x]) = plE.vs (t.set p (k, x)) := El.vs_set (e := plE) t p (k, x)
      simp -implicitDefEqProofs (disch := omega) only [hL, hp1, hset, mwx, ne_eq, false_implies, implies_true, forall_eq_or_imp, MW.get, ev, evs, argFr, resK, packV, slHK, partsV, partsS, setR, Int.cast_ofNat_Int, Int.natCast_zero, Int.natCast_one, Nat.reduceLeDiff, reduceIte, Nat.reduceEqDiff, Nat.reduceBEq, reduceCtorEq, Nat.reduceAdd, Nat.reduceMul, Nat.reduceSub, Nat.reduceLT, Int.reduceToNat, Int.reduceLT, Int.reduceLE, Int.reduceEq, Int.reduceAdd, Int.reduceNeg, Int.reduceMul, Int.reduceSub]
      rw [e1, hseat]
      exact frz_tup2 (frz_rowE (e := plE) rfl (fun h => by cases h) rfl (by simp) rfl) (frz_int rfl)
  · have hok' : keyOK k = false := by simpa using hok
    simp -implicitDefEqProofs (disch := omega) only [hok', mwx, ne_eq, false_implies, implies_true, forall_eq_or_imp, MW.get, ev, evs, argFr, resK, packV, slHK, partsV, partsS, setR, Int.cast_ofNat_Int, Int.natCast_zero, Int.natCast_one, Nat.reduceLeDiff, reduceIte, Nat.reduceEqDiff, Nat.reduceBEq, reduceCtorEq, Nat.reduceAdd, Nat.reduceMul, Nat.reduceSub, Nat.reduceLT, Int.reduceToNat, Int.reduceLT, Int.reduceLE, Int.reduceEq, Int.reduceAdd, Int.reduceNeg, Int.reduceMul, Int.reduceSub]
    have e1 : putT t k x = (t, 90) := by unfold putT; rw [if_pos hok']
    rw [e1]
    exact frz_tup2 (frz0 _ rfl) (frz_int rfl)

/-- A key is deleted. -/
def delT (t : List Pc) (k : List UInt8) : List Pc × Int := match look t k with
  | none => (t, 120)
  | some _ => match delF 128 t (seat t k) (nxt (seat t k)) with
    | some (o, q) => (o.set q e0, 0)
    | none => (t, 0)

theorem del_fn {v : V} {t : List Pc} (hv : IsE plE v t) (h : WF t) {k : List UInt8} (hk : k.length ≤ 1000000) : Does Try.prog G0 false 18 [v, .str k] (.tup [.vs (plE.vs (delT t k).1), .int .i64 (delT t k).2]) := by
  have hl := h.len
  have hs := own_sim hv hl []
  refine Does.intro mixed comp18 ?_
  unfold c18
  simp -implicitDefEqProofs (disch := omega) only [mwx, ne_eq, false_implies, implies_true, forall_eq_or_imp, MW.get, ev, evs, argFr, resK, packV, slHK, partsV, partsS, setR, Int.cast_ofNat_Int, Int.natCast_zero, Int.natCast_one, Nat.reduceLeDiff, reduceIte, Nat.reduceEqDiff, Nat.reduceBEq, reduceCtorEq, Nat.reduceAdd, Nat.reduceMul, Nat.reduceSub, Nat.reduceLT, Int.reduceToNat, Int.reduceLT, Int.reduceLE, Int.reduceEq, Int.reduceAdd, Int.reduceNeg, Int.reduceMul, Int.reduceSub]
  refine callK_sim hs ?_
  simp -implicitDefEqProofs (disch := omega) only [mwx, ne_eq, false_implies, implies_true, forall_eq_or_imp, MW.get, ev, evs, argFr, resK, packV, slHK, partsV, partsS, setR, Int.cast_ofNat_Int, Int.natCast_zero, Int.natCast_one, Nat.reduceLeDiff, reduceIte, Nat.reduceEqDiff, Nat.reduceBEq, reduceCtorEq, Nat.reduceAdd, Nat.reduceMul, Nat.reduceSub, Nat.reduceLT, Int.reduceToNat, Int.reduceLT, Int.reduceLE, Int.reduceEq, Int.reduceAdd, Int.reduceNeg, Int.reduceMul, Int.reduceSub]
  refine Does.call (get_fn hv h hk) (fr2 hv.free (.str _)) ?_
  rcases hlk : look t k with _ | y
  · have e1 : getT t k = (0, false) := by unfold getT; rw [hlk]
    have e2 : delT t k = (t, 120) := by unfold delT; rw [hlk]
    rw [e1, e2]
    simp -implicitDefEqProofs (disch := omega) only [mwx, ne_eq, false_implies, implies_true, forall_eq_or_imp, MW.get, ev, evs, argFr, resK, packV, slHK, partsV, partsS, setR, Int.cast_ofNat_Int, Int.natCast_zero, Int.natCast_one, Nat.reduceLeDiff, reduceIte, Nat.reduceEqDiff, Nat.reduceBEq, reduceCtorEq, Nat.reduceAdd, Nat.reduceMul, Nat.reduceSub, Nat.reduceLT, Int.reduceToNat, Int.reduceLT, Int.reduceLE, Int.reduceEq, Int.reduceAdd, Int.reduceNeg, Int.reduceMul, Int.reduceSub]
    exact frz_tup2 (frz_rowE (e := plE) rfl (fun h => by cases h) rfl rfl rfl) (frz_int rfl)
  · have e1 : getT t k = (y, true) := by unfold getT; rw [hlk]
    rw [e1]
    have hk0 := ((look_iff h).1 hlk).1
    obtain ⟨p, hr, hp, he⟩ := seek_there h hlk
    have hseat : seat t k = p := by unfold seat; rw [hr]
    obtain ⟨o, q, hd, hq, ho, hw, _⟩ := del_law h hk0 hp he
    have e2 : delT t k = (o.set q e0, 0) := by unfold delT; rw [hlk, hseat]; simp only [hd]
    rw [e2]
    simp -implicitDefEqProofs (disch := omega) only [mwx, ne_eq, false_implies, implies_true, forall_eq_or_imp, MW.get, ev, evs, argFr, resK, packV, slHK, partsV, partsS, setR, Int.cast_ofNat_Int, Int.natCast_zero, Int.natCast_one, Nat.reduceLeDiff, reduceIte, Nat.reduceEqDiff, Nat.reduceBEq, reduceCtorEq, Nat.reduceAdd, Nat.reduceMul, Nat.reduceSub, Nat.reduceLT, Int.reduceToNat, Int.reduceLT, Int.reduceLE, Int.reduceEq, Int.reduceAdd, Int.reduceNeg, Int.reduceMul, Int.reduceSub]
    refine Does.call (seek_fn hv hl hk hr) (fr2 hv.free (.str _)) ?_
    simp -implicitDefEqProofs (disch := omega) only [mwx, ne_eq, false_implies, implies_true, forall_eq_or_imp, MW.get, ev, evs, argFr, resK, packV, slHK, partsV, partsS, setR, Int.cast_ofNat_Int, Int.natCast_zero, Int.natCast_one, Nat.reduceLeDiff, reduceIte, Nat.reduceEqDiff, Nat.reduceBEq, reduceCtorEq, Nat.reduceAdd, Nat.reduceMul, Nat.reduceSub, Nat.reduceLT, Int.reduceToNat, Int.reduceLT, Int.reduceLE, Int.reduceEq, Int.reduceAdd, Int.reduceNeg, Int.reduceMul, Int.reduceSub]
    refine Does.call (next_fn p hp) (fr1 (.int _ _)) ?_
    simp -implicitDefEqProofs (disch := omega) only [mwx, ne_eq, false_implies, implies_true, forall_eq_or_imp, MW.get, ev, evs, argFr, resK, packV, slHK, partsV, partsS, setR, Int.cast_ofNat_Int, Int.natCast_zero, Int.natCast_one, Nat.reduceLeDiff, reduceIte, Nat.reduceEqDiff, Nat.reduceBEq, reduceCtorEq, Nat.reduceAdd, Nat.reduceMul, Nat.reduceSub, Nat.reduceLT, Int.reduceToNat, Int.reduceLT, Int.reduceLE, Int.reduceEq, Int.reduceAdd, Int.reduceNeg, Int.reduceMul, Int.reduceSub]
    refine xl_loop (fun m st => ∃ (o' : List Pc) (g i : Nat), o'.length = t.length ∧ g < 128 ∧ i < 128 ∧ (∀ j, (keyAt o' j).length ≤ 16) ∧ st.H = [.row 2 (plE.vs o') false false] ∧ get st.fr 6 = .hs 0 t.length 0 0 t.length (some t.length) 2 ∧ get st.fr 9 = .int .i64 g ∧ get st.fr 11 = .int .i64 i ∧ delF m o' g i = some (o, q)) 128
      ⟨t, p, nxt p, rfl, hp, Nat.mod_lt _ (by decide), fun j => ?_, rfl, rfl, rfl, rfl, hd⟩ ?_
    · rcases Nat.lt_or_ge j 128 with h1 | h1
      · exact h.key j h1
      · unfold keyAt; rw [List.getD_eq_getElem?_getD, List.getElem?_eq_none (by omega)]; simp [e0]
    rintro J hJ m fr H ⟨o', g, i, h1, h2, h3, h4, hH, h6, h7, h8, h9⟩
    obtain rfl : H = [.row 2 (plE.vs o') false false] := hH
    cases m with
    | zero => cases h9
    | succ m =>
    have hL : (plE.vs o').length = t.length := by rw [El.vs_length, h1]
    have hi : i < t.length := by omega
    have hg : (plE.vs o').getD i .junk = .agg [.str (keyAt o' i), .int .i64 (o'.getD i e0).2] := El.vs_getD (e := plE) (by omega)
    simp -implicitDefEqProofs (disch := omega) only [h6, h7, h8, hL, hi, hg, mwx, ne_eq, false_implies, implies_true, forall_eq_or_imp, MW.get, ev, evs, argFr, resK, packV, slHK, partsV, partsS, setR, Int.cast_ofNat_Int, Int.natCast_zero, Int.natCast_one, Nat.reduceLeDiff, reduceIte, Nat.reduceEqDiff, Nat.reduceBEq, reduceCtorEq, Nat.reduceAdd, Nat.reduceMul, Nat.reduceSub, Nat.reduceLT, Int.reduceToNat, Int.reduceLT, Int.reduceLE, Int.reduceEq, Int.reduceAdd, Int.reduceNeg, Int.reduceMul, Int.reduceSub]
    unfold delF at h9
    refine xc_any (fun h10 => ?_) fun h10 => ?_
    · have hk' : keyAt o' i ≠ [] := by simpa using h10
      rw [if_neg hk'] at h9
      simp -implicitDefEqProofs (disch := omega) only [h6, h7, h8, hL, hi, hg, mwx, ne_eq, false_implies, implies_true, forall_eq_or_imp, MW.get, ev, evs, argFr, resK, packV, slHK, partsV, partsS, setR, Int.cast_ofNat_Int, Int.natCast_zero, Int.natCast_one, Nat.reduceLeDiff, reduceIte, Nat.reduceEqDiff, Nat.reduceBEq, reduceCtorEq, Nat.reduceAdd, Nat.reduceMul, Nat.reduceSub, Nat.reduceLT, Int.reduceToNat, Int.reduceLT, Int.reduceLE, Int.reduceEq, Int.reduceAdd, Int.reduceNeg, Int.reduceMul, Int.reduceSub]
      refine Does.call (home_fn (keyAt o' i) (by have := h4 i; omega)) (fr1 (.str _)) ?_
      simp -implicitDefEqProofs (disch := omega) only [h6, h7, h8, mwx, ne_eq, false_implies, implies_true, forall_eq_or_imp, MW.get, ev, evs, argFr, resK, packV, slHK, partsV, partsS, setR, Int.cast_ofNat_Int, Int.natCast_zero, Int.natCast_one, Nat.reduceLeDiff, reduceIte, Nat.reduceEqDiff, Nat.reduceBEq, reduceCtorEq, Nat.reduceAdd, Nat.reduceMul, Nat.reduceSub, Nat.reduceLT, Int.reduceToNat, Int.reduceLT, Int.reduceLE, Int.reduceEq, Int.reduceAdd, Int.reduceNeg, Int.reduceMul, Int.reduceSub]
      refine Does.call (far_fn _ i (home_lt _) h3) (fr2 (.int _ _) (.int _ _)) ?_
      simp -implicitDefEqProofs (disch := omega) only [h6, h7, h8, mwx, ne_eq, false_implies, implies_true, forall_eq_or_imp, MW.get, ev, evs, argFr, resK, packV, slHK, partsV, partsS, setR, Int.cast_ofNat_Int, Int.natCast_zero, Int.natCast_one, Nat.reduceLeDiff, reduceIte, Nat.reduceEqDiff, Nat.reduceBEq, reduceCtorEq, Nat.reduceAdd, Nat.reduceMul, Nat.reduceSub, Nat.reduceLT, Int.reduceToNat, Int.reduceLT, Int.reduceLE, Int.reduceEq, Int.reduceAdd, Int.reduceNeg, Int.reduceMul, Int.reduceSub]
      refine Does.call (far_fn g i h2 h3) (fr2 (.int _ _) (.int _ _)) ?_
      simp -implicitDefEqProofs (disch := omega) only [h6, h7, h8, mwx, ne_eq, false_implies, implies_true, forall_eq_or_imp, MW.get, ev, evs, argFr, resK, packV, slHK, partsV, partsS, setR, Int.cast_ofNat_Int, Int.natCast_zero, Int.natCast_one, Nat.reduceLeDiff, reduceIte, Nat.reduceEqDiff, Nat.reduceBEq, reduceCtorEq, Nat.reduceAdd, Nat.reduceMul, Nat.reduceSub, Nat.reduceLT, Int.reduceToNat, Int.reduceLT, Int.reduceLE, Int.reduceEq, Int.reduceAdd, Int.reduceNeg, Int.reduceMul, Int.reduceSub]
      refine xc_dec (fun h11 => ?_) fun h11 => ?_
      · rw [if_pos (by omega)] at h9
        have hg1 : g < t.length := by omega
        have hset : (plE.vs o').set g (.agg [.str (keyAt o' i), .int .i64 (o'.getD i e0).2]) = plE.vs (o'.set g (o'.getD i e0)) := El.vs_set (e := plE) o' g (o'.getD i e0)
        simp -implicitDefEqProofs (disch := omega) only [h6, h7, h8, hL, hi, hg, hg1, hset, mwx, ne_eq, false_implies, implies_true, forall_eq_or_imp, MW.get, ev, evs, argFr, resK, packV, slHK, partsV, partsS, setR, Int.cast_ofNat_Int, Int.natCast_zero, Int.natCast_one, Nat.reduceLeDiff, reduceIte, Nat.reduceEqDiff, Nat.reduceBEq, reduceCtorEq, Nat.reduceAdd, Nat.reduceMul, Nat.reduceSub, Nat.reduceLT, Int.reduceToNat, Int.reduceLT, Int.reduceLE, Int.reduceEq, Int.reduceAdd, Int.reduceNeg, Int.reduceMul, Int.reduceSub]
        refine Does.call (next_fn i h3) (fr1 (.int _ _)) ?_
        simp -implicitDefEqProofs (disch := omega) only [h6, h7, h8, mwx, ne_eq, false_implies, implies_true, forall_eq_or_imp, MW.get, ev, evs, argFr, resK, packV, slHK, partsV, partsS, setR, Int.cast_ofNat_Int, Int.natCast_zero, Int.natCast_one, Nat.reduceLeDiff, reduceIte, Nat.reduceEqDiff, Nat.reduceBEq, reduceCtorEq, Nat.reduceAdd, Nat.reduceMul, Nat.reduceSub, Nat.reduceLT, Int.reduceToNat, Int.reduceLT, Int.reduceLE, Int.reduceEq, Int.reduceAdd, Int.reduceNeg, Int.reduceMul, Int.reduceSub]
        refine ⟨m, by omega, hJ _ _ ⟨_, i, nxt i, by simpa using h1, h3, Nat.mod_lt _ (by decide), fun j => ?_, rfl, h6, rfl, rfl, h9⟩⟩
        rw [keyAt_set (by omega)]
        split
        · exact h4 i
        · exact h4 j
      · rw [if_neg (by omega)] at h9
        simp -implicitDefEqProofs (disch := omega) only [h6, h7, h8, mwx, ne_eq, false_implies, implies_true, forall_eq_or_imp, MW.get, ev, evs, argFr, resK, packV, slHK, partsV, partsS, setR, Int.cast_ofNat_Int, Int.natCast_zero, Int.natCast_one, Nat.reduceLeDiff, reduceIte, Nat.reduceEqDiff, Nat.reduceBEq, reduceCtorEq, Nat.reduceAdd, Nat.reduceMul, Nat.reduceSub, Nat.reduceLT, Int.reduceToNat, Int.reduceLT, Int.reduceLE, Int.reduceEq, Int.reduceAdd, Int.reduceNeg, Int.reduceMul, Int.reduceSub]
        refine Does.call (next_fn i h3) (fr1 (.int _ _)) ?_
        simp -implicitDefEqProofs (disch := omega) only [h6, h7, h8, mwx, ne_eq, false_implies, implies_true, forall_eq_or_imp, MW.get, ev, evs, argFr, resK, packV, slHK, partsV, partsS, setR, Int.cast_ofNat_Int, Int.natCast_zero, Int.natCast_one, Nat.reduceLeDiff, reduceIte, Nat.reduceEqDiff, Nat.reduceBEq, reduceCtorEq, Nat.reduceAdd, Nat.reduceMul, Nat.reduceSub, Nat.reduceLT, Int.reduceToNat, Int.reduceLT, Int.reduceLE, Int.reduceEq, Int.reduceAdd, Int.reduceNeg, Int.reduceMul, Int.reduceSub]
        exact ⟨m, by omega, hJ _ _ ⟨o', g, nxt i, h1, h2, Nat.mod_lt _ (by decide), h4, rfl, h6, h7, rfl, h9⟩⟩
    · have hk' : keyAt o' i = [] := by simpa using h10
      rw [if_pos hk'] at h9
      cases h9
      have hg1 : q < t.length := by omega
      have hset : (plE.vs o).set q (.agg [.str [], .int .i64 0]) = plE.vs (o.set q e0) := El.vs_set (e := plE) o q e0
      simp -implicitDefEqProofs (disch := omega) only [h6, h7, h8, hL, hg1, hset, mwx, ne_eq, false_implies, implies_true, forall_eq_or_imp, MW.get, ev, evs, argFr, resK, packV, slHK, partsV, partsS, setR, Int.cast_ofNat_Int, Int.natCast_zero, Int.natCast_one, Nat.reduceLeDiff, reduceIte, Nat.reduceEqDiff, Nat.reduceBEq, reduceCtorEq, Nat.reduceAdd, Nat.reduceMul, Nat.reduceSub, Nat.reduceLT, Int.reduceToNat, Int.reduceLT, Int.reduceLE, Int.reduceEq, Int.reduceAdd, Int.reduceNeg, Int.reduceMul, Int.reduceSub]
      exact frz_tup2 (frz_rowE (e := plE) rfl (fun h => by cases h) rfl (by simpa using h1) rfl) (frz_int rfl)

end Go.Proofs.Ytgilodbgleogmaa

/- Table (chapter 13): what putting, deleting, getting and all keys come to: the plain law. -/
namespace Go.Proofs.Ytgilodbgleogmaa
open Go Go.MW
set_option linter.unusedVariables false
set_option linter.unusedSimpArgs false

theorem getD_of_mem {t : List Pc} {p : Pc} (h : p ∈ t) : ∃ i, i < t.length ∧ t.getD i e0 = p := by
  obtain ⟨i, hi, rfl⟩ := List.getElem_of_mem h
  exact ⟨i, hi, by rw [List.getD_eq_getElem?_getD, List.getElem?_eq_getElem hi]; rfl⟩

theorem mem_of_getD {t : List Pc} {i : Nat} (h : i < t.length) : t.getD i e0 ∈ t := by
  rw [List.getD_eq_getElem?_getD, List.getElem?_eq_getElem h]
  exact List.getElem_mem h

theorem t0_at (i : Nat) : t0.getD i e0 = e0 := by
  unfold t0
  rw [List.getD_eq_getElem?_getD, List.getElem?_replicate]
  split <;> rfl
theorem t0_key (i : Nat) : keyAt t0 i = [] := by unfold keyAt; rw [t0_at]; rfl
theorem t0_full : full t0 = 0 := by
  unfold full t0
  rw [List.countP_replicate]
  rfl
theorem t0_wf : WF t0 := ⟨by unfold t0; rw [List.length_replicate], by rw [t0_full]; omega, fun i _ _ => t0_at i, fun i _ => by rw [t0_key]; simp, fun i j _ _ h => absurd (t0_key i) h, fun i _ h => absurd (t0_key i) h⟩
theorem t0_look (k : List UInt8) : look t0 k = none := (look_none t0_wf).2 fun i _ hk e => hk (by rw [← e, t0_key])

theorem getT_look {t : List Pc} {k : List UInt8} : (getT t k).2 = (look t k).isSome ∧ (∀ x, look t k = some x → (getT t k).1 = x) ∧ (look t k = none → (getT t k).1 = 0) := by
  unfold getT
  rcases look t k with _ | x
  · exact ⟨rfl, fun x h => (by cases h), fun _ => rfl⟩
  · exact ⟨rfl, fun y h => (by cases h; rfl), fun h => by cases h⟩

/-- Put. -/
theorem put_ok {t : List Pc} (h : WF t) {k : List UInt8} (hk : keyOK k = true) (hr : look t k ≠ none ∨ full t < 96) (x : Int) :
    (putT t k x).2 = 0 ∧ WF (putT t k x).1 ∧ (∀ k', look (putT t k x).1 k' = if k' = k then some x else look t k') ∧ full (putT t k x).1 = full t + (if look t k = none then 1 else 0) := by
  have hk0 := (keyOK_iff.1 hk).1
  rcases hs : look t k with _ | y
  · have hf : full t < 96 := hr.resolve_left (fun e => e hs)
    obtain ⟨p, d, hsk, hp, _⟩ := seek_miss h hk0 hs
    have hseat : seat t k = p := by unfold seat; rw [hsk]
    have e : putT t k x = (t.set p (k, x), 0) := by unfold putT; rw [if_neg (by simp [hk]), if_neg (by omega), hseat]
    obtain ⟨g1, g2, g3⟩ := put_new h hk hs hf hsk x
    rw [e]
    exact ⟨rfl, g1, g3, by rw [g2]; rfl⟩
  · obtain ⟨p, hsk, hp, he⟩ := seek_there h hs
    have hseat : seat t k = p := by unfold seat; rw [hsk]
    have e : putT t k x = (t.set p (k, x), 0) := by unfold putT; rw [if_neg (by simp [hk]), if_neg (by rw [hs]; simp), hseat]
    obtain ⟨g1, g2, g3⟩ := put_there h (v := y) hk0 hp (by unfold keyAt; rw [he]) x
    rw [e]
    exact ⟨rfl, g1, g3, by rw [g2]; simp⟩

theorem put_key {t : List Pc} {k : List UInt8} (hk : keyOK k = false) (x : Int) : putT t k x = (t, 90) := by unfold putT; rw [if_pos hk]
theorem put_full {t : List Pc} {k : List UInt8} (hk : keyOK k = true) (hn : look t k = none) (hf : 96 ≤ full t) (x : Int) : putT t k x = (t, 110) := by
  unfold putT; rw [if_neg (by simp [hk]), if_pos ⟨hn, hf⟩]

/-- Delete. -/
theorem del_ok {t : List Pc} (h : WF t) {k : List UInt8} {y : Int} (hs : look t k = some y) :
    (delT t k).2 = 0 ∧ WF (delT t k).1 ∧ (∀ k', look (delT t k).1 k' = if k' = k then none else look t k') ∧ full (delT t k).1 + 1 = full t := by
  have hk0 := ((look_iff h).1 hs).1
  obtain ⟨p, hr, hp, he⟩ := seek_there h hs
  have hseat : seat t k = p := by unfold seat; rw [hr]
  obtain ⟨o, q, hd, hq, ho, hw, hf, hl⟩ := del_law h hk0 hp he
  have e : delT t k = (o.set q e0, 0) := by unfold delT; rw [hs, hseat]; simp only [hd]
  rw [e]
  exact ⟨rfl, hw, hl, hf⟩
theorem del_none {t : List Pc} {k : List UInt8} (hs : look t k = none) : delT t k = (t, 120) := by unfold delT; rw [hs]

/-- Put anew and deleted: all is as it was. -/
theorem del_put {t : List Pc} (h : WF t) {k : List UInt8} (hs : look t k = none) {x : Int} (he : (putT t k x).2 = 0) : delT (putT t k x).1 k = (t, 0) := by
  by_cases hk : keyOK k = true
  · have hk0 := (keyOK_iff.1 hk).1
    by_cases hf : 96 ≤ full t
    · rw [put_full hk hs hf] at he; simp at he
    · obtain ⟨_, g1, g2, _⟩ := put_ok h hk (.inr (by omega)) x
      obtain ⟨p, d, hsk, hp, h0, _⟩ := seek_miss h hk0 hs
      have hseat : seat t k = p := by unfold seat; rw [hsk]
      have e : (putT t k x).1 = t.set p (k, x) := by unfold putT; rw [if_neg (by simp [hk]), if_neg (by omega), hseat]
      have hl := g2 k
      rw [if_pos rfl] at hl
      rw [e] at hl g1 ⊢
      obtain ⟨p', hr', hp', he'⟩ := seek_there g1 hl
      have hpp : p' = p := by
        have pl : p < t.length := by rw [h.len]; exact hp
        have k1 : keyAt (t.set p (k, x)) p' = k := by unfold keyAt; rw [he']
        have k2 : keyAt (t.set p (k, x)) p = k := by rw [keyAt_set pl, if_pos rfl]
        exact g1.inj p' p hp' hp (by rw [k1]; exact hk0) (by rw [k1, k2])
      subst hpp
      have hseat' : seat (t.set p' (k, x)) k = p' := by unfold seat; rw [hr']
      obtain ⟨o, r1, r2⟩ := del_back h hk0 hp h0 x
      unfold delT
      rw [hl, hseat']
      simp only [r1]
      rw [r2]
  · rw [put_key (by simpa using hk)] at he; simp at he

/-- Steps. -/
abbrev Stp := Bool × List UInt8 × Int
def doT (t : List Pc) (s : Stp) : List Pc × Int := if s.1 then delT t s.2.1 else putT t s.2.1 s.2.2

theorem do_ok {t : List Pc} (h : WF t) (hf : full t < 96) (s : Stp) : WF (doT t s).1 ∧ full (doT t s).1 ≤ full t + 1 ∧
    ((s.1 = true ∧ look t s.2.1 ≠ none ∨ s.1 = false ∧ keyOK s.2.1 = true) ∧ (doT t s).2 = 0 ∧ (∀ k, look (doT t s).1 k = if k = s.2.1 then (if s.1 then none else some s.2.2) else look t k) ∨
     ¬ (s.1 = true ∧ look t s.2.1 ≠ none ∨ s.1 = false ∧ keyOK s.2.1 = true) ∧ (doT t s).2 ≠ 0 ∧ (doT t s).1 = t) := by
  obtain ⟨d, k, x⟩ := s
  cases d with
  | true =>
    simp only [doT, if_true]
    rcases hs : look t k with _ | y
    · rw [del_none hs]
      exact ⟨h, Nat.le_succ _, .inr ⟨by simp, by simp, rfl⟩⟩
    · obtain ⟨g1, g2, g3, g4⟩ := del_ok h hs
      exact ⟨g2, by omega, .inl ⟨by simp, g1, g3⟩⟩
  | false =>
    simp only [doT, Bool.false_eq_true, if_false]
    by_cases hk : keyOK k = true
    · obtain ⟨g1, g2, g3, g4⟩ := put_ok h hk (.inr hf) x
      refine ⟨g2, ?_, .inl ⟨by simp [hk], g1, g3⟩⟩
      rw [g4]; split <;> omega
    · rw [put_key (by simpa using hk)]
      exact ⟨h, Nat.le_succ _, .inr ⟨by simp [hk], by simp, rfl⟩⟩

def stepsT (l : List Stp) : List Pc := l.foldl (fun t s => (doT t s).1) t0
theorem stepsT_take {l : List Stp} {i : Nat} (h : i < l.length) (d : Stp) : stepsT (l.take (i + 1)) = (doT (stepsT (l.take i)) (l.getD i d)).1 := by
  unfold stepsT
  rw [List.take_add_one, List.foldl_append, List.getElem?_eq_getElem h, List.getD_eq_getElem?_getD, List.getElem?_eq_getElem h]
  rfl
theorem steps_ok {l : List Stp} (hl : l.length ≤ 60) : ∀ i, i ≤ l.length → WF (stepsT (l.take i)) ∧ full (stepsT (l.take i)) ≤ i
  | 0, _ => ⟨t0_wf, by rw [List.take_zero]; exact Nat.le_of_eq t0_full⟩
  | i + 1, h => by
    obtain ⟨h1, h2⟩ := steps_ok hl i (by omega)
    rw [stepsT_take (by omega) (false, [], 0)]
    obtain ⟨g1, g2, _⟩ := do_ok h1 (by omega) (l.getD i (false, [], 0))
    exact ⟨g1, by omega⟩

/-- All keys. -/
theorem rawK_mem {t : List Pc} (h : WF t) {k : List UInt8} : k ∈ rawK t ↔ look t k ≠ none := by
  unfold rawK
  constructor
  · intro hm
    obtain ⟨p, hp, rfl⟩ := List.mem_map.1 hm
    obtain ⟨hp1, hp2⟩ := List.mem_filter.1 hp
    obtain ⟨i, hi, he⟩ := getD_of_mem hp1
    intro hn
    rw [h.len] at hi
    exact (look_none h).1 hn i hi (by simpa using hp2) (by unfold keyAt; rw [he])
  · intro hn
    obtain ⟨v, hv⟩ := Option.ne_none_iff_exists'.1 hn
    obtain ⟨hk, i, hi, he⟩ := (look_iff h).1 hv
    refine List.mem_map.2 ⟨(k, v), List.mem_filter.2 ⟨?_, by simpa using hk⟩, rfl⟩
    rw [← he]
    exact mem_of_getD (by rw [h.len]; exact hi)

theorem rawK_nodup {t : List Pc} (h : WF t) : (rawK t).Nodup := by
  have key : ∀ n, n ≤ 128 → (rawK (t.take n)).Nodup ∧ ∀ k ∈ rawK (t.take n), ∃ i, i < n ∧ keyAt t i = k := by
    intro n
    induction n with
    | zero => intro _; exact ⟨by rw [List.take_zero]; exact List.nodup_nil, fun k hk => by rw [List.take_zero] at hk; cases hk⟩
    | succ n ih =>
      intro hn
      obtain ⟨g1, g2⟩ := ih (by omega)
      rw [rawK_take (by rw [h.len]; omega)]
      by_cases hk : keyAt t n = []
      · rw [if_pos hk, List.append_nil]
        exact ⟨g1, fun k hk => by obtain ⟨i, hi, he⟩ := g2 k hk; exact ⟨i, by omega, he⟩⟩
      · rw [if_neg hk]
        refine ⟨List.nodup_append.2 ⟨g1, by simp, fun a ha b hb e => ?_⟩, fun k hk' => ?_⟩
        · obtain rfl : b = keyAt t n := by simpa using hb
          subst e
          obtain ⟨i, hi, he⟩ := g2 _ ha
          have := h.inj i n (by omega) (by omega) (by rw [he]; exact hk) he
          omega
        · rcases List.mem_append.1 hk' with h1 | h1
          · obtain ⟨i, hi, he⟩ := g2 k h1; exact ⟨i, by omega, he⟩
          · obtain rfl : k = keyAt t n := by simpa using h1
            exact ⟨n, by omega, rfl⟩
  have := (key 128 (Nat.le_refl _)).1
  rwa [List.take_of_length_le (by rw [h.len]; omega)] at this

theorem le_tr (a b c : List UInt8) (h1 : decide (a ≤ b) = true) (h2 : decide (b ≤ c) = true) : decide (a ≤ c) = true := by
  simp only [decide_eq_true_eq] at *
  exact List.le_trans h1 h2
theorem le_to (a b : List UInt8) : (decide (a ≤ b) || decide (b ≤ a)) = true := by
  simp only [Bool.or_eq_true, decide_eq_true_eq]
  exact List.le_total a b
theorem srt_sorted (l : List (List UInt8)) : (srt l).Pairwise fun a b => a ≤ b := by
  have := List.pairwise_mergeSort le_tr le_to l
  refine List.Pairwise.imp (fun h => ?_) this
  simpa using h
theorem srt_congr {l l' : List (List UInt8)} (h : l.Perm l') : srt l = srt l' :=
  List.Perm.eq_of_pairwise (le := fun a b => a ≤ b) (fun a b _ _ h1 h2 => List.le_antisymm h1 h2) (srt_sorted l) (srt_sorted l') ((srt_perm l).trans (h.trans (srt_perm l').symm))

theorem keysT_eq {t : List Pc} (h : WF t) {l : List (List UInt8)} (hl : l.Nodup) (hm : ∀ k, look t k ≠ none ↔ k ∈ l) : keysT t = srt l :=
  srt_congr ((List.perm_ext_iff_of_nodup (rawK_nodup h) hl).2 fun k => (rawK_mem h).trans (hm k))
theorem keysT_same {t t' : List Pc} (h : WF t) (h' : WF t') (hm : ∀ k, look t k = look t' k) : keysT t = keysT t' :=
  keysT_eq h (rawK_nodup h') fun k => by rw [rawK_mem h', hm]

theorem keysT_mem {t : List Pc} (h : WF t) {k : List UInt8} : k ∈ keysT t ↔ look t k ≠ none := by
  unfold keysT
  rw [(srt_perm _).mem_iff, rawK_mem h]
theorem keysT_lt {t : List Pc} (h : WF t) {i : Nat} (h1 : 1 ≤ i) (h2 : i < (keysT t).length) : Op.bytesLess ((keysT t).getD (i - 1) []) ((keysT t).getD i []) = true := by
  rw [Go.Proofs.bytesLess_eq, decide_eq_true_eq]
  have hs : (keysT t).Pairwise fun a b => a ≤ b := srt_sorted (rawK t)
  have hn : (keysT t).Nodup := (srt_perm _).nodup_iff.2 (rawK_nodup h)
  have e1 : (keysT t).getD (i - 1) [] = (keysT t)[i - 1] := by rw [List.getD_eq_getElem?_getD, List.getElem?_eq_getElem (by omega)]; rfl
  have e2 : (keysT t).getD i [] = (keysT t)[i] := by rw [List.getD_eq_getElem?_getD, List.getElem?_eq_getElem h2]; rfl
  rw [e1, e2]
  have h3 : (keysT t)[i - 1] ≤ (keysT t)[i] := List.pairwise_iff_getElem.1 hs (i - 1) i (by omega) h2 (by omega)
  have h4 : (keysT t)[i - 1] ≠ (keysT t)[i] := List.pairwise_iff_getElem.1 hn (i - 1) i (by omega) h2 (by omega)
  apply Classical.byContradiction
  intro h5
  exact h4 (List.le_antisymm h3 (List.not_lt.1 h5))

end Go.Proofs.Ytgilodbgleogmaa

/- Table (chapter 13): what the laws' own functions do; the calls at the head of all laws. -/
namespace Go.Proofs.Ytgilodbgleogmaa
open Go Go.MW
set_option linter.unusedSimpArgs false
set_option linter.unusedVariables false
set_option maxRecDepth 8000

/-- A step as an element. -/
def stpE : El Stp where
  sz := 3
  f s := .agg [.bool s.1, .str s.2.1, .int .i64 s.2.2]
  d := (false, [], 0)
  im := false
  good p := ⟨rfl, by simp [V.cells, V.one]⟩
  free p j hj := by
    have : j = 0 ∨ j = 1 ∨ j = 2 := by omega
    rcases this with rfl | rfl | rfl
    · exact .bool _
    · exact .str _
    · exact .int _ _
def s0 : Stp := (false, [], 0)
theorem iaK_sp {v : V} {l : List Stp} (h : IsE stpE v l) {H : List Blk} {k : IntKind} {n : Int} {K : V → Prop} (h0 : 0 ≤ n) (hn : n.toNat < l.length) : iaK H 3 v (.int k n) K = K (.vp [.bool (l.getD n.toNat s0).1, .str (l.getD n.toNat s0).2.1, .int .i64 (l.getD n.toNat s0).2.2]) :=
  iaK_isE h (e := stpE) rfl h0 hn
theorem sp_free (p : Stp) {im : Bool} : Free im (.agg [.bool p.1, .str p.2.1, .int .i64 p.2.2]) := .agg fun i hi => by
  have : i = 0 ∨ i = 1 ∨ i = 2 := by simp at hi; omega
  rcases this with rfl | rfl | rfl
  · exact .bool _
  · exact .str _
  · exact .int _ _

/-- At most so many steps, of keys of a hundred bytes. -/
def fewT (l : List Stp) (m : Int) : Bool := decide (∀ s ∈ l, s.2.1.length ≤ 100) && decide ((l.length : Int) ≤ m)

theorem few_fn {v : V} {l : List Stp} (hv : IsE stpE v l) (hl : l.length ≤ maxLen) (m : Int) : Does Try.prog G0 false 9 [v, .int .i64 m] (.bool (fewT l m)) := by
  have hl' : l.length ≤ 9223372036854775807 := hl
  refine Does.intro mixed comp9 ?_
  unfold c9
  simp -implicitDefEqProofs (disch := omega) only [mwx, ne_eq, false_implies, implies_true, forall_eq_or_imp, MW.get, ev, evs, argFr, resK, packV, slHK, partsV, partsS, setR, Int.cast_ofNat_Int, Int.natCast_zero, Int.natCast_one, Nat.reduceLeDiff, reduceIte, Nat.reduceEqDiff, Nat.reduceBEq, reduceCtorEq, Nat.reduceAdd, Nat.reduceMul, Nat.reduceSub, Nat.reduceLT, Int.reduceToNat, Int.reduceLT, Int.reduceLE, Int.reduceEq, Int.reduceAdd, Int.reduceNeg, Int.reduceMul, Int.reduceSub]
  refine xl_loop (fun k st => ∃ i : Nat, k + i = l.length ∧ get st.fr 0 = v ∧ get st.fr 1 = .int .i64 m ∧ get st.fr 5 = .int .i64 i ∧ ∀ j, j < i → (l.getD j s0).2.1.length ≤ 100) l.length ⟨0, by omega, rfl, rfl, rfl, by omega⟩ ?_
  rintro J hJ k fr H ⟨i, h1, h2, h3, h4, h5⟩
  simp -implicitDefEqProofs (disch := omega) only [h2, h3, h4, lenK_isE hv, mwx, ne_eq, false_implies, implies_true, forall_eq_or_imp, MW.get, ev, evs, argFr, resK, packV, slHK, partsV, partsS, setR, Int.cast_ofNat_Int, Int.natCast_zero, Int.natCast_one, Nat.reduceLeDiff, reduceIte, Nat.reduceEqDiff, Nat.reduceBEq, reduceCtorEq, Nat.reduceAdd, Nat.reduceMul, Nat.reduceSub, Nat.reduceLT, Int.reduceToNat, Int.reduceLT, Int.reduceLE, Int.reduceEq, Int.reduceAdd, Int.reduceNeg, Int.reduceMul, Int.reduceSub]
  refine xc_dec (fun h6 => ?_) fun h6 => ?_
  · have hi : i < l.length := by omega
    have hi0 : (0 : Int) ≤ (i : Int) := by omega
    have hi1 : (i : Int).toNat < l.length := by omega
    simp -implicitDefEqProofs (disch := omega) only [h2, h3, h4, iaK_sp hv hi0 hi1, mwx, ne_eq, false_implies, implies_true, forall_eq_or_imp, MW.get, ev, evs, argFr, resK, packV, slHK, partsV, partsS, setR, Int.cast_ofNat_Int, Int.natCast_zero, Int.natCast_one, Nat.reduceLeDiff, reduceIte, Nat.reduceEqDiff, Nat.reduceBEq, reduceCtorEq, Nat.reduceAdd, Nat.reduceMul, Nat.reduceSub, Nat.reduceLT, Int.reduceToNat, Int.reduceLT, Int.reduceLE, Int.reduceEq, Int.reduceAdd, Int.reduceNeg, Int.reduceMul, Int.reduceSub]
    refine xc_dec (fun h7 => ?_) fun h7 => ?_
    · simp -implicitDefEqProofs (disch := omega) only [mwx, ne_eq, false_implies, implies_true, forall_eq_or_imp, MW.get, ev, evs, argFr, resK, packV, slHK, partsV, partsS, setR, Int.cast_ofNat_Int, Int.natCast_zero, Int.natCast_one, Nat.reduceLeDiff, reduceIte, Nat.reduceEqDiff, Nat.reduceBEq, reduceCtorEq, Nat.reduceAdd, Nat.reduceMul, Nat.reduceSub, Nat.reduceLT, Int.reduceToNat, Int.reduceLT, Int.reduceLE, Int.reduceEq, Int.reduceAdd, Int.reduceNeg, Int.reduceMul, Int.reduceSub]
      refine frz_bool ?_
      symm
      unfold fewT
      rw [Bool.and_eq_false_iff]
      refine .inl (decide_eq_false fun hh => ?_)
      have hm : l.getD i s0 ∈ l := by rw [List.getD_eq_getElem?_getD, List.getElem?_eq_getElem hi]; exact List.getElem_mem hi
      have := hh _ hm
      omega
    · simp -implicitDefEqProofs (disch := omega) only [h2, h3, h4, mwx, ne_eq, false_implies, implies_true, forall_eq_or_imp, MW.get, ev, evs, argFr, resK, packV, slHK, partsV, partsS, setR, Int.cast_ofNat_Int, Int.natCast_zero, Int.natCast_one, Nat.reduceLeDiff, reduceIte, Nat.reduceEqDiff, Nat.reduceBEq, reduceCtorEq, Nat.reduceAdd, Nat.reduceMul, Nat.reduceSub, Nat.reduceLT, Int.reduceToNat, Int.reduceLT, Int.reduceLE, Int.reduceEq, Int.reduceAdd, Int.reduceNeg, Int.reduceMul, Int.reduceSub]
      exact ⟨k - 1, by omega, hJ _ _ ⟨i + 1, by omega, h2, h3, rfl, fun j hj => by
        by_cases hji : j = i
        · subst hji; omega
        · exact h5 j (by omega)⟩⟩
  · simp -implicitDefEqProofs (disch := omega) only [h2, h3, lenK_isE hv, mwx, ne_eq, false_implies, implies_true, forall_eq_or_imp, MW.get, ev, evs, argFr, resK, packV, slHK, partsV, partsS, setR, Int.cast_ofNat_Int, Int.natCast_zero, Int.natCast_one, Nat.reduceLeDiff, reduceIte, Nat.reduceEqDiff, Nat.reduceBEq, reduceCtorEq, Nat.reduceAdd, Nat.reduceMul, Nat.reduceSub, Nat.reduceLT, Int.reduceToNat, Int.reduceLT, Int.reduceLE, Int.reduceEq, Int.reduceAdd, Int.reduceNeg, Int.reduceMul, Int.reduceSub]
    refine frz_bool ?_
    unfold fewT
    rw [decide_eq_true (p := ∀ s ∈ l, s.2.1.length ≤ 100), Bool.true_and]
    intro s hs
    obtain ⟨j, hj, rfl⟩ := List.getElem_of_mem hs
    have := h5 j (by omega)
    rwa [List.getD_eq_getElem?_getD, List.getElem?_eq_getElem hj] at this

theorem res_free (t : List Pc) (e : Int) : Free true (.tup [.vs (plE.vs t), .int .i64 e]) := .tup fun i hi => by
  have : i = 0 ∨ i = 1 := by simp at hi; omega
  rcases this with rfl | rfl
  · exact .vs rfl (El.vs_free _ fun h => by cases h)
  · exact .int _ _

theorem do_fn {v : V} {t : List Pc} (hv : IsE plE v t) (h : WF t) (s : Stp) (hk : s.2.1.length ≤ 1000000) : Does Try.prog G0 true 11 [v, .agg [.bool s.1, .str s.2.1, .int .i64 s.2.2]] (.tup [.vs (plE.vs (doT t s).1), .int .i64 (doT t s).2]) := by
  obtain ⟨d, k, x⟩ := s
  refine Does.intro mixed comp11 ?_
  unfold c11
  cases d with
  | true =>
    simp -implicitDefEqProofs (disch := omega) only [mwx, ne_eq, false_implies, implies_true, forall_eq_or_imp, MW.get, ev, evs, argFr, resK, packV, slHK, partsV, partsS, setR, Int.cast_ofNat_Int, Int.natCast_zero, Int.natCast_one, Nat.reduceLeDiff, reduceIte, Nat.reduceEqDiff, Nat.reduceBEq, reduceCtorEq, Nat.reduceAdd, Nat.reduceMul, Nat.reduceSub, Nat.reduceLT, Int.reduceToNat, Int.reduceLT, Int.reduceLE, Int.reduceEq, Int.reduceAdd, Int.reduceNeg, Int.reduceMul, Int.reduceSub]
    refine Does.call (del_fn hv h hk) (fr2 hv.free (.str _)) ?_
    simp -implicitDefEqProofs (disch := omega) only [mwx, ne_eq, false_implies, implies_true, forall_eq_or_imp, MW.get, ev, evs, argFr, resK, packV, slHK, partsV, partsS, setR, Int.cast_ofNat_Int, Int.natCast_zero, Int.natCast_one, Nat.reduceLeDiff, reduceIte, Nat.reduceEqDiff, Nat.reduceBEq, reduceCtorEq, Nat.reduceAdd, Nat.reduceMul, Nat.reduceSub, Nat.reduceLT, Int.reduceToNat, Int.reduceLT, Int.reduceLE, Int.reduceEq, Int.reduceAdd, Int.reduceNeg, Int.reduceMul, Int.reduceSub]
    exact .free (res_free _ _)
  | false =>
    simp -implicitDefEqProofs (disch := omega) only [mwx, ne_eq, false_implies, implies_true, forall_eq_or_imp, MW.get, ev, evs, argFr, resK, packV, slHK, partsV, partsS, setR, Int.cast_ofNat_Int, Int.natCast_zero, Int.natCast_one, Nat.reduceLeDiff, reduceIte, Nat.reduceEqDiff, Nat.reduceBEq, reduceCtorEq, Nat.reduceAdd, Nat.reduceMul, Nat.reduceSub, Nat.reduceLT, Int.reduceToNat, Int.reduceLT, Int.reduceLE, Int.reduceEq, Int.reduceAdd, Int.reduceNeg, Int.reduceMul, Int.reduceSub]
    refine Does.call (put_fn hv h k x) (fr3 hv.free (.str _) (.int _ _)) ?_
    simp -implicitDefEqProofs (disch := omega) only [mwx, ne_eq, false_implies, implies_true, forall_eq_or_imp, MW.get, ev, evs, argFr, resK, packV, slHK, partsV, partsS, setR, Int.cast_ofNat_Int, Int.natCast_zero, Int.natCast_one, Nat.reduceLeDiff, reduceIte, Nat.reduceEqDiff, Nat.reduceBEq, reduceCtorEq, Nat.reduceAdd, Nat.reduceMul, Nat.reduceSub, Nat.reduceLT, Int.reduceToNat, Int.reduceLT, Int.reduceLE, Int.reduceEq, Int.reduceAdd, Int.reduceNeg, Int.reduceMul, Int.reduceSub]
    exact .free (res_free _ _)

theorem had_fn {v : V} {t : List Pc} (hv : IsE plE v t) (h : WF t) {k : List UInt8} (hk : k.length ≤ 1000000) : Does Try.prog G0 false 12 [v, .str k] (.bool (look t k).isSome) := by
  refine Does.intro mixed comp12 ?_
  unfold c12
  simp -implicitDefEqProofs (disch := omega) only [mwx, ne_eq, false_implies, implies_true, forall_eq_or_imp, MW.get, ev, evs, argFr, resK, packV, slHK, partsV, partsS, setR, Int.cast_ofNat_Int, Int.natCast_zero, Int.natCast_one, Nat.reduceLeDiff, reduceIte, Nat.reduceEqDiff, Nat.reduceBEq, reduceCtorEq, Nat.reduceAdd, Nat.reduceMul, Nat.reduceSub, Nat.reduceLT, Int.reduceToNat, Int.reduceLT, Int.reduceLE, Int.reduceEq, Int.reduceAdd, Int.reduceNeg, Int.reduceMul, Int.reduceSub]
  refine Does.call (get_fn hv h hk) (fr2 hv.free (.str _)) ?_
  simp -implicitDefEqProofs (disch := omega) only [mwx, ne_eq, false_implies, implies_true, forall_eq_or_imp, MW.get, ev, evs, argFr, resK, packV, slHK, partsV, partsS, setR, Int.cast_ofNat_Int, Int.natCast_zero, Int.natCast_one, Nat.reduceLeDiff, reduceIte, Nat.reduceEqDiff, Nat.reduceBEq, reduceCtorEq, Nat.reduceAdd, Nat.reduceMul, Nat.reduceSub, Nat.reduceLT, Int.reduceToNat, Int.reduceLT, Int.reduceLE, Int.reduceEq, Int.reduceAdd, Int.reduceNeg, Int.reduceMul, Int.reduceSub]
  exact frz_bool getT_look.1

theorem same_fn {v v' : V} {t : List Pc} (hv : IsE plE v t) (hv' : IsE plE v' t) (hl : t.length = 128) : Does Try.prog G0 false 17 [v, v'] (.bool true) := by
  refine Does.intro mixed comp17 ?_
  unfold c17
  have h0 : ((128 : Int) ≠ 128) = False := by simp
  simp -implicitDefEqProofs (disch := omega) only [lenK_isE hv, lenK_isE hv', hl, mwx, ne_eq, false_implies, implies_true, forall_eq_or_imp, MW.get, ev, evs, argFr, resK, packV, slHK, partsV, partsS, setR, Int.cast_ofNat_Int, Int.natCast_zero, Int.natCast_one, Nat.reduceLeDiff, reduceIte, Nat.reduceEqDiff, Nat.reduceBEq, reduceCtorEq, Nat.reduceAdd, Nat.reduceMul, Nat.reduceSub, Nat.reduceLT, Int.reduceToNat, Int.reduceLT, Int.reduceLE, Int.reduceEq, Int.reduceAdd, Int.reduceNeg, Int.reduceMul, Int.reduceSub]
  refine xl_loop (fun k st => ∃ i : Nat, k + i = 128 ∧ get st.fr 0 = v ∧ get st.fr 1 = v' ∧ get st.fr 5 = .int .i64 i) 128 ⟨0, by omega, rfl, rfl, rfl⟩ ?_
  rintro J hJ k fr H ⟨i, h1, h2, h3, h4⟩
  simp -implicitDefEqProofs (disch := omega) only [h2, h3, h4, lenK_isE hv, hl, mwx, ne_eq, false_implies, implies_true, forall_eq_or_imp, MW.get, ev, evs, argFr, resK, packV, slHK, partsV, partsS, setR, Int.cast_ofNat_Int, Int.natCast_zero, Int.natCast_one, Nat.reduceLeDiff, reduceIte, Nat.reduceEqDiff, Nat.reduceBEq, reduceCtorEq, Nat.reduceAdd, Nat.reduceMul, Nat.reduceSub, Nat.reduceLT, Int.reduceToNat, Int.reduceLT, Int.reduceLE, Int.reduceEq, Int.reduceAdd, Int.reduceNeg, Int.reduceMul, Int.reduceSub]
  refine xc_dec (fun h6 => ?_) fun h6 => ?_
  · have hi0 : (0 : Int) ≤ (i : Int) := by omega
    have hi1 : (i : Int).toNat < t.length := by omega
    have hb : (keyAt t i == keyAt t i) = true := by simp
    simp -implicitDefEqProofs (disch := omega) only [h2, h3, h4, iaK_pl hv hi0 hi1, iaK_pl hv' hi0 hi1, hb, mwx, ne_eq, false_implies, implies_true, forall_eq_or_imp, MW.get, ev, evs, argFr, resK, packV, slHK, partsV, partsS, setR, Int.cast_ofNat_Int, Int.natCast_zero, Int.natCast_one, Nat.reduceLeDiff, reduceIte, Nat.reduceEqDiff, Nat.reduceBEq, reduceCtorEq, Nat.reduceAdd, Nat.reduceMul, Nat.reduceSub, Nat.reduceLT, Int.reduceToNat, Int.reduceLT, Int.reduceLE, Int.reduceEq, Int.reduceAdd, Int.reduceNeg, Int.reduceMul, Int.reduceSub]
    exact ⟨k - 1, by omega, hJ _ _ ⟨i + 1, by omega, h2, h3, rfl⟩⟩
  · simp -implicitDefEqProofs (disch := omega) only [mwx, ne_eq, false_implies, implies_true, forall_eq_or_imp, MW.get, ev, evs, argFr, resK, packV, slHK, partsV, partsS, setR, Int.cast_ofNat_Int, Int.natCast_zero, Int.natCast_one, Nat.reduceLeDiff, reduceIte, Nat.reduceEqDiff, Nat.reduceBEq, reduceCtorEq, Nat.reduceAdd, Nat.reduceMul, Nat.reduceSub, Nat.reduceLT, Int.reduceToNat, Int.reduceLT, Int.reduceLE, Int.reduceEq, Int.reduceAdd, Int.reduceNeg, Int.reduceMul, Int.reduceSub]
    exact frz_bool rfl

theorem same7_fn {v v' : V} {t : List (List UInt8)} (hv : IsE strE v t) (hv' : IsE strE v' t) (hl : t.length ≤ 1000000) : Does Try.prog G0 false 20 [v, v'] (.bool true) := by
  refine Does.intro mixed comp20 ?_
  unfold c20
  simp -implicitDefEqProofs (disch := omega) only [lenK_isE hv, lenK_isE hv', mwx, ne_eq, false_implies, implies_true, forall_eq_or_imp, MW.get, ev, evs, argFr, resK, packV, slHK, partsV, partsS, setR, Int.cast_ofNat_Int, Int.natCast_zero, Int.natCast_one, Nat.reduceLeDiff, reduceIte, Nat.reduceEqDiff, Nat.reduceBEq, reduceCtorEq, Nat.reduceAdd, Nat.reduceMul, Nat.reduceSub, Nat.reduceLT, Int.reduceToNat, Int.reduceLT, Int.reduceLE, Int.reduceEq, Int.reduceAdd, Int.reduceNeg, Int.reduceMul, Int.reduceSub]
  refine xl_loop (fun k st => ∃ i : Nat, k + i = t.length ∧ get st.fr 0 = v ∧ get st.fr 1 = v' ∧ get st.fr 5 = .int .i64 i) t.length ⟨0, by omega, rfl, rfl, rfl⟩ ?_
  rintro J hJ k fr H ⟨i, h1, h2, h3, h4⟩
  simp -implicitDefEqProofs (disch := omega) only [h2, h3, h4, lenK_isE hv, mwx, ne_eq, false_implies, implies_true, forall_eq_or_imp, MW.get, ev, evs, argFr, resK, packV, slHK, partsV, partsS, setR, Int.cast_ofNat_Int, Int.natCast_zero, Int.natCast_one, Nat.reduceLeDiff, reduceIte, Nat.reduceEqDiff, Nat.reduceBEq, reduceCtorEq, Nat.reduceAdd, Nat.reduceMul, Nat.reduceSub, Nat.reduceLT, Int.reduceToNat, Int.reduceLT, Int.reduceLE, Int.reduceEq, Int.reduceAdd, Int.reduceNeg, Int.reduceMul, Int.reduceSub]
  refine xc_dec (fun h6 => ?_) fun h6 => ?_
  · have hi0 : (0 : Int) ≤ (i : Int) := by omega
    have hi1 : (i : Int).toNat < t.length := by omega
    have hb : (t.getD i [] != t.getD i []) = false := by simp
    simp -implicitDefEqProofs (disch := omega) only [h2, h3, h4, iaK_str hv hi0 hi1, iaK_str hv' hi0 hi1, hb, mwx, ne_eq, false_implies, implies_true, forall_eq_or_imp, MW.get, ev, evs, argFr, resK, packV, slHK, partsV, partsS, setR, Int.cast_ofNat_Int, Int.natCast_zero, Int.natCast_one, Nat.reduceLeDiff, reduceIte, Nat.reduceEqDiff, Nat.reduceBEq, reduceCtorEq, Nat.reduceAdd, Nat.reduceMul, Nat.reduceSub, Nat.reduceLT, Int.reduceToNat, Int.reduceLT, Int.reduceLE, Int.reduceEq, Int.reduceAdd, Int.reduceNeg, Int.reduceMul, Int.reduceSub]
    exact ⟨k - 1, by omega, hJ _ _ ⟨i + 1, by omega, h2, h3, rfl⟩⟩
  · simp -implicitDefEqProofs (disch := omega) only [mwx, ne_eq, false_implies, implies_true, forall_eq_or_imp, MW.get, ev, evs, argFr, resK, packV, slHK, partsV, partsS, setR, Int.cast_ofNat_Int, Int.natCast_zero, Int.natCast_one, Nat.reduceLeDiff, reduceIte, Nat.reduceEqDiff, Nat.reduceBEq, reduceCtorEq, Nat.reduceAdd, Nat.reduceMul, Nat.reduceSub, Nat.reduceLT, Int.reduceToNat, Int.reduceLT, Int.reduceLE, Int.reduceEq, Int.reduceAdd, Int.reduceNeg, Int.reduceMul, Int.reduceSub]
    exact frz_bool rfl

def kA : List UInt8 := [97]
def kB : List UInt8 := [98]
def tA : List Pc := (putT t0 kB 5).1
def tB : List Pc := (putT tA kA 7).1
def tC : List Pc := (putT tB kB 6).1
def tD : List Pc := (delT tC kB).1

theorem okA : keyOK kA = true := by decide
theorem okB : keyOK kB = true := by decide
theorem neAB : kA ≠ kB := by decide

theorem tA_ok : (putT t0 kB 5).2 = 0 ∧ WF tA ∧ (∀ k, look tA k = if k = kB then some 5 else none) ∧ full tA = 1 := by
  obtain ⟨h1, h2, h3, h4⟩ := put_ok t0_wf okB (.inr (by rw [t0_full]; omega)) 5
  exact ⟨h1, h2, fun k => by rw [tA, h3]; simp only [t0_look], by rw [tA, h4, t0_full, t0_look]; rfl⟩
theorem tB_ok : (putT tA kA 7).2 = 0 ∧ WF tB ∧ (∀ k, look tB k = if k = kA then some 7 else if k = kB then some 5 else none) ∧ full tB ≤ 2 := by
  obtain ⟨_, g2, g3, g4⟩ := tA_ok
  obtain ⟨h1, h2, h3, h4⟩ := put_ok g2 okA (.inr (by omega)) 7
  exact ⟨h1, h2, fun k => by rw [tB, h3]; simp only [g3], by rw [tB, h4]; split <;> omega⟩
theorem tC_ok : (putT tB kB 6).2 = 0 ∧ WF tC ∧ (∀ k, look tC k = if k = kB then some 6 else if k = kA then some 7 else none) := by
  obtain ⟨_, g2, g3, g4⟩ := tB_ok
  obtain ⟨h1, h2, h3, h4⟩ := put_ok g2 okB (.inr (by omega)) 6
  refine ⟨h1, h2, fun k => ?_⟩
  rw [tC, h3]
  by_cases hk : k = kB
  · rw [if_pos hk, if_pos hk]
  · rw [if_neg hk, if_neg hk, g3, if_neg hk]
theorem tC_getB : getT tC kB = (6, true) := by
  unfold getT; rw [tC_ok.2.2, if_pos rfl]
theorem tC_bad : putT tC [] 1 = (tC, 90) := put_key (by decide) _
theorem tD_ok : (delT tC kB).2 = 0 ∧ WF tD ∧ look tD kB = none := by
  obtain ⟨h1, h2, h3, h4⟩ := del_ok tC_ok.2.1 (k := kB) (y := 6) (by rw [tC_ok.2.2, if_pos rfl])
  exact ⟨h1, h2, by rw [tD, h3, if_pos rfl]⟩
theorem tD_getB : getT tD kB = (0, false) := by
  unfold getT; rw [tD_ok.2.2]
theorem tD_del : delT tD kB = (tD, 120) := del_none tD_ok.2.2
theorem tC_keys : keysT tC = [kA, kB] := by
  rw [keysT_eq tC_ok.2.1 (l := [kA, kB]) (by decide) (fun k => ?_)]
  · exact List.mergeSort_of_pairwise (by decide)
  · rw [tC_ok.2.2]
    by_cases h1 : k = kB
    · simp [h1]
    · by_cases h2 : k = kA
      · simp [h2, neAB]
      · simp [h1, h2]

theorem awake_fn : Does Try.prog G0 false 8 [] (.bool true) := by
  refine Does.intro mixed comp8 ?_
  unfold c8
  have hk : ∀ k : List UInt8, k.length ≤ 1 → k.length ≤ 1000000 := fun k h => by omega
  have ev0 := isE_vs (e := plE) t0
  have evA := isE_vs (e := plE) tA
  have evB := isE_vs (e := plE) tB
  have evC := isE_vs (e := plE) tC
  have evD := isE_vs (e := plE) tD
  simp -implicitDefEqProofs (disch := omega) only [mwx, ne_eq, false_implies, implies_true, forall_eq_or_imp, MW.get, ev, evs, argFr, resK, packV, slHK, partsV, partsS, setR, Int.cast_ofNat_Int, Int.natCast_zero, Int.natCast_one, Nat.reduceLeDiff, reduceIte, Nat.reduceEqDiff, Nat.reduceBEq, reduceCtorEq, Nat.reduceAdd, Nat.reduceMul, Nat.reduceSub, Nat.reduceLT, Int.reduceToNat, Int.reduceLT, Int.reduceLE, Int.reduceEq, Int.reduceAdd, Int.reduceNeg, Int.reduceMul, Int.reduceSub]
  refine Does.call new_fn (by simp) ?_
  simp -implicitDefEqProofs (disch := omega) only [mwx, ne_eq, false_implies, implies_true, forall_eq_or_imp, MW.get, ev, evs, argFr, resK, packV, slHK, partsV, partsS, setR, Int.cast_ofNat_Int, Int.natCast_zero, Int.natCast_one, Nat.reduceLeDiff, reduceIte, Nat.reduceEqDiff, Nat.reduceBEq, reduceCtorEq, Nat.reduceAdd, Nat.reduceMul, Nat.reduceSub, Nat.reduceLT, Int.reduceToNat, Int.reduceLT, Int.reduceLE, Int.reduceEq, Int.reduceAdd, Int.reduceNeg, Int.reduceMul, Int.reduceSub]
  refine Does.call (put_fn ev0 t0_wf kB 5) (fr3 ev0.free (.str _) (.int _ _)) ?_
  rw [tA_ok.1, show (putT t0 kB 5).1 = tA from rfl]
  simp -implicitDefEqProofs (disch := omega) only [mwx, ne_eq, false_implies, implies_true, forall_eq_or_imp, MW.get, ev, evs, argFr, resK, packV, slHK, partsV, partsS, setR, Int.cast_ofNat_Int, Int.natCast_zero, Int.natCast_one, Nat.reduceLeDiff, reduceIte, Nat.reduceEqDiff, Nat.reduceBEq, reduceCtorEq, Nat.reduceAdd, Nat.reduceMul, Nat.reduceSub, Nat.reduceLT, Int.reduceToNat, Int.reduceLT, Int.reduceLE, Int.reduceEq, Int.reduceAdd, Int.reduceNeg, Int.reduceMul, Int.reduceSub]
  refine Does.call (put_fn evA tA_ok.2.1 kA 7) (fr3 evA.free (.str _) (.int _ _)) ?_
  rw [tB_ok.1, show (putT tA kA 7).1 = tB from rfl]
  simp -implicitDefEqProofs (disch := omega) only [mwx, ne_eq, false_implies, implies_true, forall_eq_or_imp, MW.get, ev, evs, argFr, resK, packV, slHK, partsV, partsS, setR, Int.cast_ofNat_Int, Int.natCast_zero, Int.natCast_one, Nat.reduceLeDiff, reduceIte, Nat.reduceEqDiff, Nat.reduceBEq, reduceCtorEq, Nat.reduceAdd, Nat.reduceMul, Nat.reduceSub, Nat.reduceLT, Int.reduceToNat, Int.reduceLT, Int.reduceLE, Int.reduceEq, Int.reduceAdd, Int.reduceNeg, Int.reduceMul, Int.reduceSub]
  refine Does.call (put_fn evB tB_ok.2.1 kB 6) (fr3 evB.free (.str _) (.int _ _)) ?_
  rw [tC_ok.1, show (putT tB kB 6).1 = tC from rfl]
  simp -implicitDefEqProofs (disch := omega) only [mwx, ne_eq, false_implies, implies_true, forall_eq_or_imp, MW.get, ev, evs, argFr, resK, packV, slHK, partsV, partsS, setR, Int.cast_ofNat_Int, Int.natCast_zero, Int.natCast_one, Nat.reduceLeDiff, reduceIte, Nat.reduceEqDiff, Nat.reduceBEq, reduceCtorEq, Nat.reduceAdd, Nat.reduceMul, Nat.reduceSub, Nat.reduceLT, Int.reduceToNat, Int.reduceLT, Int.reduceLE, Int.reduceEq, Int.reduceAdd, Int.reduceNeg, Int.reduceMul, Int.reduceSub]
  refine Does.call (put_fn evC tC_ok.2.1 [] 1) (fr3 evC.free (.str _) (.int _ _)) ?_
  rw [tC_bad]
  simp -implicitDefEqProofs (disch := omega) only [mwx, ne_eq, false_implies, implies_true, forall_eq_or_imp, MW.get, ev, evs, argFr, resK, packV, slHK, partsV, partsS, setR, Int.cast_ofNat_Int, Int.natCast_zero, Int.natCast_one, Nat.reduceLeDiff, reduceIte, Nat.reduceEqDiff, Nat.reduceBEq, reduceCtorEq, Nat.reduceAdd, Nat.reduceMul, Nat.reduceSub, Nat.reduceLT, Int.reduceToNat, Int.reduceLT, Int.reduceLE, Int.reduceEq, Int.reduceAdd, Int.reduceNeg, Int.reduceMul, Int.reduceSub]
  refine Does.call (get_fn evC tC_ok.2.1 (k := kB) (hk _ (by decide))) (fr2 evC.free (.str _)) ?_
  rw [tC_getB]
  simp -implicitDefEqProofs (disch := omega) only [mwx, ne_eq, false_implies, implies_true, forall_eq_or_imp, MW.get, ev, evs, argFr, resK, packV, slHK, partsV, partsS, setR, Int.cast_ofNat_Int, Int.natCast_zero, Int.natCast_one, Nat.reduceLeDiff, reduceIte, Nat.reduceEqDiff, Nat.reduceBEq, reduceCtorEq, Nat.reduceAdd, Nat.reduceMul, Nat.reduceSub, Nat.reduceLT, Int.reduceToNat, Int.reduceLT, Int.reduceLE, Int.reduceEq, Int.reduceAdd, Int.reduceNeg, Int.reduceMul, Int.reduceSub]
  refine Does.call (del_fn evC tC_ok.2.1 (k := kB) (hk _ (by decide))) (fr2 evC.free (.str _)) ?_
  rw [tD_ok.1, show (delT tC kB).1 = tD from rfl]
  simp -implicitDefEqProofs (disch := omega) only [mwx, ne_eq, false_implies, implies_true, forall_eq_or_imp, MW.get, ev, evs, argFr, resK, packV, slHK, partsV, partsS, setR, Int.cast_ofNat_Int, Int.natCast_zero, Int.natCast_one, Nat.reduceLeDiff, reduceIte, Nat.reduceEqDiff, Nat.reduceBEq, reduceCtorEq, Nat.reduceAdd, Nat.reduceMul, Nat.reduceSub, Nat.reduceLT, Int.reduceToNat, Int.reduceLT, Int.reduceLE, Int.reduceEq, Int.reduceAdd, Int.reduceNeg, Int.reduceMul, Int.reduceSub]
  refine Does.call (get_fn evD tD_ok.2.1 (k := kB) (hk _ (by decide))) (fr2 evD.free (.str _)) ?_
  rw [tD_getB]
  simp -implicitDefEqProofs (disch := omega) only [mwx, ne_eq, false_implies, implies_true, forall_eq_or_imp, MW.get, ev, evs, argFr, resK, packV, slHK, partsV, partsS, setR, Int.cast_ofNat_Int, Int.natCast_zero, Int.natCast_one, Nat.reduceLeDiff, reduceIte, Nat.reduceEqDiff, Nat.reduceBEq, reduceCtorEq, Nat.reduceAdd, Nat.reduceMul, Nat.reduceSub, Nat.reduceLT, Int.reduceToNat, Int.reduceLT, Int.reduceLE, Int.reduceEq, Int.reduceAdd, Int.reduceNeg, Int.reduceMul, Int.reduceSub]
  refine Does.call (del_fn evD tD_ok.2.1 (k := kB) (hk _ (by decide))) (fr2 evD.free (.str _)) ?_
  rw [tD_del]
  simp -implicitDefEqProofs (disch := omega) only [mwx, ne_eq, false_implies, implies_true, forall_eq_or_imp, MW.get, ev, evs, argFr, resK, packV, slHK, partsV, partsS, setR, Int.cast_ofNat_Int, Int.natCast_zero, Int.natCast_one, Nat.reduceLeDiff, reduceIte, Nat.reduceEqDiff, Nat.reduceBEq, reduceCtorEq, Nat.reduceAdd, Nat.reduceMul, Nat.reduceSub, Nat.reduceLT, Int.reduceToNat, Int.reduceLT, Int.reduceLE, Int.reduceEq, Int.reduceAdd, Int.reduceNeg, Int.reduceMul, Int.reduceSub]
  obtain ⟨r, g1, g2⟩ := keys_fn evC tC_ok.2.1
  rw [tC_keys] at g1
  refine Does.call g2 (fr1 evC.free) ?_
  simp -implicitDefEqProofs (disch := omega) only [mwx, ne_eq, false_implies, implies_true, forall_eq_or_imp, MW.get, ev, evs, argFr, resK, packV, slHK, partsV, partsS, setR, Int.cast_ofNat_Int, Int.natCast_zero, Int.natCast_one, Nat.reduceLeDiff, reduceIte, Nat.reduceEqDiff, Nat.reduceBEq, reduceCtorEq, Nat.reduceAdd, Nat.reduceMul, Nat.reduceSub, Nat.reduceLT, Int.reduceToNat, Int.reduceLT, Int.reduceLE, Int.reduceEq, Int.reduceAdd, Int.reduceNeg, Int.reduceMul, Int.reduceSub]
  have hf : Frz true [.row 1 [.str [97], .str [98]] false false] (.hs 0 2 0 0 2 (some 2) 1) (.vs (strE.vs [kA, kB])) := frz_rowE (e := strE) rfl (fun h => by cases h) rfl rfl rfl
  refine Does.callB (same7_fn g1 (isE_vs (e := strE) [kA, kB]) (by decide)) (frzs2 (.free g1.free) hf) ?_
  simp -implicitDefEqProofs (disch := omega) only [mwx, ne_eq, false_implies, implies_true, forall_eq_or_imp, MW.get, ev, evs, argFr, resK, packV, slHK, partsV, partsS, setR, Int.cast_ofNat_Int, Int.natCast_zero, Int.natCast_one, Nat.reduceLeDiff, reduceIte, Nat.reduceEqDiff, Nat.reduceBEq, reduceCtorEq, Nat.reduceAdd, Nat.reduceMul, Nat.reduceSub, Nat.reduceLT, Int.reduceToNat, Int.reduceLT, Int.reduceLE, Int.reduceEq, Int.reduceAdd, Int.reduceNeg, Int.reduceMul, Int.reduceSub]
  refine Does.call new_fn (by simp) ?_
  have h128 : (((plE.vs t0).length : Nat) : Int) = 128 := by rw [El.vs_length, t0_wf.len]; rfl
  simp -implicitDefEqProofs (disch := omega) only [h128, mwx, ne_eq, false_implies, implies_true, forall_eq_or_imp, MW.get, ev, evs, argFr, resK, packV, slHK, partsV, partsS, setR, Int.cast_ofNat_Int, Int.natCast_zero, Int.natCast_one, Nat.reduceLeDiff, reduceIte, Nat.reduceEqDiff, Nat.reduceBEq, reduceCtorEq, Nat.reduceAdd, Nat.reduceMul, Nat.reduceSub, Nat.reduceLT, Int.reduceToNat, Int.reduceLT, Int.reduceLE, Int.reduceEq, Int.reduceAdd, Int.reduceNeg, Int.reduceMul, Int.reduceSub]
  refine Does.call (chk_fn evC tC_ok.2.1) (fr1 evC.free) ?_
  simp -implicitDefEqProofs (disch := omega) only [mwx, ne_eq, false_implies, implies_true, forall_eq_or_imp, MW.get, ev, evs, argFr, resK, packV, slHK, partsV, partsS, setR, Int.cast_ofNat_Int, Int.natCast_zero, Int.natCast_one, Nat.reduceLeDiff, reduceIte, Nat.reduceEqDiff, Nat.reduceBEq, reduceCtorEq, Nat.reduceAdd, Nat.reduceMul, Nat.reduceSub, Nat.reduceLT, Int.reduceToNat, Int.reduceLT, Int.reduceLE, Int.reduceEq, Int.reduceAdd, Int.reduceNeg, Int.reduceMul, Int.reduceSub]
  refine Does.call chk_nil (fr1 .nils) ?_
  simp -implicitDefEqProofs (disch := omega) only [mwx, ne_eq, false_implies, implies_true, forall_eq_or_imp, MW.get, ev, evs, argFr, resK, packV, slHK, partsV, partsS, setR, Int.cast_ofNat_Int, Int.natCast_zero, Int.natCast_one, Nat.reduceLeDiff, reduceIte, Nat.reduceEqDiff, Nat.reduceBEq, reduceCtorEq, Nat.reduceAdd, Nat.reduceMul, Nat.reduceSub, Nat.reduceLT, Int.reduceToNat, Int.reduceLT, Int.reduceLE, Int.reduceEq, Int.reduceAdd, Int.reduceNeg, Int.reduceMul, Int.reduceSub]
  exact frz_bool rfl

end Go.Proofs.Ytgilodbgleogmaa

/- Table (chapter 13): TableModel, TableBack, TableKeys. -/
namespace Go.Proofs.Ytgilodbgleogmaa
open Go Go.MW
set_option linter.unusedSimpArgs false
set_option linter.unusedVariables false
set_option maxRecDepth 8000

theorem few_len {l : List Stp} {m : Int} (h : fewT l m = true) : (∀ s ∈ l, s.2.1.length ≤ 100) ∧ (l.length : Int) ≤ m := by
  unfold fewT at h
  simpa using h
theorem few_at {l : List Stp} {m : Int} (h : fewT l m = true) {i : Nat} (hi : i < l.length) : (l.getD i s0).2.1.length ≤ 1000000 := by
  have hm : l.getD i s0 ∈ l := by rw [List.getD_eq_getElem?_getD, List.getElem?_eq_getElem hi]; exact List.getElem_mem hi
  have := (few_len h).1 _ hm
  omega

theorem model_fn {v : V} {l : List Stp} (hv : IsE stpE v l) (hl : l.length ≤ maxLen) (k : List UInt8) : Does Try.prog G0 true 3 [v, .str k] (.bool true) := by
  refine Does.intro mixed comp3 ?_
  unfold c3
  simp -implicitDefEqProofs (disch := omega) only [mwx, ne_eq, false_implies, implies_true, forall_eq_or_imp, MW.get, ev, evs, argFr, resK, packV, slHK, partsV, partsS, setR, Int.cast_ofNat_Int, Int.natCast_zero, Int.natCast_one, Nat.reduceLeDiff, reduceIte, Nat.reduceEqDiff, Nat.reduceBEq, reduceCtorEq, Nat.reduceAdd, Nat.reduceMul, Nat.reduceSub, Nat.reduceLT, Int.reduceToNat, Int.reduceLT, Int.reduceLE, Int.reduceEq, Int.reduceAdd, Int.reduceNeg, Int.reduceMul, Int.reduceSub]
  refine Does.call awake_fn (by simp) ?_
  simp -implicitDefEqProofs (disch := omega) only [mwx, ne_eq, false_implies, implies_true, forall_eq_or_imp, MW.get, ev, evs, argFr, resK, packV, slHK, partsV, partsS, setR, Int.cast_ofNat_Int, Int.natCast_zero, Int.natCast_one, Nat.reduceLeDiff, reduceIte, Nat.reduceEqDiff, Nat.reduceBEq, reduceCtorEq, Nat.reduceAdd, Nat.reduceMul, Nat.reduceSub, Nat.reduceLT, Int.reduceToNat, Int.reduceLT, Int.reduceLE, Int.reduceEq, Int.reduceAdd, Int.reduceNeg, Int.reduceMul, Int.reduceSub]
  refine Does.call (few_fn hv hl 60) (fr2 hv.free (.int _ _)) ?_
  rcases hf : fewT l 60 with _ | _
  · simp -implicitDefEqProofs (disch := omega) only [mwx, ne_eq, false_implies, implies_true, forall_eq_or_imp, MW.get, ev, evs, argFr, resK, packV, slHK, partsV, partsS, setR, Int.cast_ofNat_Int, Int.natCast_zero, Int.natCast_one, Nat.reduceLeDiff, reduceIte, Nat.reduceEqDiff, Nat.reduceBEq, reduceCtorEq, Nat.reduceAdd, Nat.reduceMul, Nat.reduceSub, Nat.reduceLT, Int.reduceToNat, Int.reduceLT, Int.reduceLE, Int.reduceEq, Int.reduceAdd, Int.reduceNeg, Int.reduceMul, Int.reduceSub]
    exact frz_bool rfl
  simp -implicitDefEqProofs (disch := omega) only [mwx, ne_eq, false_implies, implies_true, forall_eq_or_imp, MW.get, ev, evs, argFr, resK, packV, slHK, partsV, partsS, setR, Int.cast_ofNat_Int, Int.natCast_zero, Int.natCast_one, Nat.reduceLeDiff, reduceIte, Nat.reduceEqDiff, Nat.reduceBEq, reduceCtorEq, Nat.reduceAdd, Nat.reduceMul, Nat.reduceSub, Nat.reduceLT, Int.reduceToNat, Int.reduceLT, Int.reduceLE, Int.reduceEq, Int.reduceAdd, Int.reduceNeg, Int.reduceMul, Int.reduceSub]
  refine xc_dec (fun hk => ?_) fun hk => ?_
  · simp -implicitDefEqProofs (disch := omega) only [mwx, ne_eq, false_implies, implies_true, forall_eq_or_imp, MW.get, ev, evs, argFr, resK, packV, slHK, partsV, partsS, setR, Int.cast_ofNat_Int, Int.natCast_zero, Int.natCast_one, Nat.reduceLeDiff, reduceIte, Nat.reduceEqDiff, Nat.reduceBEq, reduceCtorEq, Nat.reduceAdd, Nat.reduceMul, Nat.reduceSub, Nat.reduceLT, Int.reduceToNat, Int.reduceLT, Int.reduceLE, Int.reduceEq, Int.reduceAdd, Int.reduceNeg, Int.reduceMul, Int.reduceSub]
    exact frz_bool rfl
  have hk' : k.length ≤ 1000000 := by omega
  have hl60 : l.length ≤ 60 := by have := (few_len hf).2; omega
  simp -implicitDefEqProofs (disch := omega) only [mwx, ne_eq, false_implies, implies_true, forall_eq_or_imp, MW.get, ev, evs, argFr, resK, packV, slHK, partsV, partsS, setR, Int.cast_ofNat_Int, Int.natCast_zero, Int.natCast_one, Nat.reduceLeDiff, reduceIte, Nat.reduceEqDiff, Nat.reduceBEq, reduceCtorEq, Nat.reduceAdd, Nat.reduceMul, Nat.reduceSub, Nat.reduceLT, Int.reduceToNat, Int.reduceLT, Int.reduceLE, Int.reduceEq, Int.reduceAdd, Int.reduceNeg, Int.reduceMul, Int.reduceSub]
  refine Does.call new_fn (by simp) ?_
  simp -implicitDefEqProofs (disch := omega) only [mwx, ne_eq, false_implies, implies_true, forall_eq_or_imp, MW.get, ev, evs, argFr, resK, packV, slHK, partsV, partsS, setR, Int.cast_ofNat_Int, Int.natCast_zero, Int.natCast_one, Nat.reduceLeDiff, reduceIte, Nat.reduceEqDiff, Nat.reduceBEq, reduceCtorEq, Nat.reduceAdd, Nat.reduceMul, Nat.reduceSub, Nat.reduceLT, Int.reduceToNat, Int.reduceLT, Int.reduceLE, Int.reduceEq, Int.reduceAdd, Int.reduceNeg, Int.reduceMul, Int.reduceSub]
  refine xl_loop (fun m st => ∃ (i : Nat) (x : Int) (b : Bool), m + i = l.length ∧ get st.fr 0 = v ∧ get st.fr 1 = .str k ∧ get st.fr 5 = .bool true ∧ get st.fr 6 = .vs (plE.vs (stepsT (l.take i))) ∧ get st.fr 7 = .int .i64 x ∧ get st.fr 8 = .bool b ∧ get st.fr 9 = .int .i64 i ∧ look (stepsT (l.take i)) k = if b then some x else none) l.length
    ⟨0, 0, false, by omega, rfl, rfl, rfl, rfl, rfl, rfl, rfl, by rw [List.take_zero]; exact t0_look k⟩ ?_
  rintro J hJ m fr H ⟨i, x, b, h1, h2, h3, h4, h5, h6, h7, h8, h9⟩
  simp -implicitDefEqProofs (disch := omega) only [h2, h8, lenK_isE hv, mwx, ne_eq, false_implies, implies_true, forall_eq_or_imp, MW.get, ev, evs, argFr, resK, packV, slHK, partsV, partsS, setR, Int.cast_ofNat_Int, Int.natCast_zero, Int.natCast_one, Nat.reduceLeDiff, reduceIte, Nat.reduceEqDiff, Nat.reduceBEq, reduceCtorEq, Nat.reduceAdd, Nat.reduceMul, Nat.reduceSub, Nat.reduceLT, Int.reduceToNat, Int.reduceLT, Int.reduceLE, Int.reduceEq, Int.reduceAdd, Int.reduceNeg, Int.reduceMul, Int.reduceSub]
  refine xc_dec (fun h10 => ?_) fun h10 => ?_
  · have hi : i < l.length := by omega
    have hi0 : (0 : Int) ≤ (i : Int) := by omega
    have hi1 : (i : Int).toNat < l.length := by omega
    have hst := stepsT_take hi s0
    have hat := few_at hf hi
    obtain ⟨hw, hfl⟩ := steps_ok hl60 i (by omega)
    generalize hT : stepsT (l.take i) = T at *
    have hvT := isE_vs (e := plE) T
    rcases hs : l.getD i s0 with ⟨d, q, y⟩
    rw [hs] at hst hat
    have hdo := do_ok hw (by omega) (d, q, y)
    simp -implicitDefEqProofs (disch := omega) only [h2, h3, h4, h5, h6, h7, h8, iaK_sp hv hi0 hi1, hs, mwx, ne_eq, false_implies, implies_true, forall_eq_or_imp, MW.get, ev, evs, argFr, resK, packV, slHK, partsV, partsS, setR, Int.cast_ofNat_Int, Int.natCast_zero, Int.natCast_one, Nat.reduceLeDiff, reduceIte, Nat.reduceEqDiff, Nat.reduceBEq, reduceCtorEq, Nat.reduceAdd, Nat.reduceMul, Nat.reduceSub, Nat.reduceLT, Int.reduceToNat, Int.reduceLT, Int.reduceLE, Int.reduceEq, Int.reduceAdd, Int.reduceNeg, Int.reduceMul, Int.reduceSub]
    refine Does.call (do_fn hvT hw (d, q, y) hat) (fr2 hvT.free (sp_free (d, q, y))) ?_
    obtain ⟨_, _, ⟨g1, g2, g3⟩ | ⟨g1, g2, g3⟩⟩ := hdo
    · -- it was done
      by_cases hq : q = k
      · have e1 : (q == k) = true := by simpa using hq
        cases d with
        | true =>
          have e2 : (look T q).isSome = true := by
            rcases g1 with g1 | g1
            · exact Option.isSome_iff_ne_none.2 g1.2
            · simp at g1
          simp -implicitDefEqProofs (disch := omega) only [h2, h3, h4, h5, h6, h7, h8, iaK_sp hv hi0 hi1, hs, g2, e1, mwx, ne_eq, false_implies, implies_true, forall_eq_or_imp, MW.get, ev, evs, argFr, resK, packV, slHK, partsV, partsS, setR, Int.cast_ofNat_Int, Int.natCast_zero, Int.natCast_one, Nat.reduceLeDiff, reduceIte, Nat.reduceEqDiff, Nat.reduceBEq, reduceCtorEq, Nat.reduceAdd, Nat.reduceMul, Nat.reduceSub, Nat.reduceLT, Int.reduceToNat, Int.reduceLT, Int.reduceLE, Int.reduceEq, Int.reduceAdd, Int.reduceNeg, Int.reduceMul, Int.reduceSub]
          refine Does.call (had_fn hvT hw hat) (fr2 hvT.free (.str _)) ?_
          simp -implicitDefEqProofs (disch := omega) only [h2, h3, h4, h5, h6, h7, h8, iaK_sp hv hi0 hi1, hs, e2, beq_self_eq_true, mwx, ne_eq, false_implies, implies_true, forall_eq_or_imp, MW.get, ev, evs, argFr, resK, packV, slHK, partsV, partsS, setR, Int.cast_ofNat_Int, Int.natCast_zero, Int.natCast_one, Nat.reduceLeDiff, reduceIte, Nat.reduceEqDiff, Nat.reduceBEq, reduceCtorEq, Nat.reduceAdd, Nat.reduceMul, Nat.reduceSub, Nat.reduceLT, Int.reduceToNat, Int.reduceLT, Int.reduceLE, Int.reduceEq, Int.reduceAdd, Int.reduceNeg, Int.reduceMul, Int.reduceSub]
          refine ⟨m - 1, by omega, hJ _ _ ⟨i + 1, _, false, by omega, h2, h3, h4, by rw [hst]; rfl, rfl, rfl, rfl, ?_⟩⟩
          rw [hst, g3, if_pos hq.symm]; rfl
        | false =>
          have e2 : keyOK q = true := by
            rcases g1 with g1 | g1
            · simp at g1
            · exact g1.2
          simp -implicitDefEqProofs (disch := omega) only [h2, h3, h4, h5, h6, h7, h8, iaK_sp hv hi0 hi1, hs, g2, e1, mwx, ne_eq, false_implies, implies_true, forall_eq_or_imp, MW.get, ev, evs, argFr, resK, packV, slHK, partsV, partsS, setR, Int.cast_ofNat_Int, Int.natCast_zero, Int.natCast_one, Nat.reduceLeDiff, reduceIte, Nat.reduceEqDiff, Nat.reduceBEq, reduceCtorEq, Nat.reduceAdd, Nat.reduceMul, Nat.reduceSub, Nat.reduceLT, Int.reduceToNat, Int.reduceLT, Int.reduceLE, Int.reduceEq, Int.reduceAdd, Int.reduceNeg, Int.reduceMul, Int.reduceSub]
          refine Does.call (key_fn q) (fr1 (.str _)) ?_
          simp -implicitDefEqProofs (disch := omega) only [h2, h3, h4, h5, h6, h7, h8, iaK_sp hv hi0 hi1, hs, e2, beq_self_eq_true, mwx, ne_eq, false_implies, implies_true, forall_eq_or_imp, MW.get, ev, evs, argFr, resK, packV, slHK, partsV, partsS, setR, Int.cast_ofNat_Int, Int.natCast_zero, Int.natCast_one, Nat.reduceLeDiff, reduceIte, Nat.reduceEqDiff, Nat.reduceBEq, reduceCtorEq, Nat.reduceAdd, Nat.reduceMul, Nat.reduceSub, Nat.reduceLT, Int.reduceToNat, Int.reduceLT, Int.reduceLE, Int.reduceEq, Int.reduceAdd, Int.reduceNeg, Int.reduceMul, Int.reduceSub]
          refine ⟨m - 1, by omega, hJ _ _ ⟨i + 1, _, true, by omega, h2, h3, h4, by rw [hst]; rfl, rfl, rfl, rfl, ?_⟩⟩
          rw [hst, g3, if_pos hq.symm]; rfl
      · have e1 : (q == k) = false := by simpa using hq
        have e3 : look (stepsT (l.take (i + 1))) k = if b then some x else none := by rw [hst, g3, if_neg (Ne.symm hq), h9]
        cases d with
        | true =>
          have e2 : (look T q).isSome = true := by
            rcases g1 with g1 | g1
            · exact Option.isSome_iff_ne_none.2 g1.2
            · simp at g1
          simp -implicitDefEqProofs (disch := omega) only [h2, h3, h4, h5, h6, h7, h8, iaK_sp hv hi0 hi1, hs, g2, e1, mwx, ne_eq, false_implies, implies_true, forall_eq_or_imp, MW.get, ev, evs, argFr, resK, packV, slHK, partsV, partsS, setR, Int.cast_ofNat_Int, Int.natCast_zero, Int.natCast_one, Nat.reduceLeDiff, reduceIte, Nat.reduceEqDiff, Nat.reduceBEq, reduceCtorEq, Nat.reduceAdd, Nat.reduceMul, Nat.reduceSub, Nat.reduceLT, Int.reduceToNat, Int.reduceLT, Int.reduceLE, Int.reduceEq, Int.reduceAdd, Int.reduceNeg, Int.reduceMul, Int.reduceSub]
          refine Does.call (had_fn hvT hw hat) (fr2 hvT.free (.str _)) ?_
          simp -implicitDefEqProofs (disch := omega) only [h2, h3, h4, h5, h6, h7, h8, iaK_sp hv hi0 hi1, hs, e2, beq_self_eq_true, mwx, ne_eq, false_implies, implies_true, forall_eq_or_imp, MW.get, ev, evs, argFr, resK, packV, slHK, partsV, partsS, setR, Int.cast_ofNat_Int, Int.natCast_zero, Int.natCast_one, Nat.reduceLeDiff, reduceIte, Nat.reduceEqDiff, Nat.reduceBEq, reduceCtorEq, Nat.reduceAdd, Nat.reduceMul, Nat.reduceSub, Nat.reduceLT, Int.reduceToNat, Int.reduceLT, Int.reduceLE, Int.reduceEq, Int.reduceAdd, Int.reduceNeg, Int.reduceMul, Int.reduceSub]
          exact ⟨m - 1, by omega, hJ _ _ ⟨i + 1, x, b, by omega, h2, h3, h4, by rw [hst]; rfl, h6, h7, rfl, e3⟩⟩
        | false =>
          have e2 : keyOK q = true := by
            rcases g1 with g1 | g1
            · simp at g1
            · exact g1.2
          simp -implicitDefEqProofs (disch := omega) only [h2, h3, h4, h5, h6, h7, h8, iaK_sp hv hi0 hi1, hs, g2, e1, mwx, ne_eq, false_implies, implies_true, forall_eq_or_imp, MW.get, ev, evs, argFr, resK, packV, slHK, partsV, partsS, setR, Int.cast_ofNat_Int, Int.natCast_zero, Int.natCast_one, Nat.reduceLeDiff, reduceIte, Nat.reduceEqDiff, Nat.reduceBEq, reduceCtorEq, Nat.reduceAdd, Nat.reduceMul, Nat.reduceSub, Nat.reduceLT, Int.reduceToNat, Int.reduceLT, Int.reduceLE, Int.reduceEq, Int.reduceAdd, Int.reduceNeg, Int.reduceMul, Int.reduceSub]
          refine Does.call (key_fn q) (fr1 (.str _)) ?_
          simp -implicitDefEqProofs (disch := omega) only [h2, h3, h4, h5, h6, h7, h8, iaK_sp hv hi0 hi1, hs, e2, beq_self_eq_true, mwx, ne_eq, false_implies, implies_true, forall_eq_or_imp, MW.get, ev, evs, argFr, resK, packV, slHK, partsV, partsS, setR, Int.cast_ofNat_Int, Int.natCast_zero, Int.natCast_one, Nat.reduceLeDiff, reduceIte, Nat.reduceEqDiff, Nat.reduceBEq, reduceCtorEq, Nat.reduceAdd, Nat.reduceMul, Nat.reduceSub, Nat.reduceLT, Int.reduceToNat, Int.reduceLT, Int.reduceLE, Int.reduceEq, Int.reduceAdd, Int.reduceNeg, Int.reduceMul, Int.reduceSub]
          exact ⟨m - 1, by omega, hJ _ _ ⟨i + 1, x, b, by omega, h2, h3, h4, by rw [hst]; rfl, h6, h7, rfl, e3⟩⟩
    · -- it was refused
      have e3 : look (stepsT (l.take (i + 1))) k = if b then some x else none := by rw [hst, g3, h9]
      have e4 : stepsT (l.take (i + 1)) = T := hst.trans g3
      rcases hqk : (q == k) with _ | _
      · cases d with
        | true =>
          have e2 : (look T q).isSome = false := by
            rcases hlq : look T q with _ | z
            · rfl
            · exact absurd (.inl ⟨rfl, by rw [hlq]; simp⟩) g1
          simp -implicitDefEqProofs (disch := omega) only [h2, h3, h4, h5, h6, h7, h8, iaK_sp hv hi0 hi1, hs, g2, hqk, mwx, ne_eq, false_implies, implies_true, forall_eq_or_imp, MW.get, ev, evs, argFr, resK, packV, slHK, partsV, partsS, setR, Int.cast_ofNat_Int, Int.natCast_zero, Int.natCast_one, Nat.reduceLeDiff, reduceIte, Nat.reduceEqDiff, Nat.reduceBEq, reduceCtorEq, Nat.reduceAdd, Nat.reduceMul, Nat.reduceSub, Nat.reduceLT, Int.reduceToNat, Int.reduceLT, Int.reduceLE, Int.reduceEq, Int.reduceAdd, Int.reduceNeg, Int.reduceMul, Int.reduceSub]
          refine Does.call (had_fn hvT hw hat) (fr2 hvT.free (.str _)) ?_
          simp -implicitDefEqProofs (disch := omega) only [h2, h3, h4, h5, h6, h7, h8, iaK_sp hv hi0 hi1, hs, e2, beq_self_eq_true, mwx, ne_eq, false_implies, implies_true, forall_eq_or_imp, MW.get, ev, evs, argFr, resK, packV, slHK, partsV, partsS, setR, Int.cast_ofNat_Int, Int.natCast_zero, Int.natCast_one, Nat.reduceLeDiff, reduceIte, Nat.reduceEqDiff, Nat.reduceBEq, reduceCtorEq, Nat.reduceAdd, Nat.reduceMul, Nat.reduceSub, Nat.reduceLT, Int.reduceToNat, Int.reduceLT, Int.reduceLE, Int.reduceEq, Int.reduceAdd, Int.reduceNeg, Int.reduceMul, Int.reduceSub]
          exact ⟨m - 1, by omega, hJ _ _ ⟨i + 1, x, b, by omega, h2, h3, h4, by rw [hst]; rfl, h6, h7, rfl, e3⟩⟩
        | false =>
          have e2 : keyOK q = false := by
            rcases hkq : keyOK q with _ | _
            · rfl
            · exact absurd (.inr ⟨rfl, hkq⟩) g1
          simp -implicitDefEqProofs (disch := omega) only [h2, h3, h4, h5, h6, h7, h8, iaK_sp hv hi0 hi1, hs, g2, hqk, mwx, ne_eq, false_implies, implies_true, forall_eq_or_imp, MW.get, ev, evs, argFr, resK, packV, slHK, partsV, partsS, setR, Int.cast_ofNat_Int, Int.natCast_zero, Int.natCast_one, Nat.reduceLeDiff, reduceIte, Nat.reduceEqDiff, Nat.reduceBEq, reduceCtorEq, Nat.reduceAdd, Nat.reduceMul, Nat.reduceSub, Nat.reduceLT, Int.reduceToNat, Int.reduceLT, Int.reduceLE, Int.reduceEq, Int.reduceAdd, Int.reduceNeg, Int.reduceMul, Int.reduceSub]
          refine Does.call (key_fn q) (fr1 (.str _)) ?_
          simp -implicitDefEqProofs (disch := omega) only [h2, h3, h4, h5, h6, h7, h8, iaK_sp hv hi0 hi1, hs, e2, beq_self_eq_true, mwx, ne_eq, false_implies, implies_true, forall_eq_or_imp, MW.get, ev, evs, argFr, resK, packV, slHK, partsV, partsS, setR, Int.cast_ofNat_Int, Int.natCast_zero, Int.natCast_one, Nat.reduceLeDiff, reduceIte, Nat.reduceEqDiff, Nat.reduceBEq, reduceCtorEq, Nat.reduceAdd, Nat.reduceMul, Nat.reduceSub, Nat.reduceLT, Int.reduceToNat, Int.reduceLT, Int.reduceLE, Int.reduceEq, Int.reduceAdd, Int.reduceNeg, Int.reduceMul, Int.reduceSub]
          exact ⟨m - 1, by omega, hJ _ _ ⟨i + 1, x, b, by omega, h2, h3, h4, by rw [hst]; rfl, h6, h7, rfl, e3⟩⟩
      · cases d with
        | true =>
          have e2 : (look T q).isSome = false := by
            rcases hlq : look T q with _ | z
            · rfl
            · exact absurd (.inl ⟨rfl, by rw [hlq]; simp⟩) g1
          simp -implicitDefEqProofs (disch := omega) only [h2, h3, h4, h5, h6, h7, h8, iaK_sp hv hi0 hi1, hs, g2, hqk, mwx, ne_eq, false_implies, implies_true, forall_eq_or_imp, MW.get, ev, evs, argFr, resK, packV, slHK, partsV, partsS, setR, Int.cast_ofNat_Int, Int.natCast_zero, Int.natCast_one, Nat.reduceLeDiff, reduceIte, Nat.reduceEqDiff, Nat.reduceBEq, reduceCtorEq, Nat.reduceAdd, Nat.reduceMul, Nat.reduceSub, Nat.reduceLT, Int.reduceToNat, Int.reduceLT, Int.reduceLE, Int.reduceEq, Int.reduceAdd, Int.reduceNeg, Int.reduceMul, Int.reduceSub]
          refine Does.call (had_fn hvT hw hat) (fr2 hvT.free (.str _)) ?_
          simp -implicitDefEqProofs (disch := omega) only [h2, h3, h4, h5, h6, h7, h8, iaK_sp hv hi0 hi1, hs, e2, beq_self_eq_true, mwx, ne_eq, false_implies, implies_true, forall_eq_or_imp, MW.get, ev, evs, argFr, resK, packV, slHK, partsV, partsS, setR, Int.cast_ofNat_Int, Int.natCast_zero, Int.natCast_one, Nat.reduceLeDiff, reduceIte, Nat.reduceEqDiff, Nat.reduceBEq, reduceCtorEq, Nat.reduceAdd, Nat.reduceMul, Nat.reduceSub, Nat.reduceLT, Int.reduceToNat, Int.reduceLT, Int.reduceLE, Int.reduceEq, Int.reduceAdd, Int.reduceNeg, Int.reduceMul, Int.reduceSub]
          exact ⟨m - 1, by omega, hJ _ _ ⟨i + 1, x, b, by omega, h2, h3, h4, by rw [hst]; rfl, h6, h7, rfl, e3⟩⟩
        | false =>
          have e2 : keyOK q = false := by
            rcases hkq : keyOK q with _ | _
            · rfl
            · exact absurd (.inr ⟨rfl, hkq⟩) g1
          simp -implicitDefEqProofs (disch := omega) only [h2, h3, h4, h5, h6, h7, h8, iaK_sp hv hi0 hi1, hs, g2, hqk, mwx, ne_eq, false_implies, implies_true, forall_eq_or_imp, MW.get, ev, evs, argFr, resK, packV, slHK, partsV, partsS, setR, Int.cast_ofNat_Int, Int.natCast_zero, Int.natCast_one, Nat.reduceLeDiff, reduceIte, Nat.reduceEqDiff, Nat.reduceBEq, reduceCtorEq, Nat.reduceAdd, Nat.reduceMul, Nat.reduceSub, Nat.reduceLT, Int.reduceToNat, Int.reduceLT, Int.reduceLE, Int.reduceEq, Int.reduceAdd, Int.reduceNeg, Int.reduceMul, Int.reduceSub]
          refine Does.call (key_fn q) (fr1 (.str _)) ?_
          simp -implicitDefEqProofs (disch := omega) only [h2, h3, h4, h5, h6, h7, h8, iaK_sp hv hi0 hi1, hs, e2, beq_self_eq_true, mwx, ne_eq, false_implies, implies_true, forall_eq_or_imp, MW.get, ev, evs, argFr, resK, packV, slHK, partsV, partsS, setR, Int.cast_ofNat_Int, Int.natCast_zero, Int.natCast_one, Nat.reduceLeDiff, reduceIte, Nat.reduceEqDiff, Nat.reduceBEq, reduceCtorEq, Nat.reduceAdd, Nat.reduceMul, Nat.reduceSub, Nat.reduceLT, Int.reduceToNat, Int.reduceLT, Int.reduceLE, Int.reduceEq, Int.reduceAdd, Int.reduceNeg, Int.reduceMul, Int.reduceSub]
          exact ⟨m - 1, by omega, hJ _ _ ⟨i + 1, x, b, by omega, h2, h3, h4, by rw [hst]; rfl, h6, h7, rfl, e3⟩⟩
  · obtain ⟨hw, hfl⟩ := steps_ok hl60 i (by omega)
    generalize hT : stepsT (l.take i) = T at *
    have hvT := isE_vs (e := plE) T
    simp -implicitDefEqProofs (disch := omega) only [h2, h3, h4, h5, h6, h7, h8, mwx, ne_eq, false_implies, implies_true, forall_eq_or_imp, MW.get, ev, evs, argFr, resK, packV, slHK, partsV, partsS, setR, Int.cast_ofNat_Int, Int.natCast_zero, Int.natCast_one, Nat.reduceLeDiff, reduceIte, Nat.reduceEqDiff, Nat.reduceBEq, reduceCtorEq, Nat.reduceAdd, Nat.reduceMul, Nat.reduceSub, Nat.reduceLT, Int.reduceToNat, Int.reduceLT, Int.reduceLE, Int.reduceEq, Int.reduceAdd, Int.reduceNeg, Int.reduceMul, Int.reduceSub]
    refine Does.call (get_fn hvT hw hk') (fr2 hvT.free (.str _)) ?_
    cases b with
    | true =>
      have e1 : getT T k = (x, true) := by unfold getT; rw [h9]; rfl
      have e2 : (x = x) = True := by simp
      simp -implicitDefEqProofs (disch := omega) only [h2, h3, h4, h5, h6, h7, h8, e1, e2, beq_self_eq_true, mwx, ne_eq, false_implies, implies_true, forall_eq_or_imp, MW.get, ev, evs, argFr, resK, packV, slHK, partsV, partsS, setR, Int.cast_ofNat_Int, Int.natCast_zero, Int.natCast_one, Nat.reduceLeDiff, reduceIte, Nat.reduceEqDiff, Nat.reduceBEq, reduceCtorEq, Nat.reduceAdd, Nat.reduceMul, Nat.reduceSub, Nat.reduceLT, Int.reduceToNat, Int.reduceLT, Int.reduceLE, Int.reduceEq, Int.reduceAdd, Int.reduceNeg, Int.reduceMul, Int.reduceSub]
      refine Does.call (chk_fn hvT hw) (fr1 hvT.free) ?_
      simp -implicitDefEqProofs (disch := omega) only [mwx, ne_eq, false_implies, implies_true, forall_eq_or_imp, MW.get, ev, evs, argFr, resK, packV, slHK, partsV, partsS, setR, Int.cast_ofNat_Int, Int.natCast_zero, Int.natCast_one, Nat.reduceLeDiff, reduceIte, Nat.reduceEqDiff, Nat.reduceBEq, reduceCtorEq, Nat.reduceAdd, Nat.reduceMul, Nat.reduceSub, Nat.reduceLT, Int.reduceToNat, Int.reduceLT, Int.reduceLE, Int.reduceEq, Int.reduceAdd, Int.reduceNeg, Int.reduceMul, Int.reduceSub]
      exact frz_bool rfl
    | false =>
      have e1 : getT T k = (0, false) := by unfold getT; rw [h9]; rfl
      simp -implicitDefEqProofs (disch := omega) only [h2, h3, h4, h5, h6, h7, h8, e1, beq_self_eq_true, mwx, ne_eq, false_implies, implies_true, forall_eq_or_imp, MW.get, ev, evs, argFr, resK, packV, slHK, partsV, partsS, setR, Int.cast_ofNat_Int, Int.natCast_zero, Int.natCast_one, Nat.reduceLeDiff, reduceIte, Nat.reduceEqDiff, Nat.reduceBEq, reduceCtorEq, Nat.reduceAdd, Nat.reduceMul, Nat.reduceSub, Nat.reduceLT, Int.reduceToNat, Int.reduceLT, Int.reduceLE, Int.reduceEq, Int.reduceAdd, Int.reduceNeg, Int.reduceMul, Int.reduceSub]
      refine Does.call (chk_fn hvT hw) (fr1 hvT.free) ?_
      simp -implicitDefEqProofs (disch := omega) only [mwx, ne_eq, false_implies, implies_true, forall_eq_or_imp, MW.get, ev, evs, argFr, resK, packV, slHK, partsV, partsS, setR, Int.cast_ofNat_Int, Int.natCast_zero, Int.natCast_one, Nat.reduceLeDiff, reduceIte, Nat.reduceEqDiff, Nat.reduceBEq, reduceCtorEq, Nat.reduceAdd, Nat.reduceMul, Nat.reduceSub, Nat.reduceLT, Int.reduceToNat, Int.reduceLT, Int.reduceLE, Int.reduceEq, Int.reduceAdd, Int.reduceNeg, Int.reduceMul, Int.reduceSub]
      exact frz_bool rfl

end Go.Proofs.Ytgilodbgleogmaa

/- Table (chapter 13): TableBack, TableKeys. -/
namespace Go.Proofs.Ytgilodbgleogmaa
open Go Go.MW
set_option linter.unusedSimpArgs false
set_option linter.unusedVariables false
set_option maxRecDepth 8000

theorem back_fn {v : V} {l : List Stp} (hv : IsE stpE v l) (hl : l.length ≤ maxLen) (k : List UInt8) (x : Int) (q : List UInt8) : Does Try.prog G0 true 4 [v, .str k, .int .i64 x, .str q] (.bool true) := by
  refine Does.intro mixed comp4 ?_
  unfold c4
  simp -implicitDefEqProofs (disch := omega) only [mwx, ne_eq, false_implies, implies_true, forall_eq_or_imp, MW.get, ev, evs, argFr, resK, packV, slHK, partsV, partsS, setR, Int.cast_ofNat_Int, Int.natCast_zero, Int.natCast_one, Nat.reduceLeDiff, reduceIte, Nat.reduceEqDiff, Nat.reduceBEq, reduceCtorEq, Nat.reduceAdd, Nat.reduceMul, Nat.reduceSub, Nat.reduceLT, Int.reduceToNat, Int.reduceLT, Int.reduceLE, Int.reduceEq, Int.reduceAdd, Int.reduceNeg, Int.reduceMul, Int.reduceSub]
  refine Does.call awake_fn (by simp) ?_
  simp -implicitDefEqProofs (disch := omega) only [mwx, ne_eq, false_implies, implies_true, forall_eq_or_imp, MW.get, ev, evs, argFr, resK, packV, slHK, partsV, partsS, setR, Int.cast_ofNat_Int, Int.natCast_zero, Int.natCast_one, Nat.reduceLeDiff, reduceIte, Nat.reduceEqDiff, Nat.reduceBEq, reduceCtorEq, Nat.reduceAdd, Nat.reduceMul, Nat.reduceSub, Nat.reduceLT, Int.reduceToNat, Int.reduceLT, Int.reduceLE, Int.reduceEq, Int.reduceAdd, Int.reduceNeg, Int.reduceMul, Int.reduceSub]
  refine Does.call (few_fn hv hl 60) (fr2 hv.free (.int _ _)) ?_
  rcases hf : fewT l 60 with _ | _
  · simp -implicitDefEqProofs (disch := omega) only [mwx, ne_eq, false_implies, implies_true, forall_eq_or_imp, MW.get, ev, evs, argFr, resK, packV, slHK, partsV, partsS, setR, Int.cast_ofNat_Int, Int.natCast_zero, Int.natCast_one, Nat.reduceLeDiff, reduceIte, Nat.reduceEqDiff, Nat.reduceBEq, reduceCtorEq, Nat.reduceAdd, Nat.reduceMul, Nat.reduceSub, Nat.reduceLT, Int.reduceToNat, Int.reduceLT, Int.reduceLE, Int.reduceEq, Int.reduceAdd, Int.reduceNeg, Int.reduceMul, Int.reduceSub]
    exact frz_bool rfl
  simp -implicitDefEqProofs (disch := omega) only [mwx, ne_eq, false_implies, implies_true, forall_eq_or_imp, MW.get, ev, evs, argFr, resK, packV, slHK, partsV, partsS, setR, Int.cast_ofNat_Int, Int.natCast_zero, Int.natCast_one, Nat.reduceLeDiff, reduceIte, Nat.reduceEqDiff, Nat.reduceBEq, reduceCtorEq, Nat.reduceAdd, Nat.reduceMul, Nat.reduceSub, Nat.reduceLT, Int.reduceToNat, Int.reduceLT, Int.reduceLE, Int.reduceEq, Int.reduceAdd, Int.reduceNeg, Int.reduceMul, Int.reduceSub]
  by_cases hk : (100 : Int) < (k.length : Int)
  · simp -implicitDefEqProofs (disch := omega) only [hk, mwx, ne_eq, false_implies, implies_true, forall_eq_or_imp, MW.get, ev, evs, argFr, resK, packV, slHK, partsV, partsS, setR, Int.cast_ofNat_Int, Int.natCast_zero, Int.natCast_one, Nat.reduceLeDiff, reduceIte, Nat.reduceEqDiff, Nat.reduceBEq, reduceCtorEq, Nat.reduceAdd, Nat.reduceMul, Nat.reduceSub, Nat.reduceLT, Int.reduceToNat, Int.reduceLT, Int.reduceLE, Int.reduceEq, Int.reduceAdd, Int.reduceNeg, Int.reduceMul, Int.reduceSub]
    exact frz_bool rfl
  simp -implicitDefEqProofs (disch := omega) only [hk, mwx, ne_eq, false_implies, implies_true, forall_eq_or_imp, MW.get, ev, evs, argFr, resK, packV, slHK, partsV, partsS, setR, Int.cast_ofNat_Int, Int.natCast_zero, Int.natCast_one, Nat.reduceLeDiff, reduceIte, Nat.reduceEqDiff, Nat.reduceBEq, reduceCtorEq, Nat.reduceAdd, Nat.reduceMul, Nat.reduceSub, Nat.reduceLT, Int.reduceToNat, Int.reduceLT, Int.reduceLE, Int.reduceEq, Int.reduceAdd, Int.reduceNeg, Int.reduceMul, Int.reduceSub]
  by_cases hq : (100 : Int) < (q.length : Int)
  · simp -implicitDefEqProofs (disch := omega) only [hq, mwx, ne_eq, false_implies, implies_true, forall_eq_or_imp, MW.get, ev, evs, argFr, resK, packV, slHK, partsV, partsS, setR, Int.cast_ofNat_Int, Int.natCast_zero, Int.natCast_one, Nat.reduceLeDiff, reduceIte, Nat.reduceEqDiff, Nat.reduceBEq, reduceCtorEq, Nat.reduceAdd, Nat.reduceMul, Nat.reduceSub, Nat.reduceLT, Int.reduceToNat, Int.reduceLT, Int.reduceLE, Int.reduceEq, Int.reduceAdd, Int.reduceNeg, Int.reduceMul, Int.reduceSub]
    exact frz_bool rfl
  simp -implicitDefEqProofs (disch := omega) only [hq, mwx, ne_eq, false_implies, implies_true, forall_eq_or_imp, MW.get, ev, evs, argFr, resK, packV, slHK, partsV, partsS, setR, Int.cast_ofNat_Int, Int.natCast_zero, Int.natCast_one, Nat.reduceLeDiff, reduceIte, Nat.reduceEqDiff, Nat.reduceBEq, reduceCtorEq, Nat.reduceAdd, Nat.reduceMul, Nat.reduceSub, Nat.reduceLT, Int.reduceToNat, Int.reduceLT, Int.reduceLE, Int.reduceEq, Int.reduceAdd, Int.reduceNeg, Int.reduceMul, Int.reduceSub]
  have hk' : k.length ≤ 1000000 := by omega
  have hq' : q.length ≤ 1000000 := by omega
  have hl60 : l.length ≤ 60 := by have := (few_len hf).2; omega
  refine Does.call new_fn (by simp) ?_
  simp -implicitDefEqProofs (disch := omega) only [mwx, ne_eq, false_implies, implies_true, forall_eq_or_imp, MW.get, ev, evs, argFr, resK, packV, slHK, partsV, partsS, setR, Int.cast_ofNat_Int, Int.natCast_zero, Int.natCast_one, Nat.reduceLeDiff, reduceIte, Nat.reduceEqDiff, Nat.reduceBEq, reduceCtorEq, Nat.reduceAdd, Nat.reduceMul, Nat.reduceSub, Nat.reduceLT, Int.reduceToNat, Int.reduceLT, Int.reduceLE, Int.reduceEq, Int.reduceAdd, Int.reduceNeg, Int.reduceMul, Int.reduceSub]
  refine xl_loop (fun m st => ∃ i : Nat, m + i = l.length ∧ get st.fr 0 = v ∧ get st.fr 1 = .str k ∧ get st.fr 2 = .int .i64 x ∧ get st.fr 3 = .str q ∧ get st.fr 9 = .bool true ∧ get st.fr 10 = .vs (plE.vs (stepsT (l.take i))) ∧ get st.fr 11 = .int .i64 i) l.length
    ⟨0, by omega, rfl, rfl, rfl, rfl, rfl, rfl, rfl⟩ ?_
  rintro J hJ m fr H ⟨i, h1, h2, h3, h4, h5, h6, h7, h8⟩
  simp -implicitDefEqProofs (disch := omega) only [h2, h8, lenK_isE hv, mwx, ne_eq, false_implies, implies_true, forall_eq_or_imp, MW.get, ev, evs, argFr, resK, packV, slHK, partsV, partsS, setR, Int.cast_ofNat_Int, Int.natCast_zero, Int.natCast_one, Nat.reduceLeDiff, reduceIte, Nat.reduceEqDiff, Nat.reduceBEq, reduceCtorEq, Nat.reduceAdd, Nat.reduceMul, Nat.reduceSub, Nat.reduceLT, Int.reduceToNat, Int.reduceLT, Int.reduceLE, Int.reduceEq, Int.reduceAdd, Int.reduceNeg, Int.reduceMul, Int.reduceSub]
  refine xc_dec (fun h10 => ?_) fun h10 => ?_
  · have hi : i < l.length := by omega
    have hi0 : (0 : Int) ≤ (i : Int) := by omega
    have hi1 : (i : Int).toNat < l.length := by omega
    have hst := stepsT_take hi s0
    have hat := few_at hf hi
    obtain ⟨hw, hfl⟩ := steps_ok hl60 i (by omega)
    have hvT := isE_vs (e := plE) (stepsT (l.take i))
    simp -implicitDefEqProofs (disch := omega) only [h2, h3, h4, h5, h6, h7, h8, iaK_sp hv hi0 hi1, mwx, ne_eq, false_implies, implies_true, forall_eq_or_imp, MW.get, ev, evs, argFr, resK, packV, slHK, partsV, partsS, setR, Int.cast_ofNat_Int, Int.natCast_zero, Int.natCast_one, Nat.reduceLeDiff, reduceIte, Nat.reduceEqDiff, Nat.reduceBEq, reduceCtorEq, Nat.reduceAdd, Nat.reduceMul, Nat.reduceSub, Nat.reduceLT, Int.reduceToNat, Int.reduceLT, Int.reduceLE, Int.reduceEq, Int.reduceAdd, Int.reduceNeg, Int.reduceMul, Int.reduceSub]
    refine Does.call (do_fn hvT hw (l.getD i s0) hat) (fr2 hvT.free (sp_free (l.getD i s0))) ?_
    simp -implicitDefEqProofs (disch := omega) only [h2, h3, h4, h5, h6, h7, h8, mwx, ne_eq, false_implies, implies_true, forall_eq_or_imp, MW.get, ev, evs, argFr, resK, packV, slHK, partsV, partsS, setR, Int.cast_ofNat_Int, Int.natCast_zero, Int.natCast_one, Nat.reduceLeDiff, reduceIte, Nat.reduceEqDiff, Nat.reduceBEq, reduceCtorEq, Nat.reduceAdd, Nat.reduceMul, Nat.reduceSub, Nat.reduceLT, Int.reduceToNat, Int.reduceLT, Int.reduceLE, Int.reduceEq, Int.reduceAdd, Int.reduceNeg, Int.reduceMul, Int.reduceSub]
    exact ⟨m - 1, by omega, hJ _ _ ⟨i + 1, by omega, h2, h3, h4, h5, h6, by rw [hst]; rfl, rfl⟩⟩
  · obtain ⟨hw, hfl⟩ := steps_ok hl60 i (by omega)
    generalize hT : stepsT (l.take i) = T at *
    have hvT := isE_vs (e := plE) T
    simp -implicitDefEqProofs (disch := omega) only [h2, h3, h4, h5, h6, h7, h8, mwx, ne_eq, false_implies, implies_true, forall_eq_or_imp, MW.get, ev, evs, argFr, resK, packV, slHK, partsV, partsS, setR, Int.cast_ofNat_Int, Int.natCast_zero, Int.natCast_one, Nat.reduceLeDiff, reduceIte, Nat.reduceEqDiff, Nat.reduceBEq, reduceCtorEq, Nat.reduceAdd, Nat.reduceMul, Nat.reduceSub, Nat.reduceLT, Int.reduceToNat, Int.reduceLT, Int.reduceLE, Int.reduceEq, Int.reduceAdd, Int.reduceNeg, Int.reduceMul, Int.reduceSub]
    refine Does.call (had_fn hvT hw hk') (fr2 hvT.free (.str _)) ?_
    rcases hlk : look T k with _ | y
    · have e0 : (none : Option Int).isSome = false := rfl
      simp -implicitDefEqProofs (disch := omega) only [h2, h3, h4, h5, h6, h7, h8, e0, mwx, ne_eq, false_implies, implies_true, forall_eq_or_imp, MW.get, ev, evs, argFr, resK, packV, slHK, partsV, partsS, setR, Int.cast_ofNat_Int, Int.natCast_zero, Int.natCast_one, Nat.reduceLeDiff, reduceIte, Nat.reduceEqDiff, Nat.reduceBEq, reduceCtorEq, Nat.reduceAdd, Nat.reduceMul, Nat.reduceSub, Nat.reduceLT, Int.reduceToNat, Int.reduceLT, Int.reduceLE, Int.reduceEq, Int.reduceAdd, Int.reduceNeg, Int.reduceMul, Int.reduceSub]
      refine Does.call (put_fn hvT hw k x) (fr3 hvT.free (.str _) (.int _ _)) ?_
      by_cases hok : keyOK k = true
      · obtain ⟨g1, g2, g3, _⟩ := put_ok hw hok (.inr (by omega)) x
        have g4 := del_put hw hlk g1
        generalize hU : (putT T k x).1 = U at *
        have hvU := isE_vs (e := plE) U
        rw [g1]
        simp -implicitDefEqProofs (disch := omega) only [h2, h3, h4, h5, h6, h7, h8, mwx, ne_eq, false_implies, implies_true, forall_eq_or_imp, MW.get, ev, evs, argFr, resK, packV, slHK, partsV, partsS, setR, Int.cast_ofNat_Int, Int.natCast_zero, Int.natCast_one, Nat.reduceLeDiff, reduceIte, Nat.reduceEqDiff, Nat.reduceBEq, reduceCtorEq, Nat.reduceAdd, Nat.reduceMul, Nat.reduceSub, Nat.reduceLT, Int.reduceToNat, Int.reduceLT, Int.reduceLE, Int.reduceEq, Int.reduceAdd, Int.reduceNeg, Int.reduceMul, Int.reduceSub]
        refine Does.call (del_fn hvU g2 hk') (fr2 hvU.free (.str _)) ?_
        rw [g4]
        simp -implicitDefEqProofs (disch := omega) only [h2, h3, h4, h5, h6, h7, h8, mwx, ne_eq, false_implies, implies_true, forall_eq_or_imp, MW.get, ev, evs, argFr, resK, packV, slHK, partsV, partsS, setR, Int.cast_ofNat_Int, Int.natCast_zero, Int.natCast_one, Nat.reduceLeDiff, reduceIte, Nat.reduceEqDiff, Nat.reduceBEq, reduceCtorEq, Nat.reduceAdd, Nat.reduceMul, Nat.reduceSub, Nat.reduceLT, Int.reduceToNat, Int.reduceLT, Int.reduceLE, Int.reduceEq, Int.reduceAdd, Int.reduceNeg, Int.reduceMul, Int.reduceSub]
        refine Does.call (get_fn hvT hw hq') (fr2 hvT.free (.str _)) ?_
        simp -implicitDefEqProofs (disch := omega) only [h2, h3, h4, h5, h6, h7, h8, mwx, ne_eq, false_implies, implies_true, forall_eq_or_imp, MW.get, ev, evs, argFr, resK, packV, slHK, partsV, partsS, setR, Int.cast_ofNat_Int, Int.natCast_zero, Int.natCast_one, Nat.reduceLeDiff, reduceIte, Nat.reduceEqDiff, Nat.reduceBEq, reduceCtorEq, Nat.reduceAdd, Nat.reduceMul, Nat.reduceSub, Nat.reduceLT, Int.reduceToNat, Int.reduceLT, Int.reduceLE, Int.reduceEq, Int.reduceAdd, Int.reduceNeg, Int.reduceMul, Int.reduceSub]
        refine Does.call (get_fn hvU g2 hq') (fr2 hvU.free (.str _)) ?_
        simp -implicitDefEqProofs (disch := omega) only [h2, h3, h4, h5, h6, h7, h8, mwx, ne_eq, false_implies, implies_true, forall_eq_or_imp, MW.get, ev, evs, argFr, resK, packV, slHK, partsV, partsS, setR, Int.cast_ofNat_Int, Int.natCast_zero, Int.natCast_one, Nat.reduceLeDiff, reduceIte, Nat.reduceEqDiff, Nat.reduceBEq, reduceCtorEq, Nat.reduceAdd, Nat.reduceMul, Nat.reduceSub, Nat.reduceLT, Int.reduceToNat, Int.reduceLT, Int.reduceLE, Int.reduceEq, Int.reduceAdd, Int.reduceNeg, Int.reduceMul, Int.reduceSub]
        refine Does.call (same_fn hvT hvT hw.len) (fr2 hvT.free hvT.free) ?_
        rcases hqk : (q == k) with _ | _
        · have g5 : getT U q = getT T q := by
            unfold getT
            rw [g3, if_neg (by simpa using hqk)]
          rw [g5]
          have e2 : ((getT T q).1 = (getT T q).1) = True := by simp
          simp -implicitDefEqProofs (disch := omega) only [h2, h3, h4, h5, h6, h7, h8, hqk, e2, beq_self_eq_true, mwx, ne_eq, false_implies, implies_true, forall_eq_or_imp, MW.get, ev, evs, argFr, resK, packV, slHK, partsV, partsS, setR, Int.cast_ofNat_Int, Int.natCast_zero, Int.natCast_one, Nat.reduceLeDiff, reduceIte, Nat.reduceEqDiff, Nat.reduceBEq, reduceCtorEq, Nat.reduceAdd, Nat.reduceMul, Nat.reduceSub, Nat.reduceLT, Int.reduceToNat, Int.reduceLT, Int.reduceLE, Int.reduceEq, Int.reduceAdd, Int.reduceNeg, Int.reduceMul, Int.reduceSub]
          exact frz_bool rfl
        · simp -implicitDefEqProofs (disch := omega) only [h2, h3, h4, h5, h6, h7, h8, hqk, mwx, ne_eq, false_implies, implies_true, forall_eq_or_imp, MW.get, ev, evs, argFr, resK, packV, slHK, partsV, partsS, setR, Int.cast_ofNat_Int, Int.natCast_zero, Int.natCast_one, Nat.reduceLeDiff, reduceIte, Nat.reduceEqDiff, Nat.reduceBEq, reduceCtorEq, Nat.reduceAdd, Nat.reduceMul, Nat.reduceSub, Nat.reduceLT, Int.reduceToNat, Int.reduceLT, Int.reduceLE, Int.reduceEq, Int.reduceAdd, Int.reduceNeg, Int.reduceMul, Int.reduceSub]
          exact frz_bool rfl
      · rw [put_key (by simpa using hok)]
        have e1 : ¬ (90 : Int) = 0 := by decide
        simp -implicitDefEqProofs (disch := omega) only [h2, h3, h4, h5, h6, h7, h8, e1, mwx, ne_eq, false_implies, implies_true, forall_eq_or_imp, MW.get, ev, evs, argFr, resK, packV, slHK, partsV, partsS, setR, Int.cast_ofNat_Int, Int.natCast_zero, Int.natCast_one, Nat.reduceLeDiff, reduceIte, Nat.reduceEqDiff, Nat.reduceBEq, reduceCtorEq, Nat.reduceAdd, Nat.reduceMul, Nat.reduceSub, Nat.reduceLT, Int.reduceToNat, Int.reduceLT, Int.reduceLE, Int.reduceEq, Int.reduceAdd, Int.reduceNeg, Int.reduceMul, Int.reduceSub]
        refine Does.call (same_fn hvT hvT hw.len) (fr2 hvT.free hvT.free) ?_
        simp -implicitDefEqProofs (disch := omega) only [mwx, ne_eq, false_implies, implies_true, forall_eq_or_imp, MW.get, ev, evs, argFr, resK, packV, slHK, partsV, partsS, setR, Int.cast_ofNat_Int, Int.natCast_zero, Int.natCast_one, Nat.reduceLeDiff, reduceIte, Nat.reduceEqDiff, Nat.reduceBEq, reduceCtorEq, Nat.reduceAdd, Nat.reduceMul, Nat.reduceSub, Nat.reduceLT, Int.reduceToNat, Int.reduceLT, Int.reduceLE, Int.reduceEq, Int.reduceAdd, Int.reduceNeg, Int.reduceMul, Int.reduceSub]
        exact frz_bool rfl
    · have e0 : (some y).isSome = true := rfl
      simp -implicitDefEqProofs (disch := omega) only [h2, h3, h4, h5, h6, h7, h8, e0, mwx, ne_eq, false_implies, implies_true, forall_eq_or_imp, MW.get, ev, evs, argFr, resK, packV, slHK, partsV, partsS, setR, Int.cast_ofNat_Int, Int.natCast_zero, Int.natCast_one, Nat.reduceLeDiff, reduceIte, Nat.reduceEqDiff, Nat.reduceBEq, reduceCtorEq, Nat.reduceAdd, Nat.reduceMul, Nat.reduceSub, Nat.reduceLT, Int.reduceToNat, Int.reduceLT, Int.reduceLE, Int.reduceEq, Int.reduceAdd, Int.reduceNeg, Int.reduceMul, Int.reduceSub]
      exact frz_bool rfl

theorem keysT_key {T : List Pc} (h : WF T) {i : Nat} (hi : i < (keysT T).length) : (look T ((keysT T).getD i [])).isSome = true ∧ keyOK ((keysT T).getD i []) = true ∧ ((keysT T).getD i []).length ≤ 1000000 := by
  have hm : (keysT T).getD i [] ∈ keysT T := by rw [List.getD_eq_getElem?_getD, List.getElem?_eq_getElem hi]; exact List.getElem_mem hi
  have hn := (keysT_mem h).1 hm
  obtain ⟨y, hy⟩ := Option.ne_none_iff_exists'.1 hn
  obtain ⟨hk, j, hj, he⟩ := (look_iff h).1 hy
  have hkey := h.key j hj
  have e1 : keyAt T j = (keysT T).getD i [] := by
    show (T.getD j e0).1 = _
    rw [he]
  rw [e1] at hkey
  exact ⟨Option.isSome_iff_ne_none.2 hn, keyOK_iff.2 ⟨hk, hkey⟩, by omega⟩

theorem keysL_fn {v : V} {l : List Stp} (hv : IsE stpE v l) (hl : l.length ≤ maxLen) : Does Try.prog G0 true 6 [v] (.bool true) := by
  refine Does.intro mixed comp6 ?_
  unfold c6
  simp -implicitDefEqProofs (disch := omega) only [mwx, ne_eq, false_implies, implies_true, forall_eq_or_imp, MW.get, ev, evs, argFr, resK, packV, slHK, partsV, partsS, setR, Int.cast_ofNat_Int, Int.natCast_zero, Int.natCast_one, Nat.reduceLeDiff, reduceIte, Nat.reduceEqDiff, Nat.reduceBEq, reduceCtorEq, Nat.reduceAdd, Nat.reduceMul, Nat.reduceSub, Nat.reduceLT, Int.reduceToNat, Int.reduceLT, Int.reduceLE, Int.reduceEq, Int.reduceAdd, Int.reduceNeg, Int.reduceMul, Int.reduceSub]
  refine Does.call awake_fn (by simp) ?_
  simp -implicitDefEqProofs (disch := omega) only [mwx, ne_eq, false_implies, implies_true, forall_eq_or_imp, MW.get, ev, evs, argFr, resK, packV, slHK, partsV, partsS, setR, Int.cast_ofNat_Int, Int.natCast_zero, Int.natCast_one, Nat.reduceLeDiff, reduceIte, Nat.reduceEqDiff, Nat.reduceBEq, reduceCtorEq, Nat.reduceAdd, Nat.reduceMul, Nat.reduceSub, Nat.reduceLT, Int.reduceToNat, Int.reduceLT, Int.reduceLE, Int.reduceEq, Int.reduceAdd, Int.reduceNeg, Int.reduceMul, Int.reduceSub]
  refine Does.call (few_fn hv hl 60) (fr2 hv.free (.int _ _)) ?_
  rcases hf : fewT l 60 with _ | _
  · simp -implicitDefEqProofs (disch := omega) only [mwx, ne_eq, false_implies, implies_true, forall_eq_or_imp, MW.get, ev, evs, argFr, resK, packV, slHK, partsV, partsS, setR, Int.cast_ofNat_Int, Int.natCast_zero, Int.natCast_one, Nat.reduceLeDiff, reduceIte, Nat.reduceEqDiff, Nat.reduceBEq, reduceCtorEq, Nat.reduceAdd, Nat.reduceMul, Nat.reduceSub, Nat.reduceLT, Int.reduceToNat, Int.reduceLT, Int.reduceLE, Int.reduceEq, Int.reduceAdd, Int.reduceNeg, Int.reduceMul, Int.reduceSub]
    exact frz_bool rfl
  simp -implicitDefEqProofs (disch := omega) only [mwx, ne_eq, false_implies, implies_true, forall_eq_or_imp, MW.get, ev, evs, argFr, resK, packV, slHK, partsV, partsS, setR, Int.cast_ofNat_Int, Int.natCast_zero, Int.natCast_one, Nat.reduceLeDiff, reduceIte, Nat.reduceEqDiff, Nat.reduceBEq, reduceCtorEq, Nat.reduceAdd, Nat.reduceMul, Nat.reduceSub, Nat.reduceLT, Int.reduceToNat, Int.reduceLT, Int.reduceLE, Int.reduceEq, Int.reduceAdd, Int.reduceNeg, Int.reduceMul, Int.reduceSub]
  have hl60 : l.length ≤ 60 := by have := (few_len hf).2; omega
  refine Does.call new_fn (by simp) ?_
  simp -implicitDefEqProofs (disch := omega) only [mwx, ne_eq, false_implies, implies_true, forall_eq_or_imp, MW.get, ev, evs, argFr, resK, packV, slHK, partsV, partsS, setR, Int.cast_ofNat_Int, Int.natCast_zero, Int.natCast_one, Nat.reduceLeDiff, reduceIte, Nat.reduceEqDiff, Nat.reduceBEq, reduceCtorEq, Nat.reduceAdd, Nat.reduceMul, Nat.reduceSub, Nat.reduceLT, Int.reduceToNat, Int.reduceLT, Int.reduceLE, Int.reduceEq, Int.reduceAdd, Int.reduceNeg, Int.reduceMul, Int.reduceSub]
  refine xl_loop (fun m st => ∃ i : Nat, m + i = l.length ∧ get st.fr 0 = v ∧ get st.fr 3 = .bool true ∧ get st.fr 4 = .vs (plE.vs (stepsT (l.take i))) ∧ get st.fr 5 = .int .i64 i) l.length
    ⟨0, by omega, rfl, rfl, rfl, rfl⟩ ?_
  rintro J hJ m fr H ⟨i, h1, h2, h3, h4, h5⟩
  simp -implicitDefEqProofs (disch := omega) only [h2, h5, lenK_isE hv, mwx, ne_eq, false_implies, implies_true, forall_eq_or_imp, MW.get, ev, evs, argFr, resK, packV, slHK, partsV, partsS, setR, Int.cast_ofNat_Int, Int.natCast_zero, Int.natCast_one, Nat.reduceLeDiff, reduceIte, Nat.reduceEqDiff, Nat.reduceBEq, reduceCtorEq, Nat.reduceAdd, Nat.reduceMul, Nat.reduceSub, Nat.reduceLT, Int.reduceToNat, Int.reduceLT, Int.reduceLE, Int.reduceEq, Int.reduceAdd, Int.reduceNeg, Int.reduceMul, Int.reduceSub]
  refine xc_dec (fun h10 => ?_) fun h10 => ?_
  · have hi : i < l.length := by omega
    have hi0 : (0 : Int) ≤ (i : Int) := by omega
    have hi1 : (i : Int).toNat < l.length := by omega
    have hst := stepsT_take hi s0
    have hat := few_at hf hi
    obtain ⟨hw, hfl⟩ := steps_ok hl60 i (by omega)
    have hvT := isE_vs (e := plE) (stepsT (l.take i))
    simp -implicitDefEqProofs (disch := omega) only [h2, h3, h4, h5, iaK_sp hv hi0 hi1, mwx, ne_eq, false_implies, implies_true, forall_eq_or_imp, MW.get, ev, evs, argFr, resK, packV, slHK, partsV, partsS, setR, Int.cast_ofNat_Int, Int.natCast_zero, Int.natCast_one, Nat.reduceLeDiff, reduceIte, Nat.reduceEqDiff, Nat.reduceBEq, reduceCtorEq, Nat.reduceAdd, Nat.reduceMul, Nat.reduceSub, Nat.reduceLT, Int.reduceToNat, Int.reduceLT, Int.reduceLE, Int.reduceEq, Int.reduceAdd, Int.reduceNeg, Int.reduceMul, Int.reduceSub]
    refine Does.call (do_fn hvT hw (l.getD i s0) hat) (fr2 hvT.free (sp_free (l.getD i s0))) ?_
    simp -implicitDefEqProofs (disch := omega) only [h2, h3, h4, h5, mwx, ne_eq, false_implies, implies_true, forall_eq_or_imp, MW.get, ev, evs, argFr, resK, packV, slHK, partsV, partsS, setR, Int.cast_ofNat_Int, Int.natCast_zero, Int.natCast_one, Nat.reduceLeDiff, reduceIte, Nat.reduceEqDiff, Nat.reduceBEq, reduceCtorEq, Nat.reduceAdd, Nat.reduceMul, Nat.reduceSub, Nat.reduceLT, Int.reduceToNat, Int.reduceLT, Int.reduceLE, Int.reduceEq, Int.reduceAdd, Int.reduceNeg, Int.reduceMul, Int.reduceSub]
    exact ⟨m - 1, by omega, hJ _ _ ⟨i + 1, by omega, h2, h3, by rw [hst]; rfl, rfl⟩⟩
  · obtain ⟨hw, hfl⟩ := steps_ok hl60 i (by omega)
    generalize hT : stepsT (l.take i) = T at *
    have hvT := isE_vs (e := plE) T
    have hTl := hw.len
    simp -implicitDefEqProofs (disch := omega) only [h2, h3, h4, h5, mwx, ne_eq, false_implies, implies_true, forall_eq_or_imp, MW.get, ev, evs, argFr, resK, packV, slHK, partsV, partsS, setR, Int.cast_ofNat_Int, Int.natCast_zero, Int.natCast_one, Nat.reduceLeDiff, reduceIte, Nat.reduceEqDiff, Nat.reduceBEq, reduceCtorEq, Nat.reduceAdd, Nat.reduceMul, Nat.reduceSub, Nat.reduceLT, Int.reduceToNat, Int.reduceLT, Int.reduceLE, Int.reduceEq, Int.reduceAdd, Int.reduceNeg, Int.reduceMul, Int.reduceSub]
    obtain ⟨r, hr, hkeys⟩ := keys_fn hvT hw
    refine Does.call hkeys (fr1 hvT.free) ?_
    simp -implicitDefEqProofs (disch := omega) only [h2, h3, h4, h5, mwx, ne_eq, false_implies, implies_true, forall_eq_or_imp, MW.get, ev, evs, argFr, resK, packV, slHK, partsV, partsS, setR, Int.cast_ofNat_Int, Int.natCast_zero, Int.natCast_one, Nat.reduceLeDiff, reduceIte, Nat.reduceEqDiff, Nat.reduceBEq, reduceCtorEq, Nat.reduceAdd, Nat.reduceMul, Nat.reduceSub, Nat.reduceLT, Int.reduceToNat, Int.reduceLT, Int.reduceLE, Int.reduceEq, Int.reduceAdd, Int.reduceNeg, Int.reduceMul, Int.reduceSub]
    refine xl_loop (fun m st => ∃ i : Nat, m + i = 128 ∧ get st.fr 3 = .bool true ∧ get st.fr 4 = .vs (plE.vs T) ∧ get st.fr 8 = r ∧ get st.fr 9 = .int .i64 (full (T.take i)) ∧ get st.fr 10 = .int .i64 i) 128
      ⟨0, by omega, h3, h4, rfl, rfl, rfl⟩ ?_
    rintro J hJ m fr H ⟨i, h1, h3, h4, h5, h6, h7⟩
    simp -implicitDefEqProofs (disch := omega) only [h4, h7, lenK_isE hvT, hTl, mwx, ne_eq, false_implies, implies_true, forall_eq_or_imp, MW.get, ev, evs, argFr, resK, packV, slHK, partsV, partsS, setR, Int.cast_ofNat_Int, Int.natCast_zero, Int.natCast_one, Nat.reduceLeDiff, reduceIte, Nat.reduceEqDiff, Nat.reduceBEq, reduceCtorEq, Nat.reduceAdd, Nat.reduceMul, Nat.reduceSub, Nat.reduceLT, Int.reduceToNat, Int.reduceLT, Int.reduceLE, Int.reduceEq, Int.reduceAdd, Int.reduceNeg, Int.reduceMul, Int.reduceSub]
    refine xc_dec (fun h10 => ?_) fun h10 => ?_
    · have hi0 : (0 : Int) ≤ (i : Int) := by omega
      have hi1 : (i : Int).toNat < T.length := by omega
      have hft := full_take (t := T) (i := i) (by omega)
      have hfle := full_take_le (t := T) i
      have hcnt := hw.cnt
      by_cases hk : keyAt T i = []
      · have g1 : (keyAt T i != []) = false := by rw [hk]; rfl
        rw [if_pos hk, Nat.add_zero] at hft
        simp -implicitDefEqProofs (disch := omega) only [h3, h4, h5, h6, h7, iaK_pl hvT hi0 hi1, g1, mwx, ne_eq, false_implies, implies_true, forall_eq_or_imp, MW.get, ev, evs, argFr, resK, packV, slHK, partsV, partsS, setR, Int.cast_ofNat_Int, Int.natCast_zero, Int.natCast_one, Nat.reduceLeDiff, reduceIte, Nat.reduceEqDiff, Nat.reduceBEq, reduceCtorEq, Nat.reduceAdd, Nat.reduceMul, Nat.reduceSub, Nat.reduceLT, Int.reduceToNat, Int.reduceLT, Int.reduceLE, Int.reduceEq, Int.reduceAdd, Int.reduceNeg, Int.reduceMul, Int.reduceSub]
        exact ⟨m - 1, by omega, hJ _ _ ⟨i + 1, by omega, h3, h4, h5, by rw [hft]; exact h6, rfl⟩⟩
      · have g1 : (keyAt T i != []) = true := by simpa using hk
        rw [if_neg hk] at hft
        simp -implicitDefEqProofs (disch := omega) only [h3, h4, h5, h6, h7, iaK_pl hvT hi0 hi1, g1, mwx, ne_eq, false_implies, implies_true, forall_eq_or_imp, MW.get, ev, evs, argFr, resK, packV, slHK, partsV, partsS, setR, Int.cast_ofNat_Int, Int.natCast_zero, Int.natCast_one, Nat.reduceLeDiff, reduceIte, Nat.reduceEqDiff, Nat.reduceBEq, reduceCtorEq, Nat.reduceAdd, Nat.reduceMul, Nat.reduceSub, Nat.reduceLT, Int.reduceToNat, Int.reduceLT, Int.reduceLE, Int.reduceEq, Int.reduceAdd, Int.reduceNeg, Int.reduceMul, Int.reduceSub]
        exact ⟨m - 1, by omega, hJ _ _ ⟨i + 1, by omega, h3, h4, h5, by rw [hft]; rfl, rfl⟩⟩
    · have ht : T.take i = T := List.take_of_length_le (by omega)
      rw [ht] at h6
      have hkl := keysT_length T
      simp -implicitDefEqProofs (disch := omega) only [h3, h4, h5, h6, h7, mwx, ne_eq, false_implies, implies_true, forall_eq_or_imp, MW.get, ev, evs, argFr, resK, packV, slHK, partsV, partsS, setR, Int.cast_ofNat_Int, Int.natCast_zero, Int.natCast_one, Nat.reduceLeDiff, reduceIte, Nat.reduceEqDiff, Nat.reduceBEq, reduceCtorEq, Nat.reduceAdd, Nat.reduceMul, Nat.reduceSub, Nat.reduceLT, Int.reduceToNat, Int.reduceLT, Int.reduceLE, Int.reduceEq, Int.reduceAdd, Int.reduceNeg, Int.reduceMul, Int.reduceSub]
      refine xl_loop (fun m st => ∃ i : Nat, m + i = full T ∧ get st.fr 3 = .bool true ∧ get st.fr 4 = .vs (plE.vs T) ∧ get st.fr 8 = r ∧ get st.fr 9 = .int .i64 (full T) ∧ get st.fr 11 = .int .i64 i) (full T)
        ⟨0, by omega, h3, h4, h5, h6, rfl⟩ ?_
      rintro J hJ m fr H ⟨i, h1, h3, h4, h5, h6, h7⟩
      simp -implicitDefEqProofs (disch := omega) only [h3, h4, h5, h6, h7, lenK_isE hr, hkl, mwx, ne_eq, false_implies, implies_true, forall_eq_or_imp, MW.get, ev, evs, argFr, resK, packV, slHK, partsV, partsS, setR, Int.cast_ofNat_Int, Int.natCast_zero, Int.natCast_one, Nat.reduceLeDiff, reduceIte, Nat.reduceEqDiff, Nat.reduceBEq, reduceCtorEq, Nat.reduceAdd, Nat.reduceMul, Nat.reduceSub, Nat.reduceLT, Int.reduceToNat, Int.reduceLT, Int.reduceLE, Int.reduceEq, Int.reduceAdd, Int.reduceNeg, Int.reduceMul, Int.reduceSub]
      have hcnt := hw.cnt
      refine xc_dec (fun h10 => ?_) fun h10 => ?_
      · have hi0 : (0 : Int) ≤ (i : Int) := by omega
        have hi1 : (i : Int).toNat < (keysT T).length := by omega
        obtain ⟨g1, g2, g3⟩ := keysT_key hw (i := i) (by omega)
        simp -implicitDefEqProofs (disch := omega) only [h3, h4, h5, h6, h7, iaK_str hr hi0 hi1, mwx, ne_eq, false_implies, implies_true, forall_eq_or_imp, MW.get, ev, evs, argFr, resK, packV, slHK, partsV, partsS, setR, Int.cast_ofNat_Int, Int.natCast_zero, Int.natCast_one, Nat.reduceLeDiff, reduceIte, Nat.reduceEqDiff, Nat.reduceBEq, reduceCtorEq, Nat.reduceAdd, Nat.reduceMul, Nat.reduceSub, Nat.reduceLT, Int.reduceToNat, Int.reduceLT, Int.reduceLE, Int.reduceEq, Int.reduceAdd, Int.reduceNeg, Int.reduceMul, Int.reduceSub]
        refine Does.call (had_fn hvT hw g3) (fr2 hvT.free (.str _)) ?_
        simp -implicitDefEqProofs (disch := omega) only [h3, h4, h5, h6, h7, iaK_str hr hi0 hi1, g1, mwx, ne_eq, false_implies, implies_true, forall_eq_or_imp, MW.get, ev, evs, argFr, resK, packV, slHK, partsV, partsS, setR, Int.cast_ofNat_Int, Int.natCast_zero, Int.natCast_one, Nat.reduceLeDiff, reduceIte, Nat.reduceEqDiff, Nat.reduceBEq, reduceCtorEq, Nat.reduceAdd, Nat.reduceMul, Nat.reduceSub, Nat.reduceLT, Int.reduceToNat, Int.reduceLT, Int.reduceLE, Int.reduceEq, Int.reduceAdd, Int.reduceNeg, Int.reduceMul, Int.reduceSub]
        refine Does.call (key_fn _) (fr1 (.str _)) ?_
        simp -implicitDefEqProofs (disch := omega) only [h3, h4, h5, h6, h7, g2, mwx, ne_eq, false_implies, implies_true, forall_eq_or_imp, MW.get, ev, evs, argFr, resK, packV, slHK, partsV, partsS, setR, Int.cast_ofNat_Int, Int.natCast_zero, Int.natCast_one, Nat.reduceLeDiff, reduceIte, Nat.reduceEqDiff, Nat.reduceBEq, reduceCtorEq, Nat.reduceAdd, Nat.reduceMul, Nat.reduceSub, Nat.reduceLT, Int.reduceToNat, Int.reduceLT, Int.reduceLE, Int.reduceEq, Int.reduceAdd, Int.reduceNeg, Int.reduceMul, Int.reduceSub]
        refine xg_dec (fun h11 => ?_) fun h11 => ?_
        · have hj0 : (0 : Int) ≤ (i : Int) - 1 := by omega
          have hj1 : ((i : Int) - 1).toNat < (keysT T).length := by omega
          have hj2 : ((i : Int) - 1).toNat = i - 1 := by omega
          have hlt := keysT_lt hw (i := i) (by omega) (by omega)
          simp -implicitDefEqProofs (disch := omega) only [h3, h4, h5, h6, h7, h11, iaK_str hr hi0 hi1, iaK_str hr hj0 hj1, hj2, hlt, mwx, ne_eq, false_implies, implies_true, forall_eq_or_imp, MW.get, ev, evs, argFr, resK, packV, slHK, partsV, partsS, setR, Int.cast_ofNat_Int, Int.natCast_zero, Int.natCast_one, Nat.reduceLeDiff, reduceIte, Nat.reduceEqDiff, Nat.reduceBEq, reduceCtorEq, Nat.reduceAdd, Nat.reduceMul, Nat.reduceSub, Nat.reduceLT, Int.reduceToNat, Int.reduceLT, Int.reduceLE, Int.reduceEq, Int.reduceAdd, Int.reduceNeg, Int.reduceMul, Int.reduceSub]
          exact ⟨m - 1, by omega, hJ _ _ ⟨i + 1, by omega, h3, h4, h5, h6, rfl⟩⟩
        · simp -implicitDefEqProofs (disch := omega) only [h3, h4, h5, h6, h7, h11, mwx, ne_eq, false_implies, implies_true, forall_eq_or_imp, MW.get, ev, evs, argFr, resK, packV, slHK, partsV, partsS, setR, Int.cast_ofNat_Int, Int.natCast_zero, Int.natCast_one, Nat.reduceLeDiff, reduceIte, Nat.reduceEqDiff, Nat.reduceBEq, reduceCtorEq, Nat.reduceAdd, Nat.reduceMul, Nat.reduceSub, Nat.reduceLT, Int.reduceToNat, Int.reduceLT, Int.reduceLE, Int.reduceEq, Int.reduceAdd, Int.reduceNeg, Int.reduceMul, Int.reduceSub]
          exact ⟨m - 1, by omega, hJ _ _ ⟨i + 1, by omega, h3, h4, h5, h6, rfl⟩⟩
      · have e2 : ((full T : Int) = (full T : Int)) = True := by simp
        simp -implicitDefEqProofs (disch := omega) only [h3, h4, h5, h6, h7, lenK_isE hr, hkl, e2, mwx, ne_eq, false_implies, implies_true, forall_eq_or_imp, MW.get, ev, evs, argFr, resK, packV, slHK, partsV, partsS, setR, Int.cast_ofNat_Int, Int.natCast_zero, Int.natCast_one, Nat.reduceLeDiff, reduceIte, Nat.reduceEqDiff, Nat.reduceBEq, reduceCtorEq, Nat.reduceAdd, Nat.reduceMul, Nat.reduceSub, Nat.reduceLT, Int.reduceToNat, Int.reduceLT, Int.reduceLE, Int.reduceEq, Int.reduceAdd, Int.reduceNeg, Int.reduceMul, Int.reduceSub]
        exact frz_bool rfl

end Go.Proofs.Ytgilodbgleogmaa

