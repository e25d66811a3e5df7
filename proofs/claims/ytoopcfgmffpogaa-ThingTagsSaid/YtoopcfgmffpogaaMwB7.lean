import Derived.Sort.Walk0
import Derived.Test.YtoopcfgmffpogaaProg
import Derived.Test.YtoopcfgmffpogaaMwB6
/- Thing (chapter 9): the calls at the head of all laws; the laws' own functions; what tags come to. -/
namespace Go.Proofs.Ytoopcfgmffpogaa
open Go Go.MW
set_option linter.unusedSimpArgs false
set_option linter.unusedVariables false
set_option maxRecDepth 8000

theorem ddL_perm {l l' : List (List UInt8)} (h : ∀ s, s ∈ l ↔ s ∈ l') : (ddL l).Perm (ddL l') :=
  (List.perm_ext_iff_of_nodup (ddL_nodup l) (ddL_nodup l')).2 fun s => by rw [ddL_mem, ddL_mem, h]

/-- Tags hang on what is among the texts alone. -/
theorem tagsT_congr {l l' : List (List UInt8)} (h : ∀ s, s ∈ l ↔ s ∈ l') : tagsT l = tagsT l' := by
  have hp := ddL_perm h
  have ha : l.all okT = l'.all okT := by
    rw [Bool.eq_iff_iff, List.all_eq_true, List.all_eq_true]
    exact ⟨fun g s hs => g s ((h s).2 hs), fun g s hs => g s ((h s).1 hs)⟩
  unfold tagsT
  rw [ha, hp.length_eq, srt_congr' hp]

theorem tagsT_ok {l : List (List UInt8)} (h : (tagsT l).2 = 0) : l.all okT = true ∧ (ddL l).length ≤ 3 ∧ (tagsT l).1 = srt (ddL l) ∧ ∀ s, s ∈ (tagsT l).1 ↔ s ∈ l := by
  unfold tagsT at h ⊢
  split at h
  · rename_i hc
    rw [if_pos hc]
    exact ⟨hc.1, hc.2, rfl, fun s => by rw [(srt_perm _).mem_iff, ddL_mem]⟩
  · simp at h

theorem tagsT_bad {l : List (List UInt8)} (h : (tagsT l).2 ≠ 0) : tagsT l = ([], 90) := by
  unfold tagsT at h ⊢
  split at h
  · simp at h
  · rename_i hc; rw [if_neg hc]

theorem tagsT_again {l : List (List UInt8)} (h : (tagsT l).2 = 0) : tagsT (tagsT l).1 = tagsT l := tagsT_congr fun s => (tagsT_ok h).2.2.2 s

def xA : List UInt8 := [97]
def xB : List UInt8 := [98]
theorem tags_aba : tagsT [[98], [97], [98]] = ([[97], [98]], 0) := by
  have h1 : srt (ddL [[98], [97], [98]]) = [[97], [98]] := by
    rw [srt_congr' (l' := [[97], [98]])]
    · exact List.mergeSort_of_pairwise (by decide)
    · exact List.Perm.swap _ _ _
  unfold tagsT
  rw [if_pos (by decide), h1]
theorem tags_none : tagsT [[]] = ([], 90) := by unfold tagsT; rw [if_neg (by decide)]
theorem tags_four : tagsT [[97], [98], [99], [100]] = ([], 90) := by unfold tagsT; rw [if_neg (by decide)]

theorem awake_fn : Does Try.prog G0 false 31 [] (.bool true) := by
  refine Does.intro mixed comp31 ?_
  unfold c31
  have v1 := isE_vs (e := strE) [[98], [97], [98]]
  have v2 := isE_vs (e := strE) [[]]
  have v3 := isE_vs (e := strE) [[97], [98], [99], [100]]
  have v4 := isE_vs (e := strE) [[97], [98]]
  have t1 := tags_fn v1 (by decide)
  have t2 := tags_fn v2 (by decide)
  have t3 := tags_fn v3 (by decide)
  have r1 : tagsR [[98], [97], [98]] = .vs (strE.vs [[97], [98]]) := by unfold tagsR; rw [tags_aba]; rfl
  have r2 : tagsR [[]] = .nils := by unfold tagsR; rw [tags_none]; rfl
  have r3 : tagsR [[97], [98], [99], [100]] = .nils := by unfold tagsR; rw [tags_four]; rfl
  rw [r1, tags_aba] at t1
  rw [r2, tags_none] at t2
  rw [r3, tags_four] at t3
  simp -implicitDefEqProofs (disch := omega) only [mwx, ne_eq, false_implies, implies_true, forall_eq_or_imp, MW.get, ev, evs, argFr, resK, packV, slHK, partsV, partsS, setR, Int.cast_ofNat_Int, Int.natCast_zero, Int.natCast_one, Nat.reduceLeDiff, reduceIte, Nat.reduceEqDiff, Nat.reduceBEq, reduceCtorEq, Nat.reduceAdd, Nat.reduceMul, Nat.reduceSub, Nat.reduceLT, Int.reduceToNat, Int.reduceLT, Int.reduceLE, Int.reduceEq, Int.reduceAdd, Int.reduceNeg, Int.reduceMul, Int.reduceSub]
  refine Does.callB t1 (frzs1 (frz_rowE (e := strE) (l := [[98], [97], [98]]) rfl (fun h => by cases h) rfl rfl rfl)) ?_
  simp -implicitDefEqProofs (disch := omega) only [mwx, ne_eq, false_implies, implies_true, forall_eq_or_imp, MW.get, ev, evs, argFr, resK, packV, slHK, partsV, partsS, setR, Int.cast_ofNat_Int, Int.natCast_zero, Int.natCast_one, Nat.reduceLeDiff, reduceIte, Nat.reduceEqDiff, Nat.reduceBEq, reduceCtorEq, Nat.reduceAdd, Nat.reduceMul, Nat.reduceSub, Nat.reduceLT, Int.reduceToNat, Int.reduceLT, Int.reduceLE, Int.reduceEq, Int.reduceAdd, Int.reduceNeg, Int.reduceMul, Int.reduceSub]
  refine Does.callB t2 (frzs1 (frz_rowE (e := strE) (l := [[]]) rfl (fun h => by cases h) rfl rfl rfl)) ?_
  simp -implicitDefEqProofs (disch := omega) only [mwx, ne_eq, false_implies, implies_true, forall_eq_or_imp, MW.get, ev, evs, argFr, resK, packV, slHK, partsV, partsS, setR, Int.cast_ofNat_Int, Int.natCast_zero, Int.natCast_one, Nat.reduceLeDiff, reduceIte, Nat.reduceEqDiff, Nat.reduceBEq, reduceCtorEq, Nat.reduceAdd, Nat.reduceMul, Nat.reduceSub, Nat.reduceLT, Int.reduceToNat, Int.reduceLT, Int.reduceLE, Int.reduceEq, Int.reduceAdd, Int.reduceNeg, Int.reduceMul, Int.reduceSub]
  refine Does.callB t3 (frzs1 (frz_rowE (e := strE) (l := [[97], [98], [99], [100]]) rfl (fun h => by cases h) rfl rfl rfl)) ?_
  have k1 : keyOK [97] = true := by decide
  have k2 : keyOK [] = false := by decide
  have k3 : keyOK [48, 49, 50, 51, 52, 53, 54, 55, 56, 57, 97, 98, 99, 100, 101, 102] = true := by decide
  have k4 : keyOK [48, 49, 50, 51, 52, 53, 54, 55, 56, 57, 97, 98, 99, 100, 101, 102, 103] = false := by decide
  simp -implicitDefEqProofs (disch := omega) only [mwx, ne_eq, false_implies, implies_true, forall_eq_or_imp, MW.get, ev, evs, argFr, resK, packV, slHK, partsV, partsS, setR, Int.cast_ofNat_Int, Int.natCast_zero, Int.natCast_one, Nat.reduceLeDiff, reduceIte, Nat.reduceEqDiff, Nat.reduceBEq, reduceCtorEq, Nat.reduceAdd, Nat.reduceMul, Nat.reduceSub, Nat.reduceLT, Int.reduceToNat, Int.reduceLT, Int.reduceLE, Int.reduceEq, Int.reduceAdd, Int.reduceNeg, Int.reduceMul, Int.reduceSub]
  refine Does.call (key_fn _) (fr1 (.str _)) ?_
  simp -implicitDefEqProofs (disch := omega) only [k1, mwx, ne_eq, false_implies, implies_true, forall_eq_or_imp, MW.get, ev, evs, argFr, resK, packV, slHK, partsV, partsS, setR, Int.cast_ofNat_Int, Int.natCast_zero, Int.natCast_one, Nat.reduceLeDiff, reduceIte, Nat.reduceEqDiff, Nat.reduceBEq, reduceCtorEq, Nat.reduceAdd, Nat.reduceMul, Nat.reduceSub, Nat.reduceLT, Int.reduceToNat, Int.reduceLT, Int.reduceLE, Int.reduceEq, Int.reduceAdd, Int.reduceNeg, Int.reduceMul, Int.reduceSub]
  refine Does.call (key_fn _) (fr1 (.str _)) ?_
  simp -implicitDefEqProofs (disch := omega) only [k2, mwx, ne_eq, false_implies, implies_true, forall_eq_or_imp, MW.get, ev, evs, argFr, resK, packV, slHK, partsV, partsS, setR, Int.cast_ofNat_Int, Int.natCast_zero, Int.natCast_one, Nat.reduceLeDiff, reduceIte, Nat.reduceEqDiff, Nat.reduceBEq, reduceCtorEq, Nat.reduceAdd, Nat.reduceMul, Nat.reduceSub, Nat.reduceLT, Int.reduceToNat, Int.reduceLT, Int.reduceLE, Int.reduceEq, Int.reduceAdd, Int.reduceNeg, Int.reduceMul, Int.reduceSub]
  refine Does.call (key_fn _) (fr1 (.str _)) ?_
  simp -implicitDefEqProofs (disch := omega) only [k3, mwx, ne_eq, false_implies, implies_true, forall_eq_or_imp, MW.get, ev, evs, argFr, resK, packV, slHK, partsV, partsS, setR, Int.cast_ofNat_Int, Int.natCast_zero, Int.natCast_one, Nat.reduceLeDiff, reduceIte, Nat.reduceEqDiff, Nat.reduceBEq, reduceCtorEq, Nat.reduceAdd, Nat.reduceMul, Nat.reduceSub, Nat.reduceLT, Int.reduceToNat, Int.reduceLT, Int.reduceLE, Int.reduceEq, Int.reduceAdd, Int.reduceNeg, Int.reduceMul, Int.reduceSub]
  refine Does.call (key_fn _) (fr1 (.str _)) ?_
  simp -implicitDefEqProofs (disch := omega) only [k4, mwx, ne_eq, false_implies, implies_true, forall_eq_or_imp, MW.get, ev, evs, argFr, resK, packV, slHK, partsV, partsS, setR, Int.cast_ofNat_Int, Int.natCast_zero, Int.natCast_one, Nat.reduceLeDiff, reduceIte, Nat.reduceEqDiff, Nat.reduceBEq, reduceCtorEq, Nat.reduceAdd, Nat.reduceMul, Nat.reduceSub, Nat.reduceLT, Int.reduceToNat, Int.reduceLT, Int.reduceLE, Int.reduceEq, Int.reduceAdd, Int.reduceNeg, Int.reduceMul, Int.reduceSub]
  refine Does.callB (same7_fn v4 v4 (by decide)) (frzs2 (.free v4.free) (frz_rowE (e := strE) (l := [[97], [98]]) rfl (fun h => by cases h) rfl rfl rfl)) ?_
  simp -implicitDefEqProofs (disch := omega) only [mwx, ne_eq, false_implies, implies_true, forall_eq_or_imp, MW.get, ev, evs, argFr, resK, packV, slHK, partsV, partsS, setR, Int.cast_ofNat_Int, Int.natCast_zero, Int.natCast_one, Nat.reduceLeDiff, reduceIte, Nat.reduceEqDiff, Nat.reduceBEq, reduceCtorEq, Nat.reduceAdd, Nat.reduceMul, Nat.reduceSub, Nat.reduceLT, Int.reduceToNat, Int.reduceLT, Int.reduceLE, Int.reduceEq, Int.reduceAdd, Int.reduceNeg, Int.reduceMul, Int.reduceSub]
  have h1 : hash [] = 14695981039346656037 := rfl
  have h2 : hash [97] = 12638187200555641996 := by decide +kernel
  have h3 : homeN [97] 10 = 6 := by unfold homeN; rw [h2]; rfl
  have h4 : homeN [97] 0 = 0 := rfl
  refine Does.call (hash_fn [] (by decide)) (fr1 (.str _)) ?_
  simp -implicitDefEqProofs (disch := omega) only [h1, mwx, ne_eq, false_implies, implies_true, forall_eq_or_imp, MW.get, ev, evs, argFr, resK, packV, slHK, partsV, partsS, setR, Int.cast_ofNat_Int, Int.natCast_zero, Int.natCast_one, Nat.reduceLeDiff, reduceIte, Nat.reduceEqDiff, Nat.reduceBEq, reduceCtorEq, Nat.reduceAdd, Nat.reduceMul, Nat.reduceSub, Nat.reduceLT, Int.reduceToNat, Int.reduceLT, Int.reduceLE, Int.reduceEq, Int.reduceAdd, Int.reduceNeg, Int.reduceMul, Int.reduceSub]
  refine Does.call (hash_fn [97] (by decide)) (fr1 (.str _)) ?_
  simp -implicitDefEqProofs (disch := omega) only [h2, mwx, ne_eq, false_implies, implies_true, forall_eq_or_imp, MW.get, ev, evs, argFr, resK, packV, slHK, partsV, partsS, setR, Int.cast_ofNat_Int, Int.natCast_zero, Int.natCast_one, Nat.reduceLeDiff, reduceIte, Nat.reduceEqDiff, Nat.reduceBEq, reduceCtorEq, Nat.reduceAdd, Nat.reduceMul, Nat.reduceSub, Nat.reduceLT, Int.reduceToNat, Int.reduceLT, Int.reduceLE, Int.reduceEq, Int.reduceAdd, Int.reduceNeg, Int.reduceMul, Int.reduceSub]
  refine Does.call (thomeN_fn [97] (by decide) 10 (by decide)) (fr2 (.str _) (.int _ _)) ?_
  simp -implicitDefEqProofs (disch := omega) only [h3, mwx, ne_eq, false_implies, implies_true, forall_eq_or_imp, MW.get, ev, evs, argFr, resK, packV, slHK, partsV, partsS, setR, Int.cast_ofNat_Int, Int.natCast_zero, Int.natCast_one, Nat.reduceLeDiff, reduceIte, Nat.reduceEqDiff, Nat.reduceBEq, reduceCtorEq, Nat.reduceAdd, Nat.reduceMul, Nat.reduceSub, Nat.reduceLT, Int.reduceToNat, Int.reduceLT, Int.reduceLE, Int.reduceEq, Int.reduceAdd, Int.reduceNeg, Int.reduceMul, Int.reduceSub]
  refine Does.call (thomeN_fn [97] (by decide) 0 (by decide)) (fr2 (.str _) (.int _ _)) ?_
  simp -implicitDefEqProofs (disch := omega) only [h4, mwx, ne_eq, false_implies, implies_true, forall_eq_or_imp, MW.get, ev, evs, argFr, resK, packV, slHK, partsV, partsS, setR, Int.cast_ofNat_Int, Int.natCast_zero, Int.natCast_one, Nat.reduceLeDiff, reduceIte, Nat.reduceEqDiff, Nat.reduceBEq, reduceCtorEq, Nat.reduceAdd, Nat.reduceMul, Nat.reduceSub, Nat.reduceLT, Int.reduceToNat, Int.reduceLT, Int.reduceLE, Int.reduceEq, Int.reduceAdd, Int.reduceNeg, Int.reduceMul, Int.reduceSub]
  exact frz_bool rfl

/-- At most so many texts, of a thousand bytes. -/
def few7 (l : List (List UInt8)) (m : Int) : Bool := decide (∀ s ∈ l, s.length ≤ 1000) && decide ((l.length : Int) ≤ m)
theorem few7_fn {v : V} {l : List (List UInt8)} (hv : IsE strE v l) (hl : l.length ≤ maxLen) (m : Int) : Does Try.prog G0 false 32 [v, .int .i64 m] (.bool (few7 l m)) := by
  have hl' : l.length ≤ 9223372036854775807 := hl
  refine Does.intro mixed comp32 ?_
  unfold c32
  simp -implicitDefEqProofs (disch := omega) only [mwx, ne_eq, false_implies, implies_true, forall_eq_or_imp, MW.get, ev, evs, argFr, resK, packV, slHK, partsV, partsS, setR, Int.cast_ofNat_Int, Int.natCast_zero, Int.natCast_one, Nat.reduceLeDiff, reduceIte, Nat.reduceEqDiff, Nat.reduceBEq, reduceCtorEq, Nat.reduceAdd, Nat.reduceMul, Nat.reduceSub, Nat.reduceLT, Int.reduceToNat, Int.reduceLT, Int.reduceLE, Int.reduceEq, Int.reduceAdd, Int.reduceNeg, Int.reduceMul, Int.reduceSub]
  refine xl_loop (fun k st => ∃ i : Nat, k + i = l.length ∧ get st.fr 0 = v ∧ get st.fr 1 = .int .i64 m ∧ get st.fr 5 = .int .i64 i ∧ ∀ j, j < i → (l.getD j []).length ≤ 1000) l.length ⟨0, by omega, rfl, rfl, rfl, by omega⟩ ?_
  rintro J hJ k fr H ⟨i, h1, h2, h3, h4, h5⟩
  simp -implicitDefEqProofs (disch := omega) only [h2, h3, h4, lenK_isE hv, mwx, ne_eq, false_implies, implies_true, forall_eq_or_imp, MW.get, ev, evs, argFr, resK, packV, slHK, partsV, partsS, setR, Int.cast_ofNat_Int, Int.natCast_zero, Int.natCast_one, Nat.reduceLeDiff, reduceIte, Nat.reduceEqDiff, Nat.reduceBEq, reduceCtorEq, Nat.reduceAdd, Nat.reduceMul, Nat.reduceSub, Nat.reduceLT, Int.reduceToNat, Int.reduceLT, Int.reduceLE, Int.reduceEq, Int.reduceAdd, Int.reduceNeg, Int.reduceMul, Int.reduceSub]
  refine xc_dec (fun h6 => ?_) fun h6 => ?_
  · have hi : i < l.length := by omega
    have hi0 : (0 : Int) ≤ (i : Int) := by omega
    have hi1 : (i : Int).toNat < l.length := by omega
    simp -implicitDefEqProofs (disch := omega) only [h2, h3, h4, iaK_str hv hi0 hi1, mwx, ne_eq, false_implies, implies_true, forall_eq_or_imp, MW.get, ev, evs, argFr, resK, packV, slHK, partsV, partsS, setR, Int.cast_ofNat_Int, Int.natCast_zero, Int.natCast_one, Nat.reduceLeDiff, reduceIte, Nat.reduceEqDiff, Nat.reduceBEq, reduceCtorEq, Nat.reduceAdd, Nat.reduceMul, Nat.reduceSub, Nat.reduceLT, Int.reduceToNat, Int.reduceLT, Int.reduceLE, Int.reduceEq, Int.reduceAdd, Int.reduceNeg, Int.reduceMul, Int.reduceSub]
    refine xc_dec (fun h7 => ?_) fun h7 => ?_
    · simp -implicitDefEqProofs (disch := omega) only [mwx, ne_eq, false_implies, implies_true, forall_eq_or_imp, MW.get, ev, evs, argFr, resK, packV, slHK, partsV, partsS, setR, Int.cast_ofNat_Int, Int.natCast_zero, Int.natCast_one, Nat.reduceLeDiff, reduceIte, Nat.reduceEqDiff, Nat.reduceBEq, reduceCtorEq, Nat.reduceAdd, Nat.reduceMul, Nat.reduceSub, Nat.reduceLT, Int.reduceToNat, Int.reduceLT, Int.reduceLE, Int.reduceEq, Int.reduceAdd, Int.reduceNeg, Int.reduceMul, Int.reduceSub]
      refine frz_bool ?_
      symm
      unfold few7
      rw [Bool.and_eq_false_iff]
      refine .inl (decide_eq_false fun hh => ?_)
      have hm : l.getD i [] ∈ l := by rw [List.getD_eq_getElem?_getD, List.getElem?_eq_getElem hi]; exact List.getElem_mem hi
      have := hh _ hm
      omega
    · simp -implicitDefEqProofs (disch := omega) only [h2, h3, h4, mwx, ne_eq, false_implies, implies_true, forall_eq_or_imp, MW.get, ev, evs, argFr, resK, packV, slHK, partsV, partsS, setR, Int.cast_ofNat_Int, Int.natCast_zero, Int.natCast_one, Nat.reduceLeDiff, reduceIte, Nat.reduceEqDiff, Nat.reduceBEq, reduceCtorEq, Nat.reduceAdd, Nat.reduceMul, Nat.reduceSub, Nat.reduceLT, Int.reduceToNat, Int.reduceLT, Int.reduceLE, Int.reduceEq, Int.reduceAdd, Int.reduceNeg, Int.reduceMul, Int.reduceSub]
      exact ⟨k - 1, by omega, hJ _ _ ⟨i + 1, by omega, h2, h3, rfl, fun j hj => by
        by_cases hji : j = i
        · subst hji; omega
        · exact h5 j (by omega)⟩⟩
  · simp -implicitDefEqProofs (disch := omega) only [h2, h3, lenK_isE hv, mwx, ne_eq, false_implies, implies_true, forall_eq_or_imp, MW.get, ev, evs, argFr, resK, packV, slHK, partsV, partsS, setR, Int.cast_ofNat_Int, Int.natCast_zero, Int.natCast_one, Nat.reduceLeDiff, reduceIte, Nat.reduceEqDiff, Nat.reduceBEq, reduceCtorEq, Nat.reduceAdd, Nat.reduceMul, Nat.reduceSub, Nat.reduceLT, Int.reduceToNat, Int.reduceLT, Int.reduceLE, Int.reduceEq, Int.reduceAdd, Int.reduceNeg, Int.reduceMul, Int.reduceSub]
    refine frz_bool ?_
    unfold few7
    rw [decide_eq_true (p := ∀ s ∈ l, s.length ≤ 1000), Bool.true_and]
    intro s hs
    obtain ⟨j, hj, rfl⟩ := List.getElem_of_mem hs
    have := h5 j (by omega)
    rwa [List.getD_eq_getElem?_getD, List.getElem?_eq_getElem hj] at this
theorem few7_spec {l : List (List UInt8)} {m : Int} (h : few7 l m = true) : (∀ s ∈ l, s.length ≤ 1000) ∧ (l.length : Int) ≤ m := by
  unfold few7 at h
  simpa using h

theorem has_fn {v : V} {l : List (List UInt8)} (hv : IsE strE v l) (hl : l.length ≤ 1000000) (s : List UInt8) : Does Try.prog G0 false 42 [v, .str s] (.bool (decide (s ∈ l))) := by
  refine Does.intro mixed comp42 ?_
  unfold c42
  simp -implicitDefEqProofs (disch := omega) only [mwx, ne_eq, false_implies, implies_true, forall_eq_or_imp, MW.get, ev, evs, argFr, resK, packV, slHK, partsV, partsS, setR, Int.cast_ofNat_Int, Int.natCast_zero, Int.natCast_one, Nat.reduceLeDiff, reduceIte, Nat.reduceEqDiff, Nat.reduceBEq, reduceCtorEq, Nat.reduceAdd, Nat.reduceMul, Nat.reduceSub, Nat.reduceLT, Int.reduceToNat, Int.reduceLT, Int.reduceLE, Int.reduceEq, Int.reduceAdd, Int.reduceNeg, Int.reduceMul, Int.reduceSub]
  refine xl_loop (fun k st => ∃ i : Nat, k + i = l.length ∧ get st.fr 0 = v ∧ get st.fr 1 = .str s ∧ get st.fr 5 = .int .i64 i ∧ ∀ j, j < i → l.getD j [] ≠ s) l.length ⟨0, by omega, rfl, rfl, rfl, by omega⟩ ?_
  rintro J hJ k fr H ⟨i, h1, h2, h3, h4, h5⟩
  simp -implicitDefEqProofs (disch := omega) only [h2, h3, h4, lenK_isE hv, mwx, ne_eq, false_implies, implies_true, forall_eq_or_imp, MW.get, ev, evs, argFr, resK, packV, slHK, partsV, partsS, setR, Int.cast_ofNat_Int, Int.natCast_zero, Int.natCast_one, Nat.reduceLeDiff, reduceIte, Nat.reduceEqDiff, Nat.reduceBEq, reduceCtorEq, Nat.reduceAdd, Nat.reduceMul, Nat.reduceSub, Nat.reduceLT, Int.reduceToNat, Int.reduceLT, Int.reduceLE, Int.reduceEq, Int.reduceAdd, Int.reduceNeg, Int.reduceMul, Int.reduceSub]
  refine xc_dec (fun h6 => ?_) fun h6 => ?_
  · have hi : i < l.length := by omega
    have hi0 : (0 : Int) ≤ (i : Int) := by omega
    have hi1 : (i : Int).toNat < l.length := by omega
    simp -implicitDefEqProofs (disch := omega) only [h2, h3, h4, iaK_str hv hi0 hi1, mwx, ne_eq, false_implies, implies_true, forall_eq_or_imp, MW.get, ev, evs, argFr, resK, packV, slHK, partsV, partsS, setR, Int.cast_ofNat_Int, Int.natCast_zero, Int.natCast_one, Nat.reduceLeDiff, reduceIte, Nat.reduceEqDiff, Nat.reduceBEq, reduceCtorEq, Nat.reduceAdd, Nat.reduceMul, Nat.reduceSub, Nat.reduceLT, Int.reduceToNat, Int.reduceLT, Int.reduceLE, Int.reduceEq, Int.reduceAdd, Int.reduceNeg, Int.reduceMul, Int.reduceSub]
    refine xc_any (fun h7 => ?_) fun h7 => ?_
    · simp -implicitDefEqProofs (disch := omega) only [mwx, ne_eq, false_implies, implies_true, forall_eq_or_imp, MW.get, ev, evs, argFr, resK, packV, slHK, partsV, partsS, setR, Int.cast_ofNat_Int, Int.natCast_zero, Int.natCast_one, Nat.reduceLeDiff, reduceIte, Nat.reduceEqDiff, Nat.reduceBEq, reduceCtorEq, Nat.reduceAdd, Nat.reduceMul, Nat.reduceSub, Nat.reduceLT, Int.reduceToNat, Int.reduceLT, Int.reduceLE, Int.reduceEq, Int.reduceAdd, Int.reduceNeg, Int.reduceMul, Int.reduceSub]
      refine frz_bool (Eq.symm (decide_eq_true ?_))
      have hm : l.getD i [] ∈ l := by rw [List.getD_eq_getElem?_getD, List.getElem?_eq_getElem hi]; exact List.getElem_mem hi
      rwa [show l.getD i [] = s by simpa using h7] at hm
    · simp -implicitDefEqProofs (disch := omega) only [h2, h3, h4, mwx, ne_eq, false_implies, implies_true, forall_eq_or_imp, MW.get, ev, evs, argFr, resK, packV, slHK, partsV, partsS, setR, Int.cast_ofNat_Int, Int.natCast_zero, Int.natCast_one, Nat.reduceLeDiff, reduceIte, Nat.reduceEqDiff, Nat.reduceBEq, reduceCtorEq, Nat.reduceAdd, Nat.reduceMul, Nat.reduceSub, Nat.reduceLT, Int.reduceToNat, Int.reduceLT, Int.reduceLE, Int.reduceEq, Int.reduceAdd, Int.reduceNeg, Int.reduceMul, Int.reduceSub]
      exact ⟨k - 1, by omega, hJ _ _ ⟨i + 1, by omega, h2, h3, rfl, fun j hj => by
        by_cases hji : j = i
        · subst hji; simpa using h7
        · exact h5 j (by omega)⟩⟩
  · simp -implicitDefEqProofs (disch := omega) only [mwx, ne_eq, false_implies, implies_true, forall_eq_or_imp, MW.get, ev, evs, argFr, resK, packV, slHK, partsV, partsS, setR, Int.cast_ofNat_Int, Int.natCast_zero, Int.natCast_one, Nat.reduceLeDiff, reduceIte, Nat.reduceEqDiff, Nat.reduceBEq, reduceCtorEq, Nat.reduceAdd, Nat.reduceMul, Nat.reduceSub, Nat.reduceLT, Int.reduceToNat, Int.reduceLT, Int.reduceLE, Int.reduceEq, Int.reduceAdd, Int.reduceNeg, Int.reduceMul, Int.reduceSub]
    refine frz_bool (Eq.symm (decide_eq_false ?_))
    intro hs
    obtain ⟨j, hj, rfl⟩ := List.getElem_of_mem hs
    have := h5 j (by omega)
    rw [List.getD_eq_getElem?_getD, List.getElem?_eq_getElem hj] at this
    exact this rfl

end Go.Proofs.Ytoopcfgmffpogaa

/- Thing (chapter 9): ThingHash, ThingHome. -/
namespace Go.Proofs.Ytoopcfgmffpogaa
open Go Go.MW
set_option linter.unusedSimpArgs false
set_option linter.unusedVariables false
set_option maxRecDepth 8000

theorem u8V_inj {a b : UInt8} (h : u8V a = u8V b) : a = b := by
  unfold u8V at h
  injection h with _ h
  exact UInt8.toNat_inj.1 (by omega)
theorem bytesK_map (s : List UInt8) {K : V → Prop} : bytesK (s.map u8V) K = K (.str s) := by
  apply propext
  unfold bytesK
  constructor
  · rintro ⟨t, h1, h2⟩
    have : s = t := by
      clear h2
      induction s generalizing t with
      | nil => cases t with
        | nil => rfl
        | cons a t => cases h1
      | cons b l ih => cases t with
        | nil => cases h1
        | cons a t =>
          simp only [List.map_cons, List.cons.injEq] at h1
          rw [u8V_inj h1.1, ih t h1.2]
    rw [this]; exact h2
  · intro h; exact ⟨s, rfl, h⟩
theorem u8_ofNat {n : Nat} (h : n < 256) : (UInt8.ofNat n).toNat = n := by simp [UInt8.toNat_ofNat]; omega
theorem bytesK_one {n : Nat} (h : n < 256) {K : V → Prop} : bytesK [.int .u8 (n : Int)] K = K (.str [UInt8.ofNat n]) := by
  have := bytesK_map [UInt8.ofNat n] (K := K)
  simpa only [List.map_cons, List.map_nil, u8V, u8_ofNat h] using this

theorem hash_snoc (k : List UInt8) (c : UInt8) : hash (k ++ [c]) = hstep (hash k) c := by
  unfold hash
  rw [List.foldl_append]
  rfl

theorem mul_inv {M P Q z : Nat} (h : P * Q % M = 1) (hz : z < M) : z * P % M * Q % M = z := by
  have e1 : z * P % M * Q % M = z * P * Q % M := by rw [Nat.mul_mod, Nat.mod_mod, ← Nat.mul_mod]
  rw [e1, Nat.mul_assoc, Nat.mul_mod, h, Nat.mul_one, Nat.mod_mod, Nat.mod_eq_of_lt hz]
theorem mul_inj {x y : Nat} (hx : x < 18446744073709551616) (hy : y < 18446744073709551616) (h : x * 1099511628211 % 18446744073709551616 = y * 1099511628211 % 18446744073709551616) : x = y := by
  have hp : 1099511628211 * 14886173955864302971 % 18446744073709551616 = 1 := by decide +kernel
  rw [← mul_inv hp hx, h, mul_inv hp hy]

theorem xor_val (n : Int) (a : Nat) : bitOp .xor .u64 n (a : Int) = ((BitVec.ofInt 64 n ^^^ BitVec.ofInt 64 (a : Int)).toNat : Int) := by
  show IntKind.u64.wrap ((BitVec.ofInt 64 n ^^^ BitVec.ofInt 64 (a : Int)).toNat : Int) = _
  exact wrap_u64' (BitVec.isLt _)
theorem small_bits {a : Nat} (h : a < 256) : (BitVec.ofInt 64 (a : Int)).toNat = a := by
  rw [BitVec.ofInt_natCast, BitVec.toNat_ofNat]
  exact Nat.mod_eq_of_lt (Nat.lt_trans h (by decide))
theorem xor_inj {x a b : BitVec 64} (h : x ^^^ a = x ^^^ b) : a = b := by
  have := congrArg (fun z => x ^^^ z) h
  simpa [← BitVec.xor_assoc] using this
theorem hstep_val (n : Int) (a : UInt8) : hstep n a = (((BitVec.ofInt 64 n ^^^ BitVec.ofInt 64 (a.toNat : Int)).toNat * 1099511628211 % 18446744073709551616 : Nat) : Int) := by
  unfold hstep
  rw [xor_val, wrap_u64i]
  generalize (BitVec.ofInt 64 n ^^^ BitVec.ofInt 64 (a.toNat : Int)).toNat = x
  omega
theorem hstep_inj {n : Int} {a b : UInt8} (h : hstep n a = hstep n b) : a = b := by
  rw [hstep_val, hstep_val] at h
  have h' := Int.ofNat.inj h
  have e := mul_inj (BitVec.isLt _) (BitVec.isLt _) h'
  have e3 := xor_inj (BitVec.eq_of_toNat_eq e)
  have e4 := congrArg BitVec.toNat e3
  rw [small_bits a.toNat_lt, small_bits b.toNat_lt] at e4
  exact UInt8.toNat_inj.1 e4

theorem hash_law (k : List UInt8) (a b : Nat) (ha : a < 256) (hb : b < 256) : Does Try.prog G0 true 12 [.str k, .int .u8 a, .int .u8 b] (.bool true) := by
  refine Does.intro mixed comp12 ?_
  unfold c12
  simp -implicitDefEqProofs (disch := omega) only [mwx, ne_eq, false_implies, implies_true, forall_eq_or_imp, MW.get, ev, evs, argFr, resK, packV, slHK, partsV, partsS, setR, Int.cast_ofNat_Int, Int.natCast_zero, Int.natCast_one, Nat.reduceLeDiff, reduceIte, Nat.reduceEqDiff, Nat.reduceBEq, reduceCtorEq, Nat.reduceAdd, Nat.reduceMul, Nat.reduceSub, Nat.reduceLT, Int.reduceToNat, Int.reduceLT, Int.reduceLE, Int.reduceEq, Int.reduceAdd, Int.reduceNeg, Int.reduceMul, Int.reduceSub]
  refine Does.call awake_fn (by simp) ?_
  by_cases hk : (1000 : Int) < (k.length : Int)
  · simp -implicitDefEqProofs (disch := omega) only [hk, mwx, ne_eq, false_implies, implies_true, forall_eq_or_imp, MW.get, ev, evs, argFr, resK, packV, slHK, partsV, partsS, setR, Int.cast_ofNat_Int, Int.natCast_zero, Int.natCast_one, Nat.reduceLeDiff, reduceIte, Nat.reduceEqDiff, Nat.reduceBEq, reduceCtorEq, Nat.reduceAdd, Nat.reduceMul, Nat.reduceSub, Nat.reduceLT, Int.reduceToNat, Int.reduceLT, Int.reduceLE, Int.reduceEq, Int.reduceAdd, Int.reduceNeg, Int.reduceMul, Int.reduceSub]
    exact frz_bool rfl
  simp -implicitDefEqProofs (disch := omega) only [hk, mwx, ne_eq, false_implies, implies_true, forall_eq_or_imp, MW.get, ev, evs, argFr, resK, packV, slHK, partsV, partsS, setR, Int.cast_ofNat_Int, Int.natCast_zero, Int.natCast_one, Nat.reduceLeDiff, reduceIte, Nat.reduceEqDiff, Nat.reduceBEq, reduceCtorEq, Nat.reduceAdd, Nat.reduceMul, Nat.reduceSub, Nat.reduceLT, Int.reduceToNat, Int.reduceLT, Int.reduceLE, Int.reduceEq, Int.reduceAdd, Int.reduceNeg, Int.reduceMul, Int.reduceSub]
  refine Does.call (hash_fn k (by omega)) (fr1 (.str _)) ?_
  have b1 := @bytesK_one a ha
  have b2 := @bytesK_one b hb
  have l1 : (k ++ [UInt8.ofNat a]).length ≤ 1000000 := by simp; omega
  have l2 : (k ++ [UInt8.ofNat b]).length ≤ 1000000 := by simp; omega
  have l3 : k.length + 1 < 2 ^ 63 := by omega
  simp -implicitDefEqProofs (disch := omega) only [b1, l3, mwx, ne_eq, false_implies, implies_true, forall_eq_or_imp, MW.get, ev, evs, argFr, resK, packV, slHK, partsV, partsS, setR, Int.cast_ofNat_Int, Int.natCast_zero, Int.natCast_one, Nat.reduceLeDiff, reduceIte, Nat.reduceEqDiff, Nat.reduceBEq, reduceCtorEq, Nat.reduceAdd, Nat.reduceMul, Nat.reduceSub, Nat.reduceLT, Int.reduceToNat, Int.reduceLT, Int.reduceLE, Int.reduceEq, Int.reduceAdd, Int.reduceNeg, Int.reduceMul, Int.reduceSub]
  refine Does.call (hash_fn (k ++ [UInt8.ofNat a]) l1) (fr1 (.str _)) ?_
  simp -implicitDefEqProofs (disch := omega) only [b2, l3, mwx, ne_eq, false_implies, implies_true, forall_eq_or_imp, MW.get, ev, evs, argFr, resK, packV, slHK, partsV, partsS, setR, Int.cast_ofNat_Int, Int.natCast_zero, Int.natCast_one, Nat.reduceLeDiff, reduceIte, Nat.reduceEqDiff, Nat.reduceBEq, reduceCtorEq, Nat.reduceAdd, Nat.reduceMul, Nat.reduceSub, Nat.reduceLT, Int.reduceToNat, Int.reduceLT, Int.reduceLE, Int.reduceEq, Int.reduceAdd, Int.reduceNeg, Int.reduceMul, Int.reduceSub]
  refine Does.call (hash_fn (k ++ [UInt8.ofNat b]) l2) (fr1 (.str _)) ?_
  have w1 : IntKind.u64.wrap (a : Int) = a := by rw [wrap_u64i]; omega
  have e1 : IntKind.u64.wrap (bitOp .xor .u64 (hash k) (a : Int) * 1099511628211) = hash (k ++ [UInt8.ofNat a]) := by
    rw [hash_snoc, hstep, u8_ofNat ha]
  have e2 : (hash (k ++ [UInt8.ofNat a]) = hash (k ++ [UInt8.ofNat a])) = True := by simp
  simp -implicitDefEqProofs (disch := omega) only [w1, e1, e2, mwx, ne_eq, false_implies, implies_true, forall_eq_or_imp, MW.get, ev, evs, argFr, resK, packV, slHK, partsV, partsS, setR, Int.cast_ofNat_Int, Int.natCast_zero, Int.natCast_one, Nat.reduceLeDiff, reduceIte, Nat.reduceEqDiff, Nat.reduceBEq, reduceCtorEq, Nat.reduceAdd, Nat.reduceMul, Nat.reduceSub, Nat.reduceLT, Int.reduceToNat, Int.reduceLT, Int.reduceLE, Int.reduceEq, Int.reduceAdd, Int.reduceNeg, Int.reduceMul, Int.reduceSub]
  refine frz_bool ?_
  have e3 : (hash (k ++ [UInt8.ofNat a]) = hash (k ++ [UInt8.ofNat b])) ↔ ((a : Int) = (b : Int)) := by
    constructor
    · intro h
      rw [hash_snoc, hash_snoc] at h
      have := congrArg UInt8.toNat (hstep_inj h)
      rw [u8_ofNat ha, u8_ofNat hb] at this
      omega
    · intro h
      have : a = b := by omega
      rw [this]
  have e4 : decide (hash (k ++ [UInt8.ofNat a]) = hash (k ++ [UInt8.ofNat b])) = decide ((a : Int) = (b : Int)) := decide_eq_decide.2 e3
  rw [e4]
  simp

theorem two_mod (h : Nat) {b : Nat} (hb : b < 60) (hh : h < 2 ^ 64) : bitOp .and .u64 (h : Int) ((2 ^ b - 1 : Nat) : Int) = ((h % 2 ^ b : Nat) : Int) := by
  have h1 : 2 ^ b < 2 ^ 64 := Nat.pow_lt_pow_right (by decide) (by omega)
  rw [band64 hh (by omega), Nat.and_two_pow_sub_one_eq_mod]

theorem home_law (k : List UInt8) (n : Int) (hn : n ≤ 9223372036854775807) (c : Nat) (hc : c < 256) : Does Try.prog G0 true 13 [.str k, .int .i64 n, .int .u8 c] (.bool true) := by
  refine Does.intro mixed comp13 ?_
  unfold c13
  simp -implicitDefEqProofs (disch := omega) only [mwx, ne_eq, false_implies, implies_true, forall_eq_or_imp, MW.get, ev, evs, argFr, resK, packV, slHK, partsV, partsS, setR, Int.cast_ofNat_Int, Int.natCast_zero, Int.natCast_one, Nat.reduceLeDiff, reduceIte, Nat.reduceEqDiff, Nat.reduceBEq, reduceCtorEq, Nat.reduceAdd, Nat.reduceMul, Nat.reduceSub, Nat.reduceLT, Int.reduceToNat, Int.reduceLT, Int.reduceLE, Int.reduceEq, Int.reduceAdd, Int.reduceNeg, Int.reduceMul, Int.reduceSub]
  refine Does.call awake_fn (by simp) ?_
  by_cases hk : (1000 : Int) < (k.length : Int)
  · simp -implicitDefEqProofs (disch := omega) only [hk, mwx, ne_eq, false_implies, implies_true, forall_eq_or_imp, MW.get, ev, evs, argFr, resK, packV, slHK, partsV, partsS, setR, Int.cast_ofNat_Int, Int.natCast_zero, Int.natCast_one, Nat.reduceLeDiff, reduceIte, Nat.reduceEqDiff, Nat.reduceBEq, reduceCtorEq, Nat.reduceAdd, Nat.reduceMul, Nat.reduceSub, Nat.reduceLT, Int.reduceToNat, Int.reduceLT, Int.reduceLE, Int.reduceEq, Int.reduceAdd, Int.reduceNeg, Int.reduceMul, Int.reduceSub]
    exact frz_bool rfl
  simp -implicitDefEqProofs (disch := omega) only [hk, mwx, ne_eq, false_implies, implies_true, forall_eq_or_imp, MW.get, ev, evs, argFr, resK, packV, slHK, partsV, partsS, setR, Int.cast_ofNat_Int, Int.natCast_zero, Int.natCast_one, Nat.reduceLeDiff, reduceIte, Nat.reduceEqDiff, Nat.reduceBEq, reduceCtorEq, Nat.reduceAdd, Nat.reduceMul, Nat.reduceSub, Nat.reduceLT, Int.reduceToNat, Int.reduceLT, Int.reduceLE, Int.reduceEq, Int.reduceAdd, Int.reduceNeg, Int.reduceMul, Int.reduceSub]
  have hk' : k.length ≤ 1000000 := by omega
  refine Does.call (thomeN_fn k hk' n hn) (fr2 (.str _) (.int _ _)) ?_
  obtain ⟨b, hb⟩ : ∃ b, b = c % 60 := ⟨_, rfl⟩
  have hb60 : b < 60 := by omega
  have r1 : (c : Int).tmod 60 = (b : Int) := by rw [Int.tmod_eq_emod_of_nonneg (by omega)]; omega
  have r2 : ¬ (60 : Int) = 0 := by decide
  have hp : 2 ^ b < 2 ^ 60 := Nat.pow_lt_pow_right (by decide) hb60
  have hp0 : 0 < 2 ^ b := Nat.two_pow_pos b
  obtain ⟨W, hW⟩ : ∃ W : Nat, W = 2 ^ b := ⟨_, rfl⟩
  have r3 : IntKind.i64.wrap (1 * 2 ^ (Nat.min b IntKind.i64.bits)) = (W : Int) := by
    have : Nat.min b IntKind.i64.bits = b := Nat.min_eq_left (by show b ≤ 64; omega)
    rw [this, Int.one_mul]
    have e : ((2 : Int) ^ b) = ((2 ^ b : Nat) : Int) := by simp
    rw [e, ← hW]
    exact wrap64 (by omega) (by omega)
  rw [← hW] at hp hp0
  simp -implicitDefEqProofs (disch := omega) only [r1, r2, r3, mwx, ne_eq, false_implies, implies_true, forall_eq_or_imp, MW.get, ev, evs, argFr, resK, packV, slHK, partsV, partsS, setR, Int.cast_ofNat_Int, Int.natCast_zero, Int.natCast_one, Nat.reduceLeDiff, reduceIte, Nat.reduceEqDiff, Nat.reduceBEq, reduceCtorEq, Nat.reduceAdd, Nat.reduceMul, Nat.reduceSub, Nat.reduceLT, Int.reduceToNat, Int.reduceLT, Int.reduceLE, Int.reduceEq, Int.reduceAdd, Int.reduceNeg, Int.reduceMul, Int.reduceSub]
  refine Does.call (thomeN_fn k hk' W (by omega)) (fr2 (.str _) (.int _ _)) ?_
  have hr := hash_range k
  obtain ⟨h, hh⟩ : ∃ h : Nat, hash k = h := ⟨(hash k).toNat, by omega⟩
  have q1 : homeN k W = ((h % W : Nat) : Int) := by
    unfold homeN
    rw [if_neg (by omega), hh]
    simp
  have q2 : homeN k 1 = 0 := by
    unfold homeN
    rw [if_neg (by decide)]
    omega
  have hml : h % W < W := Nat.mod_lt _ hp0
  have q3 : IntKind.u64.wrap ((h % W : Nat) : Int) = ((h % W : Nat) : Int) := by rw [wrap_u64i]; omega
  have q4 : IntKind.u64.wrap ((W : Int) - 1) = ((W - 1 : Nat) : Int) := by rw [wrap_u64i]; omega
  have q5 : bitOp .and .u64 (h : Int) ((W - 1 : Nat) : Int) = ((h % W : Nat) : Int) := by
    rw [hW]; exact two_mod h hb60 (by omega)
  have q6 : (((h % W : Nat) : Int) = ((h % W : Nat) : Int)) = True := by simp
  have q7 : IntKind.i64.wrap ((W : Int) - 1) = (W : Int) - 1 := wrap64 (by omega) (by omega)
  by_cases h1 : n < 1
  · have e1 : homeN k n = 0 := by unfold homeN; rw [if_pos h1]
    simp -implicitDefEqProofs (disch := omega) only [e1, h1, mwx, ne_eq, false_implies, implies_true, forall_eq_or_imp, MW.get, ev, evs, argFr, resK, packV, slHK, partsV, partsS, setR, Int.cast_ofNat_Int, Int.natCast_zero, Int.natCast_one, Nat.reduceLeDiff, reduceIte, Nat.reduceEqDiff, Nat.reduceBEq, reduceCtorEq, Nat.reduceAdd, Nat.reduceMul, Nat.reduceSub, Nat.reduceLT, Int.reduceToNat, Int.reduceLT, Int.reduceLE, Int.reduceEq, Int.reduceAdd, Int.reduceNeg, Int.reduceMul, Int.reduceSub]
    refine Does.call (hash_fn k hk') (fr1 (.str _)) ?_
    rw [hh, q1]
    simp -implicitDefEqProofs (disch := omega) only [q3, q4, q5, q6, q7, mwx, ne_eq, false_implies, implies_true, forall_eq_or_imp, MW.get, ev, evs, argFr, resK, packV, slHK, partsV, partsS, setR, Int.cast_ofNat_Int, Int.natCast_zero, Int.natCast_one, Nat.reduceLeDiff, reduceIte, Nat.reduceEqDiff, Nat.reduceBEq, reduceCtorEq, Nat.reduceAdd, Nat.reduceMul, Nat.reduceSub, Nat.reduceLT, Int.reduceToNat, Int.reduceLT, Int.reduceLE, Int.reduceEq, Int.reduceAdd, Int.reduceNeg, Int.reduceMul, Int.reduceSub]
    refine Does.call (thomeN_fn k hk' 1 (by decide)) (fr2 (.str _) (.int _ _)) ?_
    simp -implicitDefEqProofs (disch := omega) only [q2, mwx, ne_eq, false_implies, implies_true, forall_eq_or_imp, MW.get, ev, evs, argFr, resK, packV, slHK, partsV, partsS, setR, Int.cast_ofNat_Int, Int.natCast_zero, Int.natCast_one, Nat.reduceLeDiff, reduceIte, Nat.reduceEqDiff, Nat.reduceBEq, reduceCtorEq, Nat.reduceAdd, Nat.reduceMul, Nat.reduceSub, Nat.reduceLT, Int.reduceToNat, Int.reduceLT, Int.reduceLE, Int.reduceEq, Int.reduceAdd, Int.reduceNeg, Int.reduceMul, Int.reduceSub]
    exact frz_bool rfl
  · have e1 : 0 ≤ homeN k n ∧ homeN k n < n := by
      unfold homeN
      rw [if_neg h1]
      exact ⟨Int.emod_nonneg _ (by omega), Int.emod_lt_of_pos _ (by omega)⟩
    have e2 : 1 ≤ n := by omega
    simp -implicitDefEqProofs (disch := omega) only [e1.1, e1.2, h1, e2, mwx, ne_eq, false_implies, implies_true, forall_eq_or_imp, MW.get, ev, evs, argFr, resK, packV, slHK, partsV, partsS, setR, Int.cast_ofNat_Int, Int.natCast_zero, Int.natCast_one, Nat.reduceLeDiff, reduceIte, Nat.reduceEqDiff, Nat.reduceBEq, reduceCtorEq, Nat.reduceAdd, Nat.reduceMul, Nat.reduceSub, Nat.reduceLT, Int.reduceToNat, Int.reduceLT, Int.reduceLE, Int.reduceEq, Int.reduceAdd, Int.reduceNeg, Int.reduceMul, Int.reduceSub]
    refine Does.call (hash_fn k hk') (fr1 (.str _)) ?_
    rw [hh, q1]
    simp -implicitDefEqProofs (disch := omega) only [q3, q4, q5, q6, q7, mwx, ne_eq, false_implies, implies_true, forall_eq_or_imp, MW.get, ev, evs, argFr, resK, packV, slHK, partsV, partsS, setR, Int.cast_ofNat_Int, Int.natCast_zero, Int.natCast_one, Nat.reduceLeDiff, reduceIte, Nat.reduceEqDiff, Nat.reduceBEq, reduceCtorEq, Nat.reduceAdd, Nat.reduceMul, Nat.reduceSub, Nat.reduceLT, Int.reduceToNat, Int.reduceLT, Int.reduceLE, Int.reduceEq, Int.reduceAdd, Int.reduceNeg, Int.reduceMul, Int.reduceSub]
    refine Does.call (thomeN_fn k hk' 1 (by decide)) (fr2 (.str _) (.int _ _)) ?_
    simp -implicitDefEqProofs (disch := omega) only [q2, mwx, ne_eq, false_implies, implies_true, forall_eq_or_imp, MW.get, ev, evs, argFr, resK, packV, slHK, partsV, partsS, setR, Int.cast_ofNat_Int, Int.natCast_zero, Int.natCast_one, Nat.reduceLeDiff, reduceIte, Nat.reduceEqDiff, Nat.reduceBEq, reduceCtorEq, Nat.reduceAdd, Nat.reduceMul, Nat.reduceSub, Nat.reduceLT, Int.reduceToNat, Int.reduceLT, Int.reduceLE, Int.reduceEq, Int.reduceAdd, Int.reduceNeg, Int.reduceMul, Int.reduceSub]
    exact frz_bool rfl

end Go.Proofs.Ytoopcfgmffpogaa

/- A list from another place on. -/
namespace Go.Proofs.Ytoopcfgmffpogaa
open Go Go.MW

/-- The same keys, from another one on. -/
def rot (l : List (List UInt8)) (f : Nat) : List (List UInt8) := (List.range l.length).map fun j => l.getD ((j + f) % l.length) []
theorem rot_length (l : List (List UInt8)) (f : Nat) : (rot l f).length = l.length := by unfold rot; simp
theorem rot_at {l : List (List UInt8)} {f i : Nat} (h : i < l.length) : (rot l f).getD i [] = l.getD ((i + f) % l.length) [] := by
  unfold rot
  rw [List.getD_eq_getElem?_getD, List.getElem?_eq_getElem (by simpa using h)]
  simp
theorem rot_mem {l : List (List UInt8)} {f : Nat} {k : List UInt8} : k ∈ rot l f ↔ k ∈ l := by
  unfold rot
  rw [List.mem_map]
  constructor
  · rintro ⟨j, hj, rfl⟩
    have hj' : j < l.length := by simpa using hj
    have := Nat.mod_lt (j + f) (show 0 < l.length by omega)
    rw [List.getD_eq_getElem?_getD, List.getElem?_eq_getElem this]
    exact List.getElem_mem this
  · intro hk
    obtain ⟨i, hi, rfl⟩ := List.getElem_of_mem hk
    have hf := Nat.mod_lt f (show 0 < l.length by omega)
    have h1 : ∀ j, (j + f) % l.length = (j + f % l.length) % l.length := fun j => by rw [Nat.add_mod, Nat.add_mod j (f % l.length), Nat.mod_mod]
    by_cases h2 : f % l.length ≤ i
    · refine ⟨i - f % l.length, by simp; omega, ?_⟩
      rw [h1, show i - f % l.length + f % l.length = i by omega, Nat.mod_eq_of_lt hi, List.getD_eq_getElem?_getD, List.getElem?_eq_getElem hi]
      rfl
    · refine ⟨i + l.length - f % l.length, by simp; omega, ?_⟩
      rw [h1, show i + l.length - f % l.length + f % l.length = i + l.length by omega, Nat.add_mod_right, Nat.mod_eq_of_lt hi, List.getD_eq_getElem?_getD, List.getElem?_eq_getElem hi]
      rfl

theorem mod_int (a b n : Nat) : ((a : Int) + (b : Int)).tmod (n : Int) = (((a + b) % n : Nat) : Int) := by
  rw [Int.tmod_eq_emod_of_nonneg (by omega)]
  simp

end Go.Proofs.Ytoopcfgmffpogaa

/- Thing (chapter 9): ThingFew, ThingTags. -/
namespace Go.Proofs.Ytoopcfgmffpogaa
open Go Go.MW
set_option linter.unusedSimpArgs false
set_option linter.unusedVariables false
set_option maxRecDepth 8000

theorem all_take {l : List (List UInt8)} {i : Nat} (h : i < l.length) : (l.take (i + 1)).all okT = ((l.take i).all okT && okT (l.getD i [])) := by
  rw [List.take_add_one, List.all_append, List.getElem?_eq_getElem h, List.getD_eq_getElem?_getD, List.getElem?_eq_getElem h]
  simp

theorem few_law {v : V} {l : List (List UInt8)} (hv : IsE strE v l) (hl : l.length ≤ maxLen) : Does Try.prog G0 true 11 [v] (.bool true) := by
  refine Does.intro mixed comp11 ?_
  unfold c11
  simp -implicitDefEqProofs (disch := omega) only [mwx, ne_eq, false_implies, implies_true, forall_eq_or_imp, MW.get, ev, evs, argFr, resK, packV, slHK, partsV, partsS, setR, Int.cast_ofNat_Int, Int.natCast_zero, Int.natCast_one, Nat.reduceLeDiff, reduceIte, Nat.reduceEqDiff, Nat.reduceBEq, reduceCtorEq, Nat.reduceAdd, Nat.reduceMul, Nat.reduceSub, Nat.reduceLT, Int.reduceToNat, Int.reduceLT, Int.reduceLE, Int.reduceEq, Int.reduceAdd, Int.reduceNeg, Int.reduceMul, Int.reduceSub]
  refine Does.call awake_fn (by simp) ?_
  simp -implicitDefEqProofs (disch := omega) only [mwx, ne_eq, false_implies, implies_true, forall_eq_or_imp, MW.get, ev, evs, argFr, resK, packV, slHK, partsV, partsS, setR, Int.cast_ofNat_Int, Int.natCast_zero, Int.natCast_one, Nat.reduceLeDiff, reduceIte, Nat.reduceEqDiff, Nat.reduceBEq, reduceCtorEq, Nat.reduceAdd, Nat.reduceMul, Nat.reduceSub, Nat.reduceLT, Int.reduceToNat, Int.reduceLT, Int.reduceLE, Int.reduceEq, Int.reduceAdd, Int.reduceNeg, Int.reduceMul, Int.reduceSub]
  refine Does.call (few7_fn hv hl 100) (fr2 hv.free (.int _ _)) ?_
  rcases hf : few7 l 100 with _ | _
  · simp -implicitDefEqProofs (disch := omega) only [mwx, ne_eq, false_implies, implies_true, forall_eq_or_imp, MW.get, ev, evs, argFr, resK, packV, slHK, partsV, partsS, setR, Int.cast_ofNat_Int, Int.natCast_zero, Int.natCast_one, Nat.reduceLeDiff, reduceIte, Nat.reduceEqDiff, Nat.reduceBEq, reduceCtorEq, Nat.reduceAdd, Nat.reduceMul, Nat.reduceSub, Nat.reduceLT, Int.reduceToNat, Int.reduceLT, Int.reduceLE, Int.reduceEq, Int.reduceAdd, Int.reduceNeg, Int.reduceMul, Int.reduceSub]
    exact frz_bool rfl
  have hl100 : l.length ≤ 100 := by have := (few7_spec hf).2; omega
  simp -implicitDefEqProofs (disch := omega) only [mwx, ne_eq, false_implies, implies_true, forall_eq_or_imp, MW.get, ev, evs, argFr, resK, packV, slHK, partsV, partsS, setR, Int.cast_ofNat_Int, Int.natCast_zero, Int.natCast_one, Nat.reduceLeDiff, reduceIte, Nat.reduceEqDiff, Nat.reduceBEq, reduceCtorEq, Nat.reduceAdd, Nat.reduceMul, Nat.reduceSub, Nat.reduceLT, Int.reduceToNat, Int.reduceLT, Int.reduceLE, Int.reduceEq, Int.reduceAdd, Int.reduceNeg, Int.reduceMul, Int.reduceSub]
  refine Does.call (tags_fn hv (by omega)) (fr1 hv.free) ?_
  simp -implicitDefEqProofs (disch := omega) only [mwx, ne_eq, false_implies, implies_true, forall_eq_or_imp, MW.get, ev, evs, argFr, resK, packV, slHK, partsV, partsS, setR, Int.cast_ofNat_Int, Int.natCast_zero, Int.natCast_one, Nat.reduceLeDiff, reduceIte, Nat.reduceEqDiff, Nat.reduceBEq, reduceCtorEq, Nat.reduceAdd, Nat.reduceMul, Nat.reduceSub, Nat.reduceLT, Int.reduceToNat, Int.reduceLT, Int.reduceLE, Int.reduceEq, Int.reduceAdd, Int.reduceNeg, Int.reduceMul, Int.reduceSub]
  refine xl_loop (fun m st => ∃ i : Nat, m + i = l.length ∧ get st.fr 0 = v ∧ get st.fr 3 = .bool true ∧ get st.fr 5 = .int .i64 (tagsT l).2 ∧ get st.fr 6 = .int .i64 (ddL (l.take i)).length ∧ get st.fr 7 = .bool ((l.take i).all okT) ∧ get st.fr 8 = .int .i64 i) l.length ⟨0, by omega, rfl, rfl, rfl, rfl, rfl, rfl⟩ ?_
  rintro J hJ m fr H ⟨i, h1, h2, h3, h4, h5, h6, h7⟩
  simp -implicitDefEqProofs (disch := omega) only [h2, h3, h4, h5, h6, h7, lenK_isE hv, mwx, ne_eq, false_implies, implies_true, forall_eq_or_imp, MW.get, ev, evs, argFr, resK, packV, slHK, partsV, partsS, setR, Int.cast_ofNat_Int, Int.natCast_zero, Int.natCast_one, Nat.reduceLeDiff, reduceIte, Nat.reduceEqDiff, Nat.reduceBEq, reduceCtorEq, Nat.reduceAdd, Nat.reduceMul, Nat.reduceSub, Nat.reduceLT, Int.reduceToNat, Int.reduceLT, Int.reduceLE, Int.reduceEq, Int.reduceAdd, Int.reduceNeg, Int.reduceMul, Int.reduceSub]
  refine xc_dec (fun h10 => ?_) fun h10 => ?_
  · have hi : i < l.length := by omega
    have hi0 : (0 : Int) ≤ (i : Int) := by omega
    have hi1 : (i : Int).toNat < l.length := by omega
    have hat := all_take hi
    have hdt := ddL_take hi
    have hdl := ddL_length (l.take i)
    simp only [List.length_take] at hdl
    -- the second region, whatever the first one came to
    simp -implicitDefEqProofs (disch := omega) only [h2, h3, h4, h5, h6, h7, mwx, ne_eq, false_implies, implies_true, forall_eq_or_imp, MW.get, ev, evs, argFr, resK, packV, slHK, partsV, partsS, setR, Int.cast_ofNat_Int, Int.natCast_zero, Int.natCast_one, Nat.reduceLeDiff, reduceIte, Nat.reduceEqDiff, Nat.reduceBEq, reduceCtorEq, Nat.reduceAdd, Nat.reduceMul, Nat.reduceSub, Nat.reduceLT, Int.reduceToNat, Int.reduceLT, Int.reduceLE, Int.reduceEq, Int.reduceAdd, Int.reduceNeg, Int.reduceMul, Int.reduceSub]
    refine xg_mid (fun st => get st.fr 0 = v ∧ get st.fr 3 = .bool true ∧ get st.fr 5 = .int .i64 (tagsT l).2 ∧ get st.fr 6 = .int .i64 (ddL (l.take i)).length ∧ get st.fr 7 = .bool ((l.take (i + 1)).all okT) ∧ get st.fr 8 = .int .i64 i) (fun J2 hJ2 => ?_) ?_
    · rw [hat] at hJ2
      rcases hr : (l.take i).all okT with _ | _
      · rw [hr] at hJ2
        simp -implicitDefEqProofs (disch := omega) only [h2, h3, h4, h5, h6, h7, mwx, ne_eq, false_implies, implies_true, forall_eq_or_imp, MW.get, ev, evs, argFr, resK, packV, slHK, partsV, partsS, setR, Int.cast_ofNat_Int, Int.natCast_zero, Int.natCast_one, Nat.reduceLeDiff, reduceIte, Nat.reduceEqDiff, Nat.reduceBEq, reduceCtorEq, Nat.reduceAdd, Nat.reduceMul, Nat.reduceSub, Nat.reduceLT, Int.reduceToNat, Int.reduceLT, Int.reduceLE, Int.reduceEq, Int.reduceAdd, Int.reduceNeg, Int.reduceMul, Int.reduceSub]
        exact hJ2 _ ⟨h2, h3, h4, h5, rfl, h7⟩
      · rw [hr, Bool.true_and] at hJ2
        by_cases e1 : (1 : Int) ≤ ((l.getD i []).length : Int)
        · by_cases e2 : ((l.getD i []).length : Int) ≤ 8
          · have e3 : okT (l.getD i []) = true := okT_iff.2 ⟨by omega, by omega⟩
            rw [e3] at hJ2
            simp -implicitDefEqProofs (disch := omega) only [h2, h3, h4, h5, h6, h7, iaK_str hv hi0 hi1, e1, e2, mwx, ne_eq, false_implies, implies_true, forall_eq_or_imp, MW.get, ev, evs, argFr, resK, packV, slHK, partsV, partsS, setR, Int.cast_ofNat_Int, Int.natCast_zero, Int.natCast_one, Nat.reduceLeDiff, reduceIte, Nat.reduceEqDiff, Nat.reduceBEq, reduceCtorEq, Nat.reduceAdd, Nat.reduceMul, Nat.reduceSub, Nat.reduceLT, Int.reduceToNat, Int.reduceLT, Int.reduceLE, Int.reduceEq, Int.reduceAdd, Int.reduceNeg, Int.reduceMul, Int.reduceSub]
            exact hJ2 _ ⟨h2, h3, h4, h5, rfl, h7⟩
          · have e3 : okT (l.getD i []) = false := by unfold okT; rw [decide_eq_false_iff_not]; omega
            rw [e3] at hJ2
            simp -implicitDefEqProofs (disch := omega) only [h2, h3, h4, h5, h6, h7, iaK_str hv hi0 hi1, e1, e2, mwx, ne_eq, false_implies, implies_true, forall_eq_or_imp, MW.get, ev, evs, argFr, resK, packV, slHK, partsV, partsS, setR, Int.cast_ofNat_Int, Int.natCast_zero, Int.natCast_one, Nat.reduceLeDiff, reduceIte, Nat.reduceEqDiff, Nat.reduceBEq, reduceCtorEq, Nat.reduceAdd, Nat.reduceMul, Nat.reduceSub, Nat.reduceLT, Int.reduceToNat, Int.reduceLT, Int.reduceLE, Int.reduceEq, Int.reduceAdd, Int.reduceNeg, Int.reduceMul, Int.reduceSub]
            exact hJ2 _ ⟨h2, h3, h4, h5, rfl, h7⟩
        · have e3 : okT (l.getD i []) = false := by unfold okT; rw [decide_eq_false_iff_not]; omega
          rw [e3] at hJ2
          simp -implicitDefEqProofs (disch := omega) only [h2, h3, h4, h5, h6, h7, iaK_str hv hi0 hi1, e1, mwx, ne_eq, false_implies, implies_true, forall_eq_or_imp, MW.get, ev, evs, argFr, resK, packV, slHK, partsV, partsS, setR, Int.cast_ofNat_Int, Int.natCast_zero, Int.natCast_one, Nat.reduceLeDiff, reduceIte, Nat.reduceEqDiff, Nat.reduceBEq, reduceCtorEq, Nat.reduceAdd, Nat.reduceMul, Nat.reduceSub, Nat.reduceLT, Int.reduceToNat, Int.reduceLT, Int.reduceLE, Int.reduceEq, Int.reduceAdd, Int.reduceNeg, Int.reduceMul, Int.reduceSub]
          exact hJ2 _ ⟨h2, h3, h4, h5, rfl, h7⟩
    · rintro fr H ⟨h2, h3, h4, h5, h6, h7⟩
      rcases hv with ⟨_, rfl⟩ | rfl
      · simp at hi
      have hv : IsE strE (.vs (strE.vs l)) l := isE_vs l
      have hvt : IsE strE (.vs (strE.vs (l.take i))) (l.take i) := isE_vs _
      have hL : (strE.vs l).length = l.length := El.vs_length l
      have hiL : (i : Int) ≤ (l.length : Int) := by omega
      have hcs := El.vs_cells (e := strE) l (n := 1) rfl
      have hin : i ≤ l.length := by omega
      simp -implicitDefEqProofs (disch := omega) only [h2, h3, h4, h5, h6, h7, iaK_str hv hi0 hi1, hL, hiL, hcs, hin, El.vs_take, mwx, ne_eq, false_implies, implies_true, forall_eq_or_imp, MW.get, ev, evs, argFr, resK, packV, slHK, partsV, partsS, setR, Int.cast_ofNat_Int, Int.natCast_zero, Int.natCast_one, Nat.reduceLeDiff, reduceIte, Nat.reduceEqDiff, Nat.reduceBEq, reduceCtorEq, Nat.reduceAdd, Nat.reduceMul, Nat.reduceSub, Nat.reduceLT, Int.reduceToNat, Int.reduceLT, Int.reduceLE, Int.reduceEq, Int.reduceAdd, Int.reduceNeg, Int.reduceMul, Int.reduceSub]
      refine Does.call (has_fn hvt (by simp; omega) (l.getD i [])) (fr2 hvt.free (.str _)) ?_
      by_cases hmem : l.getD i [] ∈ l.take i
      · have e1 : ddA (ddL (l.take i)) (l.getD i []) = ddL (l.take i) := by unfold ddA; rw [if_pos (ddL_mem.2 hmem)]
        simp -implicitDefEqProofs (disch := omega) only [hmem, h2, h3, h4, h5, h6, h7, mwx, ne_eq, false_implies, implies_true, forall_eq_or_imp, MW.get, ev, evs, argFr, resK, packV, slHK, partsV, partsS, setR, Int.cast_ofNat_Int, Int.natCast_zero, Int.natCast_one, Nat.reduceLeDiff, reduceIte, Nat.reduceEqDiff, Nat.reduceBEq, reduceCtorEq, Nat.reduceAdd, Nat.reduceMul, Nat.reduceSub, Nat.reduceLT, Int.reduceToNat, Int.reduceLT, Int.reduceLE, Int.reduceEq, Int.reduceAdd, Int.reduceNeg, Int.reduceMul, Int.reduceSub]
        exact ⟨m - 1, by omega, hJ _ _ ⟨i + 1, by omega, h2, h3, h4, by rw [hdt, e1]; exact h5, h6, rfl⟩⟩
      · have e1 : ddA (ddL (l.take i)) (l.getD i []) = ddL (l.take i) ++ [l.getD i []] := by unfold ddA; rw [if_neg (fun h => hmem (ddL_mem.1 h))]
        simp -implicitDefEqProofs (disch := omega) only [hmem, h2, h3, h4, h5, h6, h7, mwx, ne_eq, false_implies, implies_true, forall_eq_or_imp, MW.get, ev, evs, argFr, resK, packV, slHK, partsV, partsS, setR, Int.cast_ofNat_Int, Int.natCast_zero, Int.natCast_one, Nat.reduceLeDiff, reduceIte, Nat.reduceEqDiff, Nat.reduceBEq, reduceCtorEq, Nat.reduceAdd, Nat.reduceMul, Nat.reduceSub, Nat.reduceLT, Int.reduceToNat, Int.reduceLT, Int.reduceLE, Int.reduceEq, Int.reduceAdd, Int.reduceNeg, Int.reduceMul, Int.reduceSub]
        exact ⟨m - 1, by omega, hJ _ _ ⟨i + 1, by omega, h2, h3, h4, by rw [hdt, e1, List.length_append]; rfl, h6, rfl⟩⟩
  · have ht : l.take i = l := List.take_of_length_le (by omega)
    rw [ht] at h5 h6
    rcases ha : l.all okT with _ | _
    · have e1 : tagsT l = ([], 90) := by unfold tagsT; rw [if_neg (by simp [ha])]
      rw [ha] at h6
      rw [e1] at h4
      simp -implicitDefEqProofs (disch := omega) only [h2, h3, h4, h5, h6, mwx, ne_eq, false_implies, implies_true, forall_eq_or_imp, MW.get, ev, evs, argFr, resK, packV, slHK, partsV, partsS, setR, Int.cast_ofNat_Int, Int.natCast_zero, Int.natCast_one, Nat.reduceLeDiff, reduceIte, Nat.reduceEqDiff, Nat.reduceBEq, reduceCtorEq, Nat.reduceAdd, Nat.reduceMul, Nat.reduceSub, Nat.reduceLT, Int.reduceToNat, Int.reduceLT, Int.reduceLE, Int.reduceEq, Int.reduceAdd, Int.reduceNeg, Int.reduceMul, Int.reduceSub]
      exact frz_bool rfl
    · rw [ha] at h6
      by_cases h3' : (ddL l).length ≤ 3
      · have e1 : (tagsT l).2 = 0 := by unfold tagsT; rw [if_pos ⟨ha, h3'⟩]
        have e2 : ((ddL l).length : Int) ≤ 3 := by omega
        rw [e1] at h4
        simp -implicitDefEqProofs (disch := omega) only [h2, h3, h4, h5, h6, e2, beq_self_eq_true, mwx, ne_eq, false_implies, implies_true, forall_eq_or_imp, MW.get, ev, evs, argFr, resK, packV, slHK, partsV, partsS, setR, Int.cast_ofNat_Int, Int.natCast_zero, Int.natCast_one, Nat.reduceLeDiff, reduceIte, Nat.reduceEqDiff, Nat.reduceBEq, reduceCtorEq, Nat.reduceAdd, Nat.reduceMul, Nat.reduceSub, Nat.reduceLT, Int.reduceToNat, Int.reduceLT, Int.reduceLE, Int.reduceEq, Int.reduceAdd, Int.reduceNeg, Int.reduceMul, Int.reduceSub]
        exact frz_bool rfl
      · have e1 : (tagsT l).2 = 90 := by unfold tagsT; rw [if_neg (fun h => h3' h.2)]
        have e2 : ¬ ((ddL l).length : Int) ≤ 3 := by omega
        rw [e1] at h4
        simp -implicitDefEqProofs (disch := omega) only [h2, h3, h4, h5, h6, e2, beq_self_eq_true, mwx, ne_eq, false_implies, implies_true, forall_eq_or_imp, MW.get, ev, evs, argFr, resK, packV, slHK, partsV, partsS, setR, Int.cast_ofNat_Int, Int.natCast_zero, Int.natCast_one, Nat.reduceLeDiff, reduceIte, Nat.reduceEqDiff, Nat.reduceBEq, reduceCtorEq, Nat.reduceAdd, Nat.reduceMul, Nat.reduceSub, Nat.reduceLT, Int.reduceToNat, Int.reduceLT, Int.reduceLE, Int.reduceEq, Int.reduceAdd, Int.reduceNeg, Int.reduceMul, Int.reduceSub]
        exact frz_bool rfl

theorem srt_lt {l : List (List UInt8)} (hn : l.Nodup) {i : Nat} (h1 : 1 ≤ i) (h2 : i < (srt l).length) : Op.bytesLess ((srt l).getD (i - 1) []) ((srt l).getD i []) = true := by
  rw [Go.Proofs.bytesLess_eq, decide_eq_true_eq]
  have hs := srt_sorted' l
  have hn' : (srt l).Nodup := (srt_perm _).nodup_iff.2 hn
  have e1 : (srt l).getD (i - 1) [] = (srt l)[i - 1] := by rw [List.getD_eq_getElem?_getD, List.getElem?_eq_getElem (by omega)]; rfl
  have e2 : (srt l).getD i [] = (srt l)[i] := by rw [List.getD_eq_getElem?_getD, List.getElem?_eq_getElem h2]; rfl
  rw [e1, e2]
  have h3 : (srt l)[i - 1] ≤ (srt l)[i] := List.pairwise_iff_getElem.1 hs (i - 1) i (by omega) h2 (by omega)
  have h4 : (srt l)[i - 1] ≠ (srt l)[i] := List.pairwise_iff_getElem.1 hn' (i - 1) i (by omega) h2 (by omega)
  apply Classical.byContradiction
  intro h5
  exact h4 (List.le_antisymm h3 (List.not_lt.1 h5))

theorem getD_mem {l : List (List UInt8)} {i : Nat} (h : i < l.length) : l.getD i [] ∈ l := by
  rw [List.getD_eq_getElem?_getD, List.getElem?_eq_getElem h]; exact List.getElem_mem h

theorem tags_len {l : List (List UInt8)} : (tagsT l).1.length ≤ 3 := by
  by_cases h : (tagsT l).2 = 0
  · obtain ⟨_, h2, h3, _⟩ := tagsT_ok h
    rw [h3, srt_length]; exact h2
  · rw [tagsT_bad h]; simp

theorem tags_law {v : V} {l : List (List UInt8)} (hv : IsE strE v l) (hl : l.length ≤ maxLen) (f : Nat) (hf256 : f < 256) : Does Try.prog G0 true 10 [v, .int .u8 f] (.bool true) := by
  refine Does.intro mixed comp10 ?_
  unfold c10
  simp -implicitDefEqProofs (disch := omega) only [mwx, ne_eq, false_implies, implies_true, forall_eq_or_imp, MW.get, ev, evs, argFr, resK, packV, slHK, partsV, partsS, setR, Int.cast_ofNat_Int, Int.natCast_zero, Int.natCast_one, Nat.reduceLeDiff, reduceIte, Nat.reduceEqDiff, Nat.reduceBEq, reduceCtorEq, Nat.reduceAdd, Nat.reduceMul, Nat.reduceSub, Nat.reduceLT, Int.reduceToNat, Int.reduceLT, Int.reduceLE, Int.reduceEq, Int.reduceAdd, Int.reduceNeg, Int.reduceMul, Int.reduceSub]
  refine Does.call awake_fn (by simp) ?_
  simp -implicitDefEqProofs (disch := omega) only [mwx, ne_eq, false_implies, implies_true, forall_eq_or_imp, MW.get, ev, evs, argFr, resK, packV, slHK, partsV, partsS, setR, Int.cast_ofNat_Int, Int.natCast_zero, Int.natCast_one, Nat.reduceLeDiff, reduceIte, Nat.reduceEqDiff, Nat.reduceBEq, reduceCtorEq, Nat.reduceAdd, Nat.reduceMul, Nat.reduceSub, Nat.reduceLT, Int.reduceToNat, Int.reduceLT, Int.reduceLE, Int.reduceEq, Int.reduceAdd, Int.reduceNeg, Int.reduceMul, Int.reduceSub]
  refine Does.call (few7_fn hv hl 100) (fr2 hv.free (.int _ _)) ?_
  rcases hf : few7 l 100 with _ | _
  · simp -implicitDefEqProofs (disch := omega) only [mwx, ne_eq, false_implies, implies_true, forall_eq_or_imp, MW.get, ev, evs, argFr, resK, packV, slHK, partsV, partsS, setR, Int.cast_ofNat_Int, Int.natCast_zero, Int.natCast_one, Nat.reduceLeDiff, reduceIte, Nat.reduceEqDiff, Nat.reduceBEq, reduceCtorEq, Nat.reduceAdd, Nat.reduceMul, Nat.reduceSub, Nat.reduceLT, Int.reduceToNat, Int.reduceLT, Int.reduceLE, Int.reduceEq, Int.reduceAdd, Int.reduceNeg, Int.reduceMul, Int.reduceSub]
    exact frz_bool rfl
  have hl100 : l.length ≤ 100 := by have := (few7_spec hf).2; omega
  have hX := tagsR_isE l
  have hX3 := tags_len (l := l)
  have hY := tagsR_isE (tagsT l).1
  have hrot : tagsT (rot l f) = tagsT l := tagsT_congr fun s => rot_mem
  have hrotR : tagsR (rot l f) = tagsR l := by unfold tagsR; rw [hrot]
  simp -implicitDefEqProofs (disch := omega) only [mwx, ne_eq, false_implies, implies_true, forall_eq_or_imp, MW.get, ev, evs, argFr, resK, packV, slHK, partsV, partsS, setR, Int.cast_ofNat_Int, Int.natCast_zero, Int.natCast_one, Nat.reduceLeDiff, reduceIte, Nat.reduceEqDiff, Nat.reduceBEq, reduceCtorEq, Nat.reduceAdd, Nat.reduceMul, Nat.reduceSub, Nat.reduceLT, Int.reduceToNat, Int.reduceLT, Int.reduceLE, Int.reduceEq, Int.reduceAdd, Int.reduceNeg, Int.reduceMul, Int.reduceSub]
  refine Does.call (tags_fn hv (by omega)) (fr1 hv.free) ?_
  simp -implicitDefEqProofs (disch := omega) only [mwx, ne_eq, false_implies, implies_true, forall_eq_or_imp, MW.get, ev, evs, argFr, resK, packV, slHK, partsV, partsS, setR, Int.cast_ofNat_Int, Int.natCast_zero, Int.natCast_one, Nat.reduceLeDiff, reduceIte, Nat.reduceEqDiff, Nat.reduceBEq, reduceCtorEq, Nat.reduceAdd, Nat.reduceMul, Nat.reduceSub, Nat.reduceLT, Int.reduceToNat, Int.reduceLT, Int.reduceLE, Int.reduceEq, Int.reduceAdd, Int.reduceNeg, Int.reduceMul, Int.reduceSub]
  refine Does.call (tags_fn hX (by omega)) (fr1 hX.free) ?_
  simp -implicitDefEqProofs (disch := omega) only [mwx, ne_eq, false_implies, implies_true, forall_eq_or_imp, MW.get, ev, evs, argFr, resK, packV, slHK, partsV, partsS, setR, Int.cast_ofNat_Int, Int.natCast_zero, Int.natCast_one, Nat.reduceLeDiff, reduceIte, Nat.reduceEqDiff, Nat.reduceBEq, reduceCtorEq, Nat.reduceAdd, Nat.reduceMul, Nat.reduceSub, Nat.reduceLT, Int.reduceToNat, Int.reduceLT, Int.reduceLE, Int.reduceEq, Int.reduceAdd, Int.reduceNeg, Int.reduceMul, Int.reduceSub]
  refine xl_loop (fun m st => ∃ (i : Nat) (u : V), m + i = l.length ∧ get st.fr 0 = v ∧ get st.fr 1 = .int .u8 f ∧ get st.fr 5 = .bool true ∧ get st.fr 6 = tagsR l ∧ get st.fr 7 = .int .i64 (tagsT l).2 ∧ get st.fr 8 = tagsR (tagsT l).1 ∧ get st.fr 9 = .int .i64 (tagsT (tagsT l).1).2 ∧ get st.fr 10 = u ∧ get st.fr 11 = .int .i64 i ∧ Own 1 st.H u (strE.vs ((rot l f).take i))) l.length
    ⟨0, .nils, by omega, rfl, rfl, rfl, rfl, rfl, rfl, rfl, rfl, rfl, Own.nil _ _⟩ ?_
  rintro J hJ m fr H ⟨i, u, h1, h2, h3, h4, h5, h6, h7, h8, h9, h10, hO⟩
  have hO : Own 1 H u (strE.vs ((rot l f).take i)) := hO
  simp -implicitDefEqProofs (disch := omega) only [h2, h3, h4, h5, h6, h7, h8, h9, h10, lenK_isE hv, mwx, ne_eq, false_implies, implies_true, forall_eq_or_imp, MW.get, ev, evs, argFr, resK, packV, slHK, partsV, partsS, setR, Int.cast_ofNat_Int, Int.natCast_zero, Int.natCast_one, Nat.reduceLeDiff, reduceIte, Nat.reduceEqDiff, Nat.reduceBEq, reduceCtorEq, Nat.reduceAdd, Nat.reduceMul, Nat.reduceSub, Nat.reduceLT, Int.reduceToNat, Int.reduceLT, Int.reduceLE, Int.reduceEq, Int.reduceAdd, Int.reduceNeg, Int.reduceMul, Int.reduceSub]
  refine xc_dec (fun hd => ?_) fun hd => ?_
  · have hi : i < l.length := by omega
    have hmod := Nat.mod_lt (i + f) (show 0 < l.length by omega)
    have hw1 : IntKind.i64.wrap (f : Int) = f := wrap64 (by omega) (by omega)
    have hw2 : IntKind.i64.wrap ((i : Int) + (f : Int)) = (i : Int) + f := wrap64 (by omega) (by omega)
    have hn0 : ¬ ((l.length : Int) = 0) := by omega
    have hm := mod_int i f l.length
    have hk0 : (0 : Int) ≤ (((i + f) % l.length : Nat) : Int) := by omega
    have hk1 : ((((i + f) % l.length : Nat) : Int)).toNat < l.length := by omega
    have ht : (rot l f).take (i + 1) = (rot l f).take i ++ [l.getD ((i + f) % l.length) []] := by
      rw [List.take_add_one, ← rot_at hi, List.getElem?_eq_getElem (by rw [rot_length]; exact hi), List.getD_eq_getElem?_getD, List.getElem?_eq_getElem (by rw [rot_length]; exact hi)]
      rfl
    have hgb : ∀ k : Blk, getB (H ++ [k]) H.length = k := fun k => getB_new H k
    simp -implicitDefEqProofs (disch := omega) only [h2, h3, h4, h5, h6, h7, h8, h9, h10, lenK_isE hv, hw1, hw2, hn0, hm, iaK_str hv hk0 hk1, hgb, mwx, ne_eq, false_implies, implies_true, forall_eq_or_imp, MW.get, ev, evs, argFr, resK, packV, slHK, partsV, partsS, setR, Int.cast_ofNat_Int, Int.natCast_zero, Int.natCast_one, Nat.reduceLeDiff, reduceIte, Nat.reduceEqDiff, Nat.reduceBEq, reduceCtorEq, Nat.reduceAdd, Nat.reduceMul, Nat.reduceSub, Nat.reduceLT, Int.reduceToNat, Int.reduceLT, Int.reduceLE, Int.reduceEq, Int.reduceAdd, Int.reduceNeg, Int.reduceMul, Int.reduceSub]
    refine (hO.grow _).app (El.vs_goods (e := strE) _) ?_ ?_ fun v' H' hO' => ?_
    · simp only [goods_cons, goods_nil, good_str, and_self]
    · refine roomy_of ?_ (by omega)
      rw [El.vs_length, List.length_take, rot_length]
      simp
      omega
    simp -implicitDefEqProofs (disch := omega) only [h2, h3, h4, h5, h6, h7, h8, h9, h10, mwx, ne_eq, false_implies, implies_true, forall_eq_or_imp, MW.get, ev, evs, argFr, resK, packV, slHK, partsV, partsS, setR, Int.cast_ofNat_Int, Int.natCast_zero, Int.natCast_one, Nat.reduceLeDiff, reduceIte, Nat.reduceEqDiff, Nat.reduceBEq, reduceCtorEq, Nat.reduceAdd, Nat.reduceMul, Nat.reduceSub, Nat.reduceLT, Int.reduceToNat, Int.reduceLT, Int.reduceLE, Int.reduceEq, Int.reduceAdd, Int.reduceNeg, Int.reduceMul, Int.reduceSub]
    refine ⟨m - 1, by omega, hJ _ _ ⟨i + 1, v', by omega, h2, h3, h4, h5, h6, h7, h8, rfl, rfl, ?_⟩⟩
    rw [ht]
    have := hO'
    rw [show [V.str (l.getD ((i + f) % l.length) [])] = strE.vs [l.getD ((i + f) % l.length) []] from rfl, El.vs_append] at this
    exact this
  · have ht : (rot l f).take i = rot l f := List.take_of_length_le (by rw [rot_length]; omega)
    rw [ht] at hO
    obtain ⟨w, hw, hfw⟩ := hO.isE (im := true) rfl (by decide)
    simp -implicitDefEqProofs (disch := omega) only [h2, h3, h4, h5, h6, h7, h8, h9, h10, mwx, ne_eq, false_implies, implies_true, forall_eq_or_imp, MW.get, ev, evs, argFr, resK, packV, slHK, partsV, partsS, setR, Int.cast_ofNat_Int, Int.natCast_zero, Int.natCast_one, Nat.reduceLeDiff, reduceIte, Nat.reduceEqDiff, Nat.reduceBEq, reduceCtorEq, Nat.reduceAdd, Nat.reduceMul, Nat.reduceSub, Nat.reduceLT, Int.reduceToNat, Int.reduceLT, Int.reduceLE, Int.reduceEq, Int.reduceAdd, Int.reduceNeg, Int.reduceMul, Int.reduceSub]
    refine Does.callB (tags_fn hw (by rw [rot_length]; omega)) (frzs1 hfw) ?_
    rw [hrot, hrotR]
    by_cases he : (tagsT l).2 = 0
    · obtain ⟨ha, hd3, hsrt, hmem⟩ := tagsT_ok he
      have hag := tagsT_again he
      have e8 : (tagsT (tagsT l).1).2 = 0 := by rw [hag, he]
      rw [hag] at hY
      rw [e8] at h8
      rw [he] at h6
      simp -implicitDefEqProofs (disch := omega) only [h2, h3, h4, h5, h6, h7, h8, he, mwx, ne_eq, false_implies, implies_true, forall_eq_or_imp, MW.get, ev, evs, argFr, resK, packV, slHK, partsV, partsS, setR, Int.cast_ofNat_Int, Int.natCast_zero, Int.natCast_one, Nat.reduceLeDiff, reduceIte, Nat.reduceEqDiff, Nat.reduceBEq, reduceCtorEq, Nat.reduceAdd, Nat.reduceMul, Nat.reduceSub, Nat.reduceLT, Int.reduceToNat, Int.reduceLT, Int.reduceLE, Int.reduceEq, Int.reduceAdd, Int.reduceNeg, Int.reduceMul, Int.reduceSub]
      refine xl_loop (fun m st => ∃ i : Nat, m + i = (tagsT l).1.length ∧ get st.fr 0 = v ∧ get st.fr 5 = .bool true ∧ get st.fr 6 = tagsR l ∧ get st.fr 8 = tagsR (tagsT l).1 ∧ get st.fr 9 = .int .i64 0 ∧ get st.fr 12 = tagsR l ∧ get st.fr 13 = .int .i64 0 ∧ get st.fr 14 = .int .i64 i) (tagsT l).1.length
        ⟨0, by omega, h2, h4, h5, h7, h8, rfl, rfl, rfl⟩ ?_
      rintro J hJ m fr H ⟨i, h1, h2, h4, h5, h7, h8, h9, h10, h11⟩
      simp -implicitDefEqProofs (disch := omega) only [h2, h4, h5, h7, h8, h9, h10, h11, lenK_isE hX, mwx, ne_eq, false_implies, implies_true, forall_eq_or_imp, MW.get, ev, evs, argFr, resK, packV, slHK, partsV, partsS, setR, Int.cast_ofNat_Int, Int.natCast_zero, Int.natCast_one, Nat.reduceLeDiff, reduceIte, Nat.reduceEqDiff, Nat.reduceBEq, reduceCtorEq, Nat.reduceAdd, Nat.reduceMul, Nat.reduceSub, Nat.reduceLT, Int.reduceToNat, Int.reduceLT, Int.reduceLE, Int.reduceEq, Int.reduceAdd, Int.reduceNeg, Int.reduceMul, Int.reduceSub]
      refine xc_dec (fun hd => ?_) fun hd => ?_
      · have hi : i < (tagsT l).1.length := by omega
        have hi0 : (0 : Int) ≤ (i : Int) := by omega
        have hi1 : (i : Int).toNat < (tagsT l).1.length := by omega
        have hm1 : (tagsT l).1.getD i [] ∈ l := (hmem _).1 (getD_mem hi)
        have hok := okT_iff.1 (List.all_eq_true.1 ha _ hm1)
        have o1 : ¬ (((tagsT l).1.getD i []).length : Int) < 1 := by omega
        have o2 : ¬ (8 : Int) < (((tagsT l).1.getD i []).length : Int) := by omega
        simp -implicitDefEqProofs (disch := omega) only [h2, h4, h5, h7, h8, h9, h10, h11, mwx, ne_eq, false_implies, implies_true, forall_eq_or_imp, MW.get, ev, evs, argFr, resK, packV, slHK, partsV, partsS, setR, Int.cast_ofNat_Int, Int.natCast_zero, Int.natCast_one, Nat.reduceLeDiff, reduceIte, Nat.reduceEqDiff, Nat.reduceBEq, reduceCtorEq, Nat.reduceAdd, Nat.reduceMul, Nat.reduceSub, Nat.reduceLT, Int.reduceToNat, Int.reduceLT, Int.reduceLE, Int.reduceEq, Int.reduceAdd, Int.reduceNeg, Int.reduceMul, Int.reduceSub]
        refine xg_dec (fun h12 => ?_) fun h12 => ?_
        · have hj0 : (0 : Int) ≤ (i : Int) - 1 := by omega
          have hj1 : ((i : Int) - 1).toNat < (tagsT l).1.length := by omega
          have hj2 : ((i : Int) - 1).toNat = i - 1 := by omega
          have hlt : Op.bytesLess ((tagsT l).1.getD (i - 1) []) ((tagsT l).1.getD i []) = true := by
            rw [hsrt] at hi ⊢
            exact srt_lt (ddL_nodup l) (by omega) hi
          simp -implicitDefEqProofs (disch := omega) only [h2, h4, h5, h7, h8, h9, h10, h11, h12, iaK_str hX hi0 hi1, iaK_str hX hj0 hj1, hj2, hlt, mwx, ne_eq, false_implies, implies_true, forall_eq_or_imp, MW.get, ev, evs, argFr, resK, packV, slHK, partsV, partsS, setR, Int.cast_ofNat_Int, Int.natCast_zero, Int.natCast_one, Nat.reduceLeDiff, reduceIte, Nat.reduceEqDiff, Nat.reduceBEq, reduceCtorEq, Nat.reduceAdd, Nat.reduceMul, Nat.reduceSub, Nat.reduceLT, Int.reduceToNat, Int.reduceLT, Int.reduceLE, Int.reduceEq, Int.reduceAdd, Int.reduceNeg, Int.reduceMul, Int.reduceSub]
          refine Does.call (has_fn hv (by omega) ((tagsT l).1.getD i [])) (fr2 hv.free (.str _)) ?_
          simp -implicitDefEqProofs (disch := omega) only [h2, h4, h5, h7, h8, h9, h10, h11, iaK_str hX hi0 hi1, hm1, o1, o2, mwx, ne_eq, false_implies, implies_true, forall_eq_or_imp, MW.get, ev, evs, argFr, resK, packV, slHK, partsV, partsS, setR, Int.cast_ofNat_Int, Int.natCast_zero, Int.natCast_one, Nat.reduceLeDiff, reduceIte, Nat.reduceEqDiff, Nat.reduceBEq, reduceCtorEq, Nat.reduceAdd, Nat.reduceMul, Nat.reduceSub, Nat.reduceLT, Int.reduceToNat, Int.reduceLT, Int.reduceLE, Int.reduceEq, Int.reduceAdd, Int.reduceNeg, Int.reduceMul, Int.reduceSub]
          exact ⟨m - 1, by omega, hJ _ _ ⟨i + 1, by omega, h2, h4, h5, h7, h8, h9, h10, rfl⟩⟩
        · simp -implicitDefEqProofs (disch := omega) only [h2, h4, h5, h7, h8, h9, h10, h11, h12, iaK_str hX hi0 hi1, mwx, ne_eq, false_implies, implies_true, forall_eq_or_imp, MW.get, ev, evs, argFr, resK, packV, slHK, partsV, partsS, setR, Int.cast_ofNat_Int, Int.natCast_zero, Int.natCast_one, Nat.reduceLeDiff, reduceIte, Nat.reduceEqDiff, Nat.reduceBEq, reduceCtorEq, Nat.reduceAdd, Nat.reduceMul, Nat.reduceSub, Nat.reduceLT, Int.reduceToNat, Int.reduceLT, Int.reduceLE, Int.reduceEq, Int.reduceAdd, Int.reduceNeg, Int.reduceMul, Int.reduceSub]
          refine Does.call (has_fn hv (by omega) ((tagsT l).1.getD i [])) (fr2 hv.free (.str _)) ?_
          simp -implicitDefEqProofs (disch := omega) only [h2, h4, h5, h7, h8, h9, h10, h11, iaK_str hX hi0 hi1, hm1, o1, o2, mwx, ne_eq, false_implies, implies_true, forall_eq_or_imp, MW.get, ev, evs, argFr, resK, packV, slHK, partsV, partsS, setR, Int.cast_ofNat_Int, Int.natCast_zero, Int.natCast_one, Nat.reduceLeDiff, reduceIte, Nat.reduceEqDiff, Nat.reduceBEq, reduceCtorEq, Nat.reduceAdd, Nat.reduceMul, Nat.reduceSub, Nat.reduceLT, Int.reduceToNat, Int.reduceLT, Int.reduceLE, Int.reduceEq, Int.reduceAdd, Int.reduceNeg, Int.reduceMul, Int.reduceSub]
          exact ⟨m - 1, by omega, hJ _ _ ⟨i + 1, by omega, h2, h4, h5, h7, h8, h9, h10, rfl⟩⟩
      · simp -implicitDefEqProofs (disch := omega) only [h2, h4, h5, h7, h8, h9, h10, h11, mwx, ne_eq, false_implies, implies_true, forall_eq_or_imp, MW.get, ev, evs, argFr, resK, packV, slHK, partsV, partsS, setR, Int.cast_ofNat_Int, Int.natCast_zero, Int.natCast_one, Nat.reduceLeDiff, reduceIte, Nat.reduceEqDiff, Nat.reduceBEq, reduceCtorEq, Nat.reduceAdd, Nat.reduceMul, Nat.reduceSub, Nat.reduceLT, Int.reduceToNat, Int.reduceLT, Int.reduceLE, Int.reduceEq, Int.reduceAdd, Int.reduceNeg, Int.reduceMul, Int.reduceSub]
        refine xl_loop (fun m st => ∃ i : Nat, m + i = l.length ∧ get st.fr 0 = v ∧ get st.fr 5 = .bool true ∧ get st.fr 6 = tagsR l ∧ get st.fr 8 = tagsR (tagsT l).1 ∧ get st.fr 9 = .int .i64 0 ∧ get st.fr 12 = tagsR l ∧ get st.fr 13 = .int .i64 0 ∧ get st.fr 15 = .int .i64 i) l.length
          ⟨0, by omega, h2, h4, h5, h7, h8, h9, h10, rfl⟩ ?_
        rintro J hJ m fr H ⟨i, h1, h2, h4, h5, h7, h8, h9, h10, h11⟩
        simp -implicitDefEqProofs (disch := omega) only [h2, h4, h5, h7, h8, h9, h10, h11, lenK_isE hv, mwx, ne_eq, false_implies, implies_true, forall_eq_or_imp, MW.get, ev, evs, argFr, resK, packV, slHK, partsV, partsS, setR, Int.cast_ofNat_Int, Int.natCast_zero, Int.natCast_one, Nat.reduceLeDiff, reduceIte, Nat.reduceEqDiff, Nat.reduceBEq, reduceCtorEq, Nat.reduceAdd, Nat.reduceMul, Nat.reduceSub, Nat.reduceLT, Int.reduceToNat, Int.reduceLT, Int.reduceLE, Int.reduceEq, Int.reduceAdd, Int.reduceNeg, Int.reduceMul, Int.reduceSub]
        refine xc_dec (fun hd => ?_) fun hd => ?_
        · have hi : i < l.length := by omega
          have hi0 : (0 : Int) ≤ (i : Int) := by omega
          have hi1 : (i : Int).toNat < l.length := by omega
          have hm1 : l.getD i [] ∈ (tagsT l).1 := (hmem _).2 (getD_mem hi)
          simp -implicitDefEqProofs (disch := omega) only [h2, h4, h5, h7, h8, h9, h10, h11, iaK_str hv hi0 hi1, mwx, ne_eq, false_implies, implies_true, forall_eq_or_imp, MW.get, ev, evs, argFr, resK, packV, slHK, partsV, partsS, setR, Int.cast_ofNat_Int, Int.natCast_zero, Int.natCast_one, Nat.reduceLeDiff, reduceIte, Nat.reduceEqDiff, Nat.reduceBEq, reduceCtorEq, Nat.reduceAdd, Nat.reduceMul, Nat.reduceSub, Nat.reduceLT, Int.reduceToNat, Int.reduceLT, Int.reduceLE, Int.reduceEq, Int.reduceAdd, Int.reduceNeg, Int.reduceMul, Int.reduceSub]
          refine Does.call (has_fn hX (by omega) (l.getD i [])) (fr2 hX.free (.str _)) ?_
          simp -implicitDefEqProofs (disch := omega) only [h2, h4, h5, h7, h8, h9, h10, h11, hm1, mwx, ne_eq, false_implies, implies_true, forall_eq_or_imp, MW.get, ev, evs, argFr, resK, packV, slHK, partsV, partsS, setR, Int.cast_ofNat_Int, Int.natCast_zero, Int.natCast_one, Nat.reduceLeDiff, reduceIte, Nat.reduceEqDiff, Nat.reduceBEq, reduceCtorEq, Nat.reduceAdd, Nat.reduceMul, Nat.reduceSub, Nat.reduceLT, Int.reduceToNat, Int.reduceLT, Int.reduceLE, Int.reduceEq, Int.reduceAdd, Int.reduceNeg, Int.reduceMul, Int.reduceSub]
          exact ⟨m - 1, by omega, hJ _ _ ⟨i + 1, by omega, h2, h4, h5, h7, h8, h9, h10, rfl⟩⟩
        · have hx3 : ((tagsT l).1.length : Int) ≤ 3 := by omega
          simp -implicitDefEqProofs (disch := omega) only [h2, h4, h5, h7, h8, h9, h10, h11, mwx, ne_eq, false_implies, implies_true, forall_eq_or_imp, MW.get, ev, evs, argFr, resK, packV, slHK, partsV, partsS, setR, Int.cast_ofNat_Int, Int.natCast_zero, Int.natCast_one, Nat.reduceLeDiff, reduceIte, Nat.reduceEqDiff, Nat.reduceBEq, reduceCtorEq, Nat.reduceAdd, Nat.reduceMul, Nat.reduceSub, Nat.reduceLT, Int.reduceToNat, Int.reduceLT, Int.reduceLE, Int.reduceEq, Int.reduceAdd, Int.reduceNeg, Int.reduceMul, Int.reduceSub]
          refine Does.call (same7_fn hY hX (by omega)) (fr2 hY.free hX.free) ?_
          simp -implicitDefEqProofs (disch := omega) only [h2, h4, h5, h7, h8, h9, h10, h11, mwx, ne_eq, false_implies, implies_true, forall_eq_or_imp, MW.get, ev, evs, argFr, resK, packV, slHK, partsV, partsS, setR, Int.cast_ofNat_Int, Int.natCast_zero, Int.natCast_one, Nat.reduceLeDiff, reduceIte, Nat.reduceEqDiff, Nat.reduceBEq, reduceCtorEq, Nat.reduceAdd, Nat.reduceMul, Nat.reduceSub, Nat.reduceLT, Int.reduceToNat, Int.reduceLT, Int.reduceLE, Int.reduceEq, Int.reduceAdd, Int.reduceNeg, Int.reduceMul, Int.reduceSub]
          refine Does.call (same7_fn hX hX (by omega)) (fr2 hX.free hX.free) ?_
          simp -implicitDefEqProofs (disch := omega) only [h2, h4, h5, h7, h8, h9, h10, h11, lenK_isE hX, hx3, mwx, ne_eq, false_implies, implies_true, forall_eq_or_imp, MW.get, ev, evs, argFr, resK, packV, slHK, partsV, partsS, setR, Int.cast_ofNat_Int, Int.natCast_zero, Int.natCast_one, Nat.reduceLeDiff, reduceIte, Nat.reduceEqDiff, Nat.reduceBEq, reduceCtorEq, Nat.reduceAdd, Nat.reduceMul, Nat.reduceSub, Nat.reduceLT, Int.reduceToNat, Int.reduceLT, Int.reduceLE, Int.reduceEq, Int.reduceAdd, Int.reduceNeg, Int.reduceMul, Int.reduceSub]
          exact frz_bool rfl
    · have hb := tagsT_bad he
      have e1 : (tagsT l).2 = 90 := by rw [hb]
      have e2 : ((tagsT l).1.length : Int) = 0 := by rw [hb]; rfl
      rw [e1] at h6
      simp -implicitDefEqProofs (disch := omega) only [h2, h3, h4, h5, h6, h7, h8, e1, lenK_isE hX, e2, mwx, ne_eq, false_implies, implies_true, forall_eq_or_imp, MW.get, ev, evs, argFr, resK, packV, slHK, partsV, partsS, setR, Int.cast_ofNat_Int, Int.natCast_zero, Int.natCast_one, Nat.reduceLeDiff, reduceIte, Nat.reduceEqDiff, Nat.reduceBEq, reduceCtorEq, Nat.reduceAdd, Nat.reduceMul, Nat.reduceSub, Nat.reduceLT, Int.reduceToNat, Int.reduceLT, Int.reduceLE, Int.reduceEq, Int.reduceAdd, Int.reduceNeg, Int.reduceMul, Int.reduceSub]
      exact frz_bool rfl

end Go.Proofs.Ytoopcfgmffpogaa

/- Thing (chapter 9): the document's answer; ThingTells. -/
namespace Go.Proofs.Ytoopcfgmffpogaa
open Go Go.MW
set_option linter.unusedSimpArgs false
set_option linter.unusedVariables false
set_option maxRecDepth 8000

theorem key_ref (k : List UInt8) : Does Try.prog G0 false 36 [.str k] (.bool (keyOK k)) := by
  refine Does.intro mixed comp36 ?_
  unfold c36
  simp -implicitDefEqProofs (disch := omega) only [mwx, ne_eq, false_implies, implies_true, forall_eq_or_imp, MW.get, ev, evs, argFr, resK, packV, slHK, partsV, partsS, setR, Int.cast_ofNat_Int, Int.natCast_zero, Int.natCast_one, Nat.reduceLeDiff, reduceIte, Nat.reduceEqDiff, Nat.reduceBEq, reduceCtorEq, Nat.reduceAdd, Nat.reduceMul, Nat.reduceSub, Nat.reduceLT, Int.reduceToNat, Int.reduceLT, Int.reduceLE, Int.reduceEq, Int.reduceAdd, Int.reduceNeg, Int.reduceMul, Int.reduceSub]
  refine xg_dec (fun h => ?_) fun h => ?_
  · simp -implicitDefEqProofs (disch := omega) only [h, mwx, ne_eq, false_implies, implies_true, forall_eq_or_imp, MW.get, ev, evs, argFr, resK, packV, slHK, partsV, partsS, setR, Int.cast_ofNat_Int, Int.natCast_zero, Int.natCast_one, Nat.reduceLeDiff, reduceIte, Nat.reduceEqDiff, Nat.reduceBEq, reduceCtorEq, Nat.reduceAdd, Nat.reduceMul, Nat.reduceSub, Nat.reduceLT, Int.reduceToNat, Int.reduceLT, Int.reduceLE, Int.reduceEq, Int.reduceAdd, Int.reduceNeg, Int.reduceMul, Int.reduceSub]
    refine frz_bool ?_
    unfold keyOK
    rw [decide_eq_decide]
    omega
  · simp -implicitDefEqProofs (disch := omega) only [h, mwx, ne_eq, false_implies, implies_true, forall_eq_or_imp, MW.get, ev, evs, argFr, resK, packV, slHK, partsV, partsS, setR, Int.cast_ofNat_Int, Int.natCast_zero, Int.natCast_one, Nat.reduceLeDiff, reduceIte, Nat.reduceEqDiff, Nat.reduceBEq, reduceCtorEq, Nat.reduceAdd, Nat.reduceMul, Nat.reduceSub, Nat.reduceLT, Int.reduceToNat, Int.reduceLT, Int.reduceLE, Int.reduceEq, Int.reduceAdd, Int.reduceNeg, Int.reduceMul, Int.reduceSub]
    refine frz_bool ?_
    unfold keyOK
    symm
    rw [decide_eq_false_iff_not]
    omega

theorem hash_ref (k : List UInt8) (hk : k.length ≤ 1000000) : Does Try.prog G0 false 39 [.str k] (.int .u64 (hash k)) := by
  refine Does.intro mixed comp39 ?_
  unfold c39
  simp -implicitDefEqProofs (disch := omega) only [mwx, ne_eq, false_implies, implies_true, forall_eq_or_imp, MW.get, ev, evs, argFr, resK, packV, slHK, partsV, partsS, setR, Int.cast_ofNat_Int, Int.natCast_zero, Int.natCast_one, Nat.reduceLeDiff, reduceIte, Nat.reduceEqDiff, Nat.reduceBEq, reduceCtorEq, Nat.reduceAdd, Nat.reduceMul, Nat.reduceSub, Nat.reduceLT, Int.reduceToNat, Int.reduceLT, Int.reduceLE, Int.reduceEq, Int.reduceAdd, Int.reduceNeg, Int.reduceMul, Int.reduceSub]
  refine xl_loop (fun m st => ∃ i : Nat, m + i = k.length ∧ get st.fr 0 = .str k ∧ get st.fr 3 = .int .u64 (hash (k.take i)) ∧ get st.fr 4 = .int .i64 i) k.length ⟨0, by omega, rfl, rfl, rfl⟩ ?_
  rintro J hJ m fr H ⟨i, h1, h2, h3, h5⟩
  simp -implicitDefEqProofs (disch := omega) only [h2, h3, h5, mwx, ne_eq, false_implies, implies_true, forall_eq_or_imp, MW.get, ev, evs, argFr, resK, packV, slHK, partsV, partsS, setR, Int.cast_ofNat_Int, Int.natCast_zero, Int.natCast_one, Nat.reduceLeDiff, reduceIte, Nat.reduceEqDiff, Nat.reduceBEq, reduceCtorEq, Nat.reduceAdd, Nat.reduceMul, Nat.reduceSub, Nat.reduceLT, Int.reduceToNat, Int.reduceLT, Int.reduceLE, Int.reduceEq, Int.reduceAdd, Int.reduceNeg, Int.reduceMul, Int.reduceSub]
  refine xc_dec (fun h => ?_) fun h => ?_
  · have hi : i < k.length := by omega
    have hw : IntKind.u64.wrap ((k.getD i 0).toNat : Int) = (k.getD i 0).toNat := wrap_u64' (by have := (k.getD i 0).toNat_lt; omega)
    simp -implicitDefEqProofs (disch := omega) only [h2, h3, h5, u8V, hi, hw, mwx, ne_eq, false_implies, implies_true, forall_eq_or_imp, MW.get, ev, evs, argFr, resK, packV, slHK, partsV, partsS, setR, Int.cast_ofNat_Int, Int.natCast_zero, Int.natCast_one, Nat.reduceLeDiff, reduceIte, Nat.reduceEqDiff, Nat.reduceBEq, reduceCtorEq, Nat.reduceAdd, Nat.reduceMul, Nat.reduceSub, Nat.reduceLT, Int.reduceToNat, Int.reduceLT, Int.reduceLE, Int.reduceEq, Int.reduceAdd, Int.reduceNeg, Int.reduceMul, Int.reduceSub]
    exact ⟨m - 1, by omega, hJ _ _ ⟨i + 1, by omega, h2, by rw [hash_take hi]; rfl, rfl⟩⟩
  · simp -implicitDefEqProofs (disch := omega) only [h3, mwx, ne_eq, false_implies, implies_true, forall_eq_or_imp, MW.get, ev, evs, argFr, resK, packV, slHK, partsV, partsS, setR, Int.cast_ofNat_Int, Int.natCast_zero, Int.natCast_one, Nat.reduceLeDiff, reduceIte, Nat.reduceEqDiff, Nat.reduceBEq, reduceCtorEq, Nat.reduceAdd, Nat.reduceMul, Nat.reduceSub, Nat.reduceLT, Int.reduceToNat, Int.reduceLT, Int.reduceLE, Int.reduceEq, Int.reduceAdd, Int.reduceNeg, Int.reduceMul, Int.reduceSub]
    obtain rfl : i = k.length := by omega
    exact frz_int (by rw [List.take_length])

theorem home_ref (k : List UInt8) (hk : k.length ≤ 1000000) (n : Int) (hn : n ≤ 9223372036854775807) : Does Try.prog G0 false 41 [.str k, .int .i64 n] (.int .i64 (homeN k n)) := by
  refine Does.intro mixed comp41 ?_
  unfold c41
  simp -implicitDefEqProofs (disch := omega) only [mwx, ne_eq, false_implies, implies_true, forall_eq_or_imp, MW.get, ev, evs, argFr, resK, packV, slHK, partsV, partsS, setR, Int.cast_ofNat_Int, Int.natCast_zero, Int.natCast_one, Nat.reduceLeDiff, reduceIte, Nat.reduceEqDiff, Nat.reduceBEq, reduceCtorEq, Nat.reduceAdd, Nat.reduceMul, Nat.reduceSub, Nat.reduceLT, Int.reduceToNat, Int.reduceLT, Int.reduceLE, Int.reduceEq, Int.reduceAdd, Int.reduceNeg, Int.reduceMul, Int.reduceSub]
  refine xc_dec (fun h => ?_) fun h => ?_
  · simp -implicitDefEqProofs (disch := omega) only [mwx, ne_eq, false_implies, implies_true, forall_eq_or_imp, MW.get, ev, evs, argFr, resK, packV, slHK, partsV, partsS, setR, Int.cast_ofNat_Int, Int.natCast_zero, Int.natCast_one, Nat.reduceLeDiff, reduceIte, Nat.reduceEqDiff, Nat.reduceBEq, reduceCtorEq, Nat.reduceAdd, Nat.reduceMul, Nat.reduceSub, Nat.reduceLT, Int.reduceToNat, Int.reduceLT, Int.reduceLE, Int.reduceEq, Int.reduceAdd, Int.reduceNeg, Int.reduceMul, Int.reduceSub]
    exact frz_int (by unfold homeN; rw [if_pos (by omega)])
  · simp -implicitDefEqProofs (disch := omega) only [mwx, ne_eq, false_implies, implies_true, forall_eq_or_imp, MW.get, ev, evs, argFr, resK, packV, slHK, partsV, partsS, setR, Int.cast_ofNat_Int, Int.natCast_zero, Int.natCast_one, Nat.reduceLeDiff, reduceIte, Nat.reduceEqDiff, Nat.reduceBEq, reduceCtorEq, Nat.reduceAdd, Nat.reduceMul, Nat.reduceSub, Nat.reduceLT, Int.reduceToNat, Int.reduceLT, Int.reduceLE, Int.reduceEq, Int.reduceAdd, Int.reduceNeg, Int.reduceMul, Int.reduceSub]
    refine Does.call (hash_ref k hk) (fr1 (.str _)) ?_
    have hr := hash_range k
    have h1 : IntKind.u64.wrap n = n := by rw [wrap_u64i]; omega
    have h2 : (hash k).tmod n = hash k % n := Int.tmod_eq_emod_of_nonneg (by omega)
    have h4 := Int.emod_nonneg (hash k) (b := n) (by omega)
    have h5 := Int.emod_lt_of_pos (hash k) (b := n) (by omega)
    have h3 : IntKind.i64.wrap (hash k % n) = hash k % n := wrap64 (by omega) (by omega)
    have h6 : ¬ n = 0 := by omega
    simp -implicitDefEqProofs (disch := omega) only [h1, h2, h3, h6, mwx, ne_eq, false_implies, implies_true, forall_eq_or_imp, MW.get, ev, evs, argFr, resK, packV, slHK, partsV, partsS, setR, Int.cast_ofNat_Int, Int.natCast_zero, Int.natCast_one, Nat.reduceLeDiff, reduceIte, Nat.reduceEqDiff, Nat.reduceBEq, reduceCtorEq, Nat.reduceAdd, Nat.reduceMul, Nat.reduceSub, Nat.reduceLT, Int.reduceToNat, Int.reduceLT, Int.reduceLE, Int.reduceEq, Int.reduceAdd, Int.reduceNeg, Int.reduceMul, Int.reduceSub]
    exact frz_int (by unfold homeN; rw [if_neg (by omega)])

/-- A text put among texts that rise. -/
def insR (s : List UInt8) : List (List UInt8) → List (List UInt8)
  | [] => [s]
  | a :: l => if Op.bytesLess a s then a :: insR s l else if a = s then a :: l else s :: a :: l

theorem insR_eq {s : List UInt8} : ∀ (l : List (List UInt8)) (i : Nat), i ≤ l.length → (∀ j, j < i → Op.bytesLess (l.getD j []) s = true) → (i < l.length → Op.bytesLess (l.getD i []) s = false) →
    insR s l = if i < l.length ∧ l.getD i [] = s then l else l.take i ++ ([s] ++ l.drop i)
  | [], i, hi, _, _ => by
    obtain rfl : i = 0 := by simpa using hi
    rfl
  | a :: l, 0, hi, h1, h2 => by
    have := h2 (by simp)
    simp only [List.getD_cons_zero] at this
    simp only [insR, this, Bool.false_eq_true, if_false, List.getD_cons_zero, List.length_cons, Nat.zero_lt_succ, true_and, List.take_zero, List.drop_zero, List.nil_append]
    rfl
  | a :: l, i + 1, hi, h1, h2 => by
    have h0 := h1 0 (by omega)
    simp only [List.getD_cons_zero] at h0
    have ih := insR_eq (s := s) l i (by simpa using hi) (fun j hj => by have := h1 (j + 1) (by omega); simpa using this) (fun hj => by have := h2 (by simpa using hj); simpa using this)
    simp only [insR, h0, if_true, ih, List.getD_cons_succ, List.length_cons, Nat.add_lt_add_iff_right, List.take_succ_cons, List.drop_succ_cons]
    split
    · rfl
    · rfl

theorem insR_mem {s x : List UInt8} : ∀ l : List (List UInt8), x ∈ insR s l ↔ x = s ∨ x ∈ l
  | [] => by simp [insR]
  | a :: l => by
    have ih := insR_mem (s := s) (x := x) l
    unfold insR
    split
    · rw [List.mem_cons, ih, List.mem_cons]
      constructor
      · rintro (h | h | h)
        · exact .inr (.inl h)
        · exact .inl h
        · exact .inr (.inr h)
      · rintro (h | h | h)
        · exact .inr (.inl h)
        · exact .inl h
        · exact .inr (.inr h)
    · split
      · rename_i e
        rw [List.mem_cons]
        constructor
        · intro h; exact .inr h
        · rintro (h | h)
          · exact .inl (h.trans e.symm)
          · exact h
      · rw [List.mem_cons]

theorem lt_of_not {a s : List UInt8} (h : ¬ a < s) (hne : a ≠ s) : s < a := by
  apply Classical.byContradiction
  intro h5
  exact hne (List.le_antisymm (List.not_lt.1 h5) (List.not_lt.1 h))

theorem insR_sorted {s : List UInt8} : ∀ l : List (List UInt8), l.Pairwise (· < ·) → (insR s l).Pairwise (· < ·)
  | [], _ => by simp [insR]
  | a :: l, h => by
    obtain ⟨h1, h2⟩ := List.pairwise_cons.1 h
    unfold insR
    split
    · rename_i hl
      rw [Go.Proofs.bytesLess_eq, decide_eq_true_eq] at hl
      refine List.pairwise_cons.2 ⟨fun x hx => ?_, insR_sorted l h2⟩
      rcases (insR_mem l).1 hx with rfl | hx
      · exact hl
      · exact h1 x hx
    · rename_i hl
      rw [Go.Proofs.bytesLess_eq, decide_eq_true_eq] at hl
      split
      · exact h
      · rename_i hne
        have hsa := lt_of_not hl hne
        refine List.pairwise_cons.2 ⟨fun x hx => ?_, h⟩
        rcases List.mem_cons.1 hx with rfl | hx
        · exact hsa
        · exact List.lt_trans hsa (h1 x hx)

def refL (l : List (List UInt8)) : List (List UInt8) := l.foldl (fun ds s => insR s ds) []
theorem refL_take {l : List (List UInt8)} {i : Nat} (h : i < l.length) : refL (l.take (i + 1)) = insR (l.getD i []) (refL (l.take i)) := by
  unfold refL
  rw [List.take_add_one, List.foldl_append, List.getElem?_eq_getElem h, List.getD_eq_getElem?_getD, List.getElem?_eq_getElem h]
  rfl
theorem refL_spec : ∀ (l ds : List (List UInt8)), ds.Pairwise (· < ·) → (l.foldl (fun ds s => insR s ds) ds).Pairwise (· < ·) ∧ ∀ x, x ∈ l.foldl (fun ds s => insR s ds) ds ↔ x ∈ ds ∨ x ∈ l
  | [], ds, h => ⟨h, fun x => by simp⟩
  | a :: l, ds, h => by
    obtain ⟨h1, h2⟩ := refL_spec l (insR a ds) (insR_sorted ds h)
    refine ⟨h1, fun x => (h2 x).trans ?_⟩
    rw [insR_mem, List.mem_cons]
    constructor
    · rintro ((h | h) | h)
      · exact .inr (.inl h)
      · exact .inl h
      · exact .inr (.inr h)
    · rintro (h | h | h)
      · exact .inl (.inr h)
      · exact .inl (.inl h)
      · exact .inr h
theorem refL_eq (l : List (List UInt8)) : refL l = srt (ddL l) := by
  obtain ⟨h1, h2⟩ := refL_spec l [] List.Pairwise.nil
  have hn : (refL l).Nodup := List.Pairwise.imp (fun {a b} (h : a < b) (e : a = b) => List.lt_irrefl b (by rw [e] at h; exact h)) h1
  have hp : (refL l).Perm (srt (ddL l)) := ((List.perm_ext_iff_of_nodup hn (ddL_nodup l)).2 fun x => by
    rw [ddL_mem]
    exact (h2 x).trans (by simp)).trans (srt_perm _).symm
  refine List.Perm.eq_of_pairwise (le := fun a b => a ≤ b) (fun a b _ _ g1 g2 => List.le_antisymm g1 g2) ?_ (srt_sorted' _) hp
  exact List.Pairwise.imp (fun h => List.le_of_lt h) h1
theorem refL_length (l : List (List UInt8)) : (refL l).length ≤ l.length := by
  rw [refL_eq, srt_length]; exact ddL_length l

/-- A row of texts, or nothing. -/
def rV (ds : List (List UInt8)) : V := if ds = [] then .nils else .vs (strE.vs ds)
theorem rV_isE (ds : List (List UInt8)) : IsE strE (rV ds) ds := by
  unfold rV
  split
  · rename_i h; exact .inl ⟨rfl, h⟩
  · exact .inr rfl

def loV (ds : List (List UInt8)) (i : Nat) : V := if ds = [] then .nils else .vs (strE.vs (ds.drop i))
def hiV (ds : List (List UInt8)) (i : Nat) : V := if ds = [] then .nils else .vs (strE.vs (ds.take i))
theorem loV_isE (ds : List (List UInt8)) (i : Nat) : IsE strE (loV ds i) (ds.drop i) := by
  unfold loV
  split
  · rename_i h; exact .inl ⟨rfl, by rw [h]; simp⟩
  · exact .inr rfl
theorem hiV_isE (ds : List (List UInt8)) (i : Nat) : IsE strE (hiV ds i) (ds.take i) := by
  unfold hiV
  split
  · rename_i h; exact .inl ⟨rfl, by rw [h]; simp⟩
  · exact .inr rfl
theorem sl_lo {ds : List (List UInt8)} {i : Nat} (hi : i ≤ ds.length) {H : List Blk} {K : V → Prop} : slK H 1 (rV ds) (some (.int .i64 (i : Int))) none none K = K (loV ds i) := by
  unfold rV loV
  split
  · rename_i h
    subst h
    obtain rfl : i = 0 := by simpa using hi
    simp [slK, bnd]
  · have hcs := El.vs_cells (e := strE) ds (n := 1) rfl
    have hL : (strE.vs ds).length = ds.length := El.vs_length ds
    have hT : ((strE.vs ds).drop i).take (ds.length - i) = strE.vs (ds.drop i) := by
      rw [El.vs_drop]
      exact List.take_of_length_le (by rw [El.vs_length, List.length_drop]; omega)
    simp only [slK, bnd, hcs, hL, Int.toNat_natCast, hT]
    simp [hi]
theorem sl_hi {ds : List (List UInt8)} {i : Nat} (hi : i ≤ ds.length) {H : List Blk} {K : V → Prop} : slK H 1 (rV ds) none (some (.int .i64 (i : Int))) none K = K (hiV ds i) := by
  unfold rV hiV
  split
  · rename_i h
    subst h
    obtain rfl : i = 0 := by simpa using hi
    simp [slK, bnd]
  · have hcs := El.vs_cells (e := strE) ds (n := 1) rfl
    have hL : (strE.vs ds).length = ds.length := El.vs_length ds
    have hT : ((strE.vs ds).drop 0).take (i - 0) = strE.vs (ds.take i) := by
      rw [List.drop_zero, Nat.sub_zero, El.vs_take]
    simp only [slK, bnd, hcs, hL, Int.toNat_natCast, hT]
    simp [hi]

theorem put_ref (ds : List (List UInt8)) (hd : ds.length ≤ 1000000) (s : List UInt8) : Does Try.prog G0 true 53 [rV ds, .str s] (rV (insR s ds)) := by
  have hv := rV_isE ds
  refine Does.intro mixed comp53 ?_
  unfold c53
  simp -implicitDefEqProofs (disch := omega) only [mwx, ne_eq, false_implies, implies_true, forall_eq_or_imp, MW.get, ev, evs, argFr, resK, packV, slHK, partsV, partsS, setR, Int.cast_ofNat_Int, Int.natCast_zero, Int.natCast_one, Nat.reduceLeDiff, reduceIte, Nat.reduceEqDiff, Nat.reduceBEq, reduceCtorEq, Nat.reduceAdd, Nat.reduceMul, Nat.reduceSub, Nat.reduceLT, Int.reduceToNat, Int.reduceLT, Int.reduceLE, Int.reduceEq, Int.reduceAdd, Int.reduceNeg, Int.reduceMul, Int.reduceSub]
  refine xl_loop (fun m st => ∃ i : Nat, m + i = ds.length ∧ get st.fr 0 = rV ds ∧ get st.fr 1 = .str s ∧ get st.fr 5 = .int .i64 i ∧ ∀ j, j < i → Op.bytesLess (ds.getD j []) s = true) ds.length ⟨0, by omega, rfl, rfl, rfl, by omega⟩ ?_
  rintro J hJ m fr H ⟨i, h1, h2, h3, h4, h5⟩
  have hi0 : (0 : Int) ≤ (i : Int) := by omega
  by_cases hi : i < ds.length
  · have hi1 : (i : Int).toNat < ds.length := by omega
    have hil : (i : Int) < (ds.length : Int) := by omega
    rcases hb : Op.bytesLess (ds.getD i []) s with _ | _
    · have hins := insR_eq (s := s) ds i (by omega) h5 (fun _ => hb)
      by_cases hs : ds.getD i [] = s
      · have e1 : (ds.getD i [] == s) = true := by simpa using hs
        rw [if_pos ⟨hi, hs⟩] at hins
        rw [hins]
        simp -implicitDefEqProofs (disch := omega) only [h2, h3, h4, lenK_isE hv, hil, iaK_str hv hi0 hi1, hb, e1, mwx, ne_eq, false_implies, implies_true, forall_eq_or_imp, MW.get, ev, evs, argFr, resK, packV, slHK, partsV, partsS, setR, Int.cast_ofNat_Int, Int.natCast_zero, Int.natCast_one, Nat.reduceLeDiff, reduceIte, Nat.reduceEqDiff, Nat.reduceBEq, reduceCtorEq, Nat.reduceAdd, Nat.reduceMul, Nat.reduceSub, Nat.reduceLT, Int.reduceToNat, Int.reduceLT, Int.reduceLE, Int.reduceEq, Int.reduceAdd, Int.reduceNeg, Int.reduceMul, Int.reduceSub]
        exact .free hv.free
      · have e1 : (ds.getD i [] == s) = false := by simpa using hs
        rw [if_neg (fun h => hs h.2)] at hins
        have hin : i ≤ ds.length := by omega
        have lo := fun (H : List Blk) (K : V → Prop) => sl_lo (H := H) (K := K) hin
        have hh := fun (H : List Blk) (K : V → Prop) => sl_hi (H := H) (K := K) hin
        have el := fun (H : List Blk) (K : List V → Prop) => elemsK_isE (loV_isE ds i) (H := H) (K := K)
        have eh := fun (H : List Blk) (K : List V → Prop) => elemsK_isE (hiV_isE ds i) (H := H) (K := K)
        simp -implicitDefEqProofs (disch := omega) only [h2, h3, h4, lenK_isE hv, hil, iaK_str hv hi0 hi1, hb, e1, lo, el, mwx, ne_eq, false_implies, implies_true, forall_eq_or_imp, MW.get, ev, evs, argFr, resK, packV, slHK, partsV, partsS, setR, Int.cast_ofNat_Int, Int.natCast_zero, Int.natCast_one, Nat.reduceLeDiff, reduceIte, Nat.reduceEqDiff, Nat.reduceBEq, reduceCtorEq, Nat.reduceAdd, Nat.reduceMul, Nat.reduceSub, Nat.reduceLT, Int.reduceToNat, Int.reduceLT, Int.reduceLE, Int.reduceEq, Int.reduceAdd, Int.reduceNeg, Int.reduceMul, Int.reduceSub]
        have hO0 : Own 1 (H ++ [.row 1 [] false false]) (.hs H.length 0 0 0 0 (some 0) 1) [] := Own.hs rfl (getB_new H _) (.inr rfl)
        refine hO0.app (by intro y hy; cases hy) (El.vs_goods (e := strE) _) (roomy_of (by rw [El.vs_length, List.length_drop]; simp <;> omega) (by omega)) fun v1 H1 hO1 => ?_
        rw [List.nil_append] at hO1
        simp -implicitDefEqProofs (disch := omega) only [h2, h3, h4, hh, eh, mwx, ne_eq, false_implies, implies_true, forall_eq_or_imp, MW.get, ev, evs, argFr, resK, packV, slHK, partsV, partsS, setR, Int.cast_ofNat_Int, Int.natCast_zero, Int.natCast_one, Nat.reduceLeDiff, reduceIte, Nat.reduceEqDiff, Nat.reduceBEq, reduceCtorEq, Nat.reduceAdd, Nat.reduceMul, Nat.reduceSub, Nat.reduceLT, Int.reduceToNat, Int.reduceLT, Int.reduceLE, Int.reduceEq, Int.reduceAdd, Int.reduceNeg, Int.reduceMul, Int.reduceSub]
        have h2a : Own2 1 1 (H1 ++ [.row 1 [] false false]) (.hs H1.length 0 0 0 0 (some 0) 1) [] v1 (strE.vs (ds.drop i)) := ⟨Own.hs rfl (getB_new H1 _) (.inr rfl), hO1.grow _, fun b hb hb' => by
          have := hO1.lt hb'
          have hb : H1.length = b := hb
          omega⟩
        refine h2a.app (by intro y hy; cases hy) (El.vs_goods (e := strE) _) (roomy_of (by rw [El.vs_length, List.length_take]; simp <;> omega) (by omega)) fun v2 H2 h2b _ => ?_
        rw [List.nil_append] at h2b
        have hgb : ∀ k : Blk, getB (H2 ++ [k]) H2.length = k := fun k => getB_new H2 k
        simp -implicitDefEqProofs (disch := omega) only [h2, h3, h4, hgb, mwx, ne_eq, false_implies, implies_true, forall_eq_or_imp, MW.get, ev, evs, argFr, resK, packV, slHK, partsV, partsS, setR, Int.cast_ofNat_Int, Int.natCast_zero, Int.natCast_one, Nat.reduceLeDiff, reduceIte, Nat.reduceEqDiff, Nat.reduceBEq, reduceCtorEq, Nat.reduceAdd, Nat.reduceMul, Nat.reduceSub, Nat.reduceLT, Int.reduceToNat, Int.reduceLT, Int.reduceLE, Int.reduceEq, Int.reduceAdd, Int.reduceNeg, Int.reduceMul, Int.reduceSub]
        refine (h2b.keep (Keeps.app H2 _)).app (El.vs_goods (e := strE) _) ?_ (roomy_of (by rw [El.vs_length, List.length_take]; simp <;> omega) (by omega)) fun v3 H3 h2c _ => ?_
        · simp only [goods_cons, goods_nil, good_str, and_self]
        rw [show [V.str s] = strE.vs [s] from rfl, El.vs_append] at h2c
        have ev1 := fun (C : List V → Prop) => els_own h2c.b (Keeps.refl H3) (C := C)
        simp -implicitDefEqProofs (disch := omega) only [h2, h3, h4, ev1, mwx, ne_eq, false_implies, implies_true, forall_eq_or_imp, MW.get, ev, evs, argFr, resK, packV, slHK, partsV, partsS, setR, Int.cast_ofNat_Int, Int.natCast_zero, Int.natCast_one, Nat.reduceLeDiff, reduceIte, Nat.reduceEqDiff, Nat.reduceBEq, reduceCtorEq, Nat.reduceAdd, Nat.reduceMul, Nat.reduceSub, Nat.reduceLT, Int.reduceToNat, Int.reduceLT, Int.reduceLE, Int.reduceEq, Int.reduceAdd, Int.reduceNeg, Int.reduceMul, Int.reduceSub]
        refine h2c.a.app (El.vs_goods (e := strE) _) (El.vs_goods (e := strE) _) (roomy_of (by rw [El.vs_length, El.vs_length, List.length_append, List.length_take, List.length_drop]; simp <;> omega) (by omega)) fun v4 H4 hO4 => ?_
        rw [El.vs_append, List.append_assoc, ← hins] at hO4
        simp -implicitDefEqProofs (disch := omega) only [h2, h3, h4, mwx, ne_eq, false_implies, implies_true, forall_eq_or_imp, MW.get, ev, evs, argFr, resK, packV, slHK, partsV, partsS, setR, Int.cast_ofNat_Int, Int.natCast_zero, Int.natCast_one, Nat.reduceLeDiff, reduceIte, Nat.reduceEqDiff, Nat.reduceBEq, reduceCtorEq, Nat.reduceAdd, Nat.reduceMul, Nat.reduceSub, Nat.reduceLT, Int.reduceToNat, Int.reduceLT, Int.reduceLE, Int.reduceEq, Int.reduceAdd, Int.reduceNeg, Int.reduceMul, Int.reduceSub]
        have hne : insR s ds ≠ [] := by rw [hins]; simp
        unfold rV
        rw [if_neg hne]
        exact own_frzE (e := strE) hO4 rfl (by decide) hne
    · simp -implicitDefEqProofs (disch := omega) only [h2, h3, h4, lenK_isE hv, hil, iaK_str hv hi0 hi1, hb, mwx, ne_eq, false_implies, implies_true, forall_eq_or_imp, MW.get, ev, evs, argFr, resK, packV, slHK, partsV, partsS, setR, Int.cast_ofNat_Int, Int.natCast_zero, Int.natCast_one, Nat.reduceLeDiff, reduceIte, Nat.reduceEqDiff, Nat.reduceBEq, reduceCtorEq, Nat.reduceAdd, Nat.reduceMul, Nat.reduceSub, Nat.reduceLT, Int.reduceToNat, Int.reduceLT, Int.reduceLE, Int.reduceEq, Int.reduceAdd, Int.reduceNeg, Int.reduceMul, Int.reduceSub]
      exact ⟨m - 1, by omega, hJ _ _ ⟨i + 1, by omega, h2, h3, rfl, fun j hj => by
        by_cases hji : j = i
        · subst hji; exact hb
        · exact h5 j (by omega)⟩⟩
  · obtain rfl : i = ds.length := by omega
    have hins := insR_eq (s := s) ds ds.length (by omega) h5 (fun h => by omega)
    rw [if_neg (fun h => hi h.1)] at hins
    have hil : ¬ ((ds.length : Int) < (ds.length : Int)) := by omega
    have hin : ds.length ≤ ds.length := by omega
    have lo := fun (H : List Blk) (K : V → Prop) => sl_lo (H := H) (K := K) hin
    have hh := fun (H : List Blk) (K : V → Prop) => sl_hi (H := H) (K := K) hin
    have el := fun (H : List Blk) (K : List V → Prop) => elemsK_isE (loV_isE ds ds.length) (H := H) (K := K)
    have eh := fun (H : List Blk) (K : List V → Prop) => elemsK_isE (hiV_isE ds ds.length) (H := H) (K := K)
    simp -implicitDefEqProofs (disch := omega) only [h2, h3, h4, lenK_isE hv, hil, lo, el, mwx, ne_eq, false_implies, implies_true, forall_eq_or_imp, MW.get, ev, evs, argFr, resK, packV, slHK, partsV, partsS, setR, Int.cast_ofNat_Int, Int.natCast_zero, Int.natCast_one, Nat.reduceLeDiff, reduceIte, Nat.reduceEqDiff, Nat.reduceBEq, reduceCtorEq, Nat.reduceAdd, Nat.reduceMul, Nat.reduceSub, Nat.reduceLT, Int.reduceToNat, Int.reduceLT, Int.reduceLE, Int.reduceEq, Int.reduceAdd, Int.reduceNeg, Int.reduceMul, Int.reduceSub]
    have hO0 : Own 1 (H ++ [.row 1 [] false false]) (.hs H.length 0 0 0 0 (some 0) 1) [] := Own.hs rfl (getB_new H _) (.inr rfl)
    refine hO0.app (by intro y hy; cases hy) (El.vs_goods (e := strE) _) (roomy_of (by rw [El.vs_length, List.length_drop]; simp <;> omega) (by omega)) fun v1 H1 hO1 => ?_
    rw [List.nil_append] at hO1
    simp -implicitDefEqProofs (disch := omega) only [h2, h3, h4, hh, eh, mwx, ne_eq, false_implies, implies_true, forall_eq_or_imp, MW.get, ev, evs, argFr, resK, packV, slHK, partsV, partsS, setR, Int.cast_ofNat_Int, Int.natCast_zero, Int.natCast_one, Nat.reduceLeDiff, reduceIte, Nat.reduceEqDiff, Nat.reduceBEq, reduceCtorEq, Nat.reduceAdd, Nat.reduceMul, Nat.reduceSub, Nat.reduceLT, Int.reduceToNat, Int.reduceLT, Int.reduceLE, Int.reduceEq, Int.reduceAdd, Int.reduceNeg, Int.reduceMul, Int.reduceSub]
    have h2a : Own2 1 1 (H1 ++ [.row 1 [] false false]) (.hs H1.length 0 0 0 0 (some 0) 1) [] v1 (strE.vs (ds.drop ds.length)) := ⟨Own.hs rfl (getB_new H1 _) (.inr rfl), hO1.grow _, fun b hb hb' => by
      have := hO1.lt hb'
      have hb : H1.length = b := hb
      omega⟩
    refine h2a.app (by intro y hy; cases hy) (El.vs_goods (e := strE) _) (roomy_of (by rw [El.vs_length, List.length_take]; simp <;> omega) (by omega)) fun v2 H2 h2b _ => ?_
    rw [List.nil_append] at h2b
    have hgb : ∀ k : Blk, getB (H2 ++ [k]) H2.length = k := fun k => getB_new H2 k
    simp -implicitDefEqProofs (disch := omega) only [h2, h3, h4, hgb, mwx, ne_eq, false_implies, implies_true, forall_eq_or_imp, MW.get, ev, evs, argFr, resK, packV, slHK, partsV, partsS, setR, Int.cast_ofNat_Int, Int.natCast_zero, Int.natCast_one, Nat.reduceLeDiff, reduceIte, Nat.reduceEqDiff, Nat.reduceBEq, reduceCtorEq, Nat.reduceAdd, Nat.reduceMul, Nat.reduceSub, Nat.reduceLT, Int.reduceToNat, Int.reduceLT, Int.reduceLE, Int.reduceEq, Int.reduceAdd, Int.reduceNeg, Int.reduceMul, Int.reduceSub]
    refine (h2b.keep (Keeps.app H2 _)).app (El.vs_goods (e := strE) _) ?_ (roomy_of (by rw [El.vs_length, List.length_take]; simp <;> omega) (by omega)) fun v3 H3 h2c _ => ?_
    · simp only [goods_cons, goods_nil, good_str, and_self]
    rw [show [V.str s] = strE.vs [s] from rfl, El.vs_append] at h2c
    have ev1 := fun (C : List V → Prop) => els_own h2c.b (Keeps.refl H3) (C := C)
    simp -implicitDefEqProofs (disch := omega) only [h2, h3, h4, ev1, mwx, ne_eq, false_implies, implies_true, forall_eq_or_imp, MW.get, ev, evs, argFr, resK, packV, slHK, partsV, partsS, setR, Int.cast_ofNat_Int, Int.natCast_zero, Int.natCast_one, Nat.reduceLeDiff, reduceIte, Nat.reduceEqDiff, Nat.reduceBEq, reduceCtorEq, Nat.reduceAdd, Nat.reduceMul, Nat.reduceSub, Nat.reduceLT, Int.reduceToNat, Int.reduceLT, Int.reduceLE, Int.reduceEq, Int.reduceAdd, Int.reduceNeg, Int.reduceMul, Int.reduceSub]
    refine h2c.a.app (El.vs_goods (e := strE) _) (El.vs_goods (e := strE) _) (roomy_of (by rw [El.vs_length, El.vs_length, List.length_append, List.length_take, List.length_drop]; simp <;> omega) (by omega)) fun v4 H4 hO4 => ?_
    rw [El.vs_append, List.append_assoc, ← hins] at hO4
    simp -implicitDefEqProofs (disch := omega) only [h2, h3, h4, mwx, ne_eq, false_implies, implies_true, forall_eq_or_imp, MW.get, ev, evs, argFr, resK, packV, slHK, partsV, partsS, setR, Int.cast_ofNat_Int, Int.natCast_zero, Int.natCast_one, Nat.reduceLeDiff, reduceIte, Nat.reduceEqDiff, Nat.reduceBEq, reduceCtorEq, Nat.reduceAdd, Nat.reduceMul, Nat.reduceSub, Nat.reduceLT, Int.reduceToNat, Int.reduceLT, Int.reduceLE, Int.reduceEq, Int.reduceAdd, Int.reduceNeg, Int.reduceMul, Int.reduceSub]
    have hne : insR s ds ≠ [] := by rw [hins]; simp
    unfold rV
    rw [if_neg hne]
    exact own_frzE (e := strE) hO4 rfl (by decide) hne

theorem tags_ref {v : V} {l : List (List UInt8)} (hv : IsE strE v l) (hl : l.length ≤ 1000) : Does Try.prog G0 true 34 [v] (.tup [tagsR l, .int .i64 (tagsT l).2]) := by
  refine Does.intro mixed comp34 ?_
  unfold c34
  have hbadR : (tagsT l).2 ≠ 0 → tagsT l = ([], 90) ∧ tagsR l = .nils := fun h => by
    have := tagsT_bad h
    exact ⟨this, by unfold tagsR; rw [this]; rfl⟩
  simp -implicitDefEqProofs (disch := omega) only [mwx, ne_eq, false_implies, implies_true, forall_eq_or_imp, MW.get, ev, evs, argFr, resK, packV, slHK, partsV, partsS, setR, Int.cast_ofNat_Int, Int.natCast_zero, Int.natCast_one, Nat.reduceLeDiff, reduceIte, Nat.reduceEqDiff, Nat.reduceBEq, reduceCtorEq, Nat.reduceAdd, Nat.reduceMul, Nat.reduceSub, Nat.reduceLT, Int.reduceToNat, Int.reduceLT, Int.reduceLE, Int.reduceEq, Int.reduceAdd, Int.reduceNeg, Int.reduceMul, Int.reduceSub]
  refine xl_loop (fun m st => ∃ i : Nat, m + i = l.length ∧ get st.fr 0 = v ∧ get st.fr 4 = rV (refL (l.take i)) ∧ get st.fr 5 = .int .i64 i ∧ ∀ j, j < i → okT (l.getD j []) = true) l.length ⟨0, by omega, rfl, rfl, rfl, by omega⟩ ?_
  rintro J hJ m fr H ⟨i, h1, h2, h3, h4, h5⟩
  simp -implicitDefEqProofs (disch := omega) only [h2, h3, h4, lenK_isE hv, mwx, ne_eq, false_implies, implies_true, forall_eq_or_imp, MW.get, ev, evs, argFr, resK, packV, slHK, partsV, partsS, setR, Int.cast_ofNat_Int, Int.natCast_zero, Int.natCast_one, Nat.reduceLeDiff, reduceIte, Nat.reduceEqDiff, Nat.reduceBEq, reduceCtorEq, Nat.reduceAdd, Nat.reduceMul, Nat.reduceSub, Nat.reduceLT, Int.reduceToNat, Int.reduceLT, Int.reduceLE, Int.reduceEq, Int.reduceAdd, Int.reduceNeg, Int.reduceMul, Int.reduceSub]
  refine xc_dec (fun h7 => ?_) fun h7 => ?_
  · have hi : i < l.length := by omega
    have hi0 : (0 : Int) ≤ (i : Int) := by omega
    have hi1 : (i : Int).toNat < l.length := by omega
    have hrt := refL_take hi
    have hrl := refL_length (l.take i)
    simp only [List.length_take] at hrl
    by_cases e1 : ((l.getD i []).length : Int) = 0
    · have hb := hbadR (fun h => by
        have := okT_iff.1 (List.all_eq_true.1 (tagsT_ok h).1 _ (getD_mem hi))
        omega)
      rw [hb.1, hb.2]
      simp -implicitDefEqProofs (disch := omega) only [h2, h3, h4, iaK_str hv hi0 hi1, e1, mwx, ne_eq, false_implies, implies_true, forall_eq_or_imp, MW.get, ev, evs, argFr, resK, packV, slHK, partsV, partsS, setR, Int.cast_ofNat_Int, Int.natCast_zero, Int.natCast_one, Nat.reduceLeDiff, reduceIte, Nat.reduceEqDiff, Nat.reduceBEq, reduceCtorEq, Nat.reduceAdd, Nat.reduceMul, Nat.reduceSub, Nat.reduceLT, Int.reduceToNat, Int.reduceLT, Int.reduceLE, Int.reduceEq, Int.reduceAdd, Int.reduceNeg, Int.reduceMul, Int.reduceSub]
      exact frz_tup2 (.free .nils) (frz_int rfl)
    · by_cases e2 : (8 : Int) < ((l.getD i []).length : Int)
      · have hb := hbadR (fun h => by
          have := okT_iff.1 (List.all_eq_true.1 (tagsT_ok h).1 _ (getD_mem hi))
          omega)
        rw [hb.1, hb.2]
        simp -implicitDefEqProofs (disch := omega) only [h2, h3, h4, iaK_str hv hi0 hi1, e1, e2, mwx, ne_eq, false_implies, implies_true, forall_eq_or_imp, MW.get, ev, evs, argFr, resK, packV, slHK, partsV, partsS, setR, Int.cast_ofNat_Int, Int.natCast_zero, Int.natCast_one, Nat.reduceLeDiff, reduceIte, Nat.reduceEqDiff, Nat.reduceBEq, reduceCtorEq, Nat.reduceAdd, Nat.reduceMul, Nat.reduceSub, Nat.reduceLT, Int.reduceToNat, Int.reduceLT, Int.reduceLE, Int.reduceEq, Int.reduceAdd, Int.reduceNeg, Int.reduceMul, Int.reduceSub]
        exact frz_tup2 (.free .nils) (frz_int rfl)
      · simp -implicitDefEqProofs (disch := omega) only [h2, h3, h4, iaK_str hv hi0 hi1, e1, e2, mwx, ne_eq, false_implies, implies_true, forall_eq_or_imp, MW.get, ev, evs, argFr, resK, packV, slHK, partsV, partsS, setR, Int.cast_ofNat_Int, Int.natCast_zero, Int.natCast_one, Nat.reduceLeDiff, reduceIte, Nat.reduceEqDiff, Nat.reduceBEq, reduceCtorEq, Nat.reduceAdd, Nat.reduceMul, Nat.reduceSub, Nat.reduceLT, Int.reduceToNat, Int.reduceLT, Int.reduceLE, Int.reduceEq, Int.reduceAdd, Int.reduceNeg, Int.reduceMul, Int.reduceSub]
        refine Does.call (put_ref (refL (l.take i)) (by omega) (l.getD i [])) (fr2 (rV_isE _).free (.str _)) ?_
        simp -implicitDefEqProofs (disch := omega) only [h2, h3, h4, mwx, ne_eq, false_implies, implies_true, forall_eq_or_imp, MW.get, ev, evs, argFr, resK, packV, slHK, partsV, partsS, setR, Int.cast_ofNat_Int, Int.natCast_zero, Int.natCast_one, Nat.reduceLeDiff, reduceIte, Nat.reduceEqDiff, Nat.reduceBEq, reduceCtorEq, Nat.reduceAdd, Nat.reduceMul, Nat.reduceSub, Nat.reduceLT, Int.reduceToNat, Int.reduceLT, Int.reduceLE, Int.reduceEq, Int.reduceAdd, Int.reduceNeg, Int.reduceMul, Int.reduceSub]
        refine ⟨m - 1, by omega, hJ _ _ ⟨i + 1, by omega, h2, by rw [hrt]; rfl, rfl, fun j hj => ?_⟩⟩
        by_cases hji : j = i
        · subst hji; exact okT_iff.2 ⟨by omega, by omega⟩
        · exact h5 j (by omega)
  · have ht : l.take i = l := List.take_of_length_le (by omega)
    rw [ht] at h3
    have hrL := refL_eq l
    have hall : l.all okT = true := by
      rw [List.all_eq_true]
      intro s hs
      obtain ⟨j, hj, rfl⟩ := List.getElem_of_mem hs
      have := h5 j (by omega)
      rw [List.getD_eq_getElem?_getD, List.getElem?_eq_getElem hj] at this
      simpa using this
    have hlen : (refL l).length = (ddL l).length := by rw [hrL, srt_length]
    have hvr := rV_isE (refL l)
    by_cases h8 : (3 : Int) < ((refL l).length : Int)
    · have hb := hbadR (fun h => by have := (tagsT_ok h).2.1; omega)
      rw [hb.1, hb.2]
      simp -implicitDefEqProofs (disch := omega) only [h2, h3, h4, lenK_isE hvr, h8, mwx, ne_eq, false_implies, implies_true, forall_eq_or_imp, MW.get, ev, evs, argFr, resK, packV, slHK, partsV, partsS, setR, Int.cast_ofNat_Int, Int.natCast_zero, Int.natCast_one, Nat.reduceLeDiff, reduceIte, Nat.reduceEqDiff, Nat.reduceBEq, reduceCtorEq, Nat.reduceAdd, Nat.reduceMul, Nat.reduceSub, Nat.reduceLT, Int.reduceToNat, Int.reduceLT, Int.reduceLE, Int.reduceEq, Int.reduceAdd, Int.reduceNeg, Int.reduceMul, Int.reduceSub]
      exact frz_tup2 (.free .nils) (frz_int rfl)
    · have e1 : tagsT l = (srt (ddL l), 0) := by unfold tagsT; rw [if_pos ⟨hall, by omega⟩]
      have e2 : tagsR l = rV (refL l) := by unfold tagsR rV; rw [e1, hrL]
      rw [e1, e2]
      simp -implicitDefEqProofs (disch := omega) only [h2, h3, h4, lenK_isE hvr, h8, mwx, ne_eq, false_implies, implies_true, forall_eq_or_imp, MW.get, ev, evs, argFr, resK, packV, slHK, partsV, partsS, setR, Int.cast_ofNat_Int, Int.natCast_zero, Int.natCast_one, Nat.reduceLeDiff, reduceIte, Nat.reduceEqDiff, Nat.reduceBEq, reduceCtorEq, Nat.reduceAdd, Nat.reduceMul, Nat.reduceSub, Nat.reduceLT, Int.reduceToNat, Int.reduceLT, Int.reduceLE, Int.reduceEq, Int.reduceAdd, Int.reduceNeg, Int.reduceMul, Int.reduceSub]
      exact frz_tup2 (.free hvr.free) (frz_int rfl)

theorem tells_law (k : List UInt8) {v : V} {l : List (List UInt8)} (hv : IsE strE v l) (hl : l.length ≤ maxLen) (n : Int) (hn : n ≤ 9223372036854775807) : Does Try.prog G0 true 9 [.str k, v, .int .i64 n] (.bool true) := by
  refine Does.intro mixed comp9 ?_
  unfold c9
  simp -implicitDefEqProofs (disch := omega) only [mwx, ne_eq, false_implies, implies_true, forall_eq_or_imp, MW.get, ev, evs, argFr, resK, packV, slHK, partsV, partsS, setR, Int.cast_ofNat_Int, Int.natCast_zero, Int.natCast_one, Nat.reduceLeDiff, reduceIte, Nat.reduceEqDiff, Nat.reduceBEq, reduceCtorEq, Nat.reduceAdd, Nat.reduceMul, Nat.reduceSub, Nat.reduceLT, Int.reduceToNat, Int.reduceLT, Int.reduceLE, Int.reduceEq, Int.reduceAdd, Int.reduceNeg, Int.reduceMul, Int.reduceSub]
  refine Does.call awake_fn (by simp) ?_
  by_cases hk : (1000 : Int) < (k.length : Int)
  · simp -implicitDefEqProofs (disch := omega) only [hk, mwx, ne_eq, false_implies, implies_true, forall_eq_or_imp, MW.get, ev, evs, argFr, resK, packV, slHK, partsV, partsS, setR, Int.cast_ofNat_Int, Int.natCast_zero, Int.natCast_one, Nat.reduceLeDiff, reduceIte, Nat.reduceEqDiff, Nat.reduceBEq, reduceCtorEq, Nat.reduceAdd, Nat.reduceMul, Nat.reduceSub, Nat.reduceLT, Int.reduceToNat, Int.reduceLT, Int.reduceLE, Int.reduceEq, Int.reduceAdd, Int.reduceNeg, Int.reduceMul, Int.reduceSub]
    exact frz_bool rfl
  have hk' : k.length ≤ 1000000 := by omega
  simp -implicitDefEqProofs (disch := omega) only [hk, mwx, ne_eq, false_implies, implies_true, forall_eq_or_imp, MW.get, ev, evs, argFr, resK, packV, slHK, partsV, partsS, setR, Int.cast_ofNat_Int, Int.natCast_zero, Int.natCast_one, Nat.reduceLeDiff, reduceIte, Nat.reduceEqDiff, Nat.reduceBEq, reduceCtorEq, Nat.reduceAdd, Nat.reduceMul, Nat.reduceSub, Nat.reduceLT, Int.reduceToNat, Int.reduceLT, Int.reduceLE, Int.reduceEq, Int.reduceAdd, Int.reduceNeg, Int.reduceMul, Int.reduceSub]
  refine Does.call (few7_fn hv hl 100) (fr2 hv.free (.int _ _)) ?_
  rcases hf : few7 l 100 with _ | _
  · simp -implicitDefEqProofs (disch := omega) only [mwx, ne_eq, false_implies, implies_true, forall_eq_or_imp, MW.get, ev, evs, argFr, resK, packV, slHK, partsV, partsS, setR, Int.cast_ofNat_Int, Int.natCast_zero, Int.natCast_one, Nat.reduceLeDiff, reduceIte, Nat.reduceEqDiff, Nat.reduceBEq, reduceCtorEq, Nat.reduceAdd, Nat.reduceMul, Nat.reduceSub, Nat.reduceLT, Int.reduceToNat, Int.reduceLT, Int.reduceLE, Int.reduceEq, Int.reduceAdd, Int.reduceNeg, Int.reduceMul, Int.reduceSub]
    exact frz_bool rfl
  have hl100 : l.length ≤ 100 := by have := (few7_spec hf).2; omega
  have hX := tagsR_isE l
  have hX3 := tags_len (l := l)
  simp -implicitDefEqProofs (disch := omega) only [mwx, ne_eq, false_implies, implies_true, forall_eq_or_imp, MW.get, ev, evs, argFr, resK, packV, slHK, partsV, partsS, setR, Int.cast_ofNat_Int, Int.natCast_zero, Int.natCast_one, Nat.reduceLeDiff, reduceIte, Nat.reduceEqDiff, Nat.reduceBEq, reduceCtorEq, Nat.reduceAdd, Nat.reduceMul, Nat.reduceSub, Nat.reduceLT, Int.reduceToNat, Int.reduceLT, Int.reduceLE, Int.reduceEq, Int.reduceAdd, Int.reduceNeg, Int.reduceMul, Int.reduceSub]
  refine Does.call (tags_fn hv (by omega)) (fr1 hv.free) ?_
  simp -implicitDefEqProofs (disch := omega) only [mwx, ne_eq, false_implies, implies_true, forall_eq_or_imp, MW.get, ev, evs, argFr, resK, packV, slHK, partsV, partsS, setR, Int.cast_ofNat_Int, Int.natCast_zero, Int.natCast_one, Nat.reduceLeDiff, reduceIte, Nat.reduceEqDiff, Nat.reduceBEq, reduceCtorEq, Nat.reduceAdd, Nat.reduceMul, Nat.reduceSub, Nat.reduceLT, Int.reduceToNat, Int.reduceLT, Int.reduceLE, Int.reduceEq, Int.reduceAdd, Int.reduceNeg, Int.reduceMul, Int.reduceSub]
  refine Does.call (tags_ref hv (by omega)) (fr1 hv.free) ?_
  simp -implicitDefEqProofs (disch := omega) only [mwx, ne_eq, false_implies, implies_true, forall_eq_or_imp, MW.get, ev, evs, argFr, resK, packV, slHK, partsV, partsS, setR, Int.cast_ofNat_Int, Int.natCast_zero, Int.natCast_one, Nat.reduceLeDiff, reduceIte, Nat.reduceEqDiff, Nat.reduceBEq, reduceCtorEq, Nat.reduceAdd, Nat.reduceMul, Nat.reduceSub, Nat.reduceLT, Int.reduceToNat, Int.reduceLT, Int.reduceLE, Int.reduceEq, Int.reduceAdd, Int.reduceNeg, Int.reduceMul, Int.reduceSub]
  refine Does.call (key_fn k) (fr1 (.str _)) ?_
  simp -implicitDefEqProofs (disch := omega) only [mwx, ne_eq, false_implies, implies_true, forall_eq_or_imp, MW.get, ev, evs, argFr, resK, packV, slHK, partsV, partsS, setR, Int.cast_ofNat_Int, Int.natCast_zero, Int.natCast_one, Nat.reduceLeDiff, reduceIte, Nat.reduceEqDiff, Nat.reduceBEq, reduceCtorEq, Nat.reduceAdd, Nat.reduceMul, Nat.reduceSub, Nat.reduceLT, Int.reduceToNat, Int.reduceLT, Int.reduceLE, Int.reduceEq, Int.reduceAdd, Int.reduceNeg, Int.reduceMul, Int.reduceSub]
  refine Does.call (key_ref k) (fr1 (.str _)) ?_
  simp -implicitDefEqProofs (disch := omega) only [beq_self_eq_true, mwx, ne_eq, false_implies, implies_true, forall_eq_or_imp, MW.get, ev, evs, argFr, resK, packV, slHK, partsV, partsS, setR, Int.cast_ofNat_Int, Int.natCast_zero, Int.natCast_one, Nat.reduceLeDiff, reduceIte, Nat.reduceEqDiff, Nat.reduceBEq, reduceCtorEq, Nat.reduceAdd, Nat.reduceMul, Nat.reduceSub, Nat.reduceLT, Int.reduceToNat, Int.reduceLT, Int.reduceLE, Int.reduceEq, Int.reduceAdd, Int.reduceNeg, Int.reduceMul, Int.reduceSub]
  refine Does.call (same7_fn hX hX (by omega)) (fr2 hX.free hX.free) ?_
  have e1 : ((tagsT l).2 = (tagsT l).2) = True := by simp
  have e2 : (hash k = hash k) = True := by simp
  have e3 : (homeN k n = homeN k n) = True := by simp
  simp -implicitDefEqProofs (disch := omega) only [e1, mwx, ne_eq, false_implies, implies_true, forall_eq_or_imp, MW.get, ev, evs, argFr, resK, packV, slHK, partsV, partsS, setR, Int.cast_ofNat_Int, Int.natCast_zero, Int.natCast_one, Nat.reduceLeDiff, reduceIte, Nat.reduceEqDiff, Nat.reduceBEq, reduceCtorEq, Nat.reduceAdd, Nat.reduceMul, Nat.reduceSub, Nat.reduceLT, Int.reduceToNat, Int.reduceLT, Int.reduceLE, Int.reduceEq, Int.reduceAdd, Int.reduceNeg, Int.reduceMul, Int.reduceSub]
  refine Does.call (hash_fn k hk') (fr1 (.str _)) ?_
  simp -implicitDefEqProofs (disch := omega) only [e1, mwx, ne_eq, false_implies, implies_true, forall_eq_or_imp, MW.get, ev, evs, argFr, resK, packV, slHK, partsV, partsS, setR, Int.cast_ofNat_Int, Int.natCast_zero, Int.natCast_one, Nat.reduceLeDiff, reduceIte, Nat.reduceEqDiff, Nat.reduceBEq, reduceCtorEq, Nat.reduceAdd, Nat.reduceMul, Nat.reduceSub, Nat.reduceLT, Int.reduceToNat, Int.reduceLT, Int.reduceLE, Int.reduceEq, Int.reduceAdd, Int.reduceNeg, Int.reduceMul, Int.reduceSub]
  refine Does.call (hash_ref k hk') (fr1 (.str _)) ?_
  simp -implicitDefEqProofs (disch := omega) only [e2, mwx, ne_eq, false_implies, implies_true, forall_eq_or_imp, MW.get, ev, evs, argFr, resK, packV, slHK, partsV, partsS, setR, Int.cast_ofNat_Int, Int.natCast_zero, Int.natCast_one, Nat.reduceLeDiff, reduceIte, Nat.reduceEqDiff, Nat.reduceBEq, reduceCtorEq, Nat.reduceAdd, Nat.reduceMul, Nat.reduceSub, Nat.reduceLT, Int.reduceToNat, Int.reduceLT, Int.reduceLE, Int.reduceEq, Int.reduceAdd, Int.reduceNeg, Int.reduceMul, Int.reduceSub]
  refine Does.call (thomeN_fn k hk' n hn) (fr2 (.str _) (.int _ _)) ?_
  simp -implicitDefEqProofs (disch := omega) only [e2, mwx, ne_eq, false_implies, implies_true, forall_eq_or_imp, MW.get, ev, evs, argFr, resK, packV, slHK, partsV, partsS, setR, Int.cast_ofNat_Int, Int.natCast_zero, Int.natCast_one, Nat.reduceLeDiff, reduceIte, Nat.reduceEqDiff, Nat.reduceBEq, reduceCtorEq, Nat.reduceAdd, Nat.reduceMul, Nat.reduceSub, Nat.reduceLT, Int.reduceToNat, Int.reduceLT, Int.reduceLE, Int.reduceEq, Int.reduceAdd, Int.reduceNeg, Int.reduceMul, Int.reduceSub]
  refine Does.call (home_ref k hk' n hn) (fr2 (.str _) (.int _ _)) ?_
  simp -implicitDefEqProofs (disch := omega) only [e3, mwx, ne_eq, false_implies, implies_true, forall_eq_or_imp, MW.get, ev, evs, argFr, resK, packV, slHK, partsV, partsS, setR, Int.cast_ofNat_Int, Int.natCast_zero, Int.natCast_one, Nat.reduceLeDiff, reduceIte, Nat.reduceEqDiff, Nat.reduceBEq, reduceCtorEq, Nat.reduceAdd, Nat.reduceMul, Nat.reduceSub, Nat.reduceLT, Int.reduceToNat, Int.reduceLT, Int.reduceLE, Int.reduceEq, Int.reduceAdd, Int.reduceNeg, Int.reduceMul, Int.reduceSub]
  exact frz_bool rfl

end Go.Proofs.Ytoopcfgmffpogaa

/- Four arguments; a text. -/
namespace Go.Proofs.Ytoopcfgmffpogaa
open Go Go.MW Go.ChangeShapes Go.WideShapes Go.ChangeAt Go.RowKit
set_option linter.unusedVariables false
set_option linter.unusedSimpArgs false

theorem typ_four {P : Program} {M : Nat} {t u s r : TypeId} {Vs : List V} (h : TypAll P M [t, u, s, r] Vs) : ∃ v x y z, Vs = [v, x, y, z] ∧ Typ P M t v ∧ Typ P M u x ∧ Typ P M s y ∧ Typ P M r z := by
  rcases Vs with _ | ⟨v, Vs⟩
  · exact h.elim
  · obtain ⟨x, y, z, rfl, hx, hy, hz⟩ := typ_three h.2
    exact ⟨v, x, y, z, rfl, h.1, hx, hy, hz⟩
theorem typ_string {M : Nat} {v : V} (h : Typ Try.prog M 9 v) : ∃ s, v = .str s ∧ s.length ≤ M := by
  obtain ⟨n, cs, e, h⟩ := h
  obtain ⟨s, rfl, hs⟩ := typN_str Try.underlying9 h
  exact ⟨s, by rw [e]; simp only [mkV, Try.underlying9]; rfl, hs⟩


end Go.Proofs.Ytoopcfgmffpogaa

/- Lists of texts as arguments. -/
namespace Go.Proofs.Ytoopcfgmffpogaa
open Go Go.MW Go.ChangeShapes Go.WideShapes Go.ChangeAt Go.RowKit
set_option linter.unusedVariables false
set_option linter.unusedSimpArgs false

theorem typ_strs {M : Nat} {v : V} (h : Typ Try.prog M 51 v) : ∃ l, IsE strE v l ∧ l.length ≤ M := by
  obtain ⟨l, h1, _, h2⟩ := typ_list (e := strE) (Q := fun _ => True) Try.underlying51 (fun _ _ h => by
    obtain ⟨s, rfl, _⟩ := typN_str Try.underlying9 h
    exact ⟨s, by simp [mkV, Try.underlying9, strE], trivial⟩) h
  exact ⟨l, h1, h2⟩

end Go.Proofs.Ytoopcfgmffpogaa

/- Thing: the laws and the arguments' types, together. -/
namespace Go.Proofs.Ytoopcfgmffpogaa
open Go Go.MW Go.ChangeShapes Go.WideShapes Go.ChangeAt Go.RowKit

end Go.Proofs.Ytoopcfgmffpogaa

