/- Arena (chapter 11): new segments; segments that are copied; a slot given back; a slot taken. -/
import Derived.Test.YtphbhoggcddgmaaDoorMwFAr2
namespace Go.Proofs.YtphbhoggcddgmaaDoor
open Go Go.MW
set_option linter.unusedSimpArgs false
set_option linter.unusedVariables false

theorem new_bad (n : Int) (h : n < 0 ∨ 200 < n) : Does Tryd.prog G0 false 16 [.int .i64 n] (.tup [.nils, .int .i64 110]) := by
  refine Does.intro mixed comp16 ?_
  unfold c16
  simp -implicitDefEqProofs (disch := omega) only [mwx, ne_eq, false_implies, implies_true, forall_eq_or_imp, MW.get, ev, evs, argFr, resK, packV, slHK, partsV, partsS, setR, Int.cast_ofNat_Int, Int.natCast_zero, Int.natCast_one, Nat.reduceLeDiff, reduceIte, Nat.reduceEqDiff, Nat.reduceBEq, reduceCtorEq, Nat.reduceAdd, Nat.reduceMul, Nat.reduceSub, Nat.reduceLT, Int.reduceToNat, Int.reduceLT, Int.reduceLE, Int.reduceEq, Int.reduceAdd, Int.reduceNeg, Int.reduceMul, Int.reduceSub]
  refine xg_decf (fun h1 => ?_) fun h1 => ?_
  · simp -implicitDefEqProofs (disch := omega) only [h1, mwx, ne_eq, false_implies, implies_true, forall_eq_or_imp, MW.get, ev, evs, argFr, resK, packV, slHK, partsV, partsS, setR, Int.cast_ofNat_Int, Int.natCast_zero, Int.natCast_one, Nat.reduceLeDiff, reduceIte, Nat.reduceEqDiff, Nat.reduceBEq, reduceCtorEq, Nat.reduceAdd, Nat.reduceMul, Nat.reduceSub, Nat.reduceLT, Int.reduceToNat, Int.reduceLT, Int.reduceLE, Int.reduceEq, Int.reduceAdd, Int.reduceNeg, Int.reduceMul, Int.reduceSub]
    exact frz_tup2 (.free .nils) (frz_int rfl)
  · have h2 : 200 < n := by omega
    simp -implicitDefEqProofs (disch := omega) only [h1, h2, mwx, ne_eq, false_implies, implies_true, forall_eq_or_imp, MW.get, ev, evs, argFr, resK, packV, slHK, partsV, partsS, setR, Int.cast_ofNat_Int, Int.natCast_zero, Int.natCast_one, Nat.reduceLeDiff, reduceIte, Nat.reduceEqDiff, Nat.reduceBEq, reduceCtorEq, Nat.reduceAdd, Nat.reduceMul, Nat.reduceSub, Nat.reduceLT, Int.reduceToNat, Int.reduceLT, Int.reduceLE, Int.reduceEq, Int.reduceAdd, Int.reduceNeg, Int.reduceMul, Int.reduceSub]
    exact frz_tup2 (.free .nils) (frz_int rfl)

theorem new_fn (m : Nat) (hm : m ≤ 200) : Does Tryd.prog G0 false 16 [.int .i64 m] (.tup [.vs (segE.vs (List.replicate m (-1, 0))), .int .i64 0]) := by
  refine Does.intro mixed comp16 ?_
  unfold c16
  have h1 : ¬ ((m : Int) < 0) := by omega
  have h2 : ¬ (200 < (m : Int)) := by omega
  have h3 : (0 : Int) ≤ (m : Int) ∧ (m : Int) ≤ (m : Int) ∧ (m : Int) < 2 ^ 63 ∧ (16 : Int) * (m : Int) ≤ 2 ^ 48 := by omega
  simp -implicitDefEqProofs (disch := omega) only [h1, h2, h3.1, h3.2.1, h3.2.2.1, h3.2.2.2, mwx, ne_eq, false_implies, implies_true, forall_eq_or_imp, MW.get, ev, evs, argFr, resK, packV, slHK, partsV, partsS, setR, Int.cast_ofNat_Int, Int.natCast_zero, Int.natCast_one, Nat.reduceLeDiff, reduceIte, Nat.reduceEqDiff, Nat.reduceBEq, reduceCtorEq, Nat.reduceAdd, Nat.reduceMul, Nat.reduceSub, Nat.reduceLT, Int.reduceToNat, Int.reduceLT, Int.reduceLE, Int.reduceEq, Int.reduceAdd, Int.reduceNeg, Int.reduceMul, Int.reduceSub]
  have hz : List.replicate m (V.agg [.int .i64 0, .int .u64 0]) = segE.vs (List.replicate m (0, 0)) := by simp [El.vs, segE]
  rw [hz]
  refine xl_loop (fun k st => ∃ (i : Nat) (L : List Sg), k + i = m ∧ i ≤ m ∧ st.H = [.row 2 (segE.vs L) false false] ∧ L.length = m ∧ (∀ j, j < m → L.getD j (0, 0) = if j < i then (-1, 0) else (0, 0)) ∧ get st.fr 4 = .hs 0 m 0 0 m (some m) 2 ∧ get st.fr 14 = .int .i64 m ∧ get st.fr 15 = .int .i64 i) m
    ⟨0, List.replicate m (0, 0), by omega, by omega, rfl, by simp, fun j hj => by simp [List.getD_eq_getElem?_getD, hj], rfl, rfl, rfl⟩ ?_
  rintro J hJ k fr H ⟨i, L, h4, h4', hH, h5, h6, h7, h8, h9⟩
  obtain rfl : H = [.row 2 (segE.vs L) false false] := hH
  have hL : (segE.vs L).length = m := by rw [El.vs_length, h5]
  simp -implicitDefEqProofs (disch := omega) only [h7, h8, h9, mwx, ne_eq, false_implies, implies_true, forall_eq_or_imp, MW.get, ev, evs, argFr, resK, packV, slHK, partsV, partsS, setR, Int.cast_ofNat_Int, Int.natCast_zero, Int.natCast_one, Nat.reduceLeDiff, reduceIte, Nat.reduceEqDiff, Nat.reduceBEq, reduceCtorEq, Nat.reduceAdd, Nat.reduceMul, Nat.reduceSub, Nat.reduceLT, Int.reduceToNat, Int.reduceLT, Int.reduceLE, Int.reduceEq, Int.reduceAdd, Int.reduceNeg, Int.reduceMul, Int.reduceSub]
  refine xc_dec (fun h10 => ?_) fun h10 => ?_
  · have hi : i < m := by omega
    have hg : (segE.vs L).getD i .junk = .agg [.int .i64 (L.getD i (0, 0)).1, .int .u64 (L.getD i (0, 0)).2] := El.vs_getD (e := segE) (by omega)
    simp -implicitDefEqProofs (disch := omega) only [h7, h8, h9, hL, hi, hg, mwx, ne_eq, false_implies, implies_true, forall_eq_or_imp, MW.get, ev, evs, argFr, resK, packV, slHK, partsV, partsS, setR, Int.cast_ofNat_Int, Int.natCast_zero, Int.natCast_one, Nat.reduceLeDiff, reduceIte, Nat.reduceEqDiff, Nat.reduceBEq, reduceCtorEq, Nat.reduceAdd, Nat.reduceMul, Nat.reduceSub, Nat.reduceLT, Int.reduceToNat, Int.reduceLT, Int.reduceLE, Int.reduceEq, Int.reduceAdd, Int.reduceNeg, Int.reduceMul, Int.reduceSub]
    have hu : (L.getD i (0, 0)).2 = 0 := by rw [h6 i hi]; simp
    have hs : (segE.vs L).set i (.agg [.int .i64 (-1), .int .u64 (L.getD i (0, 0)).2]) = segE.vs (L.set i (-1, 0)) := by
      rw [hu]; exact El.vs_set (e := segE) L i (-1, 0)
    rw [hs]
    refine ⟨k - 1, by omega, hJ _ _ ⟨i + 1, L.set i (-1, 0), by omega, by omega, rfl, by simpa using h5, fun j hj => ?_, h7, h8, rfl⟩⟩
    have h6' := h6 j hj
    by_cases hji : j = i
    · subst hji
      simp [List.getD_eq_getElem?_getD, h5, hi]
    · have : (L.set i (-1, 0)).getD j (0, 0) = L.getD j (0, 0) := by simp [List.getD_eq_getElem?_getD, List.getElem?_set_ne (Ne.symm hji)]
      rw [this, h6']
      by_cases hlt : j < i
      · rw [if_pos hlt, if_pos (by omega)]
      · rw [if_neg hlt, if_neg (by omega)]
  · simp -implicitDefEqProofs (disch := omega) only [h7, mwx, ne_eq, false_implies, implies_true, forall_eq_or_imp, MW.get, ev, evs, argFr, resK, packV, slHK, partsV, partsS, setR, Int.cast_ofNat_Int, Int.natCast_zero, Int.natCast_one, Nat.reduceLeDiff, reduceIte, Nat.reduceEqDiff, Nat.reduceBEq, reduceCtorEq, Nat.reduceAdd, Nat.reduceMul, Nat.reduceSub, Nat.reduceLT, Int.reduceToNat, Int.reduceLT, Int.reduceLE, Int.reduceEq, Int.reduceAdd, Int.reduceNeg, Int.reduceMul, Int.reduceSub]
    have : L = List.replicate m (-1, 0) := by
      refine List.ext_getElem (by simpa using h5) fun j hj hj' => ?_
      have := h6 j (by omega)
      rw [List.getD_eq_getElem?_getD, List.getElem?_eq_getElem hj, if_pos (by omega)] at this
      simpa using this
    subst this
    exact frz_tup2 (frz_rowE (e := segE) rfl (by decide) rfl (by simp) rfl) (frz_int rfl)

/-- A copy of one's own. -/
theorem clone_sim {v : V} {l : List Sg} (hv : IsE segE v l) (hn : l.length ≤ 1099511627776) (H : List Blk) :
    ∃ r T, Sim Tryd.prog G0 23 [v] H r (H ++ T) ∧ Own 2 (H ++ T) r (segE.vs l) ∧ (l ≠ [] → T = [.row 2 [] false false, .row 2 (segE.vs l) true false] ∧ r = .hs (H.length + 1) l.length 0 0 l.length none 2) := by
  rcases hv with ⟨rfl, rfl⟩ | rfl
  · refine ⟨.nils, [], SimP.sim (SimP.intro mixed comp23 ?_), .nil _ _, fun h => absurd rfl h⟩
    unfold c23
    simp -implicitDefEqProofs (disch := omega) only [mwx, ne_eq, false_implies, implies_true, forall_eq_or_imp, MW.get, ev, evs, argFr, resK, packV, slHK, partsV, partsS, setR, Int.cast_ofNat_Int, Int.natCast_zero, Int.natCast_one, Nat.reduceLeDiff, reduceIte, Nat.reduceEqDiff, Nat.reduceBEq, reduceCtorEq, Nat.reduceAdd, Nat.reduceMul, Nat.reduceSub, Nat.reduceLT, Int.reduceToNat, Int.reduceLT, Int.reduceLE, Int.reduceEq, Int.reduceAdd, Int.reduceNeg, Int.reduceMul, Int.reduceSub]
  · by_cases hl : l = []
    · subst hl
      refine ⟨.hs H.length 0 0 0 0 (some 0) 2, [.row 2 [] false false], SimP.sim (SimP.intro mixed comp23 ?_), .hs rfl (getB_new _ _) (.inr rfl), fun h => absurd rfl h⟩
      unfold c23
      simp -implicitDefEqProofs (disch := omega) only [mwx, ne_eq, false_implies, implies_true, forall_eq_or_imp, MW.get, ev, evs, argFr, resK, packV, slHK, partsV, partsS, setR, Int.cast_ofNat_Int, Int.natCast_zero, Int.natCast_one, Nat.reduceLeDiff, reduceIte, Nat.reduceEqDiff, Nat.reduceBEq, reduceCtorEq, Nat.reduceAdd, Nat.reduceMul, Nat.reduceSub, Nat.reduceLT, Int.reduceToNat, Int.reduceLT, Int.reduceLE, Int.reduceEq, Int.reduceAdd, Int.reduceNeg, Int.reduceMul, Int.reduceSub]
      rw [eq_app3]
      refine ⟨El.vs_goods (e := segE) [], rfl, rfl, ?_⟩
      rw [getB_new]
      refine ⟨rfl, rfl, by omega, El.vs_goods (e := segE) [], ?_⟩
      rw [if_pos (by decide)]
      refine ⟨by decide, rfl, ?_⟩
      simp -implicitDefEqProofs (disch := omega) only [El.vs_nil, mwx, ne_eq, false_implies, implies_true, forall_eq_or_imp, MW.get, ev, evs, argFr, resK, packV, slHK, partsV, partsS, setR, Int.cast_ofNat_Int, Int.natCast_zero, Int.natCast_one, Nat.reduceLeDiff, reduceIte, Nat.reduceEqDiff, Nat.reduceBEq, reduceCtorEq, Nat.reduceAdd, Nat.reduceMul, Nat.reduceSub, Nat.reduceLT, Int.reduceToNat, Int.reduceLT, Int.reduceLE, Int.reduceEq, Int.reduceAdd, Int.reduceNeg, Int.reduceMul, Int.reduceSub]
    · have hlen : 0 < l.length := List.length_pos_iff.2 hl
      refine ⟨.hs (H.length + 1) l.length 0 0 l.length none 2, [.row 2 [] false false, .row 2 (segE.vs l) true false], SimP.sim (SimP.intro mixed comp23 ?_),
        .inr ⟨_, _, true, by rw [El.vs_length], ?_, .inl rfl⟩, fun _ => ⟨rfl, rfl⟩⟩
      · unfold c23
        simp -implicitDefEqProofs (disch := omega) only [mwx, ne_eq, false_implies, implies_true, forall_eq_or_imp, MW.get, ev, evs, argFr, resK, packV, slHK, partsV, partsS, setR, Int.cast_ofNat_Int, Int.natCast_zero, Int.natCast_one, Nat.reduceLeDiff, reduceIte, Nat.reduceEqDiff, Nat.reduceBEq, reduceCtorEq, Nat.reduceAdd, Nat.reduceMul, Nat.reduceSub, Nat.reduceLT, Int.reduceToNat, Int.reduceLT, Int.reduceLE, Int.reduceEq, Int.reduceAdd, Int.reduceNeg, Int.reduceMul, Int.reduceSub]
        rw [eq_app3]
        refine ⟨El.vs_goods (e := segE) l, rfl, rfl, ?_⟩
        rw [getB_new]
        refine ⟨rfl, rfl, by omega, El.vs_goods (e := segE) [], ?_⟩
        rw [El.vs_length, if_neg (by omega)]
        refine ⟨roomy_of (by omega) (by decide), ?_⟩
        simp -implicitDefEqProofs (disch := omega) only [List.length_append, mwx, ne_eq, false_implies, implies_true, forall_eq_or_imp, MW.get, ev, evs, argFr, resK, packV, slHK, partsV, partsS, setR, Int.cast_ofNat_Int, Int.natCast_zero, Int.natCast_one, Nat.reduceLeDiff, reduceIte, Nat.reduceEqDiff, Nat.reduceBEq, reduceCtorEq, Nat.reduceAdd, Nat.reduceMul, Nat.reduceSub, Nat.reduceLT, Int.reduceToNat, Int.reduceLT, Int.reduceLE, Int.reduceEq, Int.reduceAdd, Int.reduceNeg, Int.reduceMul, Int.reduceSub]
      · have : H ++ [.row 2 [] false false, .row 2 (segE.vs l) true false] = (H ++ [.row 2 [] false false]) ++ [.row 2 (segE.vs l) true false] := by simp
        rw [this]
        have := getB_new (H ++ [.row 2 [] false false]) (.row 2 (segE.vs l) true false)
        rwa [List.length_append] at this

/-- A slot given back. -/
def fre1 (p : Sg) (a : Nat) : Sg := (if clr1 p.2 a = 0 then -1 else p.1, clr1 p.2 a)
def fre (l : List Sg) (s a : Int) : List Sg × Int := if has l s a then (l.set s.toNat (fre1 (l.getD s.toNat (0, 0)) a.toNat), 0) else (l, 120)

theorem has_iff {l : List Sg} {s a : Int} : has l s a = true ↔ chk l = true ∧ 0 ≤ s ∧ s < l.length ∧ 0 ≤ a ∧ (l.getD s.toNat (0, 0)).2.testBit a.toNat = true := by
  simp [has]

theorem fre_fn {v : V} {l : List Sg} (hv : IsE segE v l) (hl : SegOK l) (hn : l.length ≤ 1099511627776) (s a : Int) : ∃ v', IsE segE v' (fre l s a).1 ∧ Does Tryd.prog G0 false 12 [v, .agg [.int .i64 s, .int .i64 a]] (.tup [v', .int .i64 (fre l s a).2]) := by
  obtain ⟨r, T, hsim, hown, hne⟩ := clone_sim hv hn [.row 2 [.agg [.int .i64 s, .int .i64 a]] false false]
  by_cases hh : has l s a = true
  · obtain ⟨hc, hs0, hs1, ha0, hbit⟩ := has_iff.1 hh
    have hs2 : s.toNat < l.length := by omega
    have hl0 : l ≠ [] := by rintro rfl; simp at hs2
    obtain ⟨rfl, rfl⟩ := hne hl0
    have hu := hl.at hs2
    have hlt : a.toNat < 64 := by
      rcases Nat.lt_or_ge a.toNat 64 with h | h
      · exact h
      · rw [testBit_big hu h] at hbit; cases hbit
    refine ⟨.vs (segE.vs (fre l s a).1), isE_vs _, ?_⟩
    obtain ⟨b, rfl⟩ : ∃ b : Nat, a = b := ⟨a.toNat, by omega⟩
    have hfr : fre l s b = (l.set s.toNat (fre1 (l.getD s.toNat (0, 0)) (b : Int).toNat), 0) := by rw [fre, if_pos hh]
    refine Does.intro mixed comp12 ?_
    unfold c12
    simp -implicitDefEqProofs (disch := omega) only [mwx, ne_eq, false_implies, implies_true, forall_eq_or_imp, MW.get, ev, evs, argFr, resK, packV, slHK, partsV, partsS, setR, Int.cast_ofNat_Int, Int.natCast_zero, Int.natCast_one, Nat.reduceLeDiff, reduceIte, Nat.reduceEqDiff, Nat.reduceBEq, reduceCtorEq, Nat.reduceAdd, Nat.reduceMul, Nat.reduceSub, Nat.reduceLT, Int.reduceToNat, Int.reduceLT, Int.reduceLE, Int.reduceEq, Int.reduceAdd, Int.reduceNeg, Int.reduceMul, Int.reduceSub]
    refine callK_sim hsim ?_
    simp -implicitDefEqProofs (disch := omega) only [mwx, ne_eq, false_implies, implies_true, forall_eq_or_imp, MW.get, ev, evs, argFr, resK, packV, slHK, partsV, partsS, setR, Int.cast_ofNat_Int, Int.natCast_zero, Int.natCast_one, Nat.reduceLeDiff, reduceIte, Nat.reduceEqDiff, Nat.reduceBEq, reduceCtorEq, Nat.reduceAdd, Nat.reduceMul, Nat.reduceSub, Nat.reduceLT, Int.reduceToNat, Int.reduceLT, Int.reduceLE, Int.reduceEq, Int.reduceAdd, Int.reduceNeg, Int.reduceMul, Int.reduceSub]
    refine Does.call (has_fn hv hl s b) (fr2 hv.free (slot_free _ _)) ?_
    have hL : (segE.vs l).length = l.length := El.vs_length l
    have hg : (segE.vs l).getD s.toNat .junk = .agg [.int .i64 (l.getD s.toNat (0, 0)).1, .int .u64 (l.getD s.toNat (0, 0)).2] := El.vs_getD (e := segE) hs2
    have hb : b < 64 := hlt
    have hcl : bitOp .andNot .u64 ((l.getD s.toNat (0, 0)).2 : Int) ((2 ^ b : Nat) : Int) = ((clr1 (l.getD s.toNat (0, 0)).2 b : Nat) : Int) := bandNot64 hu (Nat.pow_lt_pow_right (by decide) hlt)
    have hgs : ∀ x : V, ((segE.vs l).set s.toNat x).getD s.toNat .junk = x := fun x => by simp [List.getD_eq_getElem?_getD, hL, hs2]
    have hLs : ∀ x : V, ((segE.vs l).set s.toNat x).length = l.length := fun x => by simp [hL]
    simp -implicitDefEqProofs (disch := omega) only [hh, hs0, hs2, hL, hg, shl1, hb, hcl, hgs, hLs, mwx, ne_eq, false_implies, implies_true, forall_eq_or_imp, MW.get, ev, evs, argFr, resK, packV, slHK, partsV, partsS, setR, Int.cast_ofNat_Int, Int.natCast_zero, Int.natCast_one, Nat.reduceLeDiff, reduceIte, Nat.reduceEqDiff, Nat.reduceBEq, reduceCtorEq, Nat.reduceAdd, Nat.reduceMul, Nat.reduceSub, Nat.reduceLT, Int.reduceToNat, Int.reduceLT, Int.reduceLE, Int.reduceEq, Int.reduceAdd, Int.reduceNeg, Int.reduceMul, Int.reduceSub]
    refine xc_dec (fun h => ?_) fun h => ?_
    · have h' : clr1 (l.getD s.toNat (0, 0)).2 b = 0 := by omega
      simp -implicitDefEqProofs (disch := omega) only [hs0, hs2, hL, hg, hgs, hLs, mwx, ne_eq, false_implies, implies_true, forall_eq_or_imp, MW.get, ev, evs, argFr, resK, packV, slHK, partsV, partsS, setR, Int.cast_ofNat_Int, Int.natCast_zero, Int.natCast_one, Nat.reduceLeDiff, reduceIte, Nat.reduceEqDiff, Nat.reduceBEq, reduceCtorEq, Nat.reduceAdd, Nat.reduceMul, Nat.reduceSub, Nat.reduceLT, Int.reduceToNat, Int.reduceLT, Int.reduceLE, Int.reduceEq, Int.reduceAdd, Int.reduceNeg, Int.reduceMul, Int.reduceSub]
      refine frz_tup2 (frz_rowX (e := segE) rfl (by decide) rfl ?_ ?_ rfl) (frz_int ?_)
      · rw [List.set_set]
        refine (El.vs_set (e := segE) l s.toNat (-1, clr1 (l.getD s.toNat (0, 0)).2 b)).trans ?_
        rw [hfr, fre1, Int.toNat_natCast, if_pos h']
      · simp [hfr]
      · simp [hfr]
    · have h' : ¬ clr1 (l.getD s.toNat (0, 0)).2 b = 0 := by omega
      simp -implicitDefEqProofs (disch := omega) only [mwx, ne_eq, false_implies, implies_true, forall_eq_or_imp, MW.get, ev, evs, argFr, resK, packV, slHK, partsV, partsS, setR, Int.cast_ofNat_Int, Int.natCast_zero, Int.natCast_one, Nat.reduceLeDiff, reduceIte, Nat.reduceEqDiff, Nat.reduceBEq, reduceCtorEq, Nat.reduceAdd, Nat.reduceMul, Nat.reduceSub, Nat.reduceLT, Int.reduceToNat, Int.reduceLT, Int.reduceLE, Int.reduceEq, Int.reduceAdd, Int.reduceNeg, Int.reduceMul, Int.reduceSub]
      refine frz_tup2 (frz_rowX (e := segE) rfl (by decide) rfl ?_ ?_ rfl) (frz_int ?_)
      · refine (El.vs_set (e := segE) l s.toNat ((l.getD s.toNat (0, 0)).1, clr1 (l.getD s.toNat (0, 0)).2 b)).trans ?_
        rw [hfr, fre1, Int.toNat_natCast, if_neg h']
      · simp [hfr]
      · simp [hfr]
  · obtain ⟨v', h1, h2⟩ := hown.isE (im := false) rfl (by decide)
    have hf : fre l s a = (l, 120) := by simp [fre, hh]
    rw [hf]
    refine ⟨v', h1, ?_⟩
    refine Does.intro mixed comp12 ?_
    unfold c12
    simp -implicitDefEqProofs (disch := omega) only [mwx, ne_eq, false_implies, implies_true, forall_eq_or_imp, MW.get, ev, evs, argFr, resK, packV, slHK, partsV, partsS, setR, Int.cast_ofNat_Int, Int.natCast_zero, Int.natCast_one, Nat.reduceLeDiff, reduceIte, Nat.reduceEqDiff, Nat.reduceBEq, reduceCtorEq, Nat.reduceAdd, Nat.reduceMul, Nat.reduceSub, Nat.reduceLT, Int.reduceToNat, Int.reduceLT, Int.reduceLE, Int.reduceEq, Int.reduceAdd, Int.reduceNeg, Int.reduceMul, Int.reduceSub]
    refine callK_sim hsim ?_
    simp -implicitDefEqProofs (disch := omega) only [mwx, ne_eq, false_implies, implies_true, forall_eq_or_imp, MW.get, ev, evs, argFr, resK, packV, slHK, partsV, partsS, setR, Int.cast_ofNat_Int, Int.natCast_zero, Int.natCast_one, Nat.reduceLeDiff, reduceIte, Nat.reduceEqDiff, Nat.reduceBEq, reduceCtorEq, Nat.reduceAdd, Nat.reduceMul, Nat.reduceSub, Nat.reduceLT, Int.reduceToNat, Int.reduceLT, Int.reduceLE, Int.reduceEq, Int.reduceAdd, Int.reduceNeg, Int.reduceMul, Int.reduceSub]
    refine Does.call (has_fn hv hl s a) (fr2 hv.free (slot_free _ _)) ?_
    simp -implicitDefEqProofs (disch := omega) only [hh, mwx, ne_eq, false_implies, implies_true, forall_eq_or_imp, MW.get, ev, evs, argFr, resK, packV, slHK, partsV, partsS, setR, Int.cast_ofNat_Int, Int.natCast_zero, Int.natCast_one, Nat.reduceLeDiff, reduceIte, Nat.reduceEqDiff, Nat.reduceBEq, reduceCtorEq, Nat.reduceAdd, Nat.reduceMul, Nat.reduceSub, Nat.reduceLT, Int.reduceToNat, Int.reduceLT, Int.reduceLE, Int.reduceEq, Int.reduceAdd, Int.reduceNeg, Int.reduceMul, Int.reduceSub]
    exact frz_tup2 h2 (frz_int rfl)

/-- Where a slot is to be taken: from here on. -/
def seek (c : Int) : List Sg → Nat → Int → Int
  | [], _, at_ => at_
  | p :: l, i, at_ => if p.1 = c ∧ p.2 ≠ allN c then i else if p.1 = -1 ∧ at_ < 0 then seek c l (i + 1) i else seek c l (i + 1) at_
theorem seek_le (c : Int) : ∀ (l : List Sg) (i : Nat) (at_ : Int), at_ < i → seek c l i at_ < i + l.length ∧ (0 ≤ seek c l i at_ ∨ seek c l i at_ = at_)
  | [], i, at_, h => ⟨by simpa [seek] using h, .inr rfl⟩
  | p :: l, i, at_, h => by
    unfold seek
    rw [List.length_cons]
    split
    · exact ⟨by omega, .inl (by omega)⟩
    · split
      · have := seek_le c l (i + 1) i (by omega)
        exact ⟨by omega, .inl (by omega)⟩
      · have := seek_le c l (i + 1) at_ (by omega)
        exact ⟨by omega, this.2⟩

/-- A slot taken. -/
def shb (p : Nat) : Nat := if p < 64 then 2 ^ p else 0
def tak1 (p : Sg) (c : Int) : Sg := (c, p.2 ||| shb (low0 p.2))
def tak (l : List Sg) (c : Int) : List Sg × (Int × Int) × Int :=
  if chk l = false then (l, (0, 0), 120)
  else if slN c = 0 then (l, (0, 0), 100)
  else if seek c l 0 (-1) < 0 then (l, (0, 0), 110)
  else (l.set (seek c l 0 (-1)).toNat (tak1 (l.getD (seek c l 0 (-1)).toNat (0, 0)) c), (seek c l 0 (-1), low0 (l.getD (seek c l 0 (-1)).toNat (0, 0)).2), 0)

theorem shb_lt (p : Nat) : shb p < 2 ^ 64 := by
  unfold shb
  split
  · exact Nat.pow_lt_pow_right (by decide) (by assumption)
  · decide

theorem tak_fn {v : V} {l : List Sg} (hv : IsE segE v l) (hl : SegOK l) (hn : l.length ≤ 1099511627776) (c : Int) : ∃ v', IsE segE v' (tak l c).1 ∧ Does Tryd.prog G0 false 10 [v, .int .i64 c] (.tup [v', .agg [.int .i64 (tak l c).2.1.1, .int .i64 (tak l c).2.1.2], .int .i64 (tak l c).2.2]) := by
  obtain ⟨r, T, hsim, hown, hne⟩ := clone_sim hv hn [.row 2 [.agg [.int .i64 0, .int .i64 0]] false false]
  obtain ⟨v', g1, g2⟩ := hown.isE (im := false) rfl (by decide)
  by_cases hc : chk l = true
  · by_cases hs : slN c = 0
    · have hf : tak l c = (l, (0, 0), 100) := by simp [tak, hc, hs]
      rw [hf]
      refine ⟨v', g1, ?_⟩
      refine Does.intro mixed comp10 ?_
      unfold c10
      simp -implicitDefEqProofs (disch := omega) only [mwx, ne_eq, false_implies, implies_true, forall_eq_or_imp, MW.get, ev, evs, argFr, resK, packV, slHK, partsV, partsS, setR, Int.cast_ofNat_Int, Int.natCast_zero, Int.natCast_one, Nat.reduceLeDiff, reduceIte, Nat.reduceEqDiff, Nat.reduceBEq, reduceCtorEq, Nat.reduceAdd, Nat.reduceMul, Nat.reduceSub, Nat.reduceLT, Int.reduceToNat, Int.reduceLT, Int.reduceLE, Int.reduceEq, Int.reduceAdd, Int.reduceNeg, Int.reduceMul, Int.reduceSub]
      refine callK_sim hsim ?_
      simp -implicitDefEqProofs (disch := omega) only [mwx, ne_eq, false_implies, implies_true, forall_eq_or_imp, MW.get, ev, evs, argFr, resK, packV, slHK, partsV, partsS, setR, Int.cast_ofNat_Int, Int.natCast_zero, Int.natCast_one, Nat.reduceLeDiff, reduceIte, Nat.reduceEqDiff, Nat.reduceBEq, reduceCtorEq, Nat.reduceAdd, Nat.reduceMul, Nat.reduceSub, Nat.reduceLT, Int.reduceToNat, Int.reduceLT, Int.reduceLE, Int.reduceEq, Int.reduceAdd, Int.reduceNeg, Int.reduceMul, Int.reduceSub]
      refine Does.call (chk_fn hv hl) (fr1 hv.free) ?_
      simp -implicitDefEqProofs (disch := omega) only [hc, mwx, ne_eq, false_implies, implies_true, forall_eq_or_imp, MW.get, ev, evs, argFr, resK, packV, slHK, partsV, partsS, setR, Int.cast_ofNat_Int, Int.natCast_zero, Int.natCast_one, Nat.reduceLeDiff, reduceIte, Nat.reduceEqDiff, Nat.reduceBEq, reduceCtorEq, Nat.reduceAdd, Nat.reduceMul, Nat.reduceSub, Nat.reduceLT, Int.reduceToNat, Int.reduceLT, Int.reduceLE, Int.reduceEq, Int.reduceAdd, Int.reduceNeg, Int.reduceMul, Int.reduceSub]
      refine Does.call (slots_fn c) (fr1 (.int _ _)) ?_
      have hs' : slts c = 0 := by rw [slts_slN, hs]; rfl
      simp -implicitDefEqProofs (disch := omega) only [hs', mwx, ne_eq, false_implies, implies_true, forall_eq_or_imp, MW.get, ev, evs, argFr, resK, packV, slHK, partsV, partsS, setR, Int.cast_ofNat_Int, Int.natCast_zero, Int.natCast_one, Nat.reduceLeDiff, reduceIte, Nat.reduceEqDiff, Nat.reduceBEq, reduceCtorEq, Nat.reduceAdd, Nat.reduceMul, Nat.reduceSub, Nat.reduceLT, Int.reduceToNat, Int.reduceLT, Int.reduceLE, Int.reduceEq, Int.reduceAdd, Int.reduceNeg, Int.reduceMul, Int.reduceSub]
      exact frz_tup3 g2 (.free (slot_free _ _)) (frz_int rfl)
    · have hs' : ¬ slts c = 0 := by rw [slts_slN]; omega
      by_cases hl0 : l = []
      · have hf : tak l c = (l, (0, 0), 110) := by subst hl0; simp [tak, hc, hs, seek]
        rw [hf]
        refine ⟨v', g1, ?_⟩
        refine Does.intro mixed comp10 ?_
        unfold c10
        simp -implicitDefEqProofs (disch := omega) only [mwx, ne_eq, false_implies, implies_true, forall_eq_or_imp, MW.get, ev, evs, argFr, resK, packV, slHK, partsV, partsS, setR, Int.cast_ofNat_Int, Int.natCast_zero, Int.natCast_one, Nat.reduceLeDiff, reduceIte, Nat.reduceEqDiff, Nat.reduceBEq, reduceCtorEq, Nat.reduceAdd, Nat.reduceMul, Nat.reduceSub, Nat.reduceLT, Int.reduceToNat, Int.reduceLT, Int.reduceLE, Int.reduceEq, Int.reduceAdd, Int.reduceNeg, Int.reduceMul, Int.reduceSub]
        refine callK_sim hsim ?_
        simp -implicitDefEqProofs (disch := omega) only [mwx, ne_eq, false_implies, implies_true, forall_eq_or_imp, MW.get, ev, evs, argFr, resK, packV, slHK, partsV, partsS, setR, Int.cast_ofNat_Int, Int.natCast_zero, Int.natCast_one, Nat.reduceLeDiff, reduceIte, Nat.reduceEqDiff, Nat.reduceBEq, reduceCtorEq, Nat.reduceAdd, Nat.reduceMul, Nat.reduceSub, Nat.reduceLT, Int.reduceToNat, Int.reduceLT, Int.reduceLE, Int.reduceEq, Int.reduceAdd, Int.reduceNeg, Int.reduceMul, Int.reduceSub]
        refine Does.call (chk_fn hv hl) (fr1 hv.free) ?_
        simp -implicitDefEqProofs (disch := omega) only [hc, mwx, ne_eq, false_implies, implies_true, forall_eq_or_imp, MW.get, ev, evs, argFr, resK, packV, slHK, partsV, partsS, setR, Int.cast_ofNat_Int, Int.natCast_zero, Int.natCast_one, Nat.reduceLeDiff, reduceIte, Nat.reduceEqDiff, Nat.reduceBEq, reduceCtorEq, Nat.reduceAdd, Nat.reduceMul, Nat.reduceSub, Nat.reduceLT, Int.reduceToNat, Int.reduceLT, Int.reduceLE, Int.reduceEq, Int.reduceAdd, Int.reduceNeg, Int.reduceMul, Int.reduceSub]
        refine Does.call (slots_fn c) (fr1 (.int _ _)) ?_
        have hL : (segE.vs l).length = 0 := by subst hl0; rfl
        simp -implicitDefEqProofs (disch := omega) only [hs', lenK_own hown, hL, mwx, ne_eq, false_implies, implies_true, forall_eq_or_imp, MW.get, ev, evs, argFr, resK, packV, slHK, partsV, partsS, setR, Int.cast_ofNat_Int, Int.natCast_zero, Int.natCast_one, Nat.reduceLeDiff, reduceIte, Nat.reduceEqDiff, Nat.reduceBEq, reduceCtorEq, Nat.reduceAdd, Nat.reduceMul, Nat.reduceSub, Nat.reduceLT, Int.reduceToNat, Int.reduceLT, Int.reduceLE, Int.reduceEq, Int.reduceAdd, Int.reduceNeg, Int.reduceMul, Int.reduceSub]
        refine xl_blk (fun st => st.H = .row 2 [.agg [.int .i64 0, .int .i64 0]] false false :: T ∧ get st.fr 5 = .ptr 0 1 0 0 ∧ get st.fr 7 = r ∧ get st.fr 8 = .int .i64 (-1))
          (fun k st => st.H = .row 2 [.agg [.int .i64 0, .int .i64 0]] false false :: T ∧ get st.fr 5 = .ptr 0 1 0 0 ∧ get st.fr 7 = r ∧ get st.fr 8 = .int .i64 (-1) ∧ get st.fr 27 = .int .i64 0 ∧ get st.fr 28 = .int .i64 0) 0 ⟨rfl, rfl, rfl, rfl, rfl, rfl⟩ ?_ ?_
        · rintro fr H ⟨hH, h1, h2, h3⟩
          obtain rfl : H = _ := hH
          simp -implicitDefEqProofs (disch := omega) only [h1, h2, h3, mwx, ne_eq, false_implies, implies_true, forall_eq_or_imp, MW.get, ev, evs, argFr, resK, packV, slHK, partsV, partsS, setR, Int.cast_ofNat_Int, Int.natCast_zero, Int.natCast_one, Nat.reduceLeDiff, reduceIte, Nat.reduceEqDiff, Nat.reduceBEq, reduceCtorEq, Nat.reduceAdd, Nat.reduceMul, Nat.reduceSub, Nat.reduceLT, Int.reduceToNat, Int.reduceLT, Int.reduceLE, Int.reduceEq, Int.reduceAdd, Int.reduceNeg, Int.reduceMul, Int.reduceSub]
          exact frz_tup3 g2 (.free (slot_free _ _)) (frz_int rfl)
        · rintro J Q' hJ hn _ _ k fr H ⟨hH, h1, h2, h3, h4, h5⟩
          obtain rfl : H = _ := hH
          simp -implicitDefEqProofs (disch := omega) only [h1, h2, h3, h4, h5, hn, mwx, ne_eq, false_implies, implies_true, forall_eq_or_imp, MW.get, ev, evs, argFr, resK, packV, slHK, partsV, partsS, setR, Int.cast_ofNat_Int, Int.natCast_zero, Int.natCast_one, Nat.reduceLeDiff, reduceIte, Nat.reduceEqDiff, Nat.reduceBEq, reduceCtorEq, Nat.reduceAdd, Nat.reduceMul, Nat.reduceSub, Nat.reduceLT, Int.reduceToNat, Int.reduceLT, Int.reduceLE, Int.reduceEq, Int.reduceAdd, Int.reduceNeg, Int.reduceMul, Int.reduceSub]
      · obtain ⟨rfl, rfl⟩ := hne hl0
        clear g1 g2 v'
        have hL : (segE.vs l).length = l.length := El.vs_length l
        refine ⟨.vs (segE.vs (tak l c).1), isE_vs _, ?_⟩
        refine Does.intro mixed comp10 ?_
        unfold c10
        simp -implicitDefEqProofs (disch := omega) only [mwx, ne_eq, false_implies, implies_true, forall_eq_or_imp, MW.get, ev, evs, argFr, resK, packV, slHK, partsV, partsS, setR, Int.cast_ofNat_Int, Int.natCast_zero, Int.natCast_one, Nat.reduceLeDiff, reduceIte, Nat.reduceEqDiff, Nat.reduceBEq, reduceCtorEq, Nat.reduceAdd, Nat.reduceMul, Nat.reduceSub, Nat.reduceLT, Int.reduceToNat, Int.reduceLT, Int.reduceLE, Int.reduceEq, Int.reduceAdd, Int.reduceNeg, Int.reduceMul, Int.reduceSub]
        refine callK_sim hsim ?_
        simp -implicitDefEqProofs (disch := omega) only [mwx, ne_eq, false_implies, implies_true, forall_eq_or_imp, MW.get, ev, evs, argFr, resK, packV, slHK, partsV, partsS, setR, Int.cast_ofNat_Int, Int.natCast_zero, Int.natCast_one, Nat.reduceLeDiff, reduceIte, Nat.reduceEqDiff, Nat.reduceBEq, reduceCtorEq, Nat.reduceAdd, Nat.reduceMul, Nat.reduceSub, Nat.reduceLT, Int.reduceToNat, Int.reduceLT, Int.reduceLE, Int.reduceEq, Int.reduceAdd, Int.reduceNeg, Int.reduceMul, Int.reduceSub]
        refine Does.call (chk_fn hv hl) (fr1 hv.free) ?_
        simp -implicitDefEqProofs (disch := omega) only [hc, mwx, ne_eq, false_implies, implies_true, forall_eq_or_imp, MW.get, ev, evs, argFr, resK, packV, slHK, partsV, partsS, setR, Int.cast_ofNat_Int, Int.natCast_zero, Int.natCast_one, Nat.reduceLeDiff, reduceIte, Nat.reduceEqDiff, Nat.reduceBEq, reduceCtorEq, Nat.reduceAdd, Nat.reduceMul, Nat.reduceSub, Nat.reduceLT, Int.reduceToNat, Int.reduceLT, Int.reduceLE, Int.reduceEq, Int.reduceAdd, Int.reduceNeg, Int.reduceMul, Int.reduceSub]
        refine Does.call (slots_fn c) (fr1 (.int _ _)) ?_
        simp -implicitDefEqProofs (disch := omega) only [hs', mwx, ne_eq, false_implies, implies_true, forall_eq_or_imp, MW.get, ev, evs, argFr, resK, packV, slHK, partsV, partsS, setR, Int.cast_ofNat_Int, Int.natCast_zero, Int.natCast_one, Nat.reduceLeDiff, reduceIte, Nat.reduceEqDiff, Nat.reduceBEq, reduceCtorEq, Nat.reduceAdd, Nat.reduceMul, Nat.reduceSub, Nat.reduceLT, Int.reduceToNat, Int.reduceLT, Int.reduceLE, Int.reduceEq, Int.reduceAdd, Int.reduceNeg, Int.reduceMul, Int.reduceSub]
        have hn2 := chk_len hc
        refine xl_blk (fun st => ∃ X, st.H = .row 2 [.agg [.int .i64 0, .int .i64 0]] false false :: .row 2 [] false false :: .row 2 (segE.vs l) true false :: X ∧ get st.fr 1 = .int .i64 c ∧ get st.fr 5 = .ptr 0 1 0 0 ∧ get st.fr 7 = .hs 2 l.length 0 0 l.length none 2 ∧ get st.fr 8 = .int .i64 (seek c l 0 (-1)))
          (fun k st => ∃ (X : List Blk) (i : Nat) (at_ : Int), k + i = l.length ∧ at_ < i ∧ seek c (l.drop i) i at_ = seek c l 0 (-1) ∧ st.H = .row 2 [.agg [.int .i64 0, .int .i64 0]] false false :: .row 2 [] false false :: .row 2 (segE.vs l) true false :: X ∧ get st.fr 1 = .int .i64 c ∧ get st.fr 5 = .ptr 0 1 0 0 ∧ get st.fr 7 = .hs 2 l.length 0 0 l.length none 2 ∧ get st.fr 8 = .int .i64 at_ ∧ get st.fr 26 = .hs 2 l.length 0 0 l.length none 2 ∧ get st.fr 27 = .int .i64 l.length ∧ get st.fr 28 = .int .i64 i) l.length
          ⟨[], 0, -1, by omega, by omega, rfl, rfl, rfl, rfl, rfl, rfl, rfl, rfl, rfl⟩ ?_ ?_
        · rintro fr H ⟨X, hH, h1, h2, h3, h4⟩
          obtain rfl : H = _ := hH
          simp -implicitDefEqProofs (disch := omega) only [h1, h2, h3, h4, mwx, ne_eq, false_implies, implies_true, forall_eq_or_imp, MW.get, ev, evs, argFr, resK, packV, slHK, partsV, partsS, setR, Int.cast_ofNat_Int, Int.natCast_zero, Int.natCast_one, Nat.reduceLeDiff, reduceIte, Nat.reduceEqDiff, Nat.reduceBEq, reduceCtorEq, Nat.reduceAdd, Nat.reduceMul, Nat.reduceSub, Nat.reduceLT, Int.reduceToNat, Int.reduceLT, Int.reduceLE, Int.reduceEq, Int.reduceAdd, Int.reduceNeg, Int.reduceMul, Int.reduceSub]
          have hle := seek_le c l 0 (-1) (by omega)
          refine xc_dec (fun h5 => ?_) fun h5 => ?_
          · have hf : tak l c = (l, (0, 0), 110) := by simp [tak, hc, hs, h5]
            simp -implicitDefEqProofs (disch := omega) only [h1, h2, h3, h4, mwx, ne_eq, false_implies, implies_true, forall_eq_or_imp, MW.get, ev, evs, argFr, resK, packV, slHK, partsV, partsS, setR, Int.cast_ofNat_Int, Int.natCast_zero, Int.natCast_one, Nat.reduceLeDiff, reduceIte, Nat.reduceEqDiff, Nat.reduceBEq, reduceCtorEq, Nat.reduceAdd, Nat.reduceMul, Nat.reduceSub, Nat.reduceLT, Int.reduceToNat, Int.reduceLT, Int.reduceLE, Int.reduceEq, Int.reduceAdd, Int.reduceNeg, Int.reduceMul, Int.reduceSub]
            rw [hf]
            exact frz_tup3 (frz_rowX (e := segE) rfl (by decide) rfl rfl rfl rfl) (.free (slot_free _ _)) (frz_int rfl)
          · have h6 : 0 ≤ seek c l 0 (-1) := by omega
            have h7 : (seek c l 0 (-1)).toNat < l.length := by omega
            have hf : tak l c = (l.set (seek c l 0 (-1)).toNat (tak1 (l.getD (seek c l 0 (-1)).toNat (0, 0)) c), (seek c l 0 (-1), (low0 (l.getD (seek c l 0 (-1)).toNat (0, 0)).2 : Int)), 0) := by simp only [tak, hc, hs, h5, if_false, Bool.true_eq_false]
            have hu := hl.at h7
            have hg : (segE.vs l).getD (seek c l 0 (-1)).toNat .junk = .agg [.int .i64 (l.getD (seek c l 0 (-1)).toNat (0, 0)).1, .int .u64 (l.getD (seek c l 0 (-1)).toNat (0, 0)).2] := El.vs_getD (e := segE) h7
            have hx := bcom64 hu
            rw [hf]
            generalize seek c l 0 (-1) = at_ at *
            generalize hq : l.getD at_.toNat (0, 0) = q at *
            have e1 : ((if low0 q.2 < 64 then 2 ^ low0 q.2 else 0 : Nat) : Int) = (shb (low0 q.2) : Int) := rfl
            have e2 : bitOp .or .u64 (q.2 : Int) (shb (low0 q.2) : Int) = ((q.2 ||| shb (low0 q.2) : Nat) : Int) := bor64 hu (shb_lt _)
            simp -implicitDefEqProofs (disch := omega) only [h1, h2, h3, h4, hL, h6, h7, hg, hx, mwx, ne_eq, false_implies, implies_true, forall_eq_or_imp, MW.get, ev, evs, argFr, resK, packV, slHK, partsV, partsS, setR, Int.cast_ofNat_Int, Int.natCast_zero, Int.natCast_one, Nat.reduceLeDiff, reduceIte, Nat.reduceEqDiff, Nat.reduceBEq, reduceCtorEq, Nat.reduceAdd, Nat.reduceMul, Nat.reduceSub, Nat.reduceLT, Int.reduceToNat, Int.reduceLT, Int.reduceLE, Int.reduceEq, Int.reduceAdd, Int.reduceNeg, Int.reduceMul, Int.reduceSub]
            refine Does.call (tz_fn _ (by omega)) (fr1 (.int _ _)) ?_
            have e3 : Lib.ctz 64 (2 ^ 64 - 1 - q.2) = low0 q.2 := rfl
            rw [e3]
            have e4 : (0 : Int) ≤ (low0 q.2 : Int) := by omega
            simp -implicitDefEqProofs (disch := omega) only [h1, h2, h3, h4, hL, h6, h7, hg, e4, shl1, e1, e2, mwx, ne_eq, false_implies, implies_true, forall_eq_or_imp, MW.get, ev, evs, argFr, resK, packV, slHK, partsV, partsS, setR, Int.cast_ofNat_Int, Int.natCast_zero, Int.natCast_one, Nat.reduceLeDiff, reduceIte, Nat.reduceEqDiff, Nat.reduceBEq, reduceCtorEq, Nat.reduceAdd, Nat.reduceMul, Nat.reduceSub, Nat.reduceLT, Int.reduceToNat, Int.reduceLT, Int.reduceLE, Int.reduceEq, Int.reduceAdd, Int.reduceNeg, Int.reduceMul, Int.reduceSub]
            refine frz_tup3 (frz_rowX (e := segE) rfl (by decide) rfl ?_ (by simp) rfl) (.free (slot_free _ _)) (frz_int rfl)
            exact El.vs_set (e := segE) l at_.toNat (c, q.2 ||| shb (low0 q.2))
        · rintro J Q' hJ hn _ _ k fr H ⟨X, i, at_, k1, k2, k3, hH, h1, h2, h3, h4, h5, h6, h7⟩
          obtain rfl : H = _ := hH
          simp -implicitDefEqProofs (disch := omega) only [h1, h2, h3, h4, h5, h6, h7, mwx, ne_eq, false_implies, implies_true, forall_eq_or_imp, MW.get, ev, evs, argFr, resK, packV, slHK, partsV, partsS, setR, Int.cast_ofNat_Int, Int.natCast_zero, Int.natCast_one, Nat.reduceLeDiff, reduceIte, Nat.reduceEqDiff, Nat.reduceBEq, reduceCtorEq, Nat.reduceAdd, Nat.reduceMul, Nat.reduceSub, Nat.reduceLT, Int.reduceToNat, Int.reduceLT, Int.reduceLE, Int.reduceEq, Int.reduceAdd, Int.reduceNeg, Int.reduceMul, Int.reduceSub]
          refine xc_dec (fun h8 => ?_) fun h8 => ?_
          · have hi : i < l.length := by omega
            have hg : (segE.vs l).getD i .junk = .agg [.int .i64 (l.getD i (0, 0)).1, .int .u64 (l.getD i (0, 0)).2] := El.vs_getD (e := segE) hi
            have hd : l.drop i = l.getD i (0, 0) :: l.drop (i + 1) := by
              rw [List.drop_eq_getElem_cons hi, List.getD_eq_getElem?_getD, List.getElem?_eq_getElem hi]; rfl
            rw [hd, seek] at k3
            generalize l.getD i (0, 0) = p at *
            simp -implicitDefEqProofs (disch := omega) only [h1, h2, h3, h4, h5, h6, h7, hL, hi, hg, mwx, ne_eq, false_implies, implies_true, forall_eq_or_imp, MW.get, ev, evs, argFr, resK, packV, slHK, partsV, partsS, setR, Int.cast_ofNat_Int, Int.natCast_zero, Int.natCast_one, Nat.reduceLeDiff, reduceIte, Nat.reduceEqDiff, Nat.reduceBEq, reduceCtorEq, Nat.reduceAdd, Nat.reduceMul, Nat.reduceSub, Nat.reduceLT, Int.reduceToNat, Int.reduceLT, Int.reduceLE, Int.reduceEq, Int.reduceAdd, Int.reduceNeg, Int.reduceMul, Int.reduceSub]
            refine xg_dec (fun h9 => ?_) fun h9 => ?_
            · simp -implicitDefEqProofs (disch := omega) only [h9, h1, mwx, ne_eq, false_implies, implies_true, forall_eq_or_imp, MW.get, ev, evs, argFr, resK, packV, slHK, partsV, partsS, setR, Int.cast_ofNat_Int, Int.natCast_zero, Int.natCast_one, Nat.reduceLeDiff, reduceIte, Nat.reduceEqDiff, Nat.reduceBEq, reduceCtorEq, Nat.reduceAdd, Nat.reduceMul, Nat.reduceSub, Nat.reduceLT, Int.reduceToNat, Int.reduceLT, Int.reduceLE, Int.reduceEq, Int.reduceAdd, Int.reduceNeg, Int.reduceMul, Int.reduceSub]
              refine Does.call (all_fn c) (fr1 (.int _ _)) ?_
              simp -implicitDefEqProofs (disch := omega) only [h9, mwx, ne_eq, false_implies, implies_true, forall_eq_or_imp, MW.get, ev, evs, argFr, resK, packV, slHK, partsV, partsS, setR, Int.cast_ofNat_Int, Int.natCast_zero, Int.natCast_one, Nat.reduceLeDiff, reduceIte, Nat.reduceEqDiff, Nat.reduceBEq, reduceCtorEq, Nat.reduceAdd, Nat.reduceMul, Nat.reduceSub, Nat.reduceLT, Int.reduceToNat, Int.reduceLT, Int.reduceLE, Int.reduceEq, Int.reduceAdd, Int.reduceNeg, Int.reduceMul, Int.reduceSub]
              refine xc_dec (fun h10 => ?_) fun h10 => ?_
              · rw [if_neg (by omega)] at k3
                simp -implicitDefEqProofs (disch := omega) only [h9, h10, mwx, ne_eq, false_implies, implies_true, forall_eq_or_imp, MW.get, ev, evs, argFr, resK, packV, slHK, partsV, partsS, setR, Int.cast_ofNat_Int, Int.natCast_zero, Int.natCast_one, Nat.reduceLeDiff, reduceIte, Nat.reduceEqDiff, Nat.reduceBEq, reduceCtorEq, Nat.reduceAdd, Nat.reduceMul, Nat.reduceSub, Nat.reduceLT, Int.reduceToNat, Int.reduceLT, Int.reduceLE, Int.reduceEq, Int.reduceAdd, Int.reduceNeg, Int.reduceMul, Int.reduceSub]
                refine xg_dec (fun h11 => ?_) fun h11 => ?_
                · simp -implicitDefEqProofs (disch := omega) only [h11, h4, mwx, ne_eq, false_implies, implies_true, forall_eq_or_imp, MW.get, ev, evs, argFr, resK, packV, slHK, partsV, partsS, setR, Int.cast_ofNat_Int, Int.natCast_zero, Int.natCast_one, Nat.reduceLeDiff, reduceIte, Nat.reduceEqDiff, Nat.reduceBEq, reduceCtorEq, Nat.reduceAdd, Nat.reduceMul, Nat.reduceSub, Nat.reduceLT, Int.reduceToNat, Int.reduceLT, Int.reduceLE, Int.reduceEq, Int.reduceAdd, Int.reduceNeg, Int.reduceMul, Int.reduceSub]
                  refine xc_dec (fun h12 => ?_) fun h12 => ?_
                  · rw [if_pos ⟨by omega, h12⟩] at k3
                    simp -implicitDefEqProofs (disch := omega) only [h7, mwx, ne_eq, false_implies, implies_true, forall_eq_or_imp, MW.get, ev, evs, argFr, resK, packV, slHK, partsV, partsS, setR, Int.cast_ofNat_Int, Int.natCast_zero, Int.natCast_one, Nat.reduceLeDiff, reduceIte, Nat.reduceEqDiff, Nat.reduceBEq, reduceCtorEq, Nat.reduceAdd, Nat.reduceMul, Nat.reduceSub, Nat.reduceLT, Int.reduceToNat, Int.reduceLT, Int.reduceLE, Int.reduceEq, Int.reduceAdd, Int.reduceNeg, Int.reduceMul, Int.reduceSub]
                    exact ⟨k - 1, by omega, hJ _ _ ⟨_, i + 1, i, by omega, by omega, k3, rfl, h1, h2, h3, rfl, h5, h6, rfl⟩⟩
                  · rw [if_neg (by omega)] at k3
                    simp -implicitDefEqProofs (disch := omega) only [h7, mwx, ne_eq, false_implies, implies_true, forall_eq_or_imp, MW.get, ev, evs, argFr, resK, packV, slHK, partsV, partsS, setR, Int.cast_ofNat_Int, Int.natCast_zero, Int.natCast_one, Nat.reduceLeDiff, reduceIte, Nat.reduceEqDiff, Nat.reduceBEq, reduceCtorEq, Nat.reduceAdd, Nat.reduceMul, Nat.reduceSub, Nat.reduceLT, Int.reduceToNat, Int.reduceLT, Int.reduceLE, Int.reduceEq, Int.reduceAdd, Int.reduceNeg, Int.reduceMul, Int.reduceSub]
                    exact ⟨k - 1, by omega, hJ _ _ ⟨_, i + 1, at_, by omega, by omega, k3, rfl, h1, h2, h3, h4, h5, h6, rfl⟩⟩
                · rw [if_neg (by omega)] at k3
                  simp -implicitDefEqProofs (disch := omega) only [h11, h7, mwx, ne_eq, false_implies, implies_true, forall_eq_or_imp, MW.get, ev, evs, argFr, resK, packV, slHK, partsV, partsS, setR, Int.cast_ofNat_Int, Int.natCast_zero, Int.natCast_one, Nat.reduceLeDiff, reduceIte, Nat.reduceEqDiff, Nat.reduceBEq, reduceCtorEq, Nat.reduceAdd, Nat.reduceMul, Nat.reduceSub, Nat.reduceLT, Int.reduceToNat, Int.reduceLT, Int.reduceLE, Int.reduceEq, Int.reduceAdd, Int.reduceNeg, Int.reduceMul, Int.reduceSub]
                  exact ⟨k - 1, by omega, hJ _ _ ⟨_, i + 1, at_, by omega, by omega, k3, rfl, h1, h2, h3, h4, h5, h6, rfl⟩⟩
              · rw [if_pos ⟨h9, by omega⟩] at k3
                simp -implicitDefEqProofs (disch := omega) only [hn, mwx, ne_eq, false_implies, implies_true, forall_eq_or_imp, MW.get, ev, evs, argFr, resK, packV, slHK, partsV, partsS, setR, Int.cast_ofNat_Int, Int.natCast_zero, Int.natCast_one, Nat.reduceLeDiff, reduceIte, Nat.reduceEqDiff, Nat.reduceBEq, reduceCtorEq, Nat.reduceAdd, Nat.reduceMul, Nat.reduceSub, Nat.reduceLT, Int.reduceToNat, Int.reduceLT, Int.reduceLE, Int.reduceEq, Int.reduceAdd, Int.reduceNeg, Int.reduceMul, Int.reduceSub]
                exact ⟨_, rfl, h1, h2, h3, by rw [← k3]⟩
            · rw [if_neg (by omega)] at k3
              simp -implicitDefEqProofs (disch := omega) only [h9, mwx, ne_eq, false_implies, implies_true, forall_eq_or_imp, MW.get, ev, evs, argFr, resK, packV, slHK, partsV, partsS, setR, Int.cast_ofNat_Int, Int.natCast_zero, Int.natCast_one, Nat.reduceLeDiff, reduceIte, Nat.reduceEqDiff, Nat.reduceBEq, reduceCtorEq, Nat.reduceAdd, Nat.reduceMul, Nat.reduceSub, Nat.reduceLT, Int.reduceToNat, Int.reduceLT, Int.reduceLE, Int.reduceEq, Int.reduceAdd, Int.reduceNeg, Int.reduceMul, Int.reduceSub]
              refine xg_dec (fun h11 => ?_) fun h11 => ?_
              · simp -implicitDefEqProofs (disch := omega) only [h11, h4, mwx, ne_eq, false_implies, implies_true, forall_eq_or_imp, MW.get, ev, evs, argFr, resK, packV, slHK, partsV, partsS, setR, Int.cast_ofNat_Int, Int.natCast_zero, Int.natCast_one, Nat.reduceLeDiff, reduceIte, Nat.reduceEqDiff, Nat.reduceBEq, reduceCtorEq, Nat.reduceAdd, Nat.reduceMul, Nat.reduceSub, Nat.reduceLT, Int.reduceToNat, Int.reduceLT, Int.reduceLE, Int.reduceEq, Int.reduceAdd, Int.reduceNeg, Int.reduceMul, Int.reduceSub]
                refine xc_dec (fun h12 => ?_) fun h12 => ?_
                · rw [if_pos ⟨h11, h12⟩] at k3
                  simp -implicitDefEqProofs (disch := omega) only [h7, mwx, ne_eq, false_implies, implies_true, forall_eq_or_imp, MW.get, ev, evs, argFr, resK, packV, slHK, partsV, partsS, setR, Int.cast_ofNat_Int, Int.natCast_zero, Int.natCast_one, Nat.reduceLeDiff, reduceIte, Nat.reduceEqDiff, Nat.reduceBEq, reduceCtorEq, Nat.reduceAdd, Nat.reduceMul, Nat.reduceSub, Nat.reduceLT, Int.reduceToNat, Int.reduceLT, Int.reduceLE, Int.reduceEq, Int.reduceAdd, Int.reduceNeg, Int.reduceMul, Int.reduceSub]
                  exact ⟨k - 1, by omega, hJ _ _ ⟨_, i + 1, i, by omega, by omega, k3, rfl, h1, h2, h3, rfl, h5, h6, rfl⟩⟩
                · rw [if_neg (by omega)] at k3
                  simp -implicitDefEqProofs (disch := omega) only [h7, mwx, ne_eq, false_implies, implies_true, forall_eq_or_imp, MW.get, ev, evs, argFr, resK, packV, slHK, partsV, partsS, setR, Int.cast_ofNat_Int, Int.natCast_zero, Int.natCast_one, Nat.reduceLeDiff, reduceIte, Nat.reduceEqDiff, Nat.reduceBEq, reduceCtorEq, Nat.reduceAdd, Nat.reduceMul, Nat.reduceSub, Nat.reduceLT, Int.reduceToNat, Int.reduceLT, Int.reduceLE, Int.reduceEq, Int.reduceAdd, Int.reduceNeg, Int.reduceMul, Int.reduceSub]
                  exact ⟨k - 1, by omega, hJ _ _ ⟨_, i + 1, at_, by omega, by omega, k3, rfl, h1, h2, h3, h4, h5, h6, rfl⟩⟩
              · rw [if_neg (by omega)] at k3
                simp -implicitDefEqProofs (disch := omega) only [h11, h7, mwx, ne_eq, false_implies, implies_true, forall_eq_or_imp, MW.get, ev, evs, argFr, resK, packV, slHK, partsV, partsS, setR, Int.cast_ofNat_Int, Int.natCast_zero, Int.natCast_one, Nat.reduceLeDiff, reduceIte, Nat.reduceEqDiff, Nat.reduceBEq, reduceCtorEq, Nat.reduceAdd, Nat.reduceMul, Nat.reduceSub, Nat.reduceLT, Int.reduceToNat, Int.reduceLT, Int.reduceLE, Int.reduceEq, Int.reduceAdd, Int.reduceNeg, Int.reduceMul, Int.reduceSub]
                exact ⟨k - 1, by omega, hJ _ _ ⟨_, i + 1, at_, by omega, by omega, k3, rfl, h1, h2, h3, h4, h5, h6, rfl⟩⟩
          · have hd : l.drop i = [] := List.drop_of_length_le (by omega)
            rw [hd, seek] at k3
            simp -implicitDefEqProofs (disch := omega) only [hn, mwx, ne_eq, false_implies, implies_true, forall_eq_or_imp, MW.get, ev, evs, argFr, resK, packV, slHK, partsV, partsS, setR, Int.cast_ofNat_Int, Int.natCast_zero, Int.natCast_one, Nat.reduceLeDiff, reduceIte, Nat.reduceEqDiff, Nat.reduceBEq, reduceCtorEq, Nat.reduceAdd, Nat.reduceMul, Nat.reduceSub, Nat.reduceLT, Int.reduceToNat, Int.reduceLT, Int.reduceLE, Int.reduceEq, Int.reduceAdd, Int.reduceNeg, Int.reduceMul, Int.reduceSub]
            exact ⟨_, rfl, h1, h2, h3, by rw [← k3]; exact h4⟩
  · have hf : tak l c = (l, (0, 0), 120) := by simp [tak, hc]
    rw [hf]
    refine ⟨v', g1, ?_⟩
    refine Does.intro mixed comp10 ?_
    unfold c10
    simp -implicitDefEqProofs (disch := omega) only [mwx, ne_eq, false_implies, implies_true, forall_eq_or_imp, MW.get, ev, evs, argFr, resK, packV, slHK, partsV, partsS, setR, Int.cast_ofNat_Int, Int.natCast_zero, Int.natCast_one, Nat.reduceLeDiff, reduceIte, Nat.reduceEqDiff, Nat.reduceBEq, reduceCtorEq, Nat.reduceAdd, Nat.reduceMul, Nat.reduceSub, Nat.reduceLT, Int.reduceToNat, Int.reduceLT, Int.reduceLE, Int.reduceEq, Int.reduceAdd, Int.reduceNeg, Int.reduceMul, Int.reduceSub]
    refine callK_sim hsim ?_
    simp -implicitDefEqProofs (disch := omega) only [mwx, ne_eq, false_implies, implies_true, forall_eq_or_imp, MW.get, ev, evs, argFr, resK, packV, slHK, partsV, partsS, setR, Int.cast_ofNat_Int, Int.natCast_zero, Int.natCast_one, Nat.reduceLeDiff, reduceIte, Nat.reduceEqDiff, Nat.reduceBEq, reduceCtorEq, Nat.reduceAdd, Nat.reduceMul, Nat.reduceSub, Nat.reduceLT, Int.reduceToNat, Int.reduceLT, Int.reduceLE, Int.reduceEq, Int.reduceAdd, Int.reduceNeg, Int.reduceMul, Int.reduceSub]
    refine Does.call (chk_fn hv hl) (fr1 hv.free) ?_
    simp -implicitDefEqProofs (disch := omega) only [hc, mwx, ne_eq, false_implies, implies_true, forall_eq_or_imp, MW.get, ev, evs, argFr, resK, packV, slHK, partsV, partsS, setR, Int.cast_ofNat_Int, Int.natCast_zero, Int.natCast_one, Nat.reduceLeDiff, reduceIte, Nat.reduceEqDiff, Nat.reduceBEq, reduceCtorEq, Nat.reduceAdd, Nat.reduceMul, Nat.reduceSub, Nat.reduceLT, Int.reduceToNat, Int.reduceLT, Int.reduceLE, Int.reduceEq, Int.reduceAdd, Int.reduceNeg, Int.reduceMul, Int.reduceSub]
    exact frz_tup3 g2 (.free (slot_free _ _)) (frz_int rfl)

end Go.Proofs.YtphbhoggcddgmaaDoor
