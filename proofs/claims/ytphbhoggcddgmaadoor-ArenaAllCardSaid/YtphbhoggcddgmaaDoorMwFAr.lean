/- Arena (chapter 11): what the functions do that read alone. -/
import Derived.Test.YtphbhoggcddgmaaDoorMwFCls
namespace Go.Proofs.YtphbhoggcddgmaaDoor
open Go Go.MW
set_option linter.unusedSimpArgs false
set_option linter.unusedVariables false

/-- Segments: class and used bits. -/
abbrev Sg := Int × Nat
def segE : El Sg where
  sz := 2
  f p := .agg [.int .i64 p.1, .int .u64 p.2]
  d := (0, 0)
  im := false
  good p := ⟨rfl, by simp [V.cells, V.one]⟩
  free p j hj := by
    have : j = 0 ∨ j = 1 := by omega
    rcases this with rfl | rfl <;> exact .int _ _
theorem seg_f (p : Sg) : segE.f p = .agg [.int .i64 p.1, .int .u64 p.2] := rfl
theorem iaK_sg {v : V} {l : List Sg} (h : IsE segE v l) {H : List Blk} {k : IntKind} {n : Int} {K : V → Prop} (h0 : 0 ≤ n) (hn : n.toNat < l.length) : iaK H 2 v (.int k n) K = K (.vp [.int .i64 (l.getD n.toNat (0, 0)).1, .int .u64 (l.getD n.toNat (0, 0)).2]) :=
  iaK_isE h (e := segE) rfl h0 hn
theorem seg_d : segE.d = (0, 0) := rfl
theorem seg_free {im : Bool} (a b : Int) : Free im (.agg [.int .i64 a, .int .u64 b]) := free_agg2 (.int _ _) (.int _ _)
theorem slot_free {im : Bool} (a b : Int) : Free im (.agg [.int .i64 a, .int .i64 b]) := free_agg2 (.int _ _) (.int _ _)
def SegOK (l : List Sg) : Prop := ∀ p ∈ l, p.2 < 2 ^ 64
theorem SegOK.at {l : List Sg} (h : SegOK l) {i : Nat} (hi : i < l.length) : (l.getD i (0, 0)).2 < 2 ^ 64 := by
  rw [List.getD_eq_getElem?_getD, List.getElem?_eq_getElem hi]
  exact h _ (List.getElem_mem _)

def allN (c : Int) : Nat := 2 ^ slN c - 1
theorem allN_lt (c : Int) : allN c < 2 ^ 64 := by
  have : 2 ^ slN c ≤ 2 ^ 64 := Nat.pow_le_pow_right (by decide) (slN_le c)
  unfold allN
  omega
theorem all_fn (c : Int) : Does Tryd.prog G0 false 21 [.int .i64 c] (.int .u64 (allN c)) := by
  refine Does.intro mixed comp21 ?_
  unfold c21
  simp -implicitDefEqProofs (disch := omega) only [mwx, ne_eq, false_implies, implies_true, forall_eq_or_imp, MW.get, ev, evs, argFr, resK, packV, slHK, partsV, partsS, setR, Int.cast_ofNat_Int, Int.natCast_zero, Int.natCast_one, Nat.reduceLeDiff, reduceIte, Nat.reduceEqDiff, Nat.reduceBEq, reduceCtorEq, Nat.reduceAdd, Nat.reduceMul, Nat.reduceSub, Nat.reduceLT, Int.reduceToNat, Int.reduceLT, Int.reduceLE, Int.reduceEq, Int.reduceAdd, Int.reduceNeg, Int.reduceMul, Int.reduceSub]
  refine Does.call (slots_fn c) (fr1 (.int _ _)) ?_
  have h0 : (0 : Int) ≤ (slN c : Int) := by omega
  simp -implicitDefEqProofs (disch := omega) only [slts_slN, h0, shl1, mwx, ne_eq, false_implies, implies_true, forall_eq_or_imp, MW.get, ev, evs, argFr, resK, packV, slHK, partsV, partsS, setR, Int.cast_ofNat_Int, Int.natCast_zero, Int.natCast_one, Nat.reduceLeDiff, reduceIte, Nat.reduceEqDiff, Nat.reduceBEq, reduceCtorEq, Nat.reduceAdd, Nat.reduceMul, Nat.reduceSub, Nat.reduceLT, Int.reduceToNat, Int.reduceLT, Int.reduceLE, Int.reduceEq, Int.reduceAdd, Int.reduceNeg, Int.reduceMul, Int.reduceSub]
  refine frz_int ?_
  rw [wrap_u64i]
  have := Nat.two_pow_pos (slN c)
  unfold allN
  split
  · have : 2 ^ slN c < 2 ^ 64 := Nat.pow_lt_pow_right (by decide) (by assumption)
    omega
  · have := slN_le c
    have e : slN c = 64 := by omega
    rw [e]
    rfl

/-- May a segment be? -/
def sgOK (p : Sg) : Bool := if p.1 = -1 then p.2 == 0 else !(decide (slN p.1 = 0) || decide (p.2 = 0) || !decide (p.2 < 2 ^ slN p.1))
theorem check1_fn (p : Sg) (hp : p.2 < 2 ^ 64) : Does Tryd.prog G0 false 19 [.agg [.int .i64 p.1, .int .u64 p.2]] (.bool (!sgOK p)) := by
  obtain ⟨c, u⟩ := p
  refine Does.intro mixed comp19 ?_
  unfold c19
  simp -implicitDefEqProofs (disch := omega) only [mwx, ne_eq, false_implies, implies_true, forall_eq_or_imp, MW.get, ev, evs, argFr, resK, packV, slHK, partsV, partsS, setR, Int.cast_ofNat_Int, Int.natCast_zero, Int.natCast_one, Nat.reduceLeDiff, reduceIte, Nat.reduceEqDiff, Nat.reduceBEq, reduceCtorEq, Nat.reduceAdd, Nat.reduceMul, Nat.reduceSub, Nat.reduceLT, Int.reduceToNat, Int.reduceLT, Int.reduceLE, Int.reduceEq, Int.reduceAdd, Int.reduceNeg, Int.reduceMul, Int.reduceSub]
  refine xc_dec (fun h => ?_) fun h => ?_
  · simp -implicitDefEqProofs (disch := omega) only [mwx, ne_eq, false_implies, implies_true, forall_eq_or_imp, MW.get, ev, evs, argFr, resK, packV, slHK, partsV, partsS, setR, Int.cast_ofNat_Int, Int.natCast_zero, Int.natCast_one, Nat.reduceLeDiff, reduceIte, Nat.reduceEqDiff, Nat.reduceBEq, reduceCtorEq, Nat.reduceAdd, Nat.reduceMul, Nat.reduceSub, Nat.reduceLT, Int.reduceToNat, Int.reduceLT, Int.reduceLE, Int.reduceEq, Int.reduceAdd, Int.reduceNeg, Int.reduceMul, Int.reduceSub]
    refine frz_bool ?_
    simp only [sgOK, h, if_true]
    by_cases hu : u = 0
    · subst hu; rfl
    · have : ¬ ((u : Int) = 0) := by omega
      simp [hu, this]
  · simp -implicitDefEqProofs (disch := omega) only [mwx, ne_eq, false_implies, implies_true, forall_eq_or_imp, MW.get, ev, evs, argFr, resK, packV, slHK, partsV, partsS, setR, Int.cast_ofNat_Int, Int.natCast_zero, Int.natCast_one, Nat.reduceLeDiff, reduceIte, Nat.reduceEqDiff, Nat.reduceBEq, reduceCtorEq, Nat.reduceAdd, Nat.reduceMul, Nat.reduceSub, Nat.reduceLT, Int.reduceToNat, Int.reduceLT, Int.reduceLE, Int.reduceEq, Int.reduceAdd, Int.reduceNeg, Int.reduceMul, Int.reduceSub]
    refine Does.call (slots_fn c) (fr1 (.int _ _)) ?_
    simp -implicitDefEqProofs (disch := omega) only [slts_slN, mwx, ne_eq, false_implies, implies_true, forall_eq_or_imp, MW.get, ev, evs, argFr, resK, packV, slHK, partsV, partsS, setR, Int.cast_ofNat_Int, Int.natCast_zero, Int.natCast_one, Nat.reduceLeDiff, reduceIte, Nat.reduceEqDiff, Nat.reduceBEq, reduceCtorEq, Nat.reduceAdd, Nat.reduceMul, Nat.reduceSub, Nat.reduceLT, Int.reduceToNat, Int.reduceLT, Int.reduceLE, Int.reduceEq, Int.reduceAdd, Int.reduceNeg, Int.reduceMul, Int.reduceSub]
    refine xg_decf (fun h2 => ?_) fun h2 => ?_
    · simp -implicitDefEqProofs (disch := omega) only [h2, mwx, ne_eq, false_implies, implies_true, forall_eq_or_imp, MW.get, ev, evs, argFr, resK, packV, slHK, partsV, partsS, setR, Int.cast_ofNat_Int, Int.natCast_zero, Int.natCast_one, Nat.reduceLeDiff, reduceIte, Nat.reduceEqDiff, Nat.reduceBEq, reduceCtorEq, Nat.reduceAdd, Nat.reduceMul, Nat.reduceSub, Nat.reduceLT, Int.reduceToNat, Int.reduceLT, Int.reduceLE, Int.reduceEq, Int.reduceAdd, Int.reduceNeg, Int.reduceMul, Int.reduceSub]
      refine frz_bool ?_
      have h2' : slN c = 0 := by omega
      simp [sgOK, h, h2']
    · have h2' : ¬ slN c = 0 := by omega
      simp -implicitDefEqProofs (disch := omega) only [h2, mwx, ne_eq, false_implies, implies_true, forall_eq_or_imp, MW.get, ev, evs, argFr, resK, packV, slHK, partsV, partsS, setR, Int.cast_ofNat_Int, Int.natCast_zero, Int.natCast_one, Nat.reduceLeDiff, reduceIte, Nat.reduceEqDiff, Nat.reduceBEq, reduceCtorEq, Nat.reduceAdd, Nat.reduceMul, Nat.reduceSub, Nat.reduceLT, Int.reduceToNat, Int.reduceLT, Int.reduceLE, Int.reduceEq, Int.reduceAdd, Int.reduceNeg, Int.reduceMul, Int.reduceSub]
      refine xg_decf (fun h3 => ?_) fun h3 => ?_
      · simp -implicitDefEqProofs (disch := omega) only [h3, mwx, ne_eq, false_implies, implies_true, forall_eq_or_imp, MW.get, ev, evs, argFr, resK, packV, slHK, partsV, partsS, setR, Int.cast_ofNat_Int, Int.natCast_zero, Int.natCast_one, Nat.reduceLeDiff, reduceIte, Nat.reduceEqDiff, Nat.reduceBEq, reduceCtorEq, Nat.reduceAdd, Nat.reduceMul, Nat.reduceSub, Nat.reduceLT, Int.reduceToNat, Int.reduceLT, Int.reduceLE, Int.reduceEq, Int.reduceAdd, Int.reduceNeg, Int.reduceMul, Int.reduceSub]
        refine frz_bool ?_
        have h3' : u = 0 := by omega
        simp [sgOK, h, h3']
      · simp -implicitDefEqProofs (disch := omega) only [h3, mwx, ne_eq, false_implies, implies_true, forall_eq_or_imp, MW.get, ev, evs, argFr, resK, packV, slHK, partsV, partsS, setR, Int.cast_ofNat_Int, Int.natCast_zero, Int.natCast_one, Nat.reduceLeDiff, reduceIte, Nat.reduceEqDiff, Nat.reduceBEq, reduceCtorEq, Nat.reduceAdd, Nat.reduceMul, Nat.reduceSub, Nat.reduceLT, Int.reduceToNat, Int.reduceLT, Int.reduceLE, Int.reduceEq, Int.reduceAdd, Int.reduceNeg, Int.reduceMul, Int.reduceSub]
        refine Does.call (all_fn c) (fr1 (.int _ _)) ?_
        have hb : bitOp .andNot .u64 (u : Int) (allN c : Int) = ((u &&& (2 ^ 64 - 1 - (2 ^ slN c - 1)) : Nat) : Int) := by
          rw [bandNot64 hp (allN_lt c)]
          rfl
        simp -implicitDefEqProofs (disch := omega) only [h3, hb, mwx, ne_eq, false_implies, implies_true, forall_eq_or_imp, MW.get, ev, evs, argFr, resK, packV, slHK, partsV, partsS, setR, Int.cast_ofNat_Int, Int.natCast_zero, Int.natCast_one, Nat.reduceLeDiff, reduceIte, Nat.reduceEqDiff, Nat.reduceBEq, reduceCtorEq, Nat.reduceAdd, Nat.reduceMul, Nat.reduceSub, Nat.reduceLT, Int.reduceToNat, Int.reduceLT, Int.reduceLE, Int.reduceEq, Int.reduceAdd, Int.reduceNeg, Int.reduceMul, Int.reduceSub]
        refine frz_bool ?_
        have h3' : ¬ u = 0 := by omega
        have hm := and_mask_not hp (slN_le c)
        by_cases h4 : u < 2 ^ slN c
        · have e : u &&& (2 ^ 64 - 1 - (2 ^ slN c - 1)) = 0 := hm.2 h4
          simp only [sgOK, h, h2', h3', h4]
          rw [e]
          simp
        · have e : ¬ u &&& (2 ^ 64 - 1 - (2 ^ slN c - 1)) = 0 := fun e => h4 (hm.1 e)
          have e2 : ¬ (((u &&& (2 ^ 64 - 1 - (2 ^ slN c - 1)) : Nat) : Int) = 0) := by omega
          simp only [sgOK, h, h2', h3', h4, decide_eq_false e2]
          rfl

theorem bodied19 : (Tryd.prog.funcs[19]?).any (fun fn => fn.body.isSome && fn.name != "runtime.NumGoroutine") = true := by kernel_rfl
theorem bodied26 : (Tryd.prog.funcs[26]?).any (fun fn => fn.body.isSome && fn.name != "runtime.NumGoroutine") = true := by kernel_rfl
theorem bodied29 : (Tryd.prog.funcs[29]?).any (fun fn => fn.body.isSome && fn.name != "runtime.NumGoroutine") = true := by kernel_rfl

/-- The first one that may not be; -1: none. -/
def badAt (l : List Sg) : Int := match l.findIdx? (fun p => !sgOK p) with
  | some i => i
  | none => -1

theorem index_fn {v : V} {l : List Sg} (hv : IsE segE v l) (hl : SegOK l) (hn : l.length < 2 ^ 62) : Does Tryd.prog G0 false 30 [v, .fn (.func 19) [] []] (.int .i64 (badAt l)) := by
  refine Does.intro mixed comp30 ?_
  unfold c30
  simp -implicitDefEqProofs (disch := omega) only [lenK_isE hv, mwx, ne_eq, false_implies, implies_true, forall_eq_or_imp, MW.get, ev, evs, argFr, resK, packV, slHK, partsV, partsS, setR, Int.cast_ofNat_Int, Int.natCast_zero, Int.natCast_one, Nat.reduceLeDiff, reduceIte, Nat.reduceEqDiff, Nat.reduceBEq, reduceCtorEq, Nat.reduceAdd, Nat.reduceMul, Nat.reduceSub, Nat.reduceLT, Int.reduceToNat, Int.reduceLT, Int.reduceLE, Int.reduceEq, Int.reduceAdd, Int.reduceNeg, Int.reduceMul, Int.reduceSub]
  refine xl_loop (fun k st => ∃ i : Nat, k + i = l.length ∧ get st.fr 0 = v ∧ get st.fr 1 = .fn (.func 19) [] [] ∧ get st.fr 7 = .int .i64 l.length ∧ get st.fr 8 = .int .i64 i ∧ ∀ j (h : j < l.length), j < i → sgOK l[j] = true) l.length ⟨0, by omega, rfl, rfl, rfl, rfl, by omega⟩ ?_
  rintro J hJ k fr H ⟨i, h1, h2, h3, h4, h5, h6⟩
  simp -implicitDefEqProofs (disch := omega) only [h2, h3, h4, h5, mwx, ne_eq, false_implies, implies_true, forall_eq_or_imp, MW.get, ev, evs, argFr, resK, packV, slHK, partsV, partsS, setR, Int.cast_ofNat_Int, Int.natCast_zero, Int.natCast_one, Nat.reduceLeDiff, reduceIte, Nat.reduceEqDiff, Nat.reduceBEq, reduceCtorEq, Nat.reduceAdd, Nat.reduceMul, Nat.reduceSub, Nat.reduceLT, Int.reduceToNat, Int.reduceLT, Int.reduceLE, Int.reduceEq, Int.reduceAdd, Int.reduceNeg, Int.reduceMul, Int.reduceSub]
  refine xc_dec (fun h => ?_) fun h => ?_
  · have hi : i < l.length := by omega
    have hi0 : (0 : Int) ≤ (i : Int) := by omega
    have hi1 : (i : Int).toNat < l.length := by simpa using hi
    have hg : l.getD i (0, 0) = l[i] := by simp [List.getD_eq_getElem?_getD, hi]
    simp -implicitDefEqProofs (disch := omega) only [h2, h3, h4, h5, iaK_sg hv hi0 hi1, callvK_of bodied19, mwx, ne_eq, false_implies, implies_true, forall_eq_or_imp, MW.get, ev, evs, argFr, resK, packV, slHK, partsV, partsS, setR, Int.cast_ofNat_Int, Int.natCast_zero, Int.natCast_one, Nat.reduceLeDiff, reduceIte, Nat.reduceEqDiff, Nat.reduceBEq, reduceCtorEq, Nat.reduceAdd, Nat.reduceMul, Nat.reduceSub, Nat.reduceLT, Int.reduceToNat, Int.reduceLT, Int.reduceLE, Int.reduceEq, Int.reduceAdd, Int.reduceNeg, Int.reduceMul, Int.reduceSub]
    refine Does.call (check1_fn (l.getD i (0, 0)) (hl.at hi)) (fr1 (seg_free _ _)) ?_
    rw [hg]
    simp -implicitDefEqProofs (disch := omega) only [mwx, ne_eq, false_implies, implies_true, forall_eq_or_imp, MW.get, ev, evs, argFr, resK, packV, slHK, partsV, partsS, setR, Int.cast_ofNat_Int, Int.natCast_zero, Int.natCast_one, Nat.reduceLeDiff, reduceIte, Nat.reduceEqDiff, Nat.reduceBEq, reduceCtorEq, Nat.reduceAdd, Nat.reduceMul, Nat.reduceSub, Nat.reduceLT, Int.reduceToNat, Int.reduceLT, Int.reduceLE, Int.reduceEq, Int.reduceAdd, Int.reduceNeg, Int.reduceMul, Int.reduceSub]
    refine xc_any (fun h7 => ?_) fun h7 => ?_
    · simp -implicitDefEqProofs (disch := omega) only [h2, h3, h4, h5, mwx, ne_eq, false_implies, implies_true, forall_eq_or_imp, MW.get, ev, evs, argFr, resK, packV, slHK, partsV, partsS, setR, Int.cast_ofNat_Int, Int.natCast_zero, Int.natCast_one, Nat.reduceLeDiff, reduceIte, Nat.reduceEqDiff, Nat.reduceBEq, reduceCtorEq, Nat.reduceAdd, Nat.reduceMul, Nat.reduceSub, Nat.reduceLT, Int.reduceToNat, Int.reduceLT, Int.reduceLE, Int.reduceEq, Int.reduceAdd, Int.reduceNeg, Int.reduceMul, Int.reduceSub]
      exact ⟨k - 1, by omega, hJ _ _ ⟨i + 1, by omega, h2, h3, h4, rfl, fun j hj hji => by
        rcases Nat.lt_or_ge j i with h' | h'
        · exact h6 j hj h'
        · obtain rfl : j = i := by omega
          exact h7⟩⟩
    · simp -implicitDefEqProofs (disch := omega) only [h2, h3, h4, h5, mwx, ne_eq, false_implies, implies_true, forall_eq_or_imp, MW.get, ev, evs, argFr, resK, packV, slHK, partsV, partsS, setR, Int.cast_ofNat_Int, Int.natCast_zero, Int.natCast_one, Nat.reduceLeDiff, reduceIte, Nat.reduceEqDiff, Nat.reduceBEq, reduceCtorEq, Nat.reduceAdd, Nat.reduceMul, Nat.reduceSub, Nat.reduceLT, Int.reduceToNat, Int.reduceLT, Int.reduceLE, Int.reduceEq, Int.reduceAdd, Int.reduceNeg, Int.reduceMul, Int.reduceSub]
      refine frz_int ?_
      have : l.findIdx? (fun p => !sgOK p) = some i := by
        rw [List.findIdx?_eq_some_iff_getElem]
        exact ⟨hi, by simp [h7], fun j hj => by simp [h6 j (by omega) hj]⟩
      simp [badAt, this]
  · simp -implicitDefEqProofs (disch := omega) only [mwx, ne_eq, false_implies, implies_true, forall_eq_or_imp, MW.get, ev, evs, argFr, resK, packV, slHK, partsV, partsS, setR, Int.cast_ofNat_Int, Int.natCast_zero, Int.natCast_one, Nat.reduceLeDiff, reduceIte, Nat.reduceEqDiff, Nat.reduceBEq, reduceCtorEq, Nat.reduceAdd, Nat.reduceMul, Nat.reduceSub, Nat.reduceLT, Int.reduceToNat, Int.reduceLT, Int.reduceLE, Int.reduceEq, Int.reduceAdd, Int.reduceNeg, Int.reduceMul, Int.reduceSub]
    refine frz_int ?_
    have : l.findIdx? (fun p => !sgOK p) = none := by
      rw [List.findIdx?_eq_none_iff]
      intro p hp
      obtain ⟨j, hj, rfl⟩ := List.getElem_of_mem hp
      simp [h6 j hj (by omega)]
    simp [badAt, this]

theorem badAt_iff (l : List Sg) : (decide (0 ≤ badAt l)) = !l.all sgOK := by
  unfold badAt
  cases h : l.findIdx? (fun p => !sgOK p) with
  | none =>
    rw [List.findIdx?_eq_none_iff] at h
    have : l.all sgOK = true := by rw [List.all_eq_true]; intro p hp; simpa using h p hp
    simp [this]
  | some i =>
    rw [List.findIdx?_eq_some_iff_getElem] at h
    obtain ⟨hi, h1, _⟩ := h
    have : l.all sgOK = false := by
      rw [← Bool.not_eq_true, List.all_eq_true]
      intro h'
      have := h' _ (List.getElem_mem hi)
      simp [this] at h1
    simp [this]

/-- May segments be? -/
def chk (l : List Sg) : Bool := decide (l.length ≤ 200) && l.all sgOK
theorem chk_fn {v : V} {l : List Sg} (hv : IsE segE v l) (hl : SegOK l) : Does Tryd.prog G0 false 9 [v] (.bool (chk l)) := by
  refine Does.intro mixed comp9 ?_
  unfold c9
  simp -implicitDefEqProofs (disch := omega) only [lenK_isE hv, mwx, ne_eq, false_implies, implies_true, forall_eq_or_imp, MW.get, ev, evs, argFr, resK, packV, slHK, partsV, partsS, setR, Int.cast_ofNat_Int, Int.natCast_zero, Int.natCast_one, Nat.reduceLeDiff, reduceIte, Nat.reduceEqDiff, Nat.reduceBEq, reduceCtorEq, Nat.reduceAdd, Nat.reduceMul, Nat.reduceSub, Nat.reduceLT, Int.reduceToNat, Int.reduceLT, Int.reduceLE, Int.reduceEq, Int.reduceAdd, Int.reduceNeg, Int.reduceMul, Int.reduceSub]
  refine xg_dec (fun h => ?_) fun h => ?_
  · have hn : l.length ≤ 200 := by omega
    simp -implicitDefEqProofs (disch := omega) only [h, mwx, ne_eq, false_implies, implies_true, forall_eq_or_imp, MW.get, ev, evs, argFr, resK, packV, slHK, partsV, partsS, setR, Int.cast_ofNat_Int, Int.natCast_zero, Int.natCast_one, Nat.reduceLeDiff, reduceIte, Nat.reduceEqDiff, Nat.reduceBEq, reduceCtorEq, Nat.reduceAdd, Nat.reduceMul, Nat.reduceSub, Nat.reduceLT, Int.reduceToNat, Int.reduceLT, Int.reduceLE, Int.reduceEq, Int.reduceAdd, Int.reduceNeg, Int.reduceMul, Int.reduceSub]
    have : Does Tryd.prog G0 false 22 [v, .fn (.func 19) [] []] (.bool (!l.all sgOK)) := by
      refine Does.intro mixed comp22 ?_
      unfold c22
      simp -implicitDefEqProofs (disch := omega) only [mwx, ne_eq, false_implies, implies_true, forall_eq_or_imp, MW.get, ev, evs, argFr, resK, packV, slHK, partsV, partsS, setR, Int.cast_ofNat_Int, Int.natCast_zero, Int.natCast_one, Nat.reduceLeDiff, reduceIte, Nat.reduceEqDiff, Nat.reduceBEq, reduceCtorEq, Nat.reduceAdd, Nat.reduceMul, Nat.reduceSub, Nat.reduceLT, Int.reduceToNat, Int.reduceLT, Int.reduceLE, Int.reduceEq, Int.reduceAdd, Int.reduceNeg, Int.reduceMul, Int.reduceSub]
      refine Does.call (index_fn hv hl (by omega)) (fr2 hv.free (.fn _ (by simp) (by simp))) ?_
      simp -implicitDefEqProofs (disch := omega) only [mwx, ne_eq, false_implies, implies_true, forall_eq_or_imp, MW.get, ev, evs, argFr, resK, packV, slHK, partsV, partsS, setR, Int.cast_ofNat_Int, Int.natCast_zero, Int.natCast_one, Nat.reduceLeDiff, reduceIte, Nat.reduceEqDiff, Nat.reduceBEq, reduceCtorEq, Nat.reduceAdd, Nat.reduceMul, Nat.reduceSub, Nat.reduceLT, Int.reduceToNat, Int.reduceLT, Int.reduceLE, Int.reduceEq, Int.reduceAdd, Int.reduceNeg, Int.reduceMul, Int.reduceSub]
      exact frz_bool (badAt_iff l)
    refine Does.call this (fr2 hv.free (.fn _ (by simp) (by simp))) ?_
    simp -implicitDefEqProofs (disch := omega) only [h, mwx, ne_eq, false_implies, implies_true, forall_eq_or_imp, MW.get, ev, evs, argFr, resK, packV, slHK, partsV, partsS, setR, Int.cast_ofNat_Int, Int.natCast_zero, Int.natCast_one, Nat.reduceLeDiff, reduceIte, Nat.reduceEqDiff, Nat.reduceBEq, reduceCtorEq, Nat.reduceAdd, Nat.reduceMul, Nat.reduceSub, Nat.reduceLT, Int.reduceToNat, Int.reduceLT, Int.reduceLE, Int.reduceEq, Int.reduceAdd, Int.reduceNeg, Int.reduceMul, Int.reduceSub]
    refine frz_bool ?_
    simp [chk, hn]
  · have hn : ¬ l.length ≤ 200 := by omega
    simp -implicitDefEqProofs (disch := omega) only [h, mwx, ne_eq, false_implies, implies_true, forall_eq_or_imp, MW.get, ev, evs, argFr, resK, packV, slHK, partsV, partsS, setR, Int.cast_ofNat_Int, Int.natCast_zero, Int.natCast_one, Nat.reduceLeDiff, reduceIte, Nat.reduceEqDiff, Nat.reduceBEq, reduceCtorEq, Nat.reduceAdd, Nat.reduceMul, Nat.reduceSub, Nat.reduceLT, Int.reduceToNat, Int.reduceLT, Int.reduceLE, Int.reduceEq, Int.reduceAdd, Int.reduceNeg, Int.reduceMul, Int.reduceSub]
    refine frz_bool ?_
    simp [chk, hn]

/-- The bits of a word are counted. -/
theorem ones_fn (x : Nat) (hx : x < 2 ^ 64) : Does Tryd.prog G0 false 27 [.int .u64 x] (.int .i64 (pc 64 x)) := by
  refine Does.intro mixed comp27 ?_
  unfold c27
  have k1 : ∀ y : Nat, y < 2 ^ 64 → bitOp .and .u64 (y : Int) 6148914691236517205 = ((y &&& 6148914691236517205 : Nat) : Int) := fun y hy => band64 (b := 6148914691236517205) hy (by decide)
  have k2 : ∀ y : Nat, y < 2 ^ 64 → bitOp .and .u64 (y : Int) 3689348814741910323 = ((y &&& 3689348814741910323 : Nat) : Int) := fun y hy => band64 (b := 3689348814741910323) hy (by decide)
  have k3 : ∀ y : Nat, y < 2 ^ 64 → bitOp .and .u64 (y : Int) 1085102592571150095 = ((y &&& 1085102592571150095 : Nat) : Int) := fun y hy => band64 (b := 1085102592571150095) hy (by decide)
  have b1 := sw1_le (msk 85 8) x
  have b2 := sw2_le (msk 51 8) (sw1 (msk 85 8) x)
  have b3 : swar (msk 85 8) (msk 51 8) (msk 15 8) x ≤ 1085102592571150095 := Nat.and_le_right
  have d1 : ((x / 2) &&& 6148914691236517205) + (x &&& 6148914691236517205) = sw1 (msk 85 8) x := rfl
  have d2 : ((sw1 (msk 85 8) x / 4) &&& 3689348814741910323) + (sw1 (msk 85 8) x &&& 3689348814741910323) = sw2 (msk 51 8) (sw1 (msk 85 8) x) := rfl
  have d3 : (sw2 (msk 51 8) (sw1 (msk 85 8) x) / 16 + sw2 (msk 51 8) (sw1 (msk 85 8) x)) &&& 1085102592571150095 = swar (msk 85 8) (msk 51 8) (msk 15 8) x := rfl
  have e1 : msk 85 8 = 6148914691236517205 := rfl
  have e2 : msk 51 8 = 3689348814741910323 := rfl
  obtain ⟨y0, y1, y2, hy0, hy1, hy2, hy3, hy4⟩ := lan_sum hx
  rw [swar_lan] at d3 b3
  generalize hs1 : sw1 (msk 85 8) x = s1 at *
  generalize hs2 : sw2 (msk 51 8) s1 = s2 at *
  generalize lan 8 x = s3 at *
  rw [e1] at b1
  rw [e2] at b2
  have w1 : IntKind.u64.wrap (((x / 2 &&& 6148914691236517205 : Nat) : Int) + ((x &&& 6148914691236517205 : Nat) : Int)) = (s1 : Int) := by
    rw [wadd64 (by omega), d1]
  have w2 : IntKind.u64.wrap (((s1 / 4 &&& 3689348814741910323 : Nat) : Int) + ((s1 &&& 3689348814741910323 : Nat) : Int)) = (s2 : Int) := by
    rw [wadd64 (by omega), d2]
  have w3 : IntKind.u64.wrap (((s2 / 16 : Nat) : Int) + (s2 : Int)) = ((s2 / 16 + s2 : Nat) : Int) := wadd64 (by omega)
  have w4 : IntKind.u64.wrap ((s3 : Int) + ((s3 / 256 : Nat) : Int)) = (y0 : Int) := by rw [wadd64 (by omega), hy0]
  have w5 : IntKind.u64.wrap ((y0 : Int) + ((y0 / 65536 : Nat) : Int)) = (y1 : Int) := by rw [wadd64 (by omega), hy1]
  have w6 : IntKind.u64.wrap ((y1 : Int) + ((y1 / 4294967296 : Nat) : Int)) = (y2 : Int) := by rw [wadd64 (by omega), hy2]
  simp -implicitDefEqProofs (disch := omega) only [shr64_1, k1 x hx, k1 (x / 2) (by omega), w1, mwx, ne_eq, false_implies, implies_true, forall_eq_or_imp, MW.get, ev, evs, argFr, resK, packV, slHK, partsV, partsS, setR, Int.cast_ofNat_Int, Int.natCast_zero, Int.natCast_one, Nat.reduceLeDiff, reduceIte, Nat.reduceEqDiff, Nat.reduceBEq, reduceCtorEq, Nat.reduceAdd, Nat.reduceMul, Nat.reduceSub, Nat.reduceLT, Int.reduceToNat, Int.reduceLT, Int.reduceLE, Int.reduceEq, Int.reduceAdd, Int.reduceNeg, Int.reduceMul, Int.reduceSub]
  simp -implicitDefEqProofs (disch := omega) only [shr64_2, k2 s1 (by omega), k2 (s1 / 4) (by omega), w2, mwx, ne_eq, false_implies, implies_true, forall_eq_or_imp, MW.get, ev, evs, argFr, resK, packV, slHK, partsV, partsS, setR, Int.cast_ofNat_Int, Int.natCast_zero, Int.natCast_one, Nat.reduceLeDiff, reduceIte, Nat.reduceEqDiff, Nat.reduceBEq, reduceCtorEq, Nat.reduceAdd, Nat.reduceMul, Nat.reduceSub, Nat.reduceLT, Int.reduceToNat, Int.reduceLT, Int.reduceLE, Int.reduceEq, Int.reduceAdd, Int.reduceNeg, Int.reduceMul, Int.reduceSub]
  simp -implicitDefEqProofs (disch := omega) only [shr64_4, w3, k3 (s2 / 16 + s2) (by omega), d3, mwx, ne_eq, false_implies, implies_true, forall_eq_or_imp, MW.get, ev, evs, argFr, resK, packV, slHK, partsV, partsS, setR, Int.cast_ofNat_Int, Int.natCast_zero, Int.natCast_one, Nat.reduceLeDiff, reduceIte, Nat.reduceEqDiff, Nat.reduceBEq, reduceCtorEq, Nat.reduceAdd, Nat.reduceMul, Nat.reduceSub, Nat.reduceLT, Int.reduceToNat, Int.reduceLT, Int.reduceLE, Int.reduceEq, Int.reduceAdd, Int.reduceNeg, Int.reduceMul, Int.reduceSub]
  simp -implicitDefEqProofs (disch := omega) only [shr64_8, w4, mwx, ne_eq, false_implies, implies_true, forall_eq_or_imp, MW.get, ev, evs, argFr, resK, packV, slHK, partsV, partsS, setR, Int.cast_ofNat_Int, Int.natCast_zero, Int.natCast_one, Nat.reduceLeDiff, reduceIte, Nat.reduceEqDiff, Nat.reduceBEq, reduceCtorEq, Nat.reduceAdd, Nat.reduceMul, Nat.reduceSub, Nat.reduceLT, Int.reduceToNat, Int.reduceLT, Int.reduceLE, Int.reduceEq, Int.reduceAdd, Int.reduceNeg, Int.reduceMul, Int.reduceSub]
  simp -implicitDefEqProofs (disch := omega) only [shr64_16, w5, mwx, ne_eq, false_implies, implies_true, forall_eq_or_imp, MW.get, ev, evs, argFr, resK, packV, slHK, partsV, partsS, setR, Int.cast_ofNat_Int, Int.natCast_zero, Int.natCast_one, Nat.reduceLeDiff, reduceIte, Nat.reduceEqDiff, Nat.reduceBEq, reduceCtorEq, Nat.reduceAdd, Nat.reduceMul, Nat.reduceSub, Nat.reduceLT, Int.reduceToNat, Int.reduceLT, Int.reduceLE, Int.reduceEq, Int.reduceAdd, Int.reduceNeg, Int.reduceMul, Int.reduceSub]
  simp -implicitDefEqProofs (disch := omega) only [shr64_32, w6, band127 hy3, hy4, mwx, ne_eq, false_implies, implies_true, forall_eq_or_imp, MW.get, ev, evs, argFr, resK, packV, slHK, partsV, partsS, setR, Int.cast_ofNat_Int, Int.natCast_zero, Int.natCast_one, Nat.reduceLeDiff, reduceIte, Nat.reduceEqDiff, Nat.reduceBEq, reduceCtorEq, Nat.reduceAdd, Nat.reduceMul, Nat.reduceSub, Nat.reduceLT, Int.reduceToNat, Int.reduceLT, Int.reduceLE, Int.reduceEq, Int.reduceAdd, Int.reduceNeg, Int.reduceMul, Int.reduceSub]
  exact frz_int rfl

theorem tz_tab : ∃ tab, G0 0 = some tab ∧ tab.length = 64 ∧ ∀ j, j < 64 → 0 < (tab.drop j).length ∧ (tab.drop j).getD 0 .junk = .int .u8 ((Lib.deBruijn64tab.getD j 0 : Nat) : Int) := by
  refine ⟨_, rfl, rfl, fun j hj => ?_⟩
  have hj : j < Lib.deBruijn64tab.length := hj
  refine ⟨by rw [List.length_drop, List.length_map]; omega, ?_⟩
  simp only [List.getD_eq_getElem?_getD, List.getElem?_drop, Nat.add_zero, List.getElem?_map, List.getElem?_eq_getElem hj, Option.map_some, Option.getD_some]

/-- The product that names the lowest bit. -/
theorem tz_prod (x : Nat) (h0 : x ≠ 0) (hx : x < 2 ^ 64) : ∃ (p m j : Nat), bitOp .and .u64 (x : Int) (IntKind.u64.wrap (0 - (x : Int))) = (p : Int) ∧ IntKind.u64.wrap ((p : Int) * 285870213051353865) = (m : Int) ∧ m / 288230376151711744 = j ∧ j < 64 ∧ Lib.deBruijn64tab.getD j 0 = Lib.ctz 64 x ∧ Lib.ctz 64 x < 64 := by
  have h3 := (Lib.lowest_bit 64 x h0 hx).2
  obtain ⟨h1, h2⟩ := Lib.deBruijn64_at _ h3
  exact ⟨_, _, _, tz_key h0 hx, by rw [wrap_u64i]; generalize 2 ^ Lib.ctz 64 x = y; omega, rfl, h1, h2, h3⟩

/-- The lowest bit is found by a table. -/
theorem tz_fn (x : Nat) (hx : x < 2 ^ 64) : Does Tryd.prog G0 false 24 [.int .u64 x] (.int .i64 (Lib.ctz 64 x)) := by
  refine Does.intro mixed comp24 ?_
  unfold c24
  simp -implicitDefEqProofs (disch := omega) only [mwx, ne_eq, false_implies, implies_true, forall_eq_or_imp, MW.get, ev, evs, argFr, resK, packV, slHK, partsV, partsS, setR, Int.cast_ofNat_Int, Int.natCast_zero, Int.natCast_one, Nat.reduceLeDiff, reduceIte, Nat.reduceEqDiff, Nat.reduceBEq, reduceCtorEq, Nat.reduceAdd, Nat.reduceMul, Nat.reduceSub, Nat.reduceLT, Int.reduceToNat, Int.reduceLT, Int.reduceLE, Int.reduceEq, Int.reduceAdd, Int.reduceNeg, Int.reduceMul, Int.reduceSub]
  refine xc_dec (fun h => ?_) fun h => ?_
  · simp -implicitDefEqProofs (disch := omega) only [mwx, ne_eq, false_implies, implies_true, forall_eq_or_imp, MW.get, ev, evs, argFr, resK, packV, slHK, partsV, partsS, setR, Int.cast_ofNat_Int, Int.natCast_zero, Int.natCast_one, Nat.reduceLeDiff, reduceIte, Nat.reduceEqDiff, Nat.reduceBEq, reduceCtorEq, Nat.reduceAdd, Nat.reduceMul, Nat.reduceSub, Nat.reduceLT, Int.reduceToNat, Int.reduceLT, Int.reduceLE, Int.reduceEq, Int.reduceAdd, Int.reduceNeg, Int.reduceMul, Int.reduceSub]
    have : x = 0 := by omega
    subst this
    exact frz_int rfl
  · have h0 : x ≠ 0 := by omega
    obtain ⟨p, m, j, hp, hm, hj, h1, h2, h3⟩ := tz_prod x h0 hx
    obtain ⟨tab, hG, hl, ht⟩ := tz_tab
    obtain ⟨hd, hg⟩ := ht j h1
    have hj1 : j * 1 = j := Nat.mul_one j
    generalize Lib.ctz 64 x = z at *
    rw [h2] at hg
    simp -implicitDefEqProofs (disch := omega) only [hp, hm, shr64_58, hj, hG, hl, hj1, h1, hd, hg, mwx, ne_eq, false_implies, implies_true, forall_eq_or_imp, MW.get, ev, evs, argFr, resK, packV, slHK, partsV, partsS, setR, Int.cast_ofNat_Int, Int.natCast_zero, Int.natCast_one, Nat.reduceLeDiff, reduceIte, Nat.reduceEqDiff, Nat.reduceBEq, reduceCtorEq, Nat.reduceAdd, Nat.reduceMul, Nat.reduceSub, Nat.reduceLT, Int.reduceToNat, Int.reduceLT, Int.reduceLE, Int.reduceEq, Int.reduceAdd, Int.reduceNeg, Int.reduceMul, Int.reduceSub]
    exact frz_int rfl

end Go.Proofs.YtphbhoggcddgmaaDoor
